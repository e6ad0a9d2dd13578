/- Contract of the reference's Propose. Conditions: at most 12 open lines on each side. -/
import Derived.Test.YtccgleiildgckaaA7
namespace Go.Proofs.Ytccgleiildgckaa
open Go.RowKit
attribute [local go_sem ↓] Go.wp_at_zero Go.wp_at_succ

abbrev St := List Pr × List Rf
/-- A left line in the first step. -/
def st1 (R : List On) (tol : Int) (s : St) (x : On) : St :=
  match oneTo x (againstL x (withoutL R s.2)) tol (againstL x (withoutL R s.2)).length with
  | some k => (s.1 ++ [⟨[x.r], [rfAt (againstL x (withoutL R s.2)) k]⟩], s.2 ++ [x.r, rfAt (againstL x (withoutL R s.2)) k])
  | none => s
def ph1 (L R : List On) (tol : Int) : St := L.foldl (st1 R tol) ([], [])
/-- A line of one side in the later steps. -/
def st2 (others : List On) (tol : Int) (flip : Bool) (s : St) (x : On) : St :=
  match manyL x (againstL x (withoutL others s.2)) tol with
  | [] => s
  | q :: qs => (s.1 ++ [if flip then ⟨q :: qs, [x.r]⟩ else ⟨[x.r], q :: qs⟩], s.2 ++ [x.r] ++ (q :: qs))
def ph2 (singles others : List On) (tol : Int) (flip : Bool) (s : St) : St := (withoutL singles s.2).foldl (st2 others tol flip) s
/-- The proposals for valid lines. -/
def refOut (L R : List On) (tol : Int) : List Pr := (ph2 R L tol true (ph2 L R tol false (ph1 L R tol))).1

theorem fold_take_succ {α β : Type} (f : β → α → β) (b : β) {zs : List α} {k : Nat} (hk : k < zs.length) : (zs.take (k + 1)).foldl f b = f ((zs.take k).foldl f b) zs[k] := by
  rw [List.take_succ_eq_append_getElem hk, List.foldl_append]; rfl

/-- The blocks that hold no row which is still written. -/
def Free (w : World) (u v : Value) (b : Nat) : Prop := b < w.heap.size ∧ u.ownBlock ≠ some b ∧ v.ownBlock ≠ some b

theorem wolen (l : List On) (r : List Rf) : (withoutL l r).length ≤ l.length := List.length_filter_le _ _
theorem aglen (x : On) (l : List On) : (againstL x l).length ≤ l.length := List.length_filter_le _ _
theorem wosub {l : List On} {r : List Rf} {y : On} (h : y ∈ withoutL l r) : y ∈ l := (List.mem_filter.1 h).1
theorem agsub {x : On} {l : List On} {y : On} (h : y ∈ againstL x l) : y ∈ l := (List.mem_filter.1 h).1
theorem good_ok {x : On} (h : OnGood x) : OnOk x := amtB_iff.1 h.2
theorem own_le {w : World} {base : Nat} {e : TypeId} {size : Nat} {A : Option Addr} {n c m : Nat} {xs : List Value} (h : w.ownsRow base e size (.slice A n c) m xs) (hn : n = m) : n ≤ c := by
  rcases h.2 with ⟨e1, e2⟩ | ⟨g, cap, cur, hv, _, _, hc, _⟩
  · injection e1 with _ e3 e4; omega
  · injection hv with _ e3 e4; omega
theorem blk_new3 {W : World} {o1 o2 : Obj} {cs : Array Value} {t : TypeId} {g : Nat} (hg : W.heap.size + 2 = g) : Blk ((((W.alloc o1).alloc o2).alloc (.cells cs t))) g t cs := by
  have := Blk.new ((W.alloc o1).alloc o2) t cs
  rw [World.size_alloc, World.size_alloc] at this
  subst hg; exact this

theorem ph1_len (R : List On) (tol : Int) : ∀ (l : List On) (s : St), (l.foldl (st1 R tol) s).1.length ≤ s.1.length + l.length ∧ (l.foldl (st1 R tol) s).2.length ≤ s.2.length + 2 * l.length := by
  intro l
  induction l with
  | nil => intro s; simp
  | cons x l ih =>
    intro s
    rw [List.foldl_cons]
    have h := ih (st1 R tol s x)
    have h1 : (st1 R tol s x).1.length ≤ s.1.length + 1 ∧ (st1 R tol s x).2.length ≤ s.2.length + 2 := by
      unfold st1
      split <;> simp
    simp only [List.length_cons]
    omega

theorem cell_al (w : World) (o : Obj) {b i : Nat} (hb : b < w.heap.size) : (w.alloc o).cell? ⟨b, i, none⟩ = w.cell? ⟨b, i, none⟩ := World.cell?_of_block (Below.heap_alloc w o b hb)
theorem cell_al3 {w : World} {o1 o2 o3 : Obj} {b i : Nat} (hb : b < w.heap.size) : (((w.alloc o1).alloc o2).alloc o3).drew.cell? ⟨b, i, none⟩ = w.cell? ⟨b, i, none⟩ := by
  show (((w.alloc o1).alloc o2).alloc o3).cell? _ = _
  rw [cell_al _ _ (by simp; omega), cell_al _ _ (by simp; omega), cell_al _ _ hb]
theorem cell_ap3 {w w' : World} {o1 o2 o3 : Obj} {row : Option Nat} (hg : (((w.alloc o1).alloc o2).alloc o3).drew.grownBy w' row) {b i : Nat} (hb : b < w.heap.size) (hne : some b ≠ row) : w'.cell? ⟨b, i, none⟩ = w.cell? ⟨b, i, none⟩ := by
  rw [World.cell?_of_block (a := ⟨b, i, none⟩) (hg.block b (by show b < (((w.alloc o1).alloc o2).alloc o3).heap.size; simp; omega) hne), cell_al3 hb]
theorem cell_al1 {w : World} {o1 : Obj} {b i : Nat} (hb : b < w.heap.size) : (w.alloc o1).drew.cell? ⟨b, i, none⟩ = w.cell? ⟨b, i, none⟩ := cell_al _ _ hb
theorem cell_ap1 {w w' : World} {o1 : Obj} {row : Option Nat} (hg : (w.alloc o1).drew.grownBy w' row) {b i : Nat} (hb : b < w.heap.size) (hne : some b ≠ row) : w'.cell? ⟨b, i, none⟩ = w.cell? ⟨b, i, none⟩ := by
  rw [World.cell?_of_block (a := ⟨b, i, none⟩) (hg.block b (by show b < (w.alloc o1).heap.size; simp; omega) hne), cell_al1 hb]
theorem RdP.of_own {α : Type} {enc : α → List Value} {k : Nat} {w : World} {A : Option Addr} {zs : List α} {base : Nat} {e : TypeId} {n c : Nat} (hk : ∀ x, (enc x).length = k) (h : w.ownsRow base e k (.slice A n c) n (zs.flatMap enc)) (hn : zs.length = n) : RdP enc k (fun b => base ≤ b ∧ b < w.heap.size) w A zs := fun i x hx => by
  obtain ⟨b, off, rfl, hb, hc⟩ := Rd.of_own hk h hn i x hx
  exact ⟨b, off, rfl, ⟨(h.lt b rfl).1, hb⟩, hc⟩
theorem below_un {B : Nat} {w w' : World} (h : Below B w.drew w') : Below B w w' := ⟨h.os, h.tape, h.output, h.size, h.block⟩
def propPost (w : World) (ps : List Pr) (e : Ending) (w' : World) : Prop :=
  ∃ A n c qs, e = .returned (.tuple #[.slice A n c, .int .i64 0]) ∧ n = ps.length ∧ w'.ownsRow w.heap.size 88 2 (.slice A n c) n (qs.flatMap pvC) ∧ PvAll (fun b => b < w'.heap.size) w' qs ps ∧ Below w.heap.size w w'

/-- The state of the first loop and of the later ones. -/
def StAt (w : World) (wr : World) (s : St) (o u : Value) : Prop :=
  ∃ (qs : List Pv) (A1 : Option Addr) (c1 : Nat) (A2 : Option Addr) (c2 : Nat), o = .slice A1 s.1.length c1 ∧ u = .slice A2 s.2.length c2 ∧
    wr.ownsRow w.heap.size 88 2 o s.1.length (qs.flatMap pvC) ∧ wr.ownsRow w.heap.size 41 2 u s.2.length (s.2.flatMap rfC) ∧ PvAll (Free wr o u) wr qs s.1 ∧ Below w.heap.size w wr

/-- The loops' state, laid open. -/
def StIn (w wr : World) (s : St) (qs : List Pv) (A1 : Option Addr) (c1 : Nat) (A2 : Option Addr) (c2 : Nat) : Prop :=
  wr.ownsRow w.heap.size 88 2 (.slice A1 s.1.length c1) s.1.length (qs.flatMap pvC) ∧ wr.ownsRow w.heap.size 41 2 (.slice A2 s.2.length c2) s.2.length (s.2.flatMap rfC) ∧ PvAll (Free wr (.slice A1 s.1.length c1) (.slice A2 s.2.length c2)) wr qs s.1 ∧ Below w.heap.size w wr
theorem StIn.at_ {w wr : World} {s : St} {qs : List Pv} {A1 A2 : Option Addr} {c1 c2 : Nat} (h : StIn w wr s qs A1 c1 A2 c2) : StAt w wr s (.slice A1 s.1.length c1) (.slice A2 s.2.length c2) := ⟨qs, A1, c1, A2, c2, rfl, rfl, h⟩
theorem StIn.at2 {w wr : World} {s : St} {qs : List Pv} {A1 A2 : Option Addr} {c1 c2 n1 n2 : Nat} (h : StIn w wr s qs A1 c1 A2 c2) (h1 : n1 = s.1.length) (h2 : n2 = s.2.length) : StAt w wr s (.slice A1 n1 c1) (.slice A2 n2 c2) := by
  subst h1; subst h2; exact h.at_
theorem StIn.kept {w wr w' : World} {s : St} {qs : List Pv} {A1 A2 : Option Addr} {c1 c2 : Nat} (h : StIn w wr s qs A1 c1 A2 c2) (hb : Below wr.heap.size wr w') : StIn w w' s qs A1 c1 A2 c2 :=
  ⟨own_below h.1 hb, own_below h.2.1 hb, (h.2.2.1.kept fun b hx => hb.block b hx.1).imp fun _ hx => ⟨Nat.lt_of_lt_of_le hx.1 hb.size, hx.2⟩, h.2.2.2.trans (hb.mono h.2.2.2.size)⟩
theorem own_len (A : Option Addr) (n c n' c' : Nat) : (Value.slice A n c).ownBlock = (Value.slice A n' c').ownBlock := by cases A <;> rfl
/-- A proposal is appended to out. -/
theorem StIn.out {w wr w' : World} {s : St} {qs : List Pv} {A1 A2 A5 : Option Addr} {c1 c2 c5 n1 d1 n2 d2 n5 d5 : Nat} (h : StIn w wr s qs A1 c1 A2 c2) {q : Pv} {p : Pr} (hq : PvOk (Free wr (.slice A1 n1 d1) (.slice A2 n2 d2)) wr q p)
    (hg : wr.grownBy w' (Value.slice A1 n1 d1).ownBlock) (hO : w'.ownsRow w.heap.size 88 2 (.slice A5 (s.1.length + 1) c5) (s.1.length + 1) (qs.flatMap pvC ++ pvC q))
    (hloc : (Value.slice A5 n5 d5).ownBlock = (Value.slice A1 n1 d1).ownBlock ∨ ∀ b, (Value.slice A5 n5 d5).ownBlock = some b → wr.heap.size ≤ b) : StIn w w' (s.1 ++ [p], s.2) (qs ++ [q]) A5 c5 A2 c2 := by
  obtain ⟨h1, h2, h3, h4⟩ := h
  rw [own_len A1 n1 d1 s.1.length c1] at hg hloc
  replace hq : PvOk (Free wr (.slice A1 s.1.length c1) (.slice A2 s.2.length c2)) wr q p := hq.imp fun b hb => ⟨hb.1, by rw [own_len A1 _ _ n1 d1]; exact hb.2.1, by rw [own_len A2 _ _ n2 d2]; exact hb.2.2⟩
  rw [own_len A5 n5 d5 (s.1.length + 1) c5] at hloc
  have e1 : (s.1 ++ [p]).length = s.1.length + 1 := by simp
  have hne : (Value.slice A2 s.2.length c2).ownBlock = none ∨ (Value.slice A2 s.2.length c2).ownBlock ≠ (Value.slice A1 s.1.length c1).ownBlock := by
    cases hv : (Value.slice A2 s.2.length c2).ownBlock with
    | none => exact .inl rfl
    | some g =>
      refine .inr fun e => ?_
      rcases h1.2 with ⟨e2, _⟩ | ⟨g1, _, _, e2, _, hg1, _⟩
      · rw [e2] at e; simp [Value.ownBlock] at e
      · rcases h2.2 with ⟨e3, _⟩ | ⟨g2, _, _, e3, _, hg2, _⟩
        · rw [e3] at hv; simp [Value.ownBlock] at hv
        · rw [e3] at hv; rw [e2] at e
          simp [Value.ownBlock] at hv e
          subst hv; subst e
          rw [hg1] at hg2
          injection hg2 with hg2; injection hg2 with _ hg2
          cases hg2
  have hk : ∀ b, Free wr (.slice A1 s.1.length c1) (.slice A2 s.2.length c2) b → w'.heap[b]? = wr.heap[b]? := fun b hb => hg.block b hb.1 (fun e => hb.2.1 e.symm)
  have hi : ∀ b, Free wr (.slice A1 s.1.length c1) (.slice A2 s.2.length c2) b → Free w' (.slice A5 (s.1.length + 1) c5) (.slice A2 s.2.length c2) b := fun b hb => by
    refine ⟨Nat.lt_of_lt_of_le hb.1 hg.size, ?_, hb.2.2⟩
    rcases hloc with e | e
    · rw [e]; exact hb.2.1
    · intro e3; have := e b e3; have := hb.1; omega
  refine ⟨?_, h2.kept hg hne, ?_, h4.grown hg h4.size (own_ge h1 (Nat.le_refl _))⟩
  · rw [e1, List.flatMap_append]; simpa using hO
  · simp only [e1]
    exact ((h3.kept hk).imp hi).snoc ((hq.kept hk).imp hi)
/-- References are appended to used. -/
theorem StIn.used {w wr w' : World} {s : St} {qs : List Pv} {A1 A2 A5 : Option Addr} {c1 c2 c5 n2 d2 n5 d5 : Nat} (h : StIn w wr s qs A1 c1 A2 c2) {rs : List Rf} {m : Nat} (hm : m = (s.2 ++ rs).length)
    (hg : wr.grownBy w' (Value.slice A2 n2 d2).ownBlock) (hO : w'.ownsRow w.heap.size 41 2 (.slice A5 m c5) m (s.2.flatMap rfC ++ rs.flatMap rfC))
    (hloc : (Value.slice A5 n5 d5).ownBlock = (Value.slice A2 n2 d2).ownBlock ∨ ∀ b, (Value.slice A5 n5 d5).ownBlock = some b → wr.heap.size ≤ b) : StIn w w' (s.1, s.2 ++ rs) qs A1 c1 A5 c5 := by
  obtain ⟨h1, h2, h3, h4⟩ := h
  rw [own_len A2 n2 d2 s.2.length c2] at hg hloc
  rw [own_len A5 n5 d5 m c5] at hloc
  have hne : (Value.slice A1 s.1.length c1).ownBlock = none ∨ (Value.slice A1 s.1.length c1).ownBlock ≠ (Value.slice A2 s.2.length c2).ownBlock := by
    cases hv : (Value.slice A1 s.1.length c1).ownBlock with
    | none => exact .inl rfl
    | some g =>
      refine .inr fun e => ?_
      rcases h2.2 with ⟨e2, _⟩ | ⟨g1, _, _, e2, _, hg1, _⟩
      · rw [e2] at e; simp [Value.ownBlock] at e
      · rcases h1.2 with ⟨e3, _⟩ | ⟨g2, _, _, e3, _, hg2, _⟩
        · rw [e3] at hv; simp [Value.ownBlock] at hv
        · rw [e3] at hv; rw [e2] at e
          simp [Value.ownBlock] at hv e
          subst hv; subst e
          rw [hg1] at hg2
          injection hg2 with hg2; injection hg2 with _ hg2
          cases hg2
  have hk : ∀ b, Free wr (.slice A1 s.1.length c1) (.slice A2 s.2.length c2) b → w'.heap[b]? = wr.heap[b]? := fun b hb => hg.block b hb.1 (fun e => hb.2.2 e.symm)
  have hi : ∀ b, Free wr (.slice A1 s.1.length c1) (.slice A2 s.2.length c2) b → Free w' (.slice A1 s.1.length c1) (.slice A5 m c5) b := fun b hb => by
    refine ⟨Nat.lt_of_lt_of_le hb.1 hg.size, hb.2.1, ?_⟩
    rcases hloc with e | e
    · rw [e]; exact hb.2.2
    · intro e3; have := e b e3; have := hb.1; omega
  subst hm
  refine ⟨h1.kept hg hne, ?_, (h3.kept hk).imp hi, h4.grown hg h4.size (own_ge h2 (Nat.le_refl _))⟩
  simp only [List.flatMap_append]
  exact hO
theorem free_below {w w' : World} {u v : Value} (hb : Below w.heap.size w w') : (∀ b, Free w u v b → w'.heap[b]? = w.heap[b]?) ∧ (∀ b, Free w u v b → Free w' u v b) :=
  ⟨fun b h => hb.block b h.1, fun _ h => ⟨Nat.lt_of_lt_of_le h.1 hb.size, h.2⟩⟩
theorem free_out {w w' : World} {u u' v : Value} (hg : w.grownBy w' u.ownBlock) (hloc : u'.ownBlock = u.ownBlock ∨ ∀ b, u'.ownBlock = some b → w.heap.size ≤ b) : (∀ b, Free w u v b → w'.heap[b]? = w.heap[b]?) ∧ (∀ b, Free w u v b → Free w' u' v b) :=
  ⟨fun b h => hg.block b h.1 (fun e => h.2.1 e.symm), fun b h => ⟨Nat.lt_of_lt_of_le h.1 hg.size, fun e3 => by
    rcases hloc with e | e
    · rw [e] at e3; exact h.2.1 e3
    · have := e b e3; have := h.1; omega, h.2.2⟩⟩
theorem free_used {w w' : World} {u v v' : Value} (hg : w.grownBy w' v.ownBlock) (hloc : v'.ownBlock = v.ownBlock ∨ ∀ b, v'.ownBlock = some b → w.heap.size ≤ b) : (∀ b, Free w u v b → w'.heap[b]? = w.heap[b]?) ∧ (∀ b, Free w u v b → Free w' u v' b) :=
  ⟨fun b h => hg.block b h.1 (fun e => h.2.2 e.symm), fun b h => ⟨Nat.lt_of_lt_of_le h.1 hg.size, h.2.1, fun e3 => by
    rcases hloc with e | e
    · rw [e] at e3; exact h.2.2 e3
    · have := e b e3; have := h.1; omega⟩⟩
theorem RdP.go {α : Type} {enc : α → List Value} {k : Nat} {X X' : Nat → Prop} {w w' : World} {A : Option Addr} {zs : List α} (h : RdP enc k X w A zs) (hk : (∀ b, X b → w'.heap[b]? = w.heap[b]?) ∧ (∀ b, X b → X' b)) : RdP enc k X' w' A zs := (h.kept hk.1).imp hk.2
theorem firstK_some {β : Type} {f : Nat → Option β} {r : β} : ∀ {n : Nat}, firstK f n = some r → ∃ k, k < n ∧ f k = some r
  | 0, h => by cases h
  | n + 1, h => by
    rw [firstK] at h
    cases h1 : firstK f n with
    | some q =>
      rw [h1] at h
      obtain ⟨k, hk, hf⟩ := firstK_some h1
      exact ⟨k, by omega, by rw [hf]; exact h⟩
    | none => rw [h1] at h; exact ⟨n, by omega, h⟩
theorem manyL_len (x : On) (l : List On) (tol : Int) : (manyL x l tol).length ≤ 12 := by
  unfold manyL manyT
  split
  · rename_i ps h
    obtain ⟨k, hk, hf⟩ := firstK_some h
    unfold mf at hf
    split at hf
    · cases hf
    · have := ch_len hf
      have h12 : (l.take 12).length ≤ 12 := by rw [List.length_take]; omega
      simp; omega
  · simp
theorem st2_len (Y : List On) (tol : Int) (flip : Bool) (s : St) (x : On) : (st2 Y tol flip s x).1.length ≤ s.1.length + 1 ∧ (st2 Y tol flip s x).2.length ≤ s.2.length + 13 := by
  unfold st2
  have h := manyL_len x (againstL x (withoutL Y s.2)) tol
  split
  · simp
  · rename_i q qs e
    rw [e] at h
    simp at h ⊢
    omega
theorem ph2_fold_len (Y : List On) (tol : Int) (flip : Bool) : ∀ (l : List On) (s : St), (l.foldl (st2 Y tol flip) s).1.length ≤ s.1.length + l.length ∧ (l.foldl (st2 Y tol flip) s).2.length ≤ s.2.length + 13 * l.length := by
  intro l
  induction l with
  | nil => intro s; simp
  | cons x l ih =>
    intro s
    rw [List.foldl_cons]
    have h := ih (st2 Y tol flip s x)
    have h1 := st2_len Y tol flip s x
    simp only [List.length_cons]
    omega

/-- A block of one reference, as a slice. -/
theorem RdP.one {X : Nat → Prop} {w : World} {g : Nat} {r : Rf} {t : TypeId} (h : Blk w g t #[.int .i64 r.e, .int .i64 r.l]) (hX : X g) : RdP rfC 2 X w (some ⟨g, 0, none⟩) [r] := fun i x hx => by
  have : i = 0 := by
    rcases i with _ | i
    · rfl
    · simp at hx
  subst this
  simp at hx
  subst hx
  refine ⟨g, 0, rfl, hX, fun j u hu => ?_⟩
  rw [show 0 + 0 * 2 + j = j by omega, h.cell]
  simpa [rfC] using hu

theorem blk_a3 {w : World} {cs : Array Value} {t : TypeId} {o2 o3 : Obj} : Blk (((w.alloc (.cells cs t)).alloc o2).alloc o3).drew w.heap.size t cs := blk_drew (((Blk.new w t cs).alloc _).alloc _)
theorem blk_b3 {w : World} {cs : Array Value} {t : TypeId} {o1 o3 : Obj} : Blk (((w.alloc o1).alloc (.cells cs t)).alloc o3).drew (w.heap.size + 1) t cs := by
  have := Blk.new (w.alloc o1) t cs
  rw [World.size_alloc] at this
  exact blk_drew (this.alloc _)
theorem below_al3 {w : World} {o1 o2 o3 : Obj} : Below w.heap.size w (((w.alloc o1).alloc o2).alloc o3).drew := ((((Below.refl _ w).alloc (Nat.le_refl _) _).alloc (by simp) _).alloc (by simp; omega) _).drew
theorem below_al1 {w : World} {o1 : Obj} : Below w.heap.size w (w.alloc o1).drew := ((Below.refl _ w).alloc (Nat.le_refl _) _).drew
theorem free_a3 {w : World} {o1 o2 o3 : Obj} {u v : Value} (hu : ∀ b, u.ownBlock = some b → b < w.heap.size) (hv : ∀ b, v.ownBlock = some b → b < w.heap.size) : Free (((w.alloc o1).alloc o2).alloc o3).drew u v w.heap.size ∧ Free (((w.alloc o1).alloc o2).alloc o3).drew u v (w.heap.size + 1) := by
  refine ⟨⟨?_, ?_, ?_⟩, ?_, ?_, ?_⟩
  · show _ < (((w.alloc o1).alloc o2).alloc o3).heap.size; simp only [World.size_alloc]; omega
  · intro e; have := hu _ e; omega
  · intro e; have := hv _ e; omega
  · show _ < (((w.alloc o1).alloc o2).alloc o3).heap.size; simp only [World.size_alloc]; omega
  · intro e; have := hu _ e; omega
  · intro e; have := hv _ e; omega

set_option maxRecDepth 20000 in
set_option maxHeartbeats 1600000 in
theorem rpropose_any (A A' : Option Addr) (n c n' c' : Nat) (L R : List On) (tol : Int) (w : World) (hn : L.length = n) (hn' : R.length = n') (hl : n ≤ 12) (hl' : n' ≤ 12) (hc : n ≤ c) (_hc' : n' ≤ c')
    (h : Rd onC 3 w.heap.size w A L) (h' : Rd onC 3 w.heap.size w A' R) (hok : LinesOk L R) (ht0 : 0 ≤ tol) (ht1 : tol ≤ 1000000000000) :
    Calls Try.prog 12 #[.slice A n c, .slice A' n' c', .int .i64 tol] w (propPost w (refOut L R tol)) := by
  have Hn := Lib.hid hn; clear hn
  have Hn' := Lib.hid hn'; clear hn'
  have hoL : ∀ x ∈ L, OnOk x := fun x hx => good_ok (hok.1 x (by simp [hx]))
  have hoR : ∀ x ∈ R, OnOk x := fun x hx => good_ok (hok.1 x (by simp [hx]))
  have HoL := Lib.hid hoL; clear hoL
  have HoR := Lib.hid hoR; clear hoR
  have HV := Lib.hid (linesB_true.2 hok); clear hok
  have htd : decide (tol < 0) = false := decide_eq_false (by omega)
  obtain ⟨i41, hi41, hz41, hy41, hb41⟩ := info_parts Try.info41
  obtain ⟨i88, hi88, hz88, hy88, hb88⟩ := info_parts Try.info88
  go_enter Try.func12, Try.ntmps12
  go_wp2_with fail
  refine (rvalid_any A A' n c n' c' L R w Hn.out Hn'.out (by omega) (by omega) h h').mono ?_
  rw [HV.out]
  rintro e w0 ⟨rfl, hb0⟩
  go_wp2
  go_loopw [8, 9, 10] (fun o u i wr => ∃ k : Nat, k ≤ n ∧ i = .int .i64 k ∧ StAt w wr (ph1 (L.take k) R tol) o u) (fun _ _ i _ => n - (intOf i).toNat)
  case atStart =>
    exact ⟨0, by omega, rfl, ⟨[], none, 0, none, 0, rfl, rfl, World.ownsRow_nil _ _ _ _, World.ownsRow_nil _ _ _ _, PvAll.nil, hb0⟩⟩
  case round =>
    obtain ⟨k, hk, rfl, ⟨qs, A1, c1, A2, c2, rfl, rfl, hO1, hO2, hP, hB⟩⟩ := hrel
    by_cases hlt : k < n
    · have hk' : k < L.length := by rw [Hn.out]; exact hlt
      have hlen := ph1_len R tol (L.take k) ([], [])
      have hlk : (L.take k).length = k := by rw [List.length_take]; omega
      have hst := fold_take_succ (st1 R tol) (([], []) : St) hk'
      have hRd := (h.below hB).mono hB.size
      have hRd' := (h'.below hB).mono hB.size
      obtain ⟨b, off, rfl, hb, h1, h2, h3⟩ := rd_on hRd hk'
      have hbw0 : b < w.heap.size := by
        obtain ⟨b', off', e, hb', _⟩ := rd_on h hk'
        injection e with e; injection e with e _; omega
      have hz := HoL.out _ (List.getElem_mem hk')
      rw [hlk] at hlen
      change (ph1 (L.take k) R tol).1.length ≤ _ ∧ (ph1 (L.take k) R tol).2.length ≤ _ at hlen
      change ph1 (L.take (k + 1)) R tol = st1 R tol (ph1 (L.take k) R tol) _ at hst
      have HST := Lib.hid hst
      generalize L[k] = z at h1 h2 h3 hz HST
      clear hst hlk
      generalize ph1 (L.take k) R tol = s at hO1 hO2 hP hlen HST
      obtain ⟨s1, s2⟩ := s
      simp only [] at hO1 hO2 hP hlen
      obtain ⟨hl1, hl2⟩ := hlen
      simp only [List.length_nil, Nat.zero_add] at hl1 hl2
      have HZ := Lib.hid hz; clear hz
      have hsz := hB.size
      have hik : (0 : Int) ≤ (k : Int) := by omega
      have hik2 : (k : Int) < (n : Int) := by omega
      have hRu : Rd rfC 2 wr.heap.size wr A2 s2 := Rd.of_own (fun _ => rfl) hO2 rfl
      have hlb : s2.length ≤ maxLen := by unfold maxLen; omega
      have HLB := Lib.hid hlb; clear hlb
      go_wp2_with fail
      go_region_held3 (fun w' => w'.cell? ⟨b, off + k * 3, none⟩ = some (.int .i64 z.r.e) ∧ w'.cell? ⟨b, off + k * 3 + 1, none⟩ = some (.int .i64 z.r.l) ∧ w'.cell? ⟨b, off + k * 3 + 2, none⟩ = some (.int .i64 z.a))
        (first | go_keep | (go_split_ands; refine ⟨?_, ?_, ?_⟩ <;> (rw [hb3.cell (by show b < wr.heap.size; exact hb)]; assumption)) | (go_split_ands; refine ⟨?_, ?_, ?_⟩ <;> (rw [hb4.cell (by show b < w1.heap.size; exact Nat.lt_of_lt_of_le hb hb3.size)]; assumption)))
        (first
          | (go_at_call 32; refine (without_any A' A2 n' c' _ c2 R s2 _ Hn'.out rfl (by omega) HLB.out ?_ ?_).mono ?_; (exact hRd'); (exact hRu); rintro e w1 ⟨A3, m3, c3, rfl, hm3, hO3, hb3⟩; have HM3 := Lib.hid hm3; clear hm3)
          | (go_at_call 31; refine (against_any A3 m3 c3 z (withoutL R s2) _ HM3.out.symm ?_ ?_).mono ?_; (rw [HM3.out]; have := wolen R s2; have := Hn'.out; omega); (exact Rd.of_own (fun _ => rfl) hO3 HM3.out.symm); rintro e w2 ⟨A4, m4, c4, rfl, hm4, hO4, hb4⟩; have HM4 := Lib.hid hm4; clear hm4))
      replace hb3 : Below wr.heap.size wr w1 := below_un hb3
      have hsz3 := hb3.size
      have hsz4 := hb4.size
      have hm3b : m3 ≤ n' := by rw [HM3.out, ← Hn'.out]; exact wolen R s2
      have hm4b : m4 ≤ m3 := by rw [HM4.out, HM3.out]; exact aglen _ _
      have hRl : Rd onC 3 w2.heap.size w2 A4 (againstL z (withoutL R s2)) := Rd.of_own (fun _ => rfl) hO4 HM4.out.symm
      have hA4 : ∀ b off, A4 = some ⟨b, off, none⟩ → wr.heap.size ≤ b := by
        rintro b off rfl
        exact Nat.le_trans hsz3 (hO4.lt b rfl).1
      have HA4 := Lib.hid hA4; clear hA4
      have hlok : ∀ y ∈ againstL z (withoutL R s2), OnOk y := fun y hy => HoR.out y (wosub (agsub hy))
      have HLOK := Lib.hid hlok; clear hlok hO3
      have hbw : Below wr.heap.size wr w2 := hb3.trans (hb4.mono hsz3)
      have hO1' := own_below hO1 hbw
      have hO2' := own_below hO2 hbw
      have hP' := (hP.kept (w' := w2) (fun b hb => hbw.block b hb.1)).imp (X' := Free w2 (.slice A1 s1.length c1) (.slice A2 s2.length c2)) (fun b hb => ⟨Nat.lt_of_lt_of_le hb.1 hbw.size, hb.2⟩)
      have g1 := (hbw.cell (p := ⟨b, off + k * 3, none⟩) hb).trans h1
      have g2 := (hbw.cell (p := ⟨b, off + k * 3 + 1, none⟩) hb).trans h2
      have g3 := (hbw.cell (p := ⟨b, off + k * 3 + 2, none⟩) hb).trans h3
      have hB2 := hB.trans (hbw.mono hsz)
      have hb2 : b < w2.heap.size := Nat.lt_of_lt_of_le hb hbw.size
      have hOlt1 : ∀ b, (Value.slice A1 s1.length c1).ownBlock = some b → b < wr.heap.size := fun b e => (hO1.lt b e).2
      have hOlt2 : ∀ b, (Value.slice A2 s2.length c2).ownBlock = some b → b < wr.heap.size := fun b e => (hO2.lt b e).2
      clear hO1 hO2 hP h1 h2 h3 hB hRu hRd hRd' hb3 hb4 hO4
      go_wp2_with fail
      refine (one_any A4 m4 c4 z tol _ w2 HM4.out.symm (by omega) hRl HZ.out HLOK.out).mono ?_
      have hst1 := HST.out
      unfold st1 at hst1
      simp only [] at hst1
      rw [← HM4.out] at hst1
      generalize againstL z (withoutL R s2) = l at hst1 hRl HM4 HLOK
      cases hone : oneTo z l tol m4 with
      | none =>
        rw [hone] at hst1
        have HST := Lib.hid hst1; clear hst1 hone
        rintro e w3 ⟨rfl, hb5⟩
        rw [show optI none = -1 from rfl]
        go_wp2
        go_roundw
        case rel => exact ⟨k + 1, by omega, by go_num, by rw [HST.out]; exact ⟨qs, A1, c1, A2, c2, rfl, rfl, own_below hO1' hb5, own_below hO2' hb5, (hP'.kept (fun b hb => hb5.block b hb.1)).imp (fun b hb => ⟨Nat.lt_of_lt_of_le hb.1 hb5.size, hb.2⟩), hB2.trans (hb5.mono hB2.size)⟩⟩
        case measure => simp [intOf]; omega
      | some q =>
        have hq := oneTo_lt hone
        rw [hone] at hst1
        have HST := Lib.hid hst1; clear hst1 hone
        rintro e w3 ⟨rfl, hb5⟩
        rw [show optI (some q) = (q : Int) from rfl]
        have hbw5 := hb5.size
        have hql : q < l.length := by rw [← HM4.out]; exact hq
        have hRl5 := hRl.step hb5 (Nat.le_refl _)
        obtain ⟨b4, off4, rfl, hb4, p1, p2, p3⟩ := rd_on hRl5 hql
        have hrf := rfAt_at hql
        have hyr : ∃ y, l[q] = y := ⟨_, rfl⟩
        obtain ⟨y, hy⟩ := hyr
        rw [hy] at p1 p2 p3 hrf
        have HRF := Lib.hid hrf; clear hrf hy
        have hO1 := own_below hO1' hb5
        have hO2 := own_below hO2' hb5
        have hP := (hP'.kept (w' := w3) (fun b hb => hb5.block b hb.1)).imp (X' := Free w3 (.slice A1 s1.length c1) (.slice A2 s2.length c2)) (fun b hb => ⟨Nat.lt_of_lt_of_le hb.1 hb5.size, hb.2⟩)
        have k1 := (hb5.cell (p := ⟨b, off + k * 3, none⟩) hb2).trans g1
        have k2 := (hb5.cell (p := ⟨b, off + k * 3 + 1, none⟩) hb2).trans g2
        have hB := hB2.trans (hb5.mono hB2.size)
        have hb3 : b < w3.heap.size := Nat.lt_of_lt_of_le hb2 hbw5
        have hb6 : b4 < w3.heap.size := Nat.lt_of_lt_of_le hb4 hbw5
        have hsz5 := hB.size
        have hne1 : some b ≠ (Value.slice A1 s1.length c1).ownBlock := own_ne hO1 hbw0
        have hne2 : some b4 ≠ (Value.slice A1 s1.length c1).ownBlock := fun e => by
          have := hOlt1 _ e.symm
          have := HA4.out b4 off4 rfl
          omega
        have hne3 : some b ≠ (Value.slice A2 s2.length c2).ownBlock := own_ne hO2 hbw0
        have hne4 : some b4 ≠ (Value.slice A2 s2.length c2).ownBlock := fun e => by
          have := hOlt2 _ e.symm
          have := HA4.out b4 off4 rfl
          omega
        have hiq : (0 : Int) ≤ (q : Int) := by omega
        have hiq2 : (q : Int) < (m4 : Int) := by omega
        clear g1 g2 g3 hO1' hO2' hP' hB2 p3 hRl hRl5
        go_wp2
        go_region_held3 (fun w' => w'.cell? ⟨b, off + k * 3, none⟩ = some (.int .i64 z.r.e) ∧ w'.cell? ⟨b, off + k * 3 + 1, none⟩ = some (.int .i64 z.r.l) ∧ w'.cell? ⟨b4, off4 + q * 3, none⟩ = some (.int .i64 y.r.e) ∧ w'.cell? ⟨b4, off4 + q * 3 + 1, none⟩ = some (.int .i64 y.r.l))
          (first | (go_keep; done) | (exact ⟨(cell_al3 hb3).trans k1, (cell_al3 hb3).trans k2, (cell_al3 hb6).trans p1, (cell_al3 hb6).trans p2⟩) | (exact ⟨(cell_ap3 hg5 hb3 hne1).trans k1, (cell_ap3 hg5 hb3 hne1).trans k2, (cell_ap3 hg5 hb6 hne2).trans p1, (cell_ap3 hg5 hb6 hne2).trans p2⟩))
          ((refine step_append_blk (by rfl) _ _ 30 (by rfl) w.heap.size 88 i88 _ 2 48 Try.underlying30 hi88 hz88 hy88 hb88 rfl (by decide) (.slice A1 s1.length c1) s1.length (qs.flatMap pvC) (by rfl) (own_drew (((hO1.alloc _).alloc _).alloc _)) (w3.heap.size + 2) 1 1 (by rfl) 88 _ (blk_drew (blk_new3 rfl)) _ rfl rfl (by simp [Value.oneCell']) (by omega) (by omega) (by show w.heap.size ≤ (((w3.alloc _).alloc _).alloc _).heap.size; simp; omega) ?_; intro A5 c5 w4 hO5 hg5 hloc5))
        all_goals
          have hB3 : Below w3.heap.size w3 w3 := Below.refl _ _
          have hs4 : w3.heap.size ≤ w4.heap.size := Nat.le_trans (by show w3.heap.size ≤ (((w3.alloc _).alloc _).alloc _).heap.size; simp; omega) hg5.size
          have m1 := (cell_ap3 hg5 hb3 hne1).trans k1
          have m2 := (cell_ap3 hg5 hb3 hne1).trans k2
          have m3' := (cell_ap3 hg5 hb6 hne2).trans p1
          have m4' := (cell_ap3 hg5 hb6 hne2).trans p2
          have hb3' : b < w4.heap.size := Nat.lt_of_lt_of_le hb3 hs4
          have hb6' : b4 < w4.heap.size := Nat.lt_of_lt_of_le hb6 hs4
          have hI3 : StIn w w3 (s1, s2) qs A1 c1 A2 c2 := ⟨hO1, hO2, hP, hB⟩
          have hF := fun o1 o2 o3 => free_a3 (w := w3) (o1 := o1) (o2 := o2) (o3 := o3) (u := .slice A1 s1.length c1) (v := .slice A2 s2.length c2) (fun b e => (hO1.lt b e).2) (fun b e => (hO2.lt b e).2)
          have hI4 : ∃ qs4, StIn w w4 (s1 ++ [⟨[z.r], [y.r]⟩], s2) qs4 A5 c5 A2 c2 := by
            first
              | exact ⟨_, (hI3.kept below_al3).out (q := ⟨⟨some ⟨w3.heap.size, 0, none⟩, 1, 1⟩, ⟨some ⟨w3.heap.size + 1, 0, none⟩, 1, 1⟩⟩) (p := ⟨[z.r], [y.r]⟩) ⟨rfl, rfl, RdP.one blk_a3 (hF _ _ _).1, RdP.one blk_b3 (hF _ _ _).2, (by show 1 ≤ 1000; decide), (by show 1 ≤ 1000; decide)⟩ hg5 hO5 hloc5⟩
              | exact ⟨_, (hI3.kept below_al3).out (q := ⟨⟨some ⟨w3.heap.size + 1, 0, none⟩, 1, 1⟩, ⟨some ⟨w3.heap.size, 0, none⟩, 1, 1⟩⟩) (p := ⟨[z.r], [y.r]⟩) ⟨rfl, rfl, RdP.one blk_b3 (hF _ _ _).2, RdP.one blk_a3 (hF _ _ _).1, (by show 1 ≤ 1000; decide), (by show 1 ≤ 1000; decide)⟩ hg5 hO5 hloc5⟩
          obtain ⟨qs4, hI4⟩ := hI4
          have hO2b : w4.ownsRow w.heap.size 41 2 (.slice A2 s2.length c2) s2.length (s2.flatMap rfC) := hI4.2.1
          have hsz6 := hI4.2.2.2.size
          clear hI3 hF hO5 hloc5 hg5 k1 k2 p1 p2 hO1 hO2 hP
          go_wp2
          go_region_held3 (fun w' => w'.cell? ⟨b, off + k * 3, none⟩ = some (.int .i64 z.r.e) ∧ w'.cell? ⟨b, off + k * 3 + 1, none⟩ = some (.int .i64 z.r.l) ∧ w'.cell? ⟨b4, off4 + q * 3, none⟩ = some (.int .i64 y.r.e) ∧ w'.cell? ⟨b4, off4 + q * 3 + 1, none⟩ = some (.int .i64 y.r.l))
            (first | (go_keep; done) | (exact ⟨(cell_al1 hb3').trans m1, (cell_al1 hb3').trans m2, (cell_al1 hb6').trans m3', (cell_al1 hb6').trans m4'⟩) | (exact ⟨(cell_ap1 hg6 hb3' hne3).trans m1, (cell_ap1 hg6 hb3' hne3).trans m2, (cell_ap1 hg6 hb6' hne4).trans m3', (cell_ap1 hg6 hb6' hne4).trans m4'⟩))
            ((refine step_append_blk (by rfl) _ _ 37 (by rfl) w.heap.size 41 i41 _ 2 16 Try.underlying37 hi41 hz41 hy41 hb41 rfl (by decide) (.slice A2 s2.length c2) s2.length (s2.flatMap rfC) (by rfl) (own_drew (hO2b.alloc _)) w4.heap.size 2 2 (by rfl) 41 _ (blk_drew (Blk.new _ _ _)) _ rfl rfl (by simp [Value.oneCell']) (by omega) (by omega) (by show w.heap.size ≤ (w4.alloc _).heap.size; simp; omega) ?_; intro A6 c6 w5 hO6 hg6 hloc6))
          have hI5 := (hI4.kept below_al1).used (rs := [z.r, y.r]) (by simp) hg6 hO6 hloc6
          go_wp2
          go_roundw
          case rel => exact ⟨k + 1, by omega, by go_num, by rw [HST.out, HRF.out]; exact hI5.at2 (by simp) (by simp)⟩
          case measure => simp [intOf]; omega
    · obtain rfl : k = n := by omega
      have hlen := ph1_len R tol L ([], [])
      rw [List.take_of_length_le (by rw [Hn.out]; omega)] at hO1 hO2 hP ⊢
      have hI : StIn w wr (ph1 L R tol) qs A1 c1 A2 c2 := ⟨hO1, hO2, hP, hB⟩
      rw [Hn.out] at hlen
      change (ph1 L R tol).1.length ≤ _ ∧ (ph1 L R tol).2.length ≤ _ at hlen
      have HO : Hid (refOut L R tol = (ph2 R L tol true (ph2 L R tol false (ph1 L R tol))).1) := rfl
      generalize ph1 L R tol = s at hI hlen HO
      obtain ⟨s1, s2⟩ := s
      simp only [List.length_nil, Nat.zero_add] at hlen
      obtain ⟨hl1, hl2⟩ := hlen
      clear hO1 hO2 hP hB
      go_wp2
      go_loopw [8, 9, 13] (fun o u i wr => ∃ (j : Nat) (s : St), i = .int .i64 j ∧ StAt w wr s o u ∧ s.1.length ≤ 12 + 12 * j ∧ s.2.length ≤ 24 + 156 * j ∧ Hid ((j = 0 ∧ s = (s1, s2)) ∨ (j = 1 ∧ s = ph2 L R tol false (s1, s2)) ∨ (j = 2 ∧ s = ph2 R L tol true (ph2 L R tol false (s1, s2))))) (fun _ _ i _ => 2 - (intOf i).toNat)
      case atStart => exact ⟨0, (s1, s2), rfl, hI.at_, by show s1.length ≤ _; omega, by show s2.length ≤ _; omega, .inl ⟨rfl, rfl⟩⟩
      case round =>
        clear hI hl1 hl2
        obtain ⟨j, ⟨t1, t2⟩, rfl, ⟨qs, A1, c1, A2, c2, rfl, rfl, hI⟩, hl1, hl2, hj⟩ := hrel
        change StIn w _ (t1, t2) qs A1 c1 A2 c2 at hI
        simp only [] at hl1 hl2
        rcases hj with ⟨rfl, hs⟩ | ⟨rfl, hs⟩ | ⟨rfl, hs⟩
        · obtain ⟨X, Y, HXn, HYn, hRX, hRY, HoX, HoY, HN⟩ : ∃ (X Y : List On), Hid (X.length = k) ∧ Hid (Y.length = n') ∧ Rd onC 3 w.heap.size w A X ∧ Rd onC 3 w.heap.size w A' Y ∧ Hid (∀ x ∈ X, OnOk x) ∧ Hid (∀ x ∈ Y, OnOk x) ∧
              Hid (ph2 X Y tol false (t1, t2) = ph2 L R tol false (s1, s2)) := ⟨L, R, Hn, Hn', h, h', HoL, HoR, by rw [hs]; rfl⟩
          clear hs
          have hlb : t2.length ≤ maxLen := by unfold maxLen; omega
          have hsz := hI.2.2.2.size
          go_wp2_with fail
          have hRu : Rd rfC 2 wr.heap.size wr A2 t2 := Rd.of_own (fun _ => rfl) hI.2.1 rfl
          refine (without_any _ A2 _ _ _ c2 X t2 _ HXn.out rfl (by omega) hlb ((hRX.below hI.2.2.2).mono hsz) hRu).mono ?_
          clear hRu hlb
          rintro e w1 ⟨A3, m3, c3, rfl, hm3, hO3, hb3⟩
          have HM3 := Lib.hid hm3; clear hm3
          have hm3b : m3 ≤ X.length := by rw [HM3.out]; exact wolen _ _
          have hm3c : X.length ≤ 12 := by rw [HXn.out]; omega
          have hI1 := hI.kept hb3
          have hRr0 : RdP onC 3 (fun b => wr.heap.size ≤ b ∧ b < w1.heap.size) w1 A3 (withoutL X t2) := RdP.of_own (fun _ => rfl) hO3 HM3.out.symm
          have hRr : RdP onC 3 (Free w1 (.slice A1 t1.length c1) (.slice A2 t2.length c2)) w1 A3 (withoutL X t2) := hRr0.imp fun b hb => ⟨hb.2, fun e => by have := (hI.1.lt b e).2; have := hb.1; omega, fun e => by have := (hI.2.1.lt b e).2; have := hb.1; omega⟩
          have HRO : Hid (∀ x ∈ withoutL X t2, OnOk x) := fun x hx => HoX.out x (wosub hx)
          have HPH : Hid (∀ (q : Bool), ph2 X Y tol q (t1, t2) = (withoutL X t2).foldl (st2 Y tol q) (t1, t2)) := fun _ => rfl
          clear hRr0
          generalize withoutL X t2 = rest at HM3 hO3 hRr HRO HPH
          clear hO3 hI hb3 hsz
          go_wp2
          go_loopw [8, 9, 17] (fun o u i wr => ∃ (j : Nat) (s : St), j ≤ m3 ∧ i = .int .i64 j ∧ Hid (s = (rest.take j).foldl (st2 Y tol false) (t1, t2)) ∧ StAt w wr s o u ∧ RdP onC 3 (Free wr o u) wr A3 rest) (fun _ _ i _ => m3 - (intOf i).toNat)
          case atStart => exact ⟨0, (t1, t2), by omega, rfl, rfl, hI1.at_, hRr⟩
          case round =>
            clear hI1 hRr
            obtain ⟨j, ⟨r1, r2⟩, hjm, rfl, HR, ⟨qs, A1, c1, A2, c2, rfl, rfl, hI⟩, hRr⟩ := hrel
            change StIn w _ (r1, r2) qs A1 c1 A2 c2 at hI
            have hfl := ph2_fold_len Y tol false (rest.take j) (t1, t2)
            rw [← HR.out] at hfl
            have htl : (rest.take j).length ≤ j := by rw [List.length_take]; omega
            have hr1 : r1.length ≤ 12 + 12 := by have := hfl.1; simp only [] at this; omega
            have hr2 : r2.length ≤ 24 + 156 := by have := hfl.2; simp only [] at this; omega
            clear hfl htl
            by_cases hjl : j < m3
            · have hj' : j < rest.length := by rw [← HM3.out]; exact hjl
              have hst := fold_take_succ (st2 Y tol false) ((t1, t2) : St) hj'
              rw [← HR.out] at hst
              have hz := HRO.out _ (List.getElem_mem hj')
              have hRd := hRr.toRd (B := wr.heap.size) (fun b hb => hb.1)
              obtain ⟨b, off, rfl, hb, h1, h2, h3⟩ := rd_on hRd hj'
              have hfree : Free wr (.slice A1 r1.length c1) (.slice A2 r2.length c2) b := by
                obtain ⟨b', off', e, hb', _⟩ := hRr j _ (List.getElem?_eq_getElem hj')
                injection e with e; injection e with e _; subst e; exact hb'
              generalize rest[j] = z at h1 h2 h3 hz hst
              have HST := Lib.hid hst; clear hst
              have HZ := Lib.hid hz; clear hz
              have hsz := hI.2.2.2.size
              have hik : (0 : Int) ≤ (j : Int) := by omega
              have hik2 : (j : Int) < (m3 : Int) := by omega
              have hlb : r2.length ≤ maxLen := by unfold maxLen; omega
              have HLB := Lib.hid hlb; clear hlb
              have hRu : Rd rfC 2 wr.heap.size wr A2 r2 := Rd.of_own (fun _ => rfl) hI.2.1 rfl
              have hRY' := (hRY.below hI.2.2.2).mono hsz
              have hYl : Y.length ≤ 12 := by rw [HYn.out]; omega
              go_wp2
              go_region_held3 (fun w' => w'.cell? ⟨b, off + j * 3, none⟩ = some (.int .i64 z.r.e) ∧ w'.cell? ⟨b, off + j * 3 + 1, none⟩ = some (.int .i64 z.r.l) ∧ w'.cell? ⟨b, off + j * 3 + 2, none⟩ = some (.int .i64 z.a))
                (first | (go_keep; done) | (exact ⟨(hb3.cell (p := ⟨b, off + j * 3, none⟩) hb).trans h1, (hb3.cell (p := ⟨b, off + j * 3 + 1, none⟩) hb).trans h2, (hb3.cell (p := ⟨b, off + j * 3 + 2, none⟩) hb).trans h3⟩) | (exact ⟨(hb34.cell (p := ⟨b, off + j * 3, none⟩) hb).trans h1, (hb34.cell (p := ⟨b, off + j * 3 + 1, none⟩) hb).trans h2, (hb34.cell (p := ⟨b, off + j * 3 + 2, none⟩) hb).trans h3⟩) | (exact ⟨(hb35.cell (p := ⟨b, off + j * 3, none⟩) hb).trans h1, (hb35.cell (p := ⟨b, off + j * 3 + 1, none⟩) hb).trans h2, (hb35.cell (p := ⟨b, off + j * 3 + 2, none⟩) hb).trans h3⟩))
                (first
                  | (go_at_call 32; refine (without_any _ A2 _ _ _ c2 Y r2 _ HYn.out rfl (by omega) HLB.out ?_ ?_).mono ?_; (exact hRY'); (exact hRu); rintro e w2 ⟨A4, m4, c4, rfl, hm4, hO4, hb3⟩; have HM4 := Lib.hid hm4; clear hm4)
                  | (go_at_call 31; refine (against_any A4 m4 c4 z (withoutL Y r2) _ HM4.out.symm ?_ ?_).mono ?_; (rw [HM4.out]; have := wolen Y r2; omega); (exact Rd.of_own (fun _ => rfl) hO4 HM4.out.symm); rintro e w3 ⟨A5, m5, c5, rfl, hm5, hO5, hb4⟩; have HM5 := Lib.hid hm5; clear hm5; have hb34 : Below wr.heap.size wr w3 := (below_un hb3).trans (hb4.mono (below_un hb3).size))
                  | (go_at_call 34; refine (many_any A5 m5 c5 z tol (againstL z (withoutL Y r2)) _ HM5.out.symm ?_ ?_ ?_ HZ.out ?_).mono ?_; (rw [HM5.out]; have := aglen z (withoutL Y r2); have := wolen Y r2; omega); (exact own_le hO5 rfl); (exact Rd.of_own (fun _ => rfl) hO5 HM5.out.symm); (exact fun x hx => HoY.out x (wosub (agsub hx))); rintro e w4 ⟨A6, m6, c6, rfl, hm6, hO6, hb5⟩; have HM6 := Lib.hid hm6; clear hm6; have hb35 : Below wr.heap.size wr w4 := hb34.trans (hb5.mono hb34.size)))
              have hst := HST.out
              unfold st2 at hst
              simp only [] at hst
              have hset := manyL_len z (againstL z (withoutL Y r2)) tol
              have hI4 := hI.kept hb35
              have hRr4 := hRr.go (free_below hb35)
              have g1 := (hb35.cell (p := ⟨b, off + j * 3, none⟩) hb).trans h1
              have g2 := (hb35.cell (p := ⟨b, off + j * 3 + 1, none⟩) hb).trans h2
              have hfr4 := (free_below hb35).2 b hfree
              have hsz4 := hI4.2.2.2.size
              generalize manyL z (againstL z (withoutL Y r2)) tol = set at hst hset hO6 HM6
              have hRs0 : RdP rfC 2 (fun b => w3.heap.size ≤ b ∧ b < w4.heap.size) w4 A6 set := RdP.of_own (fun _ => rfl) hO6 HM6.out.symm
              have hRs : RdP rfC 2 (Free w4 (.slice A1 r1.length c1) (.slice A2 r2.length c2)) w4 A6 set := hRs0.imp fun b hb => ⟨hb.2, fun e => by have := (hI.1.lt b e).2; have := hb.1; have := hb34.size; omega, fun e => by have := (hI.2.1.lt b e).2; have := hb.1; have := hb34.size; omega⟩
              have hne6 : (Value.slice A6 m6 c6).ownBlock = none ∨ (Value.slice A6 m6 c6).ownBlock ≠ (Value.slice A2 r2.length c2).ownBlock := by
                cases hv : (Value.slice A6 m6 c6).ownBlock with
                | none => exact .inl rfl
                | some g => exact .inr fun e => by have := (hI.2.1.lt g e.symm).2; have := (hO6.lt g hv).1; have := hb34.size; omega
              clear hRs0 h1 h2 h3 hI hRr hRd hRu hRY' hb34 hb35 hb3 hb4 hb5 hO4 hO5 HM4 HM5 hfree hsz
              cases set with
              | nil =>
                obtain rfl : m6 = 0 := HM6.out
                simp only [] at hst
                have HST2 := Lib.hid (HST.out.symm.trans hst)
                have HST3 := Lib.hid hst
                clear hst
                go_wp2
                go_roundw
                case rel => exact ⟨j + 1, (r1, r2), by omega, by go_num, HST3.out.symm, hI4.at_, hRr4⟩
                case measure => simp [intOf]; omega
              | cons p ps =>
                have hm6 : ((m6 : Int) == 0) = false := by rw [beq_eq_false_iff_ne]; have := HM6.out; simp at this; omega
                have hm6b : m6 ≤ 12 := by have := HM6.out; omega
                simp only [] at hst
                have HST3 := Lib.hid hst
                clear hst hset
                generalize hse : p :: ps = set at *
                clear hse
                have H1c := Lib.hid (one_rfC set)
                have hl1c : (set.flatMap rfC).length = m6 * 2 := by rw [len_flat (k := 2) (fun _ => rfl), ← HM6.out]
                have HL1c := Lib.hid hl1c; clear hl1c
                have hbn : b ≠ w4.heap.size := by have := hfr4.1; omega
                go_wp2_with (first
                  | (at_builtin; refine wpList_append_new rfl (.tmp 117) (.tmp 123) 37 rfl w.heap.size 41 i41 _ 2 16 Try.underlying37 hi41 hz41 hy41 hb41 rfl (by decide) (.slice A2 r2.length c2) r2.length (r2.flatMap rfC) rfl hI4.2.1 w4.heap.size 1 1 rfl rfl (rfC z.r) rfl rfl (by simp [rfC, Value.oneCell']) (by omega) (by omega) hsz4 ?_; intro A7 c7 w5 hO7 hg7 hloc7; replace hloc7 := hloc7.imp id (fun h b e => Nat.le_of_lt (h b e)); have hO6' := hO6.kept hg7 hne6; have hf7 := free_used (u := .slice A1 r1.length c1) hg7 hloc7; have k1 := (World.cell?_of_block (w := w4) (a := ⟨b, off + j * 3, none⟩) (hf7.1 b hfr4)).trans g1; have k2 := (World.cell?_of_block (w := w4) (a := ⟨b, off + j * 3 + 1, none⟩) (hf7.1 b hfr4)).trans g2; have hsz5 := Nat.le_trans hsz4 hg7.size; go_must (have hI5 : StIn w w5 (r1, r2 ++ [z.r]) qs A1 c1 A7 c7 := hI4.used (rs := [z.r]) (m := r2.length + 1) (by simp) hg7 hO7 hloc7); clear g1 g2)
                  | (at_builtin; refine wpList_append_src rfl (.tmp 124) (.tmp 125) 37 rfl w.heap.size 41 i41 _ 2 16 Try.underlying37 hi41 hz41 hy41 hb41 rfl (by decide) (.slice A7 (r2.length + 1) c7) (r2.length + 1) (r2.flatMap rfC ++ rfC z.r) rfl hO7 A6 m6 c6 (set.flatMap rfC) rfl HL1c.out (own_src hO6') H1c.out (by omega) (by omega) hsz5 ?_; intro A8 c8 w6 hO8 hg8 hloc8; have hf8 := free_used (u := .slice A1 r1.length c1) hg8 hloc8; have g1 := (World.cell?_of_block (w := w5) (a := ⟨b, off + j * 3, none⟩) (hf8.1 b (hf7.2 b hfr4))).trans k1; have g2 := (World.cell?_of_block (w := w5) (a := ⟨b, off + j * 3 + 1, none⟩) (hf8.1 b (hf7.2 b hfr4))).trans k2; have hsz6 := Nat.le_trans hsz5 hg8.size; go_must (have hI6 : StIn w w6 (r1, r2 ++ [z.r] ++ set) qs A1 c1 A8 c8 := hI5.used (rs := set) (m := r2.length + 1 + m6) (by have := HM6.out; simp; omega) hg8 (by rw [List.flatMap_append]; exact hO8) hloc8); clear k1 k2)
                  | (at_builtin; refine wpList_append_new rfl (.tmp 129) (.tmp 138) 30 rfl w.heap.size 88 i88 _ 2 48 Try.underlying30 hi88 hz88 hy88 hb88 rfl (by decide) (.slice A1 r1.length c1) r1.length (qs.flatMap pvC) rfl (hI6.1.alloc _) (w6.heap.size + 1) 1 1 rfl (by simp) [.slice (some ⟨w6.heap.size, 0, none⟩) 1 1, .slice A6 m6 c6] rfl rfl (by simp [Value.oneCell']) (by omega) (by omega) (by simp; omega) ?_; intro A9 c9 w7 hO9 hg9 hloc9))
                replace hloc9 := hloc9.imp id (fun h b e => Nat.le_of_lt (h b e))
                have hbW : ∀ X, Below w6.heap.size w6 (w6.alloc X) := fun X => (Below.refl _ _).alloc (Nat.le_refl _) X
                have hS := ((hRs.go hf7).go hf8).go (free_below (hbW (.cells #[.int .i64 z.r.e, .int .i64 z.r.l] 41)))
                have hU := ((hRr4.go hf7).go hf8).go (free_below (hbW (.cells #[.int .i64 z.r.e, .int .i64 z.r.l] 41)))
                have hU9 := hU.go (free_out (v := .slice A8 (r2.length + 1 + m6) c8) hg9 hloc9)
                have hone := RdP.one (X := Free (w6.alloc (.cells #[.int .i64 z.r.e, .int .i64 z.r.l] 41)) (.slice A1 r1.length c1) (.slice A8 (r2.length + 1 + m6) c8)) (Blk.new w6 41 #[.int .i64 z.r.e, .int .i64 z.r.l]) ⟨by simp, fun e => by have := (hI6.1.lt _ e).2; omega, fun e => by have := (hO8.lt _ e).2; omega⟩
                have hI9 := (hI6.kept (hbW _)).out (q := ⟨⟨some ⟨w6.heap.size, 0, none⟩, 1, 1⟩, ⟨A6, m6, c6⟩⟩) (p := ⟨[z.r], set⟩) ⟨rfl, HM6.out.symm, hone, hS, by show 1 ≤ 1000; decide, by show m6 ≤ 1000; omega⟩ hg9 hO9 hloc9
                go_wp2
                go_roundw
                case rel => exact ⟨j + 1, _, by omega, by go_num, HST3.out.symm, hI9.at2 (by simp) (by have := HM6.out; simp; omega), hU9⟩
                case measure => simp [intOf]; omega
            · obtain rfl : j = m3 := by omega
              have hfin := HR.out
              rw [List.take_of_length_le (by rw [← HM3.out]; omega), ← HPH.out false, HN.out] at hfin
              have HF := Lib.hid hfin
              clear hfin
              go_wp2
              go_roundw
              case rel => exact ⟨1, (r1, r2), by go_num, hI.at_, by show r1.length ≤ _; omega, by show r2.length ≤ _; omega, .inr (.inl ⟨rfl, HF.out⟩)⟩
              case measure => simp [intOf]
        · obtain ⟨X, Y, HXn, HYn, hRX, hRY, HoX, HoY, HN⟩ : ∃ (X Y : List On), Hid (X.length = n') ∧ Hid (Y.length = k) ∧ Rd onC 3 w.heap.size w A' X ∧ Rd onC 3 w.heap.size w A Y ∧ Hid (∀ x ∈ X, OnOk x) ∧ Hid (∀ x ∈ Y, OnOk x) ∧
              Hid (ph2 X Y tol true (t1, t2) = ph2 R L tol true (ph2 L R tol false (s1, s2))) := ⟨R, L, Hn', Hn, h', h, HoR, HoL, by rw [hs]; rfl⟩
          clear hs
          have hlb : t2.length ≤ maxLen := by unfold maxLen; omega
          have hsz := hI.2.2.2.size
          go_wp2_with fail
          have hRu : Rd rfC 2 wr.heap.size wr A2 t2 := Rd.of_own (fun _ => rfl) hI.2.1 rfl
          refine (without_any _ A2 _ _ _ c2 X t2 _ HXn.out rfl (by omega) hlb ((hRX.below hI.2.2.2).mono hsz) hRu).mono ?_
          clear hRu hlb
          rintro e w1 ⟨A3, m3, c3, rfl, hm3, hO3, hb3⟩
          have HM3 := Lib.hid hm3; clear hm3
          have hm3b : m3 ≤ X.length := by rw [HM3.out]; exact wolen _ _
          have hm3c : X.length ≤ 12 := by rw [HXn.out]; omega
          have hI1 := hI.kept hb3
          have hRr0 : RdP onC 3 (fun b => wr.heap.size ≤ b ∧ b < w1.heap.size) w1 A3 (withoutL X t2) := RdP.of_own (fun _ => rfl) hO3 HM3.out.symm
          have hRr : RdP onC 3 (Free w1 (.slice A1 t1.length c1) (.slice A2 t2.length c2)) w1 A3 (withoutL X t2) := hRr0.imp fun b hb => ⟨hb.2, fun e => by have := (hI.1.lt b e).2; have := hb.1; omega, fun e => by have := (hI.2.1.lt b e).2; have := hb.1; omega⟩
          have HRO : Hid (∀ x ∈ withoutL X t2, OnOk x) := fun x hx => HoX.out x (wosub hx)
          have HPH : Hid (∀ (q : Bool), ph2 X Y tol q (t1, t2) = (withoutL X t2).foldl (st2 Y tol q) (t1, t2)) := fun _ => rfl
          clear hRr0
          generalize withoutL X t2 = rest at HM3 hO3 hRr HRO HPH
          clear hO3 hI hb3 hsz
          go_wp2
          go_loopw [8, 9, 17] (fun o u i wr => ∃ (j : Nat) (s : St), j ≤ m3 ∧ i = .int .i64 j ∧ Hid (s = (rest.take j).foldl (st2 Y tol true) (t1, t2)) ∧ StAt w wr s o u ∧ RdP onC 3 (Free wr o u) wr A3 rest) (fun _ _ i _ => m3 - (intOf i).toNat)
          case atStart => exact ⟨0, (t1, t2), by omega, rfl, rfl, hI1.at_, hRr⟩
          case round =>
            clear hI1 hRr
            obtain ⟨j, ⟨r1, r2⟩, hjm, rfl, HR, ⟨qs, A1, c1, A2, c2, rfl, rfl, hI⟩, hRr⟩ := hrel
            change StIn w _ (r1, r2) qs A1 c1 A2 c2 at hI
            have hfl := ph2_fold_len Y tol true (rest.take j) (t1, t2)
            rw [← HR.out] at hfl
            have htl : (rest.take j).length ≤ j := by rw [List.length_take]; omega
            have hr1 : r1.length ≤ 24 + 12 := by have := hfl.1; simp only [] at this; omega
            have hr2 : r2.length ≤ 180 + 156 := by have := hfl.2; simp only [] at this; omega
            clear hfl htl
            by_cases hjl : j < m3
            · have hj' : j < rest.length := by rw [← HM3.out]; exact hjl
              have hst := fold_take_succ (st2 Y tol true) ((t1, t2) : St) hj'
              rw [← HR.out] at hst
              have hz := HRO.out _ (List.getElem_mem hj')
              have hRd := hRr.toRd (B := wr.heap.size) (fun b hb => hb.1)
              obtain ⟨b, off, rfl, hb, h1, h2, h3⟩ := rd_on hRd hj'
              have hfree : Free wr (.slice A1 r1.length c1) (.slice A2 r2.length c2) b := by
                obtain ⟨b', off', e, hb', _⟩ := hRr j _ (List.getElem?_eq_getElem hj')
                injection e with e; injection e with e _; subst e; exact hb'
              generalize rest[j] = z at h1 h2 h3 hz hst
              have HST := Lib.hid hst; clear hst
              have HZ := Lib.hid hz; clear hz
              have hsz := hI.2.2.2.size
              have hik : (0 : Int) ≤ (j : Int) := by omega
              have hik2 : (j : Int) < (m3 : Int) := by omega
              have hlb : r2.length ≤ maxLen := by unfold maxLen; omega
              have HLB := Lib.hid hlb; clear hlb
              have hRu : Rd rfC 2 wr.heap.size wr A2 r2 := Rd.of_own (fun _ => rfl) hI.2.1 rfl
              have hRY' := (hRY.below hI.2.2.2).mono hsz
              have hYl : Y.length ≤ 12 := by rw [HYn.out]; omega
              go_wp2
              go_region_held3 (fun w' => w'.cell? ⟨b, off + j * 3, none⟩ = some (.int .i64 z.r.e) ∧ w'.cell? ⟨b, off + j * 3 + 1, none⟩ = some (.int .i64 z.r.l) ∧ w'.cell? ⟨b, off + j * 3 + 2, none⟩ = some (.int .i64 z.a))
                (first | (go_keep; done) | (exact ⟨(hb3.cell (p := ⟨b, off + j * 3, none⟩) hb).trans h1, (hb3.cell (p := ⟨b, off + j * 3 + 1, none⟩) hb).trans h2, (hb3.cell (p := ⟨b, off + j * 3 + 2, none⟩) hb).trans h3⟩) | (exact ⟨(hb34.cell (p := ⟨b, off + j * 3, none⟩) hb).trans h1, (hb34.cell (p := ⟨b, off + j * 3 + 1, none⟩) hb).trans h2, (hb34.cell (p := ⟨b, off + j * 3 + 2, none⟩) hb).trans h3⟩) | (exact ⟨(hb35.cell (p := ⟨b, off + j * 3, none⟩) hb).trans h1, (hb35.cell (p := ⟨b, off + j * 3 + 1, none⟩) hb).trans h2, (hb35.cell (p := ⟨b, off + j * 3 + 2, none⟩) hb).trans h3⟩))
                (first
                  | (go_at_call 32; refine (without_any _ A2 _ _ _ c2 Y r2 _ HYn.out rfl (by omega) HLB.out ?_ ?_).mono ?_; (exact hRY'); (exact hRu); rintro e w2 ⟨A4, m4, c4, rfl, hm4, hO4, hb3⟩; have HM4 := Lib.hid hm4; clear hm4)
                  | (go_at_call 31; refine (against_any A4 m4 c4 z (withoutL Y r2) _ HM4.out.symm ?_ ?_).mono ?_; (rw [HM4.out]; have := wolen Y r2; omega); (exact Rd.of_own (fun _ => rfl) hO4 HM4.out.symm); rintro e w3 ⟨A5, m5, c5, rfl, hm5, hO5, hb4⟩; have HM5 := Lib.hid hm5; clear hm5; have hb34 : Below wr.heap.size wr w3 := (below_un hb3).trans (hb4.mono (below_un hb3).size))
                  | (go_at_call 34; refine (many_any A5 m5 c5 z tol (againstL z (withoutL Y r2)) _ HM5.out.symm ?_ ?_ ?_ HZ.out ?_).mono ?_; (rw [HM5.out]; have := aglen z (withoutL Y r2); have := wolen Y r2; omega); (exact own_le hO5 rfl); (exact Rd.of_own (fun _ => rfl) hO5 HM5.out.symm); (exact fun x hx => HoY.out x (wosub (agsub hx))); rintro e w4 ⟨A6, m6, c6, rfl, hm6, hO6, hb5⟩; have HM6 := Lib.hid hm6; clear hm6; have hb35 : Below wr.heap.size wr w4 := hb34.trans (hb5.mono hb34.size)))
              have hst := HST.out
              unfold st2 at hst
              simp only [] at hst
              have hset := manyL_len z (againstL z (withoutL Y r2)) tol
              have hI4 := hI.kept hb35
              have hRr4 := hRr.go (free_below hb35)
              have g1 := (hb35.cell (p := ⟨b, off + j * 3, none⟩) hb).trans h1
              have g2 := (hb35.cell (p := ⟨b, off + j * 3 + 1, none⟩) hb).trans h2
              have hfr4 := (free_below hb35).2 b hfree
              have hsz4 := hI4.2.2.2.size
              generalize manyL z (againstL z (withoutL Y r2)) tol = set at hst hset hO6 HM6
              have hRs0 : RdP rfC 2 (fun b => w3.heap.size ≤ b ∧ b < w4.heap.size) w4 A6 set := RdP.of_own (fun _ => rfl) hO6 HM6.out.symm
              have hRs : RdP rfC 2 (Free w4 (.slice A1 r1.length c1) (.slice A2 r2.length c2)) w4 A6 set := hRs0.imp fun b hb => ⟨hb.2, fun e => by have := (hI.1.lt b e).2; have := hb.1; have := hb34.size; omega, fun e => by have := (hI.2.1.lt b e).2; have := hb.1; have := hb34.size; omega⟩
              have hne6 : (Value.slice A6 m6 c6).ownBlock = none ∨ (Value.slice A6 m6 c6).ownBlock ≠ (Value.slice A2 r2.length c2).ownBlock := by
                cases hv : (Value.slice A6 m6 c6).ownBlock with
                | none => exact .inl rfl
                | some g => exact .inr fun e => by have := (hI.2.1.lt g e.symm).2; have := (hO6.lt g hv).1; have := hb34.size; omega
              clear hRs0 h1 h2 h3 hI hRr hRd hRu hRY' hb34 hb35 hb3 hb4 hb5 hO4 hO5 HM4 HM5 hfree hsz
              cases set with
              | nil =>
                obtain rfl : m6 = 0 := HM6.out
                simp only [] at hst
                have HST2 := Lib.hid (HST.out.symm.trans hst)
                have HST3 := Lib.hid hst
                clear hst
                go_wp2
                go_roundw
                case rel => exact ⟨j + 1, (r1, r2), by omega, by go_num, HST3.out.symm, hI4.at_, hRr4⟩
                case measure => simp [intOf]; omega
              | cons p ps =>
                have hm6 : ((m6 : Int) == 0) = false := by rw [beq_eq_false_iff_ne]; have := HM6.out; simp at this; omega
                have hm6b : m6 ≤ 12 := by have := HM6.out; omega
                simp only [] at hst
                have HST3 := Lib.hid hst
                clear hst hset
                generalize hse : p :: ps = set at *
                clear hse
                have H1c := Lib.hid (one_rfC set)
                have hl1c : (set.flatMap rfC).length = m6 * 2 := by rw [len_flat (k := 2) (fun _ => rfl), ← HM6.out]
                have HL1c := Lib.hid hl1c; clear hl1c
                have hbn : b ≠ w4.heap.size := by have := hfr4.1; omega
                go_wp2_with (first
                  | (at_builtin; refine wpList_append_new rfl (.tmp 117) (.tmp 123) 37 rfl w.heap.size 41 i41 _ 2 16 Try.underlying37 hi41 hz41 hy41 hb41 rfl (by decide) (.slice A2 r2.length c2) r2.length (r2.flatMap rfC) rfl hI4.2.1 w4.heap.size 1 1 rfl rfl (rfC z.r) rfl rfl (by simp [rfC, Value.oneCell']) (by omega) (by omega) hsz4 ?_; intro A7 c7 w5 hO7 hg7 hloc7; replace hloc7 := hloc7.imp id (fun h b e => Nat.le_of_lt (h b e)); have hO6' := hO6.kept hg7 hne6; have hf7 := free_used (u := .slice A1 r1.length c1) hg7 hloc7; have k1 := (World.cell?_of_block (w := w4) (a := ⟨b, off + j * 3, none⟩) (hf7.1 b hfr4)).trans g1; have k2 := (World.cell?_of_block (w := w4) (a := ⟨b, off + j * 3 + 1, none⟩) (hf7.1 b hfr4)).trans g2; have hsz5 := Nat.le_trans hsz4 hg7.size; go_must (have hI5 : StIn w w5 (r1, r2 ++ [z.r]) qs A1 c1 A7 c7 := hI4.used (rs := [z.r]) (m := r2.length + 1) (by simp) hg7 hO7 hloc7); clear g1 g2)
                  | (at_builtin; refine wpList_append_src rfl (.tmp 124) (.tmp 125) 37 rfl w.heap.size 41 i41 _ 2 16 Try.underlying37 hi41 hz41 hy41 hb41 rfl (by decide) (.slice A7 (r2.length + 1) c7) (r2.length + 1) (r2.flatMap rfC ++ rfC z.r) rfl hO7 A6 m6 c6 (set.flatMap rfC) rfl HL1c.out (own_src hO6') H1c.out (by omega) (by omega) hsz5 ?_; intro A8 c8 w6 hO8 hg8 hloc8; have hf8 := free_used (u := .slice A1 r1.length c1) hg8 hloc8; have g1 := (World.cell?_of_block (w := w5) (a := ⟨b, off + j * 3, none⟩) (hf8.1 b (hf7.2 b hfr4))).trans k1; have g2 := (World.cell?_of_block (w := w5) (a := ⟨b, off + j * 3 + 1, none⟩) (hf8.1 b (hf7.2 b hfr4))).trans k2; have hsz6 := Nat.le_trans hsz5 hg8.size; go_must (have hI6 : StIn w w6 (r1, r2 ++ [z.r] ++ set) qs A1 c1 A8 c8 := hI5.used (rs := set) (m := r2.length + 1 + m6) (by have := HM6.out; simp; omega) hg8 (by rw [List.flatMap_append]; exact hO8) hloc8); clear k1 k2)
                  | (at_builtin; refine wpList_append_new rfl (.tmp 140) (.tmp 149) 30 rfl w.heap.size 88 i88 _ 2 48 Try.underlying30 hi88 hz88 hy88 hb88 rfl (by decide) (.slice A1 r1.length c1) r1.length (qs.flatMap pvC) rfl (hI6.1.alloc _) (w6.heap.size + 1) 1 1 rfl (by simp) [.slice A6 m6 c6, .slice (some ⟨w6.heap.size, 0, none⟩) 1 1] rfl rfl (by simp [Value.oneCell']) (by omega) (by omega) (by simp; omega) ?_; intro A9 c9 w7 hO9 hg9 hloc9))
                replace hloc9 := hloc9.imp id (fun h b e => Nat.le_of_lt (h b e))
                have hbW : ∀ X, Below w6.heap.size w6 (w6.alloc X) := fun X => (Below.refl _ _).alloc (Nat.le_refl _) X
                have hS := ((hRs.go hf7).go hf8).go (free_below (hbW (.cells #[.int .i64 z.r.e, .int .i64 z.r.l] 41)))
                have hU := ((hRr4.go hf7).go hf8).go (free_below (hbW (.cells #[.int .i64 z.r.e, .int .i64 z.r.l] 41)))
                have hU9 := hU.go (free_out (v := .slice A8 (r2.length + 1 + m6) c8) hg9 hloc9)
                have hone := RdP.one (X := Free (w6.alloc (.cells #[.int .i64 z.r.e, .int .i64 z.r.l] 41)) (.slice A1 r1.length c1) (.slice A8 (r2.length + 1 + m6) c8)) (Blk.new w6 41 #[.int .i64 z.r.e, .int .i64 z.r.l]) ⟨by simp, fun e => by have := (hI6.1.lt _ e).2; omega, fun e => by have := (hO8.lt _ e).2; omega⟩
                have hI9 := (hI6.kept (hbW _)).out (q := ⟨⟨A6, m6, c6⟩, ⟨some ⟨w6.heap.size, 0, none⟩, 1, 1⟩⟩) (p := ⟨set, [z.r]⟩) ⟨HM6.out.symm, rfl, hS, hone, by show m6 ≤ 1000; omega, by show 1 ≤ 1000; decide⟩ hg9 hO9 hloc9
                go_wp2
                go_roundw
                case rel => exact ⟨j + 1, _, by omega, by go_num, HST3.out.symm, hI9.at2 (by simp) (by have := HM6.out; simp; omega), hU9⟩
                case measure => simp [intOf]; omega
            · obtain rfl : j = m3 := by omega
              have hfin := HR.out
              rw [List.take_of_length_le (by rw [← HM3.out]; omega), ← HPH.out true, HN.out] at hfin
              have HF := Lib.hid hfin
              clear hfin
              go_wp2
              go_roundw
              case rel => exact ⟨2, (r1, r2), by go_num, hI.at_, by show r1.length ≤ _; omega, by show r2.length ≤ _; omega, .inr (.inr ⟨rfl, HF.out⟩)⟩
              case measure => simp [intOf]
        · have HF := Lib.hid (congrArg Prod.fst hs)
          clear hs
          go_wp2
          go_ret2
          refine ⟨A1, t1.length, c1, qs, rfl, by rw [HO.out, ← HF.out], hI.1, ?_, hI.2.2.2⟩
          rw [HO.out, ← HF.out]
          exact hI.2.2.1.imp fun b hb => hb.1
end Go.Proofs.Ytccgleiildgckaa
