/- How the finder lies in memory, and what the program's steps do to it. -/
import Derived.Test.YtccgleiildgckaaA8
namespace Go.Proofs.Ytccgleiildgckaa
open Go.RowKit

/-- Where the finder lies, and what it is given. -/
structure Fc where
  Fk : Nat
  U1 : Nat
  U2 : Nat
  base : Nat
  B : Nat
  A1 : Option Addr
  c1 : Nat
  A2 : Option Addr
  c2 : Nat
  L : List On
  R : List On
  tol : Int
/-- What has been found. -/
structure Fs where
  u1 : List Bool
  u2 : List Bool
  ps : List Pr
structure Fc.Ok (f : Fc) : Prop where
  bk : f.B ≤ f.Fk
  b1 : f.B ≤ f.U1
  b2 : f.B ≤ f.U2
  tk : f.Fk < f.base
  t1 : f.U1 < f.base
  t2 : f.U2 < f.base
  k1 : f.Fk ≠ f.U1
  k2 : f.Fk ≠ f.U2
  u12 : f.U1 ≠ f.U2
def blA (l : List Bool) : Array Value := (l.map Value.bool).toArray
def fkA (f : Fc) (A : Option Addr) (m c : Nat) : Array Value := #[.slice f.A1 f.L.length f.c1, .slice (some ⟨f.U1, 0, none⟩) f.L.length f.L.length, .slice f.A2 f.R.length f.c2, .slice (some ⟨f.U2, 0, none⟩) f.R.length f.R.length, .int .i64 f.tol, .slice A m c]
/-- Blocks of the proposals' references. -/
def Fre (f : Fc) (w : World) (v : Value) (b : Nat) : Prop := f.base ≤ b ∧ b < w.heap.size ∧ v.ownBlock ≠ some b
structure FinIn (f : Fc) (w : World) (s : Fs) (qs : List Pv) (A : Option Addr) (c : Nat) : Prop where
  fk : Blk w f.Fk 80 (fkA f A s.ps.length c)
  x1 : Blk w f.U1 4 (blA s.u1)
  x2 : Blk w f.U2 4 (blA s.u2)
  l1 : s.u1.length = f.L.length
  l2 : s.u2.length = f.R.length
  own : w.ownsRow f.base 39 2 (.slice A s.ps.length c) s.ps.length (qs.flatMap pvC)
  pv : PvAll (Fre f w (.slice A s.ps.length c)) w qs s.ps
  rl : Rd onC 3 f.B w f.A1 f.L
  rr : Rd onC 3 f.B w f.A2 f.R
  size : f.base ≤ w.heap.size
def FinAt (f : Fc) (w : World) (s : Fs) : Prop := ∃ qs A c, FinIn f w s qs A c

theorem cell_set1 {w : World} {U i F j : Nat} {u : Value} (h : U ≠ F) : (w.setCell ⟨U, i, none⟩ u).drew.cell? ⟨F, j, none⟩ = w.cell? ⟨F, j, none⟩ := World.cell?_setCell_far w ⟨U, i, none⟩ ⟨F, j, none⟩ u h
theorem cell_set2 {w : World} {U i U' i' F j : Nat} {u u' : Value} (h : U ≠ F) (h' : U' ≠ F) : ((w.setCell ⟨U, i, none⟩ u).setCell ⟨U', i', none⟩ u').drew.cell? ⟨F, j, none⟩ = w.cell? ⟨F, j, none⟩ :=
  (World.cell?_setCell_far (w.setCell ⟨U, i, none⟩ u) ⟨U', i', none⟩ ⟨F, j, none⟩ u' h').trans (World.cell?_setCell_far w ⟨U, i, none⟩ ⟨F, j, none⟩ u h)

theorem cell_st {w : World} {g j F i : Nat} {u : Value} (h : g ≠ F ∨ j ≠ i) : (w.setCell ⟨F, i, none⟩ u).cell? ⟨g, j, none⟩ = w.cell? ⟨g, j, none⟩ := by
  by_cases hg : F = g
  · subst hg
    have hj : j ≠ i := by rcases h with h | h; exact absurd rfl h; exact h
    simp only [World.cell?, World.setCell, Array.getElem?_modify, if_true]
    cases hh : w.heap[F]? with
    | none => rfl
    | some o => cases o <;> simp [Ne.symm hj]
  · exact World.cell?_setCell_far w ⟨F, i, none⟩ ⟨g, j, none⟩ u hg

/-- append of a block just laid. -/
theorem wpList_append_blk {P : Program} {w : World} {ops : Array Oper} {rest : List Oper} {o : Oper} {a : Act} {Q : Exit → Act → World → Prop} (hgd : o.guard = none) (s x : Operand) (t : TypeId)
    (ho : o.op = .call { callee := .builtin .append, args := #[s, x], argTypes := #[t, t] })
    (base : Nat) (e : TypeId) (i : TypeInfo) (z : Value) (size bytes : Nat) (ht : P.underlying t = some (.slice e)) (hi : P.info? e = some i) (hz : i.zero = some z)
    (hsize : i.size = size) (hby : i.bytes = bytes) (hzs : z.cells.size = size) (hsz : 0 < size)
    (v : Value) (n : Nat) (xs : List Value) (hs : a.eval s = v) (hown : w.ownsRow base e size v n xs)
    (g m c : Nat) (hx : a.eval x = .slice (some ⟨g, 0, none⟩) m c) (e' : TypeId) (cs : Array Value) (hblk : Blk w g e' cs) (news : List Value) (hnews : cs.toList = news) (hl : news.length = m * size) (h1 : ∀ u ∈ news, u.oneCell' = true)
    (h63 : n + m ≤ 1099511627776) (hbytes : bytes ≤ 64) (hbase : base ≤ w.heap.size)
    (h : ∀ A' c' w', w'.ownsRow base e size (.slice A' (n + m) c') (n + m) (xs ++ news) → w.grownBy w' v.ownBlock → ((Value.slice A' (n + m) c').ownBlock = v.ownBlock ∨ ∀ b, (Value.slice A' (n + m) c').ownBlock = some b → w.heap.size ≤ b) →
      wpList P ops Q rest (a.put o.dst (.slice A' (n + m) c')) w') : wpList P ops Q (o :: rest) a w := by
  refine wpList_plain hgd fun K hK => ?_
  have h2 := step_append_blk (P := P) (ops := ops) (K := K) (Q := Q) (E := False) hgd s x t ho base e i z size bytes ht hi hz hsize hby hzs hsz v n xs hs hown g m c hx e' cs hblk news hnews hl h1 h63 hbytes hbase (fun A' c' w' x1 x2 x3 => hK _ _ (h A' c' w' x1 x2 x3))
  rwa [if_pos (by simp [Region.wanted, hgd])] at h2

section
variable {f : Fc} {w w' : World} {s : Fs} {qs : List Pv} {A : Option Addr} {c : Nat}
theorem FinIn.drew (h : FinIn f w s qs A c) : FinIn f w.drew s qs A c := ⟨h.fk, h.x1, h.x2, h.l1, h.l2, h.own, h.pv, h.rl, h.rr, h.size⟩
theorem FinIn.at_ (h : FinIn f w s qs A c) : FinAt f w s := ⟨qs, A, c, h⟩
theorem FinIn.kept (h : FinIn f w s qs A c) (O : f.Ok) (hb : Below w.heap.size w w') : FinIn f w' s qs A c where
  fk := h.fk.below hb h.fk.lt
  x1 := h.x1.below hb h.x1.lt
  x2 := h.x2.below hb h.x2.lt
  l1 := h.l1
  l2 := h.l2
  own := own_below h.own hb
  pv := (h.pv.kept fun b hx => hb.block b hx.2.1).imp fun b hx => ⟨hx.1, Nat.lt_of_lt_of_le hx.2.1 hb.size, hx.2.2⟩
  rl := h.rl.below (hb.mono (by have := h.size; have := O.bk; have := O.tk; omega))
  rr := h.rr.below (hb.mono (by have := h.size; have := O.bk; have := O.tk; omega))
  size := Nat.le_trans h.size hb.size
theorem set_blA (l : List Bool) (i : Nat) (b : Bool) : (blA l).setIfInBounds i (.bool b) = blA (l.set i b) := by
  simp [blA, List.map_set]
theorem own_far {w : World} {base : Nat} {e : TypeId} {size : Nat} {v : Value} {n : Nat} {xs : List Value} (h : w.ownsRow base e size v n xs) {p : Addr} (hp : p.block < base) (u : Value) : (w.setCell p u).ownsRow base e size v n xs := by
  refine ⟨h.1, h.2.imp id ?_⟩
  rintro ⟨g, cap, cur, hv, hg, h1, h2⟩
  exact ⟨g, cap, cur, hv, hg, (Below.heap_setCell w p u g (by omega)).trans h1, h2⟩
theorem rd_far {α : Type} {enc : α → List Value} {k B : Nat} {A : Option Addr} {zs : List α} (h : Rd enc k B w A zs) {p : Addr} (hp : B ≤ p.block) (u : Value) : Rd enc k B (w.setCell p u) A zs :=
  h.below ((Below.refl B w).setCell hp u)
theorem pv_far {f : Fc} {v : Value} {qs : List Pv} {ps : List Pr} (h : PvAll (Fre f w v) w qs ps) {p : Addr} (hp : p.block < f.base) (u : Value) : PvAll (Fre f (w.setCell p u) v) (w.setCell p u) qs ps :=
  (h.kept fun b hx => Below.heap_setCell w p u b (by have := hx.1; omega)).imp fun b hx => ⟨hx.1, by simpa using hx.2.1, hx.2.2⟩
theorem FinIn.used1 (h : FinIn f w s qs A c) (O : f.Ok) (i : Nat) : FinIn f (w.setCell ⟨f.U1, i, none⟩ (.bool true)) { s with u1 := s.u1.set i true } qs A c where
  fk := h.fk.far O.k1 _
  x1 := by rw [← set_blA]; exact h.x1.set_ i _
  x2 := h.x2.far (Ne.symm O.u12) _
  l1 := by simpa using h.l1
  l2 := h.l2
  own := own_far h.own O.t1 _
  pv := pv_far h.pv O.t1 _
  rl := rd_far h.rl O.b1 _
  rr := rd_far h.rr O.b1 _
  size := by simpa using h.size
theorem FinIn.used2 (h : FinIn f w s qs A c) (O : f.Ok) (i : Nat) : FinIn f (w.setCell ⟨f.U2, i, none⟩ (.bool true)) { s with u2 := s.u2.set i true } qs A c where
  fk := h.fk.far O.k2 _
  x1 := h.x1.far O.u12 _
  x2 := by rw [← set_blA]; exact h.x2.set_ i _
  l1 := h.l1
  l2 := by simpa using h.l2
  own := own_far h.own O.t2 _
  pv := pv_far h.pv O.t2 _
  rl := rd_far h.rl O.b2 _
  rr := rd_far h.rr O.b2 _
  size := by simpa using h.size
/-- A proposal is appended and stored. -/
theorem FinIn.out (h : FinIn f w s qs A c) (O : f.Ok) {q : Pv} {p : Pr} {A' : Option Addr} {c' : Nat} (hq : PvOk (Fre f w (.slice A s.ps.length c)) w q p)
    (hg : w.grownBy w' (Value.slice A s.ps.length c).ownBlock) (hO : w'.ownsRow f.base 39 2 (.slice A' (s.ps.length + 1) c') (s.ps.length + 1) (qs.flatMap pvC ++ pvC q))
    (hloc : (Value.slice A' (s.ps.length + 1) c').ownBlock = (Value.slice A s.ps.length c).ownBlock ∨ ∀ b, (Value.slice A' (s.ps.length + 1) c').ownBlock = some b → w.heap.size ≤ b) :
    FinIn f (w'.setCell ⟨f.Fk, 5, none⟩ (.slice A' (s.ps.length + 1) c')) { s with ps := s.ps ++ [p] } (qs ++ [q]) A' c' := by
  have hne : ∀ g, g < f.base → some g ≠ (Value.slice A s.ps.length c).ownBlock := fun g hg => own_ne h.own hg
  have hlen : (s.ps ++ [p]).length = s.ps.length + 1 := by simp
  have hk : ∀ b, Fre f w (.slice A s.ps.length c) b → w'.heap[b]? = w.heap[b]? := fun b hb => hg.block b hb.2.1 (fun e => hb.2.2 e.symm)
  have hi : ∀ b, Fre f w (.slice A s.ps.length c) b → Fre f w' (.slice A' (s.ps.length + 1) c') b := fun b hb => by
    refine ⟨hb.1, Nat.lt_of_lt_of_le hb.2.1 hg.size, ?_⟩
    rcases hloc with e | e
    · rw [e]; exact hb.2.2
    · intro e3; have := e b e3; have := hb.2.1; omega
  have hbw : Below f.B w w' := (Below.refl _ _).grown hg (by have := h.size; have := O.bk; have := O.tk; omega) (fun k e => by have := own_ge h.own (Nat.le_refl _) k e; have := O.bk; have := O.tk; omega)
  constructor
  · have := ((h.fk.grown hg (hne _ O.tk)).set_ 5 (.slice A' (s.ps.length + 1) c'))
    simp only [hlen]
    exact this
  · exact (h.x1.grown hg (hne _ O.t1)).far (Ne.symm O.k1) _
  · exact (h.x2.grown hg (hne _ O.t2)).far (Ne.symm O.k2) _
  · exact h.l1
  · exact h.l2
  · simp only [hlen]
    rw [List.flatMap_append]
    simpa using own_far hO O.tk _
  · simp only [hlen]
    exact pv_far (((h.pv.kept hk).imp hi).snoc ((hq.kept hk).imp hi)) O.tk _
  · exact rd_far (h.rl.below hbw) O.bk _
  · exact rd_far (h.rr.below hbw) O.bk _
  · have := hg.size
    have := h.size
    simp
    omega
theorem FinIn.u1c (h : FinIn f w s qs A c) {i : Nat} (hi : i < f.L.length) : w.cell? ⟨f.U1, i, none⟩ = some (.bool (s.u1.getD i true)) := by
  rw [h.x1.cell, blA]
  have : i < s.u1.length := by rw [h.l1]; exact hi
  simp [this]
theorem FinIn.u2c (h : FinIn f w s qs A c) {i : Nat} (hi : i < f.R.length) : w.cell? ⟨f.U2, i, none⟩ = some (.bool (s.u2.getD i true)) := by
  rw [h.x2.cell, blA]
  have : i < s.u2.length := by rw [h.l2]; exact hi
  simp [this]
end
theorem fre_a3 {f : Fc} {w : World} {o1 o2 o3 : Obj} {v : Value} (hb : f.base ≤ w.heap.size) (hv : ∀ b, v.ownBlock = some b → b < w.heap.size) : Fre f (((w.alloc o1).alloc o2).alloc o3).drew v w.heap.size ∧ Fre f (((w.alloc o1).alloc o2).alloc o3).drew v (w.heap.size + 1) := by
  refine ⟨⟨hb, ?_, ?_⟩, by omega, ?_, ?_⟩
  · show _ < (((w.alloc o1).alloc o2).alloc o3).heap.size; simp only [World.size_alloc]; omega
  · intro e; have := hv _ e; omega
  · show _ < (((w.alloc o1).alloc o2).alloc o3).heap.size; simp only [World.size_alloc]; omega
  · intro e; have := hv _ e; omega
end Go.Proofs.Ytccgleiildgckaa
