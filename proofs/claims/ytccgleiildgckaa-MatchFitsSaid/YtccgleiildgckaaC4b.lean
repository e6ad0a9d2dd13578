/- Vocabulary of the finder's step many: the marks that loops over a function leave, the boxes of its parameters, and its state in memory. No conditions. -/
import Derived.Test.YtccgleiildgckaaC4
namespace Go.Rf
/-- A drawn region whose operations only read, in a round: one walk in the order of the text. -/
theorem quiet_lit {F : Fence} {n : Nat} {P : Program} (O : Free F) {id : Nat} {Q : Exit → Act → World → Prop} {a : Act} {w : World} {l : List Oper} (hm : P.follows .mixedOrders = true) (hQ : ¬ LetsOut Q) (hd : l.toArray.all noDefer = true) (hB : Region.lexB .any l.toArray = true)
    (h : wpQuiet P l.toArray (fun w' => ∃ n, w' = w.drewN n) (fun a' => ∀ w', (∃ n, w' = w.drewN n) → Q .normal a' w') l a) : (Code.region id l.toArray true).wpIn F n P Q a w := by
  simp only [Region.lexB, Bool.and_eq_true] at hB
  refine lift_region O hm hQ hd ?_
  refine wpAny_of_quiet (Q := fun a' => ∀ w', (∃ n, w' = w.drewN n) → Q .normal a' w') (fun _ w' hw' h => h w' hw') _ _ _ _ ⟨1, rfl⟩ ?_
  have := wpAnyQ_lex (C := fun w' => ∃ n, w' = w.drewN n) (md := .any) hB.1 l 0 (Array.replicate l.length false) a (by simp) (by simpa using hB.2) h
  simpa using this
end Go.Rf
namespace Go.Proofs.Ytccgleiildgckaa
open Go.RowKit Go.Rf

/-- The marks that the loops over subsets have left. -/
def Marks (lo : Nat) : List Deferred → World → Prop
  | [], _ => True
  | d :: ds, w => ∃ D, d = { target := .collected D, args := #[] } ∧ lo ≤ D ∧ w.heap[D]? = some (.deferred (some [])) ∧ (∀ d' ∈ ds, d'.target ≠ .collected D) ∧ Marks lo ds w
/-- Marks' blocks alone have turned. -/
structure DefOnly (lo : Nat) (w w' : World) : Prop where
  os : w'.os = w.os
  tape : w'.tape = w.tape
  output : w'.output = w.output
  size : w'.heap.size = w.heap.size
  same : ∀ b, w'.heap[b]? = w.heap[b]? ∨ (lo ≤ b ∧ ∀ cs t fr, w.heap[b]? ≠ some (.cells cs t fr))
theorem DefOnly.refl (lo : Nat) (w : World) : DefOnly lo w w := ⟨rfl, rfl, rfl, rfl, fun _ => .inl rfl⟩
theorem DefOnly.put {lo : Nat} {w w' : World} (h : DefOnly lo w w') {D : Nat} (hD : lo ≤ D) (hx : ∀ cs t fr, w.heap[D]? ≠ some (.cells cs t fr)) (o : Obj) : DefOnly lo w (w'.putObj D o) := by
  refine ⟨h.os, h.tape, h.output, by simpa using h.size, fun b => ?_⟩
  by_cases hb : b = D
  · subst hb; exact .inr ⟨hD, hx⟩
  · rw [World.putObj_heap_other hb]; exact h.same b
theorem DefOnly.block {lo : Nat} {w w' : World} (h : DefOnly lo w w') {b : Nat} {cs : Array Value} {t : TypeId} {fr : Nat × Nat} (hb : w.heap[b]? = some (.cells cs t fr)) : w'.heap[b]? = some (.cells cs t fr) := by
  rcases h.same b with e | ⟨_, e⟩
  · rw [e]; exact hb
  · exact absurd hb (e _ _ _)
theorem DefOnly.cell {lo : Nat} {w w' : World} (h : DefOnly lo w w') {b i : Nat} {u : Value} (hc : w.cell? ⟨b, i, none⟩ = some u) : w'.cell? ⟨b, i, none⟩ = some u := by
  obtain ⟨cs, t, fr, hb, _⟩ := Sort.cells_of_cell? hc
  exact (World.cell?_of_block (a := ⟨b, i, none⟩) ((h.block hb).trans hb.symm)).trans hc
theorem DefOnly.rd {lo B k : Nat} {α : Type} {enc : α → List Value} {w w' : World} (h : DefOnly lo w w') {A : Option Addr} {zs : List α} (hr : Rd enc k B w A zs) : Rd enc k B w' A zs := fun i x hx => by
  obtain ⟨b, off, e, hlt, hc⟩ := hr i x hx
  exact ⟨b, off, e, hlt, fun j u hu => h.cell (hc j u hu)⟩
theorem DefOnly.rdp {lo k : Nat} {α : Type} {enc : α → List Value} {X : Nat → Prop} {w w' : World} (h : DefOnly lo w w') {A : Option Addr} {zs : List α} (hr : RdP enc k X w A zs) : RdP enc k X w' A zs := fun i x hx => by
  obtain ⟨b, off, e, hlt, hc⟩ := hr i x hx
  exact ⟨b, off, e, hlt, fun j u hu => h.cell (hc j u hu)⟩
theorem DefOnly.own {lo : Nat} {w w' : World} (h : DefOnly lo w w') {base : Nat} {e : TypeId} {size : Nat} {v : Value} {n : Nat} {xs : List Value} (ho : w.ownsRow base e size v n xs) : w'.ownsRow base e size v n xs :=
  ⟨ho.1, ho.2.imp id fun ⟨g, cap, cur, h1, h2, h3, h4⟩ => ⟨g, cap, cur, h1, h2, h.block h3, h4⟩⟩
theorem DefOnly.fin {lo : Nat} {w w' : World} (h : DefOnly lo w w') {f : Fc} {s : Fs} {qs : List Pv} {A : Option Addr} {c : Nat} (hf : FinIn f w s qs A c) : FinIn f w' s qs A c where
  fk := h.block hf.fk
  x1 := h.block hf.x1
  x2 := h.block hf.x2
  l1 := hf.l1
  l2 := hf.l2
  own := h.own hf.own
  pv := ⟨hf.pv.1, fun i q p h1 h2 => by
    obtain ⟨a1, a2, a3, a4, a5⟩ := hf.pv.2 i q p h1 h2
    have hx : ∀ b, Fre f w (.slice A s.ps.length c) b → Fre f w' (.slice A s.ps.length c) b := fun b hb => ⟨hb.1, by rw [h.size]; exact hb.2.1, hb.2.2⟩
    exact ⟨a1, a2, (h.rdp a3).imp hx, (h.rdp a4).imp hx, a5⟩⟩
  rl := h.rd hf.rl
  rr := h.rd hf.rr
  size := by rw [h.size]; exact hf.size
theorem DefOnly.below {lo B : Nat} {w0 w w' : World} (h : DefOnly lo w w') (hB : B ≤ lo) (hb : Below B w0 w) : Below B w0 w' :=
  ⟨h.os.trans hb.os, h.tape.trans hb.tape, h.output.trans hb.output, by rw [h.size]; exact hb.size, fun k hk => by
    rcases h.same k with e | ⟨e, _⟩
    · exact e.trans (hb.block k hk)
    · omega⟩
theorem Marks.below {lo : Nat} : ∀ {ds : List Deferred} {w w' : World}, Marks lo ds w → Below w.heap.size w w' → Marks lo ds w'
  | [], _, _, _, _ => trivial
  | _ :: _, _, _, ⟨D, h1, h0, h2, h3, h4⟩, hb => ⟨D, h1, h0, (hb.block D (Array.getElem?_eq_some_iff.1 h2).1).trans h2, h3, Marks.below h4 hb⟩
theorem Marks.put {lo : Nat} : ∀ {ds : List Deferred} {w : World} {D : Nat} {o : Obj}, Marks lo ds w → (∀ d' ∈ ds, d'.target ≠ .collected D) → Marks lo ds (w.putObj D o)
  | [], _, _, _, _, _ => trivial
  | d :: ds, w, D, o, ⟨D', h1, h0, h2, h3, h4⟩, hn => ⟨D', h1, h0, (World.putObj_heap_other (fun e => hn d (by simp) (by rw [h1, e]))).trans h2, h3, Marks.put h4 (fun d' hd' => hn d' (by simp [hd']))⟩
/-- A function leaves through its marks. -/
theorem leaves_marks {lo : Nat} {fn : Func} {tmps : Array Value} {R : Ending → World → Prop} {n : Nat} {w0 : World} : ∀ (ds : List Deferred) (w : World), DefOnly lo w0 w → Marks lo ds w → (∀ d ∈ ds, ∀ D, d.target = .collected D → ∃ x, w0.heap[D]? = some (.deferred x)) → (∀ w', DefOnly lo w0 w' → LeavesIn Fence.wide n Try.prog fn tmps R [] .returning w') → LeavesInM Fence.wide n Try.prog fn tmps R ds .returning w
  | [], w, hd, _, _, h => h w hd
  | d :: ds, w, hd, ⟨D, h1, h0, h2, h3, h4⟩, hx, h => by
    obtain ⟨x, hD⟩ := hx d (by simp) D (by rw [h1])
    refine ⟨by simp, .inl ⟨D, _, by rw [h1], run_takeDeferred h2, ?_⟩⟩
    exact leaves_marks ds _ (hd.put h0 (fun cs t fr e => by rw [hD] at e; cases e) _) (Marks.put h4 h3) (fun d' hd' => hx d' (by simp [hd'])) h
theorem Marks.all {lo : Nat} : ∀ {ds : List Deferred} {w : World}, Marks lo ds w → ∀ d ∈ ds, ∀ D, d.target = .collected D → ∃ x, w.heap[D]? = some (.deferred x)
  | d :: ds, w, ⟨D, h1, h0, h2, h3, h4⟩, d', hd', D', e => by
    rcases List.mem_cons.1 hd' with rfl | hd'
    · rw [h1] at e
      cases e
      exact ⟨_, h2⟩
    · exact Marks.all h4 d' hd' D' e

/-- The boxes of many's parameters. -/
structure Bxs (v : Fv) (gg n0 : Nat) (w : World) : Prop where
  b0 : Blk w n0 75 #[.pointer (some ⟨v.f.Fk, 0, none⟩)]
  b1 : Blk w (n0 + 1) 82 #[.pointer (some ⟨v.f.Fk, v.oX, none⟩)]
  b2 : Blk w (n0 + 1 + 1) 82 #[.pointer (some ⟨v.f.Fk, v.oY, none⟩)]
  b3 : Blk w (n0 + 1 + 1 + 1) 83 #[.func (.func gg) #[] #[]]
theorem bxs_new (v : Fv) (gg : Nat) (w : World) : Bxs v gg w.heap.size ((((w.alloc (.cells #[.pointer (some ⟨v.f.Fk, 0, none⟩)] 75)).alloc (.cells #[.pointer (some ⟨v.f.Fk, v.oX, none⟩)] 82)).alloc (.cells #[.pointer (some ⟨v.f.Fk, v.oY, none⟩)] 82)).alloc (.cells #[.func (.func gg) #[] #[]] 83)) := by
  refine ⟨(((Blk.new w _ _).alloc _).alloc _).alloc _, ?_, ?_, ?_⟩
  · have := ((Blk.new (w.alloc (.cells #[.pointer (some ⟨v.f.Fk, 0, none⟩)] 75)) 82 #[.pointer (some ⟨v.f.Fk, v.oX, none⟩)]).alloc (.cells #[.pointer (some ⟨v.f.Fk, v.oY, none⟩)] 82)).alloc (.cells #[.func (.func gg) #[] #[]] 83)
    simpa using this
  · have := (Blk.new ((w.alloc (.cells #[.pointer (some ⟨v.f.Fk, 0, none⟩)] 75)).alloc (.cells #[.pointer (some ⟨v.f.Fk, v.oX, none⟩)] 82)) 82 #[.pointer (some ⟨v.f.Fk, v.oY, none⟩)]).alloc (.cells #[.func (.func gg) #[] #[]] 83)
    simpa using this
  · have := Blk.new (((w.alloc (.cells #[.pointer (some ⟨v.f.Fk, 0, none⟩)] 75)).alloc (.cells #[.pointer (some ⟨v.f.Fk, v.oX, none⟩)] 82)).alloc (.cells #[.pointer (some ⟨v.f.Fk, v.oY, none⟩)] 82)) 83 #[.func (.func gg) #[] #[]]
    simpa using this
theorem Bxs.below {v : Fv} {gg n0 : Nat} {w w' : World} (h : Bxs v gg n0 w) (hb : Below w.heap.size w w') : Bxs v gg n0 w' := ⟨h.b0.below hb h.b0.lt, h.b1.below hb h.b1.lt, h.b2.below hb h.b2.lt, h.b3.below hb h.b3.lt⟩
/-- The candidates, in their box n1. -/
structure Cnd (v : Fv) (x : On) (uy : List Bool) (n1 q : Nat) (wr : World) (A : Option Addr) (m c : Nat) : Prop where
  box : Blk wr n1 99 #[.slice A m c]
  len : (candT x v.Y uy q).length = m
  own : wr.ownsRow (n1 + 1) 3 1 (.slice A m c) m ((candT x v.Y uy q).map natV)
/-- The temporaries at the outer loop's head. -/
def frT (v : Fv) (gg n0 nX : Nat) (u : Nat → Value) (k : Nat) : Array Value := #[.pointer (some ⟨v.f.Fk, 0, none⟩), .pointer (some ⟨v.f.Fk, v.oX, none⟩), .pointer (some ⟨v.f.Fk, v.oY, none⟩), .func (.func gg) #[] #[], .pointer (some ⟨n0, 0, none⟩), .pointer (some ⟨n0 + 1, 0, none⟩), .pointer (some ⟨n0 + 1 + 1, 0, none⟩), .pointer (some ⟨n0 + 1 + 1 + 1, 0, none⟩), u 8, u 9, u 10, u 11, u 12, u 13, u 14, u 15, u 16, u 17, u 18, u 19, .pointer (some ⟨v.f.Fk, v.oX, none⟩), .pointer (some ⟨v.f.Fk, v.oX, none⟩), .pointer (some ⟨v.f.Fk, v.oX, none⟩), .slice v.AX nX v.cX, .int .i64 nX, .int .i64 k, u 26, u 27, u 28, u 29, u 30, u 31, u 32, u 33, u 34, u 35, u 36, u 37, u 38, u 39, u 40, u 41, u 42, u 43, u 44, u 45, u 46, u 47, u 48, u 49, u 50, u 51, u 52, u 53, u 54, u 55, u 56, u 57, u 58, u 59, u 60, u 61, u 62, u 63, u 64, u 65, u 66, u 67, u 68, u 69, u 70, u 71, u 72, u 73, u 74, u 75, u 76, u 77, u 78, u 79, u 80, u 81, u 82, u 83, u 84, u 85, u 86, u 87, u 88, u 89, u 90, u 91, u 92, u 93, u 94, u 95, u 96, u 97, u 98, u 99, u 100, u 101, u 102, u 103, u 104, u 105, u 106, u 107, u 108, u 109, u 110, u 111, u 112, u 113, u 114, u 115, u 116, u 117, u 118, u 119, u 120, u 121, u 122, u 123, u 124, u 125, u 126, u 127, u 128, u 129, u 130, u 131, u 132, u 133, u 134, u 135, u 136, u 137, u 138, u 139, u 140, u 141, u 142, u 143, u 144, u 145, u 146, u 147, u 148, u 149, u 150, u 151, u 152, u 153, u 154, u 155, u 156, u 157, u 158]
theorem fr_mk {v : Fv} {gg n0 nX k : Nat} {t : Array Value} (h : t = frT v gg n0 nX (fun i => t.getD i undef) k) : ∃ u, t = frT v gg n0 nX u k := ⟨_, h⟩
def OutI (v : Fv) (gg : Nat) (w : World) (s : Gs) (nX : Nat) (a : Act) (wr : World) : Prop :=
  ∃ k : Nat, (∃ u, a.tmps = frT v gg w.heap.size nX u k) ∧ k ≤ nX ∧ Marks w.heap.size a.defers wr ∧ (∃ qs A c, FinV v wr (manyAll v s k) qs A c) ∧ Below v.f.B w wr ∧ Bxs v gg w.heap.size wr

/-! ### marks and boxes across the steps -/
theorem Marks.kept {lo : Nat} : ∀ {ds : List Deferred} {w w' : World}, Marks lo ds w → (∀ (D : Nat) (x : Option (List Deferred)), w.heap[D]? = some (.deferred x) → w'.heap[D]? = some (.deferred x)) → Marks lo ds w'
  | [], _, _, _, _ => trivial
  | _ :: _, _, _, ⟨D, h1, h0, h2, h3, h4⟩, hk => ⟨D, h1, h0, hk _ _ h2, h3, Marks.kept h4 hk⟩
theorem Marks.lt {lo : Nat} : ∀ {ds : List Deferred} {w : World}, Marks lo ds w → ∀ d ∈ ds, ∀ D, d.target = .collected D → D < w.heap.size
  | d :: ds, w, ⟨D, h1, h0, h2, h3, h4⟩, d', hd', D', e => by
    rcases List.mem_cons.1 hd' with rfl | hd'
    · rw [h1] at e
      cases e
      exact (Array.getElem?_eq_some_iff.1 h2).1
    · exact Marks.lt h4 d' hd' D' e
theorem deferred_set {w : World} {p : Addr} {u : Value} (D : Nat) (x : Option (List Deferred)) (h : w.heap[D]? = some (.deferred x)) : (w.setCell p u).heap[D]? = some (.deferred x) := by
  simp only [World.setCell, Array.getElem?_modify]
  split
  · rename_i e; rw [h]; rfl
  · exact h
theorem own_cells {w : World} {base : Nat} {e : TypeId} {size : Nat} {v : Value} {n : Nat} {xs : List Value} (h : w.ownsRow base e size v n xs) {g : Nat} (hg : v.ownBlock = some g) : ∃ cur, w.heap[g]? = some (.cells cur e (0, 0)) := by
  rcases h.2 with ⟨e1, e2⟩ | ⟨g', cap, cur, rfl, _, hh, _⟩
  · first | (subst e1; simp [Value.ownBlock] at hg; done) | (subst e2; simp [Value.ownBlock] at hg; done)
  · have : g' = g := by simpa [Value.ownBlock] using hg
    subst this
    exact ⟨cur, hh⟩
theorem own_type {w : World} {base : Nat} {e : TypeId} {size : Nat} {v : Value} {n : Nat} {xs : List Value} (h : w.ownsRow base e size v n xs) {g : Nat} {t : TypeId} {cs : Array Value} (hb : Blk w g t cs) (hne : t ≠ e) : some g ≠ v.ownBlock := fun hg => by
  obtain ⟨cur, hh⟩ := own_cells h hg.symm
  unfold Blk at hb
  rw [hb] at hh
  injection hh with hh
  injection hh with _ hh _
  exact hne hh
/-- All that many keeps in memory. -/
structure Mv (v : Fv) (gg : Nat) (w0 : World) (ds : List Deferred) (W : World) (g : Gs) (qs : List Pv) (A : Option Addr) (c : Nat) : Prop where
  fin : FinV v W g qs A c
  bx : Bxs v gg w0.heap.size W
  mks : Marks w0.heap.size ds W
  bl : Below v.f.B w0 W
  bs : v.f.base ≤ w0.heap.size
section
variable {v : Fv} {gg : Nat} {w0 W W' : World} {ds : List Deferred} {g : Gs} {qs : List Pv} {A : Option Addr} {c : Nat}
theorem Mv.below (h : Mv v gg w0 ds W g qs A c) (O : v.f.Ok) (hb : Below W.heap.size W W') : Mv v gg w0 ds W' g qs A c :=
  ⟨h.fin.kept O hb, h.bx.below hb, h.mks.below hb, h.bl.trans (hb.mono (by have := h.fin.size; have := O.bk; have := O.tk; omega)), h.bs⟩
theorem Bxs.far (h : Bxs v gg w0.heap.size W) {p : Addr} (hp : p.block < w0.heap.size) (u : Value) : Bxs v gg w0.heap.size (W.setCell p u) :=
  ⟨h.b0.far (by omega) u, h.b1.far (by omega) u, h.b2.far (by omega) u, h.b3.far (by omega) u⟩
theorem Mv.setX (h : Mv v gg w0 ds W g qs A c) (O : v.f.Ok) (i : Nat) : Mv v gg w0 ds (W.setCell ⟨v.UX, i, none⟩ (.bool true)) { g with ux := g.ux.set i true } qs A c := by
  have hX := Fv.okX O
  have hs := h.bs
  exact ⟨h.fin.setX O i, h.bx.far (p := ⟨v.UX, i, none⟩) (by show v.UX < _; omega) _, h.mks.kept deferred_set, h.bl.setCell hX.1 _, h.bs⟩
theorem Mv.setY (h : Mv v gg w0 ds W g qs A c) (O : v.f.Ok) (i : Nat) : Mv v gg w0 ds (W.setCell ⟨v.UY, i, none⟩ (.bool true)) { g with uy := g.uy.set i true } qs A c := by
  have hX := Fv.okY O
  have hs := h.bs
  exact ⟨h.fin.setY O i, h.bx.far (p := ⟨v.UY, i, none⟩) (by show v.UY < _; omega) _, h.mks.kept deferred_set, h.bl.setCell hX.1 _, h.bs⟩
theorem Mv.drew (h : Mv v gg w0 ds W g qs A c) : Mv v gg w0 ds W.drew g qs A c := ⟨h.fin.drew, ⟨h.bx.b0, h.bx.b1, h.bx.b2, h.bx.b3⟩, h.mks.kept fun _ _ h => h, h.bl.drew, h.bs⟩
theorem Mv.out (h : Mv v gg w0 ds W g qs A c) (O : v.f.Ok) {q : Pv} {p : Pr} {A' : Option Addr} {c' : Nat} (hq : PvOk (Fre v.f W (.slice A g.ps.length c)) W q p)
    (hg : W.grownBy W' (Value.slice A g.ps.length c).ownBlock) (hO : W'.ownsRow v.f.base 39 2 (.slice A' (g.ps.length + 1) c') (g.ps.length + 1) (qs.flatMap pvC ++ pvC q))
    (hloc : (Value.slice A' (g.ps.length + 1) c').ownBlock = (Value.slice A g.ps.length c).ownBlock ∨ ∀ b, (Value.slice A' (g.ps.length + 1) c').ownBlock = some b → W.heap.size ≤ b) :
    Mv v gg w0 ds (W'.setCell ⟨v.f.Fk, 5, none⟩ (.slice A' (g.ps.length + 1) c')) { g with ps := g.ps ++ [p] } (qs ++ [q]) A' c' := by
  have hown := h.fin.own
  have hs := h.bs
  have hb1 : Bxs v gg w0.heap.size W' := ⟨h.bx.b0.grown hg (own_type hown h.bx.b0 (by decide)), h.bx.b1.grown hg (own_type hown h.bx.b1 (by decide)), h.bx.b2.grown hg (own_type hown h.bx.b2 (by decide)), h.bx.b3.grown hg (own_type hown h.bx.b3 (by decide))⟩
  refine ⟨h.fin.out O hq hg hO hloc, hb1.far (p := ⟨v.f.Fk, 5, none⟩) (by show v.f.Fk < _; have := O.tk; omega) _, (h.mks.kept fun D x hD => ?_).kept deferred_set, ?_, h.bs⟩
  · refine (hg.block D (Array.getElem?_eq_some_iff.1 hD).1 (fun e => ?_)).trans hD
    obtain ⟨cur, hc⟩ := own_cells hown e.symm
    rw [hD] at hc
    cases hc
  · exact (h.bl.grown hg (by have := h.fin.size; have := O.bk; have := O.tk; omega) (fun k e => by have := own_ge hown (Nat.le_refl _) k e; have := O.bk; have := O.tk; omega)).setCell O.bk _
theorem DefOnly.bxs {lo : Nat} (h : DefOnly lo W W') (hb : Bxs v gg w0.heap.size W) : Bxs v gg w0.heap.size W' := ⟨h.block hb.b0, h.block hb.b1, h.block hb.b2, h.block hb.b3⟩
end
/-- range_subsets where the round's variable is one slot. -/
theorem range_subsets2 {n p p2 Bk k ce : Nat} {g : Operand} {assign body : Code} {Q : Exit → Act → World → Prop} {a : Act} {w : World} (fit : Mk → Bool) (Jx : Mk → World → Prop)
    (hg : a.eval g = .func (.func 50) #[] #[.pointer (some ⟨Bk, 0, none⟩)]) (hk : k ≤ 12) (hB : Bk < w.heap.size) (hc : w.cell? ⟨Bk, 0, none⟩ = some (.int .i64 k))
    (hassign : ∀ (l : Nat) (x : Mk) (W : World) (K : Act → World → Prop), K { tmps := (a.tmps.setIfInBounds p (mkV x)).setIfInBounds p2 (mkV x), defers := [] } W → assign.wpIn (Fence.wide.inRound l) (n - 1 - 1) Try.prog (Exit.then K (fun _ _ _ => False)) { tmps := a.tmps.setIfInBounds p (mkV x), defers := [] } W)
    (hbody : ∀ (l : Nat) (x : Mk) (W : World), Below w.heap.size w W → w.heap.size + 2 ≤ W.heap.size → x ∈ mAll k → W.heap[w.heap.size]? = some (.deferred (some [])) → (∃ L, W.heap[w.heap.size + 1]? = some (.loop L)) → body.wpIn (Fence.wide.inRound l) (n - 1 - 1) Try.prog (rdPost ce w.heap.size fit Jx x W) { tmps := (a.tmps.setIfInBounds p (mkV x)).setIfInBounds p2 (mkV x), defers := [] } W)
    (hJ : ∀ (x : Mk) (A : World) (j : Nat) (o : Obj), w.heap.size ≤ j → j < w.heap.size + 2 → Jx x A → Jx x (A.putObj j o))
    (hdone : ∀ W, (mAll k).find? fit = none → Below w.heap.size w W → w.heap.size + 2 ≤ W.heap.size → W.heap[w.heap.size]? = some (.deferred (some [])) → Q .normal { a with defers := { target := .collected w.heap.size, args := #[] } :: a.defers } W)
    (hstop : ∀ x W, (mAll k).find? fit = some x → Jx x W → W.heap[w.heap.size]? = some (.deferred (some [])) → (Code.exit ce).wpIn Fence.wide n Try.prog Q { a with defers := { target := .collected w.heap.size, args := #[] } :: a.defers } W) :
    (Code.rangeFunc g #[p] assign body).wpIn Fence.wide n Try.prog Q a w :=
  range_subsets fit Jx hg hk hB hc (fun x => { tmps := (a.tmps.setIfInBounds p (mkV x)).setIfInBounds p2 (mkV x), defers := [] }) hassign hbody hJ hdone hstop
/-- What a set that fits makes of the state. -/
def stM (v : Fv) (t : Gs) (k : Nat) (x : On) (cs : List Nat) (m : Mk) : Gs := ⟨t.ux.set k true, setAll t.uy (selT m cs cs.length), t.ps ++ [if v.fl then ⟨(selT m cs cs.length).map (rfAt v.Y), [x.r]⟩ else ⟨[x.r], (selT m cs cs.length).map (rfAt v.Y)⟩]⟩
theorem selT_len (m : Mk) (cs : List Nat) : ∀ b, (selT m cs b).length ≤ b
  | 0 => by simp [selT]
  | b + 1 => by
    have := selT_len m cs b
    simp only [selT]
    split
    · omega
    · split
      · simp; omega
      · omega
theorem selT_succ (m : Mk) (cs : List Nat) {b : Nat} (hb : b < cs.length) : selT m cs (b + 1) = if inM m b then selT m cs b ++ [cs[b]] else selT m cs b := by
  rw [selT, List.getElem?_eq_getElem hb]
theorem sumT_bd (x : On) (Y : List On) (hx : OnOk x) (hY : ∀ y ∈ Y, OnOk y) : ∀ l : List Nat, -(1000000000000 * ((l.length : Int) + 1)) ≤ sumT x Y l ∧ sumT x Y l ≤ 1000000000000 * ((l.length : Int) + 1)
  | [] => by obtain ⟨h1, h2⟩ := hx; simp [sumT]; omega
  | j :: l => by
    have ih := sumT_bd x Y hx hY l
    have ha : -1000000000000 ≤ amt Y j ∧ amt Y j ≤ 1000000000000 := by
      unfold amt
      split
      · rename_i y hy; exact hY y (List.mem_of_getElem? hy)
      · omega
    unfold sumT at *
    simp only [List.map_cons, List.sum_cons, List.length_cons]
    omega
theorem sumT_snoc (x : On) (Y : List On) (l : List Nat) (j : Nat) : sumT x Y (l ++ [j]) = sumT x Y l + amt Y j := by
  unfold sumT; rw [List.map_append, List.sum_append]; simp [Int.add_assoc]
theorem setAll_snoc (u : List Bool) (l : List Nat) (j : Nat) : setAll u (l ++ [j]) = (setAll u l).set j true := by simp [setAll]
theorem setAll_len (l : List Nat) : ∀ u : List Bool, (setAll u l).length = u.length := by
  induction l with
  | nil => intro u; rfl
  | cons j l ih => intro u; simp only [setAll, List.foldl_cons] at *; rw [ih]; simp

theorem and_one2 : ∀ a b : Fin 64, (bits .and .u64 ((64 * a.val + b.val : Nat) : Int) 1 == 1) = ((64 * a.val + b.val) % 2 == 1) := by decide +kernel
theorem bit_fact (y : Mk) (b : Nat) : (bits .and .u64 ((y.val : Int) / 2 ^ b) 1 == 1) = inM y b := by
  have h1 : ((y.val : Int) / 2 ^ b) = ((y.val / 2 ^ b : Nat) : Int) := by
    rw [Int.natCast_ediv]; congr 1
  have h2 : y.val / 2 ^ b < 4096 := Nat.lt_of_le_of_lt (Nat.div_le_self _ _) y.isLt
  rw [h1]
  unfold inM
  generalize y.val / 2 ^ b = n at h2
  have := and_one2 ⟨n / 64, by omega⟩ ⟨n % 64, by omega⟩
  simp only [Nat.div_add_mod] at this
  exact this

/-- Blocks from base on are as they were, and none is new. -/
def Hi (base : Nat) (W W' : World) : Prop := W'.heap.size = W.heap.size ∧ ∀ b, base ≤ b → W'.heap[b]? = W.heap[b]?
section
variable {base : Nat} {W W' W'' : World}
theorem Hi.refl (base : Nat) (W : World) : Hi base W W := ⟨rfl, fun _ _ => rfl⟩
theorem Hi.set_ (h : Hi base W W') {p : Addr} (hp : p.block < base) (u : Value) : Hi base W (W'.setCell p u) := ⟨by simpa using h.1, fun b hb => (Below.heap_setCell W' p u b (by omega)).trans (h.2 b hb)⟩
theorem Hi.drew (h : Hi base W W') : Hi base W W'.drew := h
theorem Hi.blk (h : Hi base W W') {g : Nat} {t : TypeId} {cs : Array Value} (hb : Blk W g t cs) (hg : base ≤ g) : Blk W' g t cs := (h.2 g hg).trans hb
theorem Hi.own (h : Hi base W W') {b0 : Nat} {e : TypeId} {size : Nat} {v : Value} {n : Nat} {xs : List Value} (ho : W.ownsRow b0 e size v n xs) (hb : base ≤ b0) : W'.ownsRow b0 e size v n xs := by
  refine ⟨ho.1, ho.2.imp id ?_⟩
  rintro ⟨g, cap, cur, hv, hg, hh, r⟩
  exact ⟨g, cap, cur, hv, hg, (h.2 g (by omega)).trans hh, r⟩
end
/-- The closures that make a proposal, by the side. -/
theorem mkG_any (v : Fv) (gg : Nat) (hgg : gg = if v.fl then 29 else 28) (x : Rf) (s : Sh) (rs : List Rf) (W : World) : Calls Try.prog gg #[rfV x, .slice s.A s.n s.c] W fun e W' => ∃ pq : Pv, e = .returned (.agg #[.slice pq.x.A pq.x.n pq.x.c, .slice pq.y.A pq.y.n pq.y.c]) ∧ Below W.heap.size W W' ∧ (∀ X : Nat → Prop, (∀ b, W.heap.size ≤ b → b < W'.heap.size → X b) → RdP rfC 2 X W' s.A rs → rs.length = s.n → s.n ≤ 1000 → PvOk X W' pq (if v.fl then ⟨rs, [x]⟩ else ⟨[x], rs⟩)) := by
  cases hf : v.fl with
  | true =>
    rw [hf] at hgg
    obtain rfl : gg = 29 := by simpa using hgg
    refine (mk29_any x s W).mono ?_
    rintro e W' ⟨g, rfl, hb, h1, h2, h3⟩
    exact ⟨⟨s, ⟨some ⟨g, 0, none⟩, 1, 1⟩⟩, rfl, h3, fun X hX hr hl hs => ⟨hl, rfl, hr, RdP.one hb (hX g h1 h2), hs, (by show 1 ≤ 1000; decide)⟩⟩
  | false =>
    rw [hf] at hgg
    obtain rfl : gg = 28 := by simpa using hgg
    refine (mk28_any x s W).mono ?_
    rintro e W' ⟨g, rfl, hb, h1, h2, h3⟩
    exact ⟨⟨⟨some ⟨g, 0, none⟩, 1, 1⟩, s⟩, rfl, h3, fun X hX hr hl hs => ⟨rfl, hl, RdP.one hb (hX g h1 h2), hr, (by show 1 ≤ 1000; decide), hs⟩⟩
theorem enters_gg (v : Fv) (gg : Nat) (hgg : gg = if v.fl then 29 else 28) : ∀ args w, (callFunc gg args).run Try.prog w = .ok (.enter gg args) w := by
  cases hf : v.fl with
  | true =>
    rw [hf] at hgg
    obtain rfl : gg = 29 := by simpa using hgg
    exact enters_of Try.func29 (by kernel_rfl) rfl
  | false =>
    rw [hf] at hgg
    obtain rfl : gg = 28 := by simpa using hgg
    exact enters_of Try.func28 (by kernel_rfl) rfl

theorem Marks.kept2 {lo B : Nat} : ∀ {ds : List Deferred} {w w' : World}, Marks lo ds w → (∀ d ∈ ds, ∀ D, d.target = .collected D → D < B) → (∀ (D : Nat) (x : Option (List Deferred)), D < B → w.heap[D]? = some (Obj.deferred x) → w'.heap[D]? = some (Obj.deferred x)) → Marks lo ds w'
  | [], _, _, _, _, _ => trivial
  | d :: ds, w, w', ⟨D, h1, h0, h2, h3, h4⟩, hl, hk => ⟨D, h1, h0, hk _ _ (hl d (by simp) D (by rw [h1])) h2, h3, Marks.kept2 h4 (fun d' hd' => hl d' (by simp [hd'])) hk⟩
theorem Marks.ne {lo : Nat} {ds : List Deferred} {w : World} (h : Marks lo ds w) {B : Nat} (hB : w.heap.size ≤ B) : ∀ d' ∈ ds, d'.target ≠ .collected B := fun d' hd' e => by
  have := h.lt d' hd' B e
  omega

end Go.Proofs.Ytccgleiildgckaa
