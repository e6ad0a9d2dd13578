/- From a law's walk to its statement: how slices of open lines come in. No conditions. -/
import Derived.Test.YtccgleiildgckaaRows
import Derived.Test.YtccgleiildgckaaB5
import Derived.Test.YtccgleiildgckaaB2
import Derived.ProofKit
import Derived.Deep.Slices
import Derived.WideKeyArgs
namespace Go.Proofs.Ytccgleiildgckaa
open Go.ChangeShapes Go.WideShapes Go.ChangeAt Go.RowKit Go.Deep

theorem Try.own : ownKnob Try.prog.godebug = none := by kernel_rfl
theorem Try.laidOut : laidOutB Try.prog = true := by kernel_rfl

/-- A list out of what is known of each place. -/
theorem list_of {α : Type} {P : Nat → α → Prop} : ∀ (n : Nat), (∀ i, i < n → ∃ x, P i x) → ∃ zs : List α, zs.length = n ∧ ∀ i x, zs[i]? = some x → P i x
  | 0, _ => ⟨[], rfl, fun i x h => by simp at h⟩
  | n + 1, h => by
    obtain ⟨zs, hl, hz⟩ := list_of n (fun i hi => h i (by omega))
    obtain ⟨x, hx⟩ := h n (by omega)
    refine ⟨zs ++ [x], by simp [hl], fun i y hy => ?_⟩
    rcases Nat.lt_or_ge i zs.length with hi | hi
    · rw [List.getElem?_append_left hi] at hy
      exact hz i y hy
    · rw [List.getElem?_append_right hi] at hy
      have h0 : i - zs.length = 0 := by
        rcases Nat.eq_zero_or_pos (i - zs.length) with h | h
        · exact h
        · rw [List.getElem?_eq_none (by simp; omega)] at hy; cases hy
      rw [h0] at hy
      simp at hy
      subst hy
      have : i = n := by omega
      subst this
      exact hx

def OnWf (x : On) : Prop := RfWf x.r ∧ (Lit.int .i64 x.a).wf = true
section
variable {H : Type} {enc : TypeId × Value → H} {w : World} {base : Nat} {spare : Nat → Bool} {held : Bool}
theorem cells41 : Try.prog.cellsOf 41 = 2 := by kernel_rfl
theorem cells3 : Try.prog.cellsOf 3 = 1 := by kernel_rfl
theorem cells50 : Try.prog.cellsOf 50 = 3 := by kernel_rfl
set_option maxRecDepth 20000 in
theorem open_ref {cs : List Value} {fuel : Nat} {x : DataW H × List MemPlace} (h : DataW.trod enc Try.prog w base spare held fuel 41 cs = some x) : ∃ r : Rf, cs = rfC r ∧ RfWf r := by
  obtain ⟨xs, n, _, _, hl, hx, hf⟩ := DataW.trod_struct Try.underlying41 h
  have h0 := hf 0 _ rfl
  have h1 := hf 1 _ rfl
  rw [cells41] at hl
  simp only [List.getElem_toArray, List.getElem_cons_zero, List.getElem_cons_succ, cells3] at h0 h1
  have hx2 : xs.length = 2 := hx
  clear hf hx
  match cs, hl, xs, hx2 with
  | [a, b], _, [y, z], _ =>
    obtain ⟨k, e1, _, w1⟩ := DataW.trod_int Try.underlying3 (h0.trans rfl)
    obtain ⟨l, e2, _, w2⟩ := DataW.trod_int Try.underlying3 (h1.trans rfl)
    simp only [List.drop_zero, List.drop_succ_cons, List.take_succ_cons, List.take_zero, List.cons.injEq, and_true] at e1 e2
    subst e1; subst e2
    exact ⟨⟨k, l⟩, rfl, w1, w2⟩
set_option maxRecDepth 20000 in
theorem open_on {cs : List Value} {fuel : Nat} {x : DataW H × List MemPlace} (h : DataW.trod enc Try.prog w base spare held fuel 50 cs = some x) : ∃ y : On, cs = onC y ∧ OnWf y := by
  obtain ⟨xs, n, _, _, hl, hx, hf⟩ := DataW.trod_struct Try.underlying50 h
  have h0 := hf 0 _ rfl
  have h1 := hf 1 _ rfl
  rw [cells50] at hl
  simp only [List.getElem_toArray, List.getElem_cons_zero, List.getElem_cons_succ, cells3, cells41] at h0 h1
  have hx2 : xs.length = 2 := hx
  clear hf hx
  match cs, hl, xs, hx2 with
  | [a, b, c], _, [y, z], _ =>
    obtain ⟨r, e1, w1⟩ := open_ref (h0.trans rfl)
    obtain ⟨l, e2, _, w2⟩ := DataW.trod_int Try.underlying3 (h1.trans rfl)
    simp only [rfC, List.drop_zero, List.drop_succ_cons, List.take_succ_cons, List.take_zero, List.cons.injEq, and_true] at e1 e2
    obtain ⟨rfl, rfl⟩ := e1
    subst e2
    exact ⟨⟨r, l⟩, rfl, w1, w2⟩
set_option maxRecDepth 20000 in
/-- A slice of structs that comes in reads as a list. -/
theorem open_rd {α : Type} {ec : α → List Value} {k : Nat} {wf : α → Prop} {t e : TypeId} {v : Value} {d : DataW H} {p : List MemPlace} {r : Reach} {b0 : Nat} (ht : Try.prog.underlying t = some (.slice e)) (hC : Try.prog.cellsOf e = k) (hk : ∀ x, (ec x).length = k) (hk0 : 0 < k)
    (he : ∀ (fuel : Nat) (cs : List Value) (x : DataW H × List MemPlace), DataW.trod enc Try.prog w base spare held fuel e cs = some x → ∃ y : α, cs = ec y ∧ wf y)
    (hv : Value.okWide Try.prog w r b0 t v) (h : DataW.Trod enc Try.prog w base spare held t v d p) :
    ∃ (A : Option Addr) (n c : Nat) (zs : List α), v = .slice A n c ∧ zs.length = n ∧ n ≤ c ∧ c ≤ maxLen ∧ Rd ec k w.heap.size w A zs ∧ ∀ x ∈ zs, wf x := by
  obtain ⟨a0, len, cap, rfl⟩ := okWide_slice ht hv
  obtain ⟨fuel, hf⟩ := h
  rcases open_slice ht hf with ⟨e1, _⟩ | ⟨a, len', cap', m, n, D, Pl, hcs, hb, hl, hm, hmm, hx, hi⟩
  · simp [Value.cells] at e1
    obtain ⟨rfl, rfl, rfl⟩ := e1
    exact ⟨none, 0, 0, [], rfl, rfl, Nat.le_refl _, Nat.zero_le _, Rd.nil, fun x hx => by simp at hx⟩
  · simp [Value.cells] at hcs
    obtain ⟨rfl, rfl, rfl⟩ := hcs
    have hlm : len ≤ m := by rw [hmm]; split <;> omega
    have hcell : ∀ i, i < len → ∃ y : α, (∀ j u, (ec y)[j]? = some u → w.cell? (a.add (i * k + j)) = some u) ∧ wf y := by
      intro i hi2
      obtain ⟨cs', hc, ht'⟩ := hi i (by omega)
      obtain ⟨y, rfl, hw⟩ := he _ _ _ ht'
      obtain ⟨_, hcl, hat⟩ := World.cells?_some hc
      refine ⟨y, fun j u hu => ?_, hw⟩
      have hj : j < (ec y).length := (List.getElem?_eq_some_iff.1 hu).1
      rw [hC] at hat
      rw [← Go.Deep.add_add, hat j (by rw [← hk y]; exact hj), hu]
    have hspot : 0 < len → a.spot = none := by
      intro h0
      obtain ⟨y, hy, _⟩ := hcell 0 h0
      have hj : 0 < (ec y).length := by rw [hk]; exact hk0
      have := hy 0 _ (List.getElem?_eq_getElem hj)
      have h2 := World.cell?_spot this
      simpa [Addr.add] using h2
    obtain ⟨zs, hzl, hz⟩ := list_of len hcell
    clear hx
    refine ⟨some a, len, cap, zs, rfl, hzl, hl, hm, fun i x hx => ?_, fun x hx => ?_⟩
    · have hil : i < len := by rw [← hzl]; exact (List.getElem?_eq_some_iff.1 hx).1
      obtain ⟨b, off, spot⟩ := a
      have hs : spot = none := hspot (by omega)
      subst hs
      have hy := (hz i x hx).1
      have hj : 0 < (ec x).length := by rw [hk]; exact hk0
      have h0 := hy 0 _ (List.getElem?_eq_getElem hj)
      refine ⟨b, off, rfl, ?_, fun j u hu => ?_⟩
      · rw [add_plain] at h0
        obtain ⟨cs, t', fr, hh, _⟩ := Sort.cells_of_cell? h0
        exact (Array.getElem?_eq_some_iff.1 hh).1
      · have := hy j u hu
        rw [add_plain, ← Nat.add_assoc] at this
        exact this
    · obtain ⟨i, hi2, rfl⟩ := List.mem_iff_getElem.1 hx
      exact (hz i _ (List.getElem?_eq_getElem hi2)).2
end
theorem post_of_below {H : Type} {enc : TypeId × Value → H} {P : Program} {f : Func} {s : ChangeSpec} {apart fresh handsOn again : Bool} {W W' : World} {args : Array Value} {v : Value} {ds gs : List (DataW H)} {before pa pv : List MemPlace}
    (hW : DataW.Whole enc P f.params.toList s.vars apart W args.toList ds gs before)
    (hres : ∀ (b : Nat) (sp : Nat → Bool) (hd : Bool), DataW.TrodAll enc P W' b sp hd f.resultTypes.toList (v.resultList f.resultTypes.size) (s.fn H (ds ++ gs)).results [])
    (hargs : ∀ sp : Nat → Bool, (∀ p ∈ before, sp p.block = true) → DataW.TrodAll enc P W' 0 sp true f.params.toList args.toList (s.fn H (ds ++ gs)).args pa)
    (hvars : ∀ sp : Nat → Bool, (∀ p ∈ before, sp p.block = true) → DataW.TrodVars enc P W' sp s.vars (s.fn H (ds ++ gs)).vars pv)
    (hps : before = pa ++ pv) (hb : Below W.heap.size W W')
    (hok : ∀ (j : Nat) (t : TypeId) (r : Value), f.resultTypes[j]? = some t → (v.resultList f.resultTypes.size)[j]? = some r → Value.okWide P W' .any 0 t r) :
    s.post enc P f apart fresh handsOn again W args v W' := by
  have hlt : ∀ p ∈ before, p.block < W.heap.size := fun p hp => hW.lt p hp
  have hold : ∀ p ∈ before, (fun b => decide (b < W.heap.size)) p.block = true := fun p hp => by simpa using hlt p hp
  refine ⟨ds, gs, before, [], pa, pv, hW, hres _ _ _, hargs _ hold, hvars _ hold, World.keptBut_mono (fun p hp => ⟨hp, ?_⟩) (hb.frame (· ∈ before)), fun _ => ?_⟩
  · rw [hps, List.mem_append] at hp
    exact Or.inr hp
  · obtain ⟨_, _, _, _, _, hz, hn⟩ := hW
    refine ⟨hok, _, _, ([] ++ pa) ++ pv, ⟨[] ++ pa, pv, trodAll_append (hargs _ (fun _ _ => rfl)) (hres _ _ _), hvars _ (fun _ _ => rfl), rfl, ?_, ?_⟩, ?_⟩
    · intro b off hp
      have hin : MemPlace.cell b off ∈ before := by rw [hps]; simpa using hp
      rw [hb.frozen (hlt _ hin)]
      exact hz b off hin
    · intro ha
      have := hn ha
      rw [hps] at this
      simpa using this
    · intro p hp _
      rw [hps]
      simpa using hp
end Go.Proofs.Ytccgleiildgckaa
