/- The facts that the law MatchFits asks of each proposal. Conditions: the lines are valid. -/
import Derived.Test.YtccgleiildgckaaP4
namespace Go.Proofs.Ytccgleiildgckaa
open Go.RowKit

/-- The amount of a proposal's i-th reference. -/
def amF (L R : List On) (p : Pr) (i : Nat) : Int := match (refsP p)[i]? with
  | none => 0
  | some r => if i < p.x.length then amountOf L r else amountOf R r
def sumF (L R : List On) (p : Pr) (k : Nat) : Int := ((List.range k).map (amF L R p)).sum
theorem sumF_succ (L R : List On) (p : Pr) (k : Nat) : sumF L R p (k + 1) = sumF L R p k + amF L R p k := by
  unfold sumF; rw [List.range_succ, List.map_append, List.sum_append]; simp
structure FitsAt (L R : List On) (tol : Int) (ps : List Pr) (k : Nat) (p : Pr) : Prop where
  nx : p.x ≠ []
  ny : p.y ≠ []
  one : p.x.length = 1 ∨ p.y.length = 1
  at_ : ∀ i (hi : i < (refsP p).length), amF L R p i ≠ 0 ∧ (-1000000000000 ≤ amF L R p i ∧ amF L R p i ≤ 1000000000000) ∧ (refsP p)[i] ∉ usedP (ps.take k) ++ (refsP p).take i ∧
    (i < p.x.length → (amF L R p i < 0 ↔ amF L R p 0 < 0)) ∧ (p.x.length ≤ i → (amF L R p i < 0 ↔ ¬ amF L R p 0 < 0))
  sum : absZ (sumF L R p (refsP p).length) ≤ tol
theorem amountOf_g {L : List On} (h : ∀ i j, i < L.length → j < L.length → (gO L i).r = (gO L j).r → i = j) {i : Nat} (hi : i < L.length) : amountOf L (rfAt L i) = amt L i := by
  rw [rfAt_g, amt_g]
  have := amountOf_hit (zs := L) (r := (gO L i).r) (k := i) hi (fun x hx e => ?_) (by rw [gO_at hi])
  · rw [this, gO_at hi]
  · obtain ⟨j, hj, rfl⟩ := List.mem_take_iff_getElem.1 hx
    have hj2 : j < L.length := by omega
    have := h j i hj2 hi (by rw [gO_at hj2]; exact e)
    omega
theorem prefix_not {l : List Rf} (h : l.Nodup) {a : List Rf} {r : Rf} {b : List Rf} (e : l = a ++ r :: b) : r ∉ a := by
  rw [e, List.nodup_append] at h
  intro hr
  exact h.2.2 r hr r (by simp) rfl
theorem usedP_split {ps : List Pr} {k : Nat} (hk : k < ps.length) : usedP ps = usedP (ps.take k) ++ (refsP ps[k] ++ usedP (ps.drop (k + 1))) := by
  unfold usedP
  rw [← List.flatMap_cons, ← List.flatMap_append, ← take_split]
theorem fits_law {L R : List On} (tol : Int) (hD : Dist L R) (hg : ∀ x ∈ L ++ R, OnGood x) {k : Nat} (hk : k < (progOut L R tol).length) : FitsAt L R tol (progOut L R tol) k (progOut L R tol)[k] := by
  have hI := p3_inv tol hD
  have hnd : (usedP (progOut L R tol)).Nodup := hI.nd
  obtain ⟨il, jl, sg, e1, e2, h1, h2, hi0, hj0, hone, hsum⟩ := (hI.ps _ (List.getElem_mem hk)).ix
  change (progOut L R tol)[k].x = il.map (rfAt L) at e1
  change (progOut L R tol)[k].y = jl.map (rfAt R) at e2
  change ∀ i ∈ il, i < L.length ∧ decide ((gO L i).a < 0) = sg at h1
  change ∀ j ∈ jl, j < R.length ∧ decide ((gO R j).a < 0) = !sg at h2
  change absZ ((il.map (amt L)).sum + (jl.map (amt R)).sum) ≤ tol at hsum
  have hsplit := usedP_split hk
  generalize progOut L R tol = ps at hk e1 e2 hnd hsplit ⊢
  generalize hp : ps[k] = p at e1 e2 hsplit ⊢
  have hxl : p.x.length = il.length := by rw [e1, List.length_map]
  have hyl : p.y.length = jl.length := by rw [e2, List.length_map]
  have hrl : (refsP p).length = il.length + jl.length := by unfold refsP; rw [List.length_append, hxl, hyl]
  have amL : ∀ i (hi : i < il.length), amF L R p i = amt L il[i] ∧ il[i] < L.length ∧ decide (amt L il[i] < 0) = sg := by
    intro i hi
    obtain ⟨q1, q2⟩ := h1 il[i] (List.getElem_mem hi)
    refine ⟨?_, q1, by rw [amt_g]; exact q2⟩
    have : (refsP p)[i]? = some (rfAt L il[i]) := by
      unfold refsP
      rw [List.getElem?_append_left (by rw [hxl]; exact hi), e1, List.getElem?_map, List.getElem?_eq_getElem hi]; rfl
    unfold amF
    rw [this]
    simp only []
    rw [if_pos (by rw [hxl]; exact hi), amountOf_g hD.xx q1]
  have amR : ∀ i (hi : il.length ≤ i) (hi2 : i - il.length < jl.length), amF L R p i = amt R jl[i - il.length] ∧ jl[i - il.length] < R.length ∧ decide (amt R jl[i - il.length] < 0) = !sg := by
    intro i hi hi2
    obtain ⟨q1, q2⟩ := h2 jl[i - il.length] (List.getElem_mem hi2)
    refine ⟨?_, q1, by rw [amt_g]; exact q2⟩
    have : (refsP p)[i]? = some (rfAt R jl[i - il.length]) := by
      unfold refsP
      rw [List.getElem?_append_right (by rw [hxl]; exact hi), hxl, e2, List.getElem?_map, List.getElem?_eq_getElem hi2]; rfl
    unfold amF
    rw [this]
    simp only []
    rw [if_neg (by rw [hxl]; omega), amountOf_g hD.yy q1]
  have goodL : ∀ i, i < L.length → amt L i ≠ 0 ∧ -1000000000000 ≤ amt L i ∧ amt L i ≤ 1000000000000 := fun i hi => by
    have := hg (gO L i) (by rw [gO_at hi]; simp)
    rw [amt_g]
    exact ⟨this.1, amtB_iff.1 this.2⟩
  have goodR : ∀ i, i < R.length → amt R i ≠ 0 ∧ -1000000000000 ≤ amt R i ∧ amt R i ≤ 1000000000000 := fun i hi => by
    have := hg (gO R i) (by rw [gO_at hi]; simp)
    rw [amt_g]
    exact ⟨this.1, amtB_iff.1 this.2⟩
  have hil : 0 < il.length := List.length_pos_iff.2 hi0
  obtain ⟨a0, _, a2⟩ := amL 0 hil
  refine ⟨by rw [e1]; simpa using hi0, by rw [e2]; simpa using hj0, by rw [hxl, hyl]; exact hone, fun i hi => ?_, ?_⟩
  · have hnot : (refsP p)[i] ∉ usedP (ps.take k) ++ (refsP p).take i := by
      refine prefix_not (l := usedP ps) hnd (b := (refsP p).drop (i + 1) ++ usedP (ps.drop (k + 1))) ?_
      rw [hsplit, List.append_assoc]
      congr 1
      have h5 := take_split (l := refsP p) hi
      have h6 : refsP p ++ usedP (ps.drop (k + 1)) = ((refsP p).take i ++ (refsP p)[i] :: (refsP p).drop (i + 1)) ++ usedP (ps.drop (k + 1)) := by rw [← h5]
      rw [h6, List.append_assoc, List.cons_append]
    rw [hrl] at hi
    rw [hxl, a0]
    by_cases hlt : i < il.length
    · obtain ⟨b0, b1, b2⟩ := amL i hlt
      obtain ⟨c0, c1⟩ := goodL _ b1
      rw [b0]
      refine ⟨c0, c1, hnot, fun _ => ?_, fun h => by omega⟩
      rw [← a2] at b2
      exact decide_eq_decide.1 b2
    · obtain ⟨b0, b1, b2⟩ := amR i (by omega) (by omega)
      obtain ⟨c0, c1⟩ := goodR _ b1
      rw [b0]
      refine ⟨c0, c1, hnot, fun h => absurd h hlt, fun _ => ?_⟩
      rw [← a2] at b2
      by_cases x1 : amt R jl[i - il.length] < 0 <;> by_cases x2 : amt L il[0] < 0 <;> simp [x1, x2] at b2 ⊢
  · have hmap : (List.range (refsP p).length).map (amF L R p) = il.map (amt L) ++ jl.map (amt R) := by
      apply List.ext_getElem
      · simp [hrl]
      · intro i q1 q2
        simp only [List.getElem_map, List.getElem_range]
        simp only [List.length_map, List.length_range, hrl] at q1
        by_cases hlt : i < il.length
        · rw [List.getElem_append_left (by simpa using hlt), (amL i hlt).1]; simp
        · rw [List.getElem_append_right (by simpa using hlt), (amR i (by omega) (by omega)).1]; simp
    unfold sumF
    rw [hmap, List.sum_append]
    exact hsum
end Go.Proofs.Ytccgleiildgckaa
