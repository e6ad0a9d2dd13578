/- Without a tolerance, lines and the same lines with negated amounts in another order are all proposed in pairs. No conditions but that no amount is 0. -/
import Derived.Test.YtccgleiildgckaaP4
namespace Go.Proofs.Ytccgleiildgckaa
open Go.RowKit

/-- The amounts that are not yet taken, negated. -/
def openA (R : List On) (u : List Bool) : List Int := ((List.range R.length).filter (fun j => !u.getD j true)).map (fun j => -(amt R j))
theorem filter_set {n : Nat} {u : List Bool} {q : Nat} (hq : q < n) (hu : u.length = n) (hf : u.getD q true = false) : ((List.range n).filter (fun j => !u.getD j true)).Perm (q :: (List.range n).filter (fun j => !(u.set q true).getD j true)) := by
  have h1 : (List.range n).filter (fun j => !(u.set q true).getD j true) = ((List.range n).filter (fun j => !u.getD j true)).filter (fun j => j != q) := by
    rw [List.filter_filter]
    apply List.filter_congr
    intro j hj
    rw [getD_set (by rw [hu]; exact List.mem_range.1 hj)]
    by_cases e : q = j
    · subst e; simp
    · have e' : ¬ j = q := fun h => e h.symm
      simp [e, e']
  rw [h1]
  have hm : q ∈ (List.range n).filter (fun j => !u.getD j true) := List.mem_filter.2 ⟨List.mem_range.2 hq, by rw [hf]; rfl⟩
  have hnd : ((List.range n).filter (fun j => !u.getD j true)).Nodup := List.nodup_range.filter _
  generalize (List.range n).filter (fun j => !u.getD j true) = l at hm hnd
  rw [List.perm_ext_iff_of_nodup hnd]
  · intro x
    simp only [List.mem_cons, List.mem_filter, bne_iff_ne, ne_eq]
    constructor
    · intro h
      by_cases e : x = q
      · exact .inl e
      · exact .inr ⟨h, e⟩
    · rintro (rfl | ⟨h, _⟩)
      · exact hm
      · exact h
  · rw [List.nodup_cons]
    exact ⟨fun h => by simp at h, hnd.filter _⟩
theorem openA_set {R : List On} {u : List Bool} {q : Nat} (hq : q < R.length) (hu : u.length = R.length) (hf : u.getD q true = false) : (openA R u).Perm (-(amt R q) :: openA R (u.set q true)) := by
  unfold openA
  have := (filter_set hq hu hf).map (fun j => -(amt R j))
  simpa using this
/-- Step one takes every line. -/
theorem exact_one {L R : List On} (hne : ∀ x ∈ L, x.a ≠ 0) (hlen : L.length = R.length) (h0 : (openA R (List.replicate R.length false)).Perm (L.map On.a)) :
    ∀ k, k ≤ L.length → ∀ s, s = oneAll (f0 L R 0) (s0 L R) k → s.ps.length = k ∧ (∀ p ∈ s.ps, p.x.length = 1 ∧ p.y.length = 1) ∧ s.u1.length = L.length ∧ s.u2.length = R.length ∧ (∀ i, i < k → s.u1.getD i true = true) ∧ (openA R s.u2).Perm ((L.drop k).map On.a)
  | 0, _, s, hs => by
    subst hs
    exact ⟨rfl, fun p hp => by simp [oneAll, s0] at hp, by simp [oneAll, s0], by simp [oneAll, s0], fun i hi => by omega, by simpa [oneAll, s0] using h0⟩
  | k + 1, hk, s, hs => by
    obtain ⟨h1, h2, h3, h4, h5, h6⟩ := exact_one hne hlen h0 k (by omega) _ rfl
    rw [oneAll_succ] at hs
    generalize oneAll (f0 L R 0) (s0 L R) k = t at h1 h2 h3 h4 h5 h6 hs
    have hkl : k < L.length := by omega
    rw [List.drop_eq_getElem_cons hkl, List.map_cons] at h6
    rcases one_cases (f := f0 L R 0) (s := t) (i := k) hkl with ⟨_, hno⟩ | ⟨q, hq, hok, e⟩
    · exfalso
      have hm : L[k].a ∈ openA R t.u2 := h6.mem_iff.2 (by simp)
      obtain ⟨j, hj, ej⟩ := List.mem_map.1 hm
      obtain ⟨hj1, hj2⟩ := List.mem_filter.1 hj
      have hj1 := List.mem_range.1 hj1
      have hj2 : t.u2.getD j true = false := by simpa using hj2
      have hn := hno j hj1
      have ha : (gO (f0 L R 0).L k).a = L[k].a := by show (gO L k).a = _; rw [gO_at hkl]
      have h0 : L[k].a ≠ 0 := hne _ (List.getElem_mem hkl)
      have hR : amt R j = -L[k].a := by omega
      have : okT (gO (f0 L R 0).L k) (f0 L R 0).R t.u2 (f0 L R 0).tol j = true := by
        rw [okT_iff]
        refine ⟨hj2, ?_, ?_⟩
        · rw [ha]
          show oppB L[k].a (amt R j) = true
          rw [hR, oppB_iff]
          omega
        · rw [ha]
          show absZ (L[k].a + amt R j) ≤ 0
          rw [hR, absZ_le]
          omega
      rw [this] at hn
      cases hn
    · rw [e] at hs
      subst hs
      obtain ⟨o1, o2, o3⟩ := okT_iff.1 hok
      have ha : (gO (f0 L R 0).L k).a = L[k].a := by show (gO L k).a = _; rw [gO_at hkl]
      have hR : -(amt R q) = L[k].a := by
        rw [ha] at o3
        have o3 : absZ (L[k].a + amt R q) ≤ 0 := o3
        rw [absZ_le] at o3
        omega
      have hp := openA_set (R := R) (u := t.u2) (q := q) hq h4 o1
      rw [hR] at hp
      refine ⟨by simp [h1], ?_, by simpa using h3, by simpa using h4, ?_, (List.Perm.cons_inv (hp.symm.trans h6))⟩
      · intro p hp
        rcases List.mem_append.1 hp with hp | hp
        · exact h2 p hp
        · simp at hp; subst hp; simp
      · intro i hi
        rw [getD_set (by rw [h3]; omega)]
        split
        · rfl
        · exact h5 i (by omega)
theorem many_all {v : Fv} {g : Gs} (h : ∀ i, i < v.X.length → g.ux.getD i true = true) : ∀ k, k ≤ v.X.length → manyAll v g k = g
  | 0, _ => rfl
  | k + 1, hk => by
    rw [manyAll_succ, many_all h k (by omega)]
    rcases many_cases (v := v) (g := g) (i := k) (by omega) with e | ⟨h1, _⟩
    · exact e
    · rw [h k (by omega)] at h1; cases h1
theorem exact_law {L R : List On} (hne : ∀ x ∈ L, x.a ≠ 0) (hlen : L.length = R.length) (h0 : (R.map (fun y => -y.a)).Perm (L.map On.a)) : (progOut L R 0).length = L.length ∧ ∀ p ∈ progOut L R 0, p.x.length = 1 ∧ p.y.length = 1 := by
  have hs : (openA R (List.replicate R.length false)).Perm (L.map On.a) := by
    have : openA R (List.replicate R.length false) = R.map (fun y => -y.a) := by
      unfold openA
      have h1 : (List.range R.length).filter (fun j => !(List.replicate R.length false).getD j true) = List.range R.length := by
        rw [List.filter_eq_self]
        intro j hj
        have := List.mem_range.1 hj
        simp [this]
      rw [h1]
      conv => rhs; rw [list_g R]
      rw [List.map_map]
      apply List.map_congr_left
      intro j _
      simp [amt_g]
    rw [this]; exact h0
  obtain ⟨h1, h2, h3, h4, h5, h6⟩ := exact_one hne hlen hs L.length (Nat.le_refl _) _ rfl
  change (p1 L R 0).ps.length = _ at h1
  change ∀ p ∈ (p1 L R 0).ps, _ at h2
  change (p1 L R 0).u1.length = _ at h3
  change (p1 L R 0).u2.length = _ at h4
  change ∀ i, i < L.length → (p1 L R 0).u1.getD i true = true at h5
  change (openA R (p1 L R 0).u2).Perm _ at h6
  have e2 : p2 L R 0 = gsL (p1 L R 0) := many_all (v := ⟨f0 L R 0, false⟩) (g := gsL (p1 L R 0)) h5 L.length (Nat.le_refl _)
  have hr : ∀ j, j < R.length → (p1 L R 0).u2.getD j true = true := by
    intro j hj
    rw [List.drop_eq_nil_of_le (Nat.le_refl _), List.map_nil] at h6
    have := h6.eq_nil
    unfold openA at this
    rw [List.map_eq_nil_iff, List.filter_eq_nil_iff] at this
    simpa using this j (List.mem_range.2 hj)
  have e3 : p3 L R 0 = gsR (p2 L R 0) := by
    refine many_all (v := ⟨f0 L R 0, true⟩) (g := gsR (p2 L R 0)) ?_ R.length (Nat.le_refl _)
    rw [e2]
    exact hr
  unfold progOut
  rw [e3, e2]
  exact ⟨h1, h2⟩
/-- A rotation reads the same amounts. -/
theorem rot_perm (zs : List Int) (by_ : Nat) (hn : 0 < zs.length) : ((List.range zs.length).map (fun i => zs.getD ((i + by_) % zs.length) 0)).Perm zs := by
  have h1 : ((List.range zs.length).map (fun i => (i + by_) % zs.length)).Perm (List.range zs.length) := by
    rw [List.perm_ext_iff_of_nodup]
    · intro x
      rw [List.mem_range, List.mem_map]
      constructor
      · rintro ⟨i, _, rfl⟩
        exact Nat.mod_lt _ hn
      · intro hx
        refine ⟨(x + (zs.length - by_ % zs.length)) % zs.length, List.mem_range.2 (Nat.mod_lt _ hn), ?_⟩
        have hb := Nat.mod_lt by_ hn
        have hd := Nat.div_add_mod by_ zs.length
        rw [Nat.mod_add_mod]
        have : x + (zs.length - by_ % zs.length) + by_ = x + zs.length * (by_ / zs.length + 1) := by
          rw [Nat.mul_add]; omega
        rw [this, Nat.add_mul_mod_self_left]
        exact Nat.mod_eq_of_lt hx
    · rw [List.Nodup, List.pairwise_map]
      refine List.Pairwise.imp_of_mem ?_ List.nodup_range
      intro a b ha hb hne e
      have ha := List.mem_range.1 ha
      have hb := List.mem_range.1 hb
      apply hne
      have h2 : (a + by_) % zs.length = (b + by_) % zs.length := e
      have h3 := Nat.sub_mod_eq_zero_of_mod_eq h2
      have h4 := Nat.sub_mod_eq_zero_of_mod_eq h2.symm
      rw [Nat.add_sub_add_right] at h3 h4
      have q1 : a - b < zs.length := by omega
      have q2 : b - a < zs.length := by omega
      rw [Nat.mod_eq_of_lt q1] at h3
      rw [Nat.mod_eq_of_lt q2] at h4
      omega
    · exact List.nodup_range
  have h2 := h1.map (fun i => zs.getD i 0)
  rw [List.map_map] at h2
  have h3 : (List.range zs.length).map (fun i => zs.getD i 0) = zs := by
    apply List.ext_getElem
    · simp
    · intro i h1 h2; simp at h1; simp [h1]
  rw [h3] at h2
  exact h2
end Go.Proofs.Ytccgleiildgckaa
