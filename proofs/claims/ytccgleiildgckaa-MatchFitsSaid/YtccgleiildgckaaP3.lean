/- The program's proposals are the reference's. Conditions: the lines are valid. -/
import Derived.Test.YtccgleiildgckaaP2
import Derived.Test.YtccgleiildgckaaC6
namespace Go.Proofs.Ytccgleiildgckaa
open Go.RowKit

/-- The lines' references are all different. -/
structure Dist (X Y : List On) : Prop where
  xx : ∀ i j, i < X.length → j < X.length → (gO X i).r = (gO X j).r → i = j
  yy : ∀ i j, i < Y.length → j < Y.length → (gO Y i).r = (gO Y j).r → i = j
  xy : ∀ i j, i < X.length → j < Y.length → (gO X i).r ≠ (gO Y j).r
theorem Dist.flip {X Y : List On} (h : Dist X Y) : Dist Y X := ⟨h.yy, h.xx, fun i j hi hj e => h.xy j i hj hi e.symm⟩
theorem dist_of {L R : List On} (h : ((L ++ R).map On.r).Nodup) : Dist L R := by
  rw [List.map_append, List.nodup_append] at h
  obtain ⟨h1, h2, h3⟩ := h
  have hk : ∀ (l : List On), (l.map On.r).Nodup → ∀ i j, i < l.length → j < l.length → (gO l i).r = (gO l j).r → i = j := by
    intro l hl i j hi hj e
    have hp := List.pairwise_iff_getElem.1 hl
    rcases Nat.lt_trichotomy i j with hlt | rfl | hlt
    · have := hp i j (by simpa using hi) (by simpa using hj) hlt
      simp only [List.getElem_map] at this
      rw [gO_at hi, gO_at hj] at e
      exact absurd e this
    · rfl
    · have := hp j i (by simpa using hj) (by simpa using hi) hlt
      simp only [List.getElem_map] at this
      rw [gO_at hi, gO_at hj] at e
      exact absurd e.symm this
  refine ⟨hk L h1, hk R h2, fun i j hi hj e => ?_⟩
  exact h3 (gO L i).r (List.mem_map.2 ⟨gO L i, by rw [gO_at hi]; exact List.getElem_mem hi, rfl⟩) (gO R j).r (List.mem_map.2 ⟨gO R j, by rw [gO_at hj]; exact List.getElem_mem hj, rfl⟩) e

/-- The bools say which references are used. -/
def Use (Y : List On) (u : List Bool) (used : List Rf) : Prop := u.length = Y.length ∧ ∀ j, j < Y.length → u.getD j true = decide ((gO Y j).r ∈ used)
theorem Use.start (Y : List On) : Use Y (List.replicate Y.length false) [] := ⟨by simp, fun j hj => by simp [hj]⟩
theorem getD_set {u : List Bool} {k j : Nat} {b : Bool} (hj : j < u.length) : (u.set k b).getD j true = if k = j then b else u.getD j true := by
  simp only [List.getD, List.getElem?_set]
  split
  · simp [*]
  · rfl
theorem getD_setAll (l : List Nat) : ∀ (u : List Bool) {j : Nat}, j < u.length → (setAll u l).getD j true = (decide (j ∈ l) || u.getD j true) := by
  induction l with
  | nil => intro u j hj; simp [setAll]
  | cons k l ih =>
    intro u j hj
    have := ih (u.set k true) (j := j) (by simpa using hj)
    simp only [setAll, List.foldl_cons] at this ⊢
    rw [this, getD_set hj]
    by_cases h : k = j
    · subst h; simp
    · have h' : ¬ j = k := fun e => h e.symm
      simp [h, h']
/-- A line is used, and places of the other side. -/
theorem Use.own {X Y : List On} {u : List Bool} {used : List Rf} (hU : Use X u used) (hD : Dist X Y) {i : Nat} (hi : i < X.length) {l : List Nat} (hl : ∀ j ∈ l, j < Y.length) : Use X (u.set i true) (used ++ (gO X i).r :: l.map (rfAt Y)) := by
  refine ⟨by simpa using hU.1, fun j hj => ?_⟩
  rw [getD_set (by rw [hU.1]; exact hj), hU.2 j hj]
  have h2 : (gO X j).r ∉ l.map (rfAt Y) := by
    intro h
    obtain ⟨q, hq, e⟩ := List.mem_map.1 h
    exact hD.xy j q hj (hl q hq) (by rw [← e, rfAt_g])
  by_cases h : i = j
  · subst h; simp
  · rw [if_neg h]
    have h3 : (gO X j).r ≠ (gO X i).r := fun e => h (hD.xx i j hi hj e.symm)
    simp [h2, h3]
theorem Use.other {X Y : List On} {u : List Bool} {used : List Rf} (hU : Use Y u used) (hD : Dist X Y) {i : Nat} (hi : i < X.length) {l : List Nat} (hl : ∀ j ∈ l, j < Y.length) : Use Y (setAll u l) (used ++ (gO X i).r :: l.map (rfAt Y)) := by
  refine ⟨by rw [setAll_len]; exact hU.1, fun j hj => ?_⟩
  rw [getD_setAll l u (by rw [hU.1]; exact hj), hU.2 j hj]
  have h3 : (gO Y j).r ≠ (gO X i).r := fun e => hD.xy i j hi hj e.symm
  have h4 : (gO Y j).r ∈ l.map (rfAt Y) ↔ j ∈ l := by
    constructor
    · intro h
      obtain ⟨q, hq, e⟩ := List.mem_map.1 h
      rw [rfAt_g] at e
      rw [hD.yy j q hj (hl q hq) e.symm]
      exact hq
    · intro h
      exact List.mem_map.2 ⟨j, h, rfAt_g _ _⟩
  rw [Bool.eq_iff_iff]
  simp [h3, h4]
  by_cases h5 : j ∈ l <;> simp [h5]

/-! ### one line with one line -/
theorem idx_lt {x : On} {Y : List On} {u : List Bool} {k : Nat} : ∀ j ∈ idx x Y u k, j < k := fun _ hj => List.mem_range.1 (List.mem_filter.1 hj).1
theorem one_eq {x : On} {Y : List On} {u : List Bool} {used : List Rf} (tol : Int) (hU : Use Y u used) (ps : List Pr) : st1 Y tol (ps, used) x = match bestTo x Y u tol Y.length with
    | none => (ps, used)
    | some k => (ps ++ [⟨[x.r], [rfAt Y k]⟩], used ++ [x.r, rfAt Y k]) := by
  unfold st1
  simp only []
  rw [avail hU.2, bestTo_eq]
  generalize hI : idx x Y u Y.length = I
  rw [List.length_map]
  cases hb : oneTo x (I.map (gO Y)) tol I.length with
  | none => rfl
  | some b =>
    have hlt := oneTo_lt hb
    have h1 : rfAt (I.map (gO Y)) b = rfAt Y (I.getD b 0) := by rw [rfAt_g, rfAt_g, gO_map I Y hlt]
    simp only [Option.map_some, h1]
theorem bestTo_lt2 {x : On} {R : List On} {u : List Bool} {tol : Int} {k b : Nat} (h : bestTo x R u tol k = some b) : b < k := bestTo_lt h
theorem one_sim {L R : List On} {tol : Int} (hD : Dist L R) : ∀ k, k ≤ L.length → ∀ s : Fs, s = oneAll (f0 L R tol) (s0 L R) k → ∀ t : St, t = ((List.range k).map (gO L)).foldl (st1 R tol) ([], []) → s.ps = t.1 ∧ Use L s.u1 t.2 ∧ Use R s.u2 t.2
  | 0, _, s, hs, t, ht => by
    subst hs; subst ht
    exact ⟨rfl, Use.start L, Use.start R⟩
  | k + 1, hk, s, hs, t, ht => by
    obtain ⟨h1, h2, h3⟩ := one_sim (tol := tol) hD k (by omega) _ rfl _ rfl
    rw [oneAll_succ] at hs
    rw [List.range_succ, List.map_append, List.foldl_append] at ht
    simp only [List.map_cons, List.map_nil, List.foldl_cons, List.foldl_nil] at ht
    generalize oneAll (f0 L R tol) (s0 L R) k = s' at h1 h2 h3 hs
    generalize ((List.range k).map (gO L)).foldl (st1 R tol) ([], []) = t' at h1 h2 h3 ht
    obtain ⟨ps, used⟩ := t'
    simp only [] at h1 h2 h3
    subst h1
    rw [one_eq tol h3] at ht
    unfold oneSt at hs
    have hLk : (f0 L R tol).L[k]? = some (gO L k) := by
      show L[k]? = _
      rw [gO_at (by omega)]; exact List.getElem?_eq_getElem (by omega)
    rw [hLk] at hs
    simp only [] at hs
    change s = match bestTo (gO L k) R s'.u2 tol R.length with
      | none => s'
      | some q => ⟨s'.u1.set k true, s'.u2.set q true, s'.ps ++ [⟨[(gO L k).r], [rfAt R q]⟩]⟩ at hs
    cases hb : bestTo (gO L k) R s'.u2 tol R.length with
    | none =>
      rw [hb] at hs ht
      subst hs; subst ht
      exact ⟨rfl, h2, h3⟩
    | some q =>
      have hq := bestTo_lt2 hb
      rw [hb] at hs ht
      subst hs; subst ht
      have hl : ∀ j ∈ [q], j < R.length := by simpa using hq
      exact ⟨rfl, h2.own hD (by omega) hl, h3.other hD (by omega) hl⟩

/-! ### one line with many -/
theorem selT_lt {m : Mk} {cs : List Nat} {B : Nat} (h : ∀ j ∈ cs, j < B) : ∀ b, ∀ j ∈ selT m cs b, j < B
  | 0, j, hj => by simp [selT] at hj
  | b + 1, j, hj => by
    rw [selT] at hj
    split at hj
    · exact selT_lt h b j hj
    · rename_i k hk
      split at hj
      · rcases List.mem_append.1 hj with hj | hj
        · exact selT_lt h b j hj
        · simp at hj; subst hj; exact h _ (List.mem_of_getElem? hk)
      · exact selT_lt h b j hj
theorem comb_len {l : List Nat} : ∀ {n : Nat} {ps : List Nat}, ps ∈ comb l n → ps.length = n := by
  intro n ps h
  rw [← lexi_len] at h
  simpa using (List.mem_filter.1 h).2
theorem sel_ne {c : Nat} (hc : c ≤ 12) {m : Mk} (hm : m ∈ mAll c) : pl c m ≠ [] := by
  intro e
  have h := mAll_comb hc
  have h2 : pl c m ∈ (mAll c).map (pl c) := List.mem_map.2 ⟨m, hm, rfl⟩
  rw [h] at h2
  obtain ⟨n, hn, hp⟩ := List.mem_flatMap.1 h2
  have := comb_len hp
  rw [e] at this
  simp [List.mem_range'_1] at hn this
  omega
theorem many_step {v : Fv} {g : Gs} {used : List Rf} {i : Nat} (hi : i < v.X.length) (hU : Use v.Y g.uy used) (hu : g.ux.getD i true = false) :
    (∃ l, (∀ j ∈ l, j < v.Y.length) ∧ manySt v g i = ⟨g.ux.set i true, setAll g.uy l, g.ps ++ [if v.fl then ⟨l.map (rfAt v.Y), [(gO v.X i).r]⟩ else ⟨[(gO v.X i).r], l.map (rfAt v.Y)⟩]⟩ ∧
      st2 v.Y v.f.tol v.fl (g.ps, used) (gO v.X i) = (g.ps ++ [if v.fl then ⟨l.map (rfAt v.Y), [(gO v.X i).r]⟩ else ⟨[(gO v.X i).r], l.map (rfAt v.Y)⟩], used ++ (gO v.X i).r :: l.map (rfAt v.Y))) ∨
    (manySt v g i = g ∧ st2 v.Y v.f.tol v.fl (g.ps, used) (gO v.X i) = (g.ps, used)) := by
  have hX : v.X[i]? = some (gO v.X i) := by rw [gO_at hi]; exact List.getElem?_eq_getElem hi
  have hm := many_eq (gO v.X i) v.Y g.uy used v.f.tol hU.2
  have hcl := candT_lt (gO v.X i) v.Y g.uy v.Y.length
  have hc12 := candT_len (gO v.X i) v.Y g.uy v.Y.length
  unfold manySt st2
  rw [hX]
  simp only [hu, Bool.false_eq_true, if_false]
  rw [hm]
  generalize candT (gO v.X i) v.Y g.uy v.Y.length = cs at hcl hc12 ⊢
  cases hf : (mAll cs.length).find? (fitM (gO v.X i) v.Y v.f.tol cs) with
  | none => exact .inr ⟨rfl, rfl⟩
  | some m =>
    left
    refine ⟨selT m cs cs.length, selT_lt hcl _, rfl, ?_⟩
    have hne : (selT m cs cs.length).map (rfAt v.Y) ≠ [] := by
      have := sel_ne hc12 (List.mem_of_find?_eq_some hf)
      rw [selT_pl m cs _ (Nat.le_refl _)]
      unfold pl at this
      simpa using this
    simp only []
    cases hl : (selT m cs cs.length).map (rfAt v.Y) with
    | nil => exact absurd hl hne
    | cons q qs => simp
theorem many_sim {v : Fv} (hD : Dist v.X v.Y) {s : Gs} {ps0 : List Pr} {used0 : List Rf} (hps : s.ps = ps0) (hx : Use v.X s.ux used0) (hy : Use v.Y s.uy used0) : ∀ k, k ≤ v.X.length → ∀ g : Gs, g = manyAll v s k → ∀ t : St, t = (((List.range k).filter (fun j => !s.ux.getD j true)).map (gO v.X)).foldl (st2 v.Y v.f.tol v.fl) (ps0, used0) → g.ps = t.1 ∧ Use v.X g.ux t.2 ∧ Use v.Y g.uy t.2 ∧ ∀ j, k ≤ j → g.ux.getD j true = s.ux.getD j true
  | 0, _, g, hg, t, ht => by
    subst hg; subst ht
    exact ⟨hps, hx, hy, fun _ _ => rfl⟩
  | k + 1, hk, g, hg, t, ht => by
    obtain ⟨h1, h2, h3, h4⟩ := many_sim hD hps hx hy k (by omega) _ rfl _ rfl
    rw [manyAll_succ] at hg
    rw [List.range_succ, List.filter_append, List.map_append, List.foldl_append] at ht
    generalize manyAll v s k = g' at h1 h2 h3 h4 hg
    generalize (((List.range k).filter (fun j => !s.ux.getD j true)).map (gO v.X)).foldl (st2 v.Y v.f.tol v.fl) (ps0, used0) = t' at h1 h2 h3 ht
    obtain ⟨ps, used⟩ := t'
    simp only [] at h1 h2 h3
    subst h1
    have hXk : v.X[k]? = some (gO v.X k) := by rw [gO_at (by omega)]; exact List.getElem?_eq_getElem (by omega)
    have hkk := h4 k (Nat.le_refl _)
    cases hu : s.ux.getD k true with
    | true =>
      rw [hu] at hkk
      have hgg : manySt v g' k = g' := by unfold manySt; rw [hXk]; simp only [hkk, if_true]
      rw [hgg] at hg
      simp only [List.filter_cons, List.filter_nil, hu, Bool.not_true, Bool.false_eq_true, if_false, List.map_nil, List.foldl_nil] at ht
      subst hg; subst ht
      exact ⟨rfl, h2, h3, fun j hj => h4 j (by omega)⟩
    | false =>
      rw [hu] at hkk
      simp only [List.filter_cons, List.filter_nil, hu, Bool.not_false, if_true, List.map_cons, List.map_nil, List.foldl_cons, List.foldl_nil] at ht
      rcases many_step (by omega) h3 hkk with ⟨l, hl, e1, e2⟩ | ⟨e1, e2⟩
      · rw [e1] at hg
        rw [e2] at ht
        subst hg; subst ht
        refine ⟨rfl, h2.own hD (by omega) hl, h3.other hD (by omega) hl, fun j hj => ?_⟩
        rw [← h4 j (by omega)]
        simp only [List.getD, List.getElem?_set]
        rw [if_neg (by omega)]
      · rw [e1] at hg
        rw [e2] at ht
        subst hg; subst ht
        exact ⟨rfl, h2, h3, fun j hj => h4 j (by omega)⟩
theorem without_g {X : List On} {u : List Bool} {used : List Rf} (hU : Use X u used) : withoutL X used = ((List.range X.length).filter (fun j => !u.getD j true)).map (gO X) := by
  unfold withoutL
  conv => lhs; rw [list_g X]
  rw [List.filter_map]
  congr 1
  apply List.filter_congr
  intro j hj
  simp only [Function.comp_apply]
  rw [hU.2 j (List.mem_range.1 hj)]
theorem prog_ref {L R : List On} (tol : Int) (h : ((L ++ R).map On.r).Nodup) : progOut L R tol = refOut L R tol := by
  have hD := dist_of h
  obtain ⟨h1, h2, h3⟩ := one_sim (tol := tol) hD L.length (Nat.le_refl _) _ rfl _ rfl
  have e1 : ((List.range L.length).map (gO L)).foldl (st1 R tol) ([], []) = ph1 L R tol := by rw [← list_g]; rfl
  rw [e1] at h1 h2 h3
  change (p1 L R tol).ps = _ at h1
  change Use L (p1 L R tol).u1 _ at h2
  change Use R (p1 L R tol).u2 _ at h3
  obtain ⟨k1, k2, k3, _⟩ := many_sim (v := ⟨f0 L R tol, false⟩) (s := gsL (p1 L R tol)) hD h1 h2 h3 L.length (Nat.le_refl _) _ rfl _ rfl
  have e2 : (((List.range L.length).filter (fun j => !(gsL (p1 L R tol)).ux.getD j true)).map (gO L)).foldl (st2 R tol false) ((ph1 L R tol).1, (ph1 L R tol).2) = ph2 L R tol false (ph1 L R tol) := by
    unfold ph2; rw [without_g h2]; rfl
  change (p2 L R tol).ps = ((((List.range L.length).filter (fun j => !(gsL (p1 L R tol)).ux.getD j true)).map (gO L)).foldl (st2 R tol false) ((ph1 L R tol).1, (ph1 L R tol).2)).1 at k1
  change Use L (p2 L R tol).ux ((((List.range L.length).filter (fun j => !(gsL (p1 L R tol)).ux.getD j true)).map (gO L)).foldl (st2 R tol false) ((ph1 L R tol).1, (ph1 L R tol).2)).2 at k2
  change Use R (p2 L R tol).uy ((((List.range L.length).filter (fun j => !(gsL (p1 L R tol)).ux.getD j true)).map (gO L)).foldl (st2 R tol false) ((ph1 L R tol).1, (ph1 L R tol).2)).2 at k3
  rw [e2] at k1 k2 k3
  obtain ⟨m1, m2, m3, _⟩ := many_sim (v := ⟨f0 L R tol, true⟩) (s := gsR (p2 L R tol)) hD.flip k1 k3 k2 R.length (Nat.le_refl _) _ rfl _ rfl
  have e3 : (((List.range R.length).filter (fun j => !(gsR (p2 L R tol)).ux.getD j true)).map (gO R)).foldl (st2 L tol true) ((ph2 L R tol false (ph1 L R tol)).1, (ph2 L R tol false (ph1 L R tol)).2) = ph2 R L tol true (ph2 L R tol false (ph1 L R tol)) := by
    have key : ∀ t : St, Use R (p2 L R tol).uy t.2 → (((List.range R.length).filter (fun j => !(gsR (p2 L R tol)).ux.getD j true)).map (gO R)).foldl (st2 L tol true) (t.1, t.2) = ph2 R L tol true t := fun t ht => by
      unfold ph2; rw [without_g ht]; rfl
    exact key _ k3
  change (p3 L R tol).ps = ((((List.range R.length).filter (fun j => !(gsR (p2 L R tol)).ux.getD j true)).map (gO R)).foldl (st2 L tol true) ((ph2 L R tol false (ph1 L R tol)).1, (ph2 L R tol false (ph1 L R tol)).2)).1 at m1
  rw [e3] at m1
  exact m1
end Go.Proofs.Ytccgleiildgckaa
