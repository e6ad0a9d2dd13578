/- What holds of the program's proposals: every reference is used once, the lines of a proposal fit, and what is left does not fit. Conditions: the references differ. -/
import Derived.Test.YtccgleiildgckaaP3
namespace Go.Proofs.Ytccgleiildgckaa
open Go.RowKit

def refsP (p : Pr) : List Rf := p.x ++ p.y
def usedP (ps : List Pr) : List Rf := ps.flatMap refsP
theorem usedP_snoc (ps : List Pr) (p : Pr) : usedP (ps ++ [p]) = usedP ps ++ (p.x ++ p.y) := by simp [usedP, refsP]
/-- A proposal by the places of its lines. -/
structure PairIx (L R : List On) (tol : Int) (p : Pr) : Prop where
  ix : ∃ (il jl : List Nat) (sg : Bool), p.x = il.map (rfAt L) ∧ p.y = jl.map (rfAt R) ∧ (∀ i ∈ il, i < L.length ∧ decide ((gO L i).a < 0) = sg) ∧ (∀ j ∈ jl, j < R.length ∧ decide ((gO R j).a < 0) = !sg) ∧
    il ≠ [] ∧ jl ≠ [] ∧ (il.length = 1 ∨ jl.length = 1) ∧ absZ ((il.map (amt L)).sum + (jl.map (amt R)).sum) ≤ tol
theorem Use.congr {Y : List On} {u : List Bool} {used used' : List Rf} (h : Use Y u used) (he : ∀ r, r ∈ used ↔ r ∈ used') : Use Y u used' := ⟨h.1, fun j hj => by rw [h.2 j hj, Bool.eq_iff_iff]; simp [he]⟩
structure InvG (v : Fv) (g : Gs) : Prop where
  ps : ∀ p ∈ g.ps, PairIx v.f.L v.f.R v.f.tol p
  nd : (usedP g.ps).Nodup
  ux : Use v.X g.ux (usedP g.ps)
  uy : Use v.Y g.uy (usedP g.ps)
theorem opp_sg {a b : Int} (h : oppB a b = true) : decide (b < 0) = !decide (a < 0) := by
  unfold oppB at h
  by_cases h1 : a < 0 <;> by_cases h2 : b < 0 <;> simp [h1, h2] at h ⊢
theorem nd_new {X Y : List On} {ux uy : List Bool} {used : List Rf} (hD : Dist X Y) (hx : Use X ux used) (hy : Use Y uy used) (hn : used.Nodup) {i : Nat} (hi : i < X.length) (hui : ux.getD i true = false) {l : List Nat} (hl : ∀ j ∈ l, j < Y.length ∧ uy.getD j true = false) (hln : l.Nodup) : (used ++ (gO X i).r :: l.map (rfAt Y)).Nodup := by
  have hmap : (l.map (rfAt Y)).Nodup := by
    refine List.Pairwise.map _ (fun a b h => h) ?_
    refine List.Pairwise.imp_of_mem ?_ hln
    intro a b ha hb hne e
    rw [rfAt_g, rfAt_g] at e
    exact hne (hD.yy a b (hl a ha).1 (hl b hb).1 e)
  have h1 : (gO X i).r ∉ used := by
    have := hx.2 i hi
    rw [hui] at this
    simpa using this.symm
  have h2 : ∀ r ∈ l.map (rfAt Y), r ∉ used := by
    intro r hr hu
    obtain ⟨j, hj, rfl⟩ := List.mem_map.1 hr
    have := hy.2 j (hl j hj).1
    rw [(hl j hj).2, rfAt_g] at *
    simp [hu] at this
  rw [List.nodup_append]
  refine ⟨hn, ?_, ?_⟩
  · rw [List.nodup_cons]
    refine ⟨fun h => ?_, hmap⟩
    obtain ⟨j, hj, e⟩ := List.mem_map.1 h
    rw [rfAt_g] at e
    exact hD.xy i j hi (hl j hj).1 e.symm
  · intro a ha b hb e
    subst e
    rcases List.mem_cons.1 hb with rfl | hb
    · exact h1 ha
    · exact h2 a hb ha
theorem InvG.add {v : Fv} {g : Gs} (h : InvG v g) (hD : Dist v.X v.Y) {i : Nat} (hi : i < v.X.length) (hui : g.ux.getD i true = false) {l : List Nat} (hl : ∀ j ∈ l, j < v.Y.length ∧ g.uy.getD j true = false ∧ oppB (gO v.X i).a (amt v.Y j) = true) (hln : l.Nodup) (hne : l ≠ []) (hfit : absZ (sumT (gO v.X i) v.Y l) ≤ v.f.tol) :
    InvG v ⟨g.ux.set i true, setAll g.uy l, g.ps ++ [if v.fl then ⟨l.map (rfAt v.Y), [(gO v.X i).r]⟩ else ⟨[(gO v.X i).r], l.map (rfAt v.Y)⟩]⟩ := by
  have hn := nd_new hD h.ux h.uy h.nd hi hui (l := l) (fun j hj => ⟨(hl j hj).1, (hl j hj).2.1⟩) hln
  have hx := h.ux.own hD hi (l := l) (fun j hj => (hl j hj).1)
  have hy := h.uy.other hD hi (l := l) (fun j hj => (hl j hj).1)
  have hopp : ∀ j ∈ l, decide ((gO v.Y j).a < 0) = !decide ((gO v.X i).a < 0) := fun j hj => by
    have := opp_sg (hl j hj).2.2
    rwa [amt_g] at this
  obtain ⟨f, fl⟩ := v
  cases fl
  · refine ⟨fun p hp => ?_, ?_, ?_, ?_⟩
    · rcases List.mem_append.1 hp with hp | hp
      · exact h.ps p hp
      · simp at hp
        subst hp
        refine ⟨[i], l, decide ((gO f.L i).a < 0), by simp [rfAt_g, Fv.X], by simp [Fv.Y], ?_, fun j hj => ⟨(hl j hj).1, hopp j hj⟩, by simp, hne, .inl rfl, ?_⟩
        · intro j hj
          simp at hj
          subst hj
          exact ⟨hi, rfl⟩
        · simpa [sumT, amt_g, Fv.X, Fv.Y] using hfit
    · show (usedP (g.ps ++ [_])).Nodup
      rw [usedP_snoc]; exact hn
    · show Use _ _ (usedP (g.ps ++ [_]))
      rw [usedP_snoc]; exact hx
    · show Use _ _ (usedP (g.ps ++ [_]))
      rw [usedP_snoc]; exact hy
  · have hperm : (usedP g.ps ++ (gO f.R i).r :: l.map (rfAt f.L)).Perm (usedP g.ps ++ (l.map (rfAt f.L) ++ [(gO f.R i).r])) := by
      refine List.Perm.append_left _ ?_
      have := List.perm_append_comm (l₁ := [(gO f.R i).r]) (l₂ := l.map (rfAt f.L))
      simpa using this
    refine ⟨fun p hp => ?_, ?_, ?_, ?_⟩
    · rcases List.mem_append.1 hp with hp | hp
      · exact h.ps p hp
      · simp at hp
        subst hp
        refine ⟨l, [i], !decide ((gO f.R i).a < 0), by simp [Fv.Y], by simp [rfAt_g, Fv.X], fun j hj => ⟨(hl j hj).1, hopp j hj⟩, ?_, hne, by simp, .inr rfl, ?_⟩
        · intro j hj
          simp at hj
          subst hj
          exact ⟨hi, by simp⟩
        · have : absZ (amt f.R i + (l.map (amt f.L)).sum) ≤ f.tol := by simpa [sumT, amt_g, Fv.X, Fv.Y] using hfit
          simpa [Int.add_comm] using this
    · show (usedP (g.ps ++ [_])).Nodup
      rw [usedP_snoc]; exact hperm.nodup_iff.1 hn
    · show Use _ _ (usedP (g.ps ++ [_]))
      rw [usedP_snoc]; exact hx.congr (fun r => hperm.mem_iff)
    · show Use _ _ (usedP (g.ps ++ [_]))
      rw [usedP_snoc]; exact hy.congr (fun r => hperm.mem_iff)

/-! ### the steps -/
theorem bestTo_ok {x : On} {R : List On} {u : List Bool} {tol : Int} : ∀ {k b : Nat}, bestTo x R u tol k = some b → okT x R u tol b = true
  | 0, b, h => by simp [bestTo] at h
  | k + 1, b, h => by
    simp only [bestTo] at h
    split at h
    · rename_i hk
      split at h
      · simp at h; subst h; exact hk
      · rename_i b' hb'
        split at h
        · simp at h; subst h; exact hk
        · simp at h; subst h; exact bestTo_ok hb'
    · exact bestTo_ok h
theorem bestTo_no {x : On} {R : List On} {u : List Bool} {tol : Int} : ∀ {k : Nat}, bestTo x R u tol k = none → ∀ j, j < k → okT x R u tol j = false
  | 0, _, j, hj => by omega
  | k + 1, h, j, hj => by
    simp only [bestTo] at h
    split at h
    · split at h
      · simp at h
      · split at h <;> simp at h
    · rename_i hk
      by_cases e : j = k
      · subst e; simpa using hk
      · exact bestTo_no h j (by omega)
theorem selT_sub (m : Mk) (cs : List Nat) : ∀ b, b ≤ cs.length → (selT m cs b).Sublist (cs.take b)
  | 0, _ => by simp [selT]
  | b + 1, hb => by
    have ih := selT_sub m cs b (by omega)
    rw [selT_succ m cs (by omega), List.take_succ_eq_append_getElem (by omega)]
    split
    · exact ih.append (List.Sublist.refl _)
    · exact ih.trans (List.sublist_append_left _ _)
theorem cand_mem {x : On} {Y : List On} {u : List Bool} {k : Nat} {j : Nat} (h : j ∈ candT x Y u k) : j < k ∧ u.getD j true = false ∧ oppB x.a (amt Y j) = true := by
  rw [candT_eq] at h
  have h := List.mem_filter.1 (List.mem_of_mem_take h)
  simp only [Bool.and_eq_true, Bool.not_eq_true'] at h
  exact ⟨List.mem_range.1 h.1, h.2.1, h.2.2⟩
theorem cand_nd (x : On) (Y : List On) (u : List Bool) (k : Nat) : (candT x Y u k).Nodup := by
  rw [candT_eq]
  exact (List.nodup_range.filter _).sublist (List.take_sublist _ _)
/-- What many does with one line: nothing, or it takes places that fit. -/
theorem many_cases {v : Fv} {g : Gs} {i : Nat} (hi : i < v.X.length) : manySt v g i = g ∨
    (g.ux.getD i true = false ∧ ∃ l : List Nat, (∀ j ∈ l, j < v.Y.length ∧ g.uy.getD j true = false ∧ oppB (gO v.X i).a (amt v.Y j) = true) ∧ l.Nodup ∧ l ≠ [] ∧ absZ (sumT (gO v.X i) v.Y l) ≤ v.f.tol ∧
      manySt v g i = ⟨g.ux.set i true, setAll g.uy l, g.ps ++ [if v.fl then ⟨l.map (rfAt v.Y), [(gO v.X i).r]⟩ else ⟨[(gO v.X i).r], l.map (rfAt v.Y)⟩]⟩) := by
  have hX : v.X[i]? = some (gO v.X i) := by rw [gO_at hi]; exact List.getElem?_eq_getElem hi
  unfold manySt
  rw [hX]
  simp only []
  cases hu : g.ux.getD i true with
  | true => exact .inl (by simp)
  | false =>
    simp only [Bool.false_eq_true, if_false]
    have hmem := fun j => cand_mem (x := gO v.X i) (Y := v.Y) (u := g.uy) (k := v.Y.length) (j := j)
    have hnd := cand_nd (gO v.X i) v.Y g.uy v.Y.length
    have hc12 := candT_len (gO v.X i) v.Y g.uy v.Y.length
    generalize candT (gO v.X i) v.Y g.uy v.Y.length = cs at hmem hnd hc12 ⊢
    cases hf : (mAll cs.length).find? (fitM (gO v.X i) v.Y v.f.tol cs) with
    | none => exact .inl rfl
    | some m =>
      have hsub := selT_sub m cs cs.length (Nat.le_refl _)
      rw [List.take_of_length_le (Nat.le_refl _)] at hsub
      have hfit := List.find?_some hf
      unfold fitM at hfit
      have hne := sel_ne hc12 (List.mem_of_find?_eq_some hf)
      refine .inr ⟨trivial, selT m cs cs.length, fun j hj => hmem j (hsub.subset hj), hnd.sublist hsub, ?_, of_decide_eq_true hfit, rfl⟩
      intro e
      rw [selT_pl m cs _ (Nat.le_refl _)] at e
      exact hne (List.map_eq_nil_iff.1 e)
theorem manyAll_inv {v : Fv} {g : Gs} (h : InvG v g) (hD : Dist v.X v.Y) : ∀ k, k ≤ v.X.length → InvG v (manyAll v g k)
  | 0, _ => h
  | k + 1, hk => by
    have ih := manyAll_inv h hD k (by omega)
    rw [manyAll_succ]
    rcases many_cases (v := v) (g := manyAll v g k) (i := k) (by omega) with e | ⟨h1, l, h2, h3, h4, h5, e⟩
    · rw [e]; exact ih
    · rw [e]; exact ih.add hD (by omega) h1 h2 h3 h4 h5
/-- Step one, seen from the left side. -/
theorem one_cases {f : Fc} {s : Fs} {i : Nat} (hi : i < f.L.length) : (oneSt f s i = s ∧ ∀ j, j < f.R.length → okT (gO f.L i) f.R s.u2 f.tol j = false) ∨
    (∃ q, q < f.R.length ∧ okT (gO f.L i) f.R s.u2 f.tol q = true ∧ oneSt f s i = ⟨s.u1.set i true, s.u2.set q true, s.ps ++ [⟨[(gO f.L i).r], [rfAt f.R q]⟩]⟩) := by
  have hX : f.L[i]? = some (gO f.L i) := by rw [gO_at hi]; exact List.getElem?_eq_getElem hi
  unfold oneSt
  rw [hX]
  simp only []
  cases hb : bestTo (gO f.L i) f.R s.u2 f.tol f.R.length with
  | none => exact .inl ⟨rfl, bestTo_no hb⟩
  | some q => exact .inr ⟨q, bestTo_lt hb, bestTo_ok hb, rfl⟩
theorem okT_iff {x : On} {R : List On} {u : List Bool} {tol : Int} {k : Nat} : okT x R u tol k = true ↔ u.getD k true = false ∧ oppB x.a (amt R k) = true ∧ absZ (x.a + amt R k) ≤ tol := by
  unfold okT; simp [and_assoc]
theorem p1_inv {L R : List On} (tol : Int) (hD : Dist L R) : ∀ k, k ≤ L.length → InvG ⟨f0 L R tol, false⟩ (gsL (oneAll (f0 L R tol) (s0 L R) k)) ∧ (∀ j, k ≤ j → j < L.length → (oneAll (f0 L R tol) (s0 L R) k).u1.getD j true = false)
  | 0, _ => ⟨⟨fun p hp => by simp [gsL, oneAll, s0] at hp, by simp [gsL, oneAll, s0, usedP], Use.start L, Use.start R⟩, fun j _ hj => by simp [oneAll, s0, hj]⟩
  | k + 1, hk => by
    obtain ⟨ih, hu⟩ := p1_inv (tol := tol) hD k (by omega)
    rw [oneAll_succ]
    generalize oneAll (f0 L R tol) (s0 L R) k = s at ih hu ⊢
    rcases one_cases (f := f0 L R tol) (s := s) (i := k) (by show k < L.length; omega) with ⟨e, _⟩ | ⟨q, hq, hok, e⟩
    · rw [e]; exact ⟨ih, fun j h1 h2 => hu j (by omega) h2⟩
    · rw [e]
      obtain ⟨o1, o2, o3⟩ := okT_iff.1 hok
      refine ⟨ih.add hD (i := k) (by show k < L.length; omega) (hu k (Nat.le_refl _) (by omega)) (l := [q]) ?_ (by simp) (by simp) ?_, fun j h1 h2 => ?_⟩
      · intro j hj
        simp at hj
        subst hj
        exact ⟨hq, o1, o2⟩
      · have o3' : absZ ((gO L k).a + amt R q) ≤ tol := o3
        show absZ (sumT (gO L k) R [q]) ≤ tol
        simpa [sumT] using o3'
      · rw [← hu j (by omega) h2]
        simp only [List.getD, List.getElem?_set]
        rw [if_neg (by omega)]
theorem InvG.swap {L R : List On} {tol : Int} {g : Gs} (h : InvG ⟨f0 L R tol, false⟩ g) : InvG ⟨f0 L R tol, true⟩ (gsR g) := ⟨h.ps, h.nd, h.uy, h.ux⟩
theorem p3_inv {L R : List On} (tol : Int) (hD : Dist L R) : InvG ⟨f0 L R tol, true⟩ (p3 L R tol) :=
  manyAll_inv (manyAll_inv (p1_inv tol hD L.length (Nat.le_refl _)).1 hD L.length (Nat.le_refl _)).swap hD.flip R.length (Nat.le_refl _)

/-! ### what is left -/
def RestC (L R : List On) (tol : Int) (u1 u2 : List Bool) : Prop := ∀ i j, i < L.length → j < R.length → u1.getD i true = false → u2.getD j true = false → ¬ (oppB (gO L i).a (gO R j).a = true ∧ absZ ((gO L i).a + (gO R j).a) ≤ tol)
theorem set_false {u : List Bool} {k j : Nat} (h : (u.set k true).getD j true = false) : u.getD j true = false := by
  simp only [List.getD, List.getElem?_set] at h ⊢
  split at h
  · split at h <;> simp at h
  · exact h
theorem set_self (u : List Bool) (i : Nat) : (u.set i true).getD i true = true := by
  by_cases h : i < u.length <;> simp [h]
theorem setAll_false : ∀ (l : List Nat) {u : List Bool} {j : Nat}, (setAll u l).getD j true = false → u.getD j true = false
  | [], _, _, h => h
  | k :: l, u, _, h => set_false (setAll_false l (u := u.set k true) h)
theorem RestC.mono {L R : List On} {tol : Int} {u1 u2 v1 v2 : List Bool} (h : RestC L R tol u1 u2) (h1 : ∀ i, v1.getD i true = false → u1.getD i true = false) (h2 : ∀ i, v2.getD i true = false → u2.getD i true = false) : RestC L R tol v1 v2 :=
  fun i j hi hj a b => h i j hi hj (h1 i a) (h2 j b)
theorem p1_rest {L R : List On} (tol : Int) : ∀ k, k ≤ L.length → ∀ i j, i < k → j < R.length → (oneAll (f0 L R tol) (s0 L R) k).u1.getD i true = false → (oneAll (f0 L R tol) (s0 L R) k).u2.getD j true = false → ¬ (oppB (gO L i).a (gO R j).a = true ∧ absZ ((gO L i).a + (gO R j).a) ≤ tol)
  | 0, _, i, j, hi, _, _, _ => by omega
  | k + 1, hk, i, j, hi, hj, h1, h2 => by
    have ih := p1_rest (L := L) (R := R) tol k (by omega) i j
    rw [oneAll_succ] at h1 h2
    generalize oneAll (f0 L R tol) (s0 L R) k = s at ih h1 h2
    rcases one_cases (f := f0 L R tol) (s := s) (i := k) (by show k < L.length; omega) with ⟨e, hno⟩ | ⟨q, hq, hok, e⟩
    · rw [e] at h1 h2
      by_cases hik : i = k
      · subst hik
        have hn := hno j hj
        rintro ⟨a, b⟩
        have := okT_iff.2 ⟨h2, (by rw [amt_g]; exact a : oppB (gO L i).a (amt R j) = true), (by rw [amt_g]; exact b : absZ ((gO L i).a + amt R j) ≤ tol)⟩
        exact absurd (hn.symm.trans this) (by decide)
      · exact ih (by omega) hj h1 h2
    · rw [e] at h1 h2
      by_cases hik : i = k
      · subst hik
        exfalso
        have h1 : (s.u1.set i true).getD i true = false := h1
        rw [set_self] at h1
        cases h1
      · exact ih (by omega) hj (set_false h1) (set_false h2)
theorem many_mono {v : Fv} (g : Gs) : ∀ k, k ≤ v.X.length → (∀ i, (manyAll v g k).ux.getD i true = false → g.ux.getD i true = false) ∧ (∀ i, (manyAll v g k).uy.getD i true = false → g.uy.getD i true = false)
  | 0, _ => ⟨fun _ h => h, fun _ h => h⟩
  | k + 1, hk => by
    obtain ⟨h1, h2⟩ := many_mono (v := v) g k (by omega)
    rw [manyAll_succ]
    rcases many_cases (v := v) (g := manyAll v g k) (i := k) (by omega) with e | ⟨_, l, _, _, _, _, e⟩
    · rw [e]; exact ⟨h1, h2⟩
    · rw [e]; exact ⟨fun i h => h1 i (set_false h), fun i h => h2 i (setAll_false l h)⟩
theorem p3_rest (L R : List On) (tol : Int) : RestC L R tol (p3 L R tol).uy (p3 L R tol).ux := by
  have h1 : RestC L R tol (p1 L R tol).u1 (p1 L R tol).u2 := fun i j hi hj => p1_rest tol L.length (Nat.le_refl _) i j hi hj
  obtain ⟨a1, a2⟩ := many_mono (v := ⟨f0 L R tol, false⟩) (gsL (p1 L R tol)) L.length (Nat.le_refl _)
  obtain ⟨b1, b2⟩ := many_mono (v := ⟨f0 L R tol, true⟩) (gsR (p2 L R tol)) R.length (Nat.le_refl _)
  exact (h1.mono a1 a2).mono b2 b1
/-- Lines that are in no proposal do not fit. -/
theorem rest_law {L R : List On} (tol : Int) (hD : Dist L R) {i j : Nat} (hi : i < L.length) (hj : j < R.length) (h1 : (gO L i).r ∉ usedP (progOut L R tol)) (h2 : (gO R j).r ∉ usedP (progOut L R tol)) :
    ¬ (oppB (gO L i).a (gO R j).a = true ∧ absZ ((gO L i).a + (gO R j).a) ≤ tol) := by
  have hI := p3_inv tol hD
  refine p3_rest L R tol i j hi hj ?_ ?_
  · have := hI.uy.2 i hi
    exact this.trans (decide_eq_false h1)
  · have := hI.ux.2 j hj
    exact this.trans (decide_eq_false h2)
end Go.Proofs.Ytccgleiildgckaa
