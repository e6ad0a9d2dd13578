/- What the program finds is what the reference finds. Conditions: the lines are valid. -/
import Derived.Test.YtccgleiildgckaaP1
namespace Go.Proofs.Ytccgleiildgckaa
open Go.RowKit

def gO (l : List On) (j : Nat) : On := l[j]?.getD ⟨⟨0, 0⟩, 0⟩
theorem gO_at {l : List On} {j : Nat} (h : j < l.length) : gO l j = l[j] := by simp [gO, h]
theorem amt_g (l : List On) (j : Nat) : amt l j = (gO l j).a := by unfold amt gO; cases l[j]? <;> rfl
theorem rfAt_g (l : List On) (j : Nat) : rfAt l j = (gO l j).r := by unfold rfAt gO; cases l[j]? <;> rfl
theorem list_g (l : List On) : l = (List.range l.length).map (gO l) := by
  apply List.ext_getElem
  · simp
  · intro i h1 h2; simp [gO_at h1]
theorem gO_map (cs : List Nat) (Y : List On) {b : Nat} (hb : b < cs.length) : gO (cs.map (gO Y)) b = gO Y (cs.getD b 0) := by
  rw [gO_at (by simpa using hb)]; simp [hb]

/-- The places of the other side that are free and of the other sign. -/
def idx (x : On) (Y : List On) (u : List Bool) (k : Nat) : List Nat := (List.range k).filter fun j => !(u.getD j true) && oppB x.a (amt Y j)
theorem idx_succ (x : On) (Y : List On) (u : List Bool) (k : Nat) : idx x Y u (k + 1) = if !(u.getD k true) && oppB x.a (amt Y k) then idx x Y u k ++ [k] else idx x Y u k := by
  unfold idx
  rw [List.range_succ, List.filter_append, List.filter_cons, List.filter_nil]
  split <;> simp
theorem opp_comm (a b : Int) : oppB a b = oppB b a := by unfold oppB; by_cases h : a < 0 <;> by_cases h' : b < 0 <;> simp [h, h']
theorem avail {x : On} {Y : List On} {u : List Bool} {used : List Rf} (hu : ∀ j, j < Y.length → u.getD j true = decide ((gO Y j).r ∈ used)) : againstL x (withoutL Y used) = (idx x Y u Y.length).map (gO Y) := by
  have h : againstL x (withoutL Y used) = Y.filter (fun y => oppB y.a x.a && !decide (y.r ∈ used)) := by
    unfold againstL withoutL; rw [List.filter_filter]
  rw [h]
  conv => lhs; rw [list_g Y]
  rw [List.filter_map]
  unfold idx
  congr 1
  apply List.filter_congr
  intro j hj
  have hj := List.mem_range.1 hj
  simp only [Function.comp_apply]
  rw [hu j hj, amt_g, opp_comm, Bool.and_comm]
theorem oneTo_app (x : On) (l : List On) (y : On) (tol : Int) : ∀ n, n ≤ l.length → oneTo x (l ++ [y]) tol n = oneTo x l tol n
  | 0, _ => rfl
  | n + 1, hn => by
    have h1 : amt (l ++ [y]) n = amt l n := by unfold amt; rw [List.getElem?_append_left (by omega)]
    simp only [oneTo]
    rw [oneTo_app x l y tol n (by omega), h1]
    cases hb : oneTo x l tol n with
    | none => rfl
    | some b =>
      have hlt := oneTo_lt hb
      have h2 : amt (l ++ [y]) b = amt l b := by unfold amt; rw [List.getElem?_append_left (by omega)]
      simp only [h2]
theorem bestTo_eq (x : On) (Y : List On) (u : List Bool) (tol : Int) : ∀ k, bestTo x Y u tol k = (oneTo x ((idx x Y u k).map (gO Y)) tol (idx x Y u k).length).map (fun b => (idx x Y u k).getD b 0)
  | 0 => rfl
  | k + 1 => by
    have ih := bestTo_eq x Y u tol k
    rw [idx_succ, bestTo, show okT x Y u tol k = ((!(u.getD k true) && oppB x.a (amt Y k)) && decide (absZ (x.a + amt Y k) ≤ tol)) from rfl]
    by_cases hc : (!(u.getD k true) && oppB x.a (amt Y k)) = true
    case neg =>
      have hc : (!(u.getD k true) && oppB x.a (amt Y k)) = false := by simpa using hc
      rw [hc]
      simpa using ih
    case pos =>
      rw [hc]
      simp only [Bool.true_and, if_true]
      generalize idx x Y u k = I at ih ⊢
      rw [List.map_append, List.map_cons, List.map_nil, List.length_append, List.length_cons, List.length_nil, oneTo, oneTo_app x _ _ tol _ (by simp)]
      have h1 : amt (I.map (gO Y) ++ [gO Y k]) I.length = amt Y k := by
        rw [amt_g, amt_g, gO_at (by simp)]; simp
      rw [h1, ih]
      cases hb : oneTo x (I.map (gO Y)) tol I.length with
      | none =>
        by_cases hd : absZ (x.a + amt Y k) ≤ tol
        · simp [hd]
        · simp [hd]
      | some b =>
        have hlt := oneTo_lt hb
        have h2 : amt (I.map (gO Y) ++ [gO Y k]) b = amt Y (I.getD b 0) := by
          rw [amt_g, amt_g]
          have : gO (I.map (gO Y) ++ [gO Y k]) b = gO (I.map (gO Y)) b := by unfold gO; rw [List.getElem?_append_left (by simpa using hlt)]
          rw [this, gO_map I Y hlt]
        simp only [h2, Option.map_some]
        have h3 : (I ++ [k]).getD b 0 = I.getD b 0 := by simp [List.getD, List.getElem?_append_left hlt]
        have h4 : (I ++ [k]).getD I.length 0 = k := by simp [List.getD]
        by_cases hd : absZ (x.a + amt Y k) ≤ tol
        · by_cases he : absZ (x.a + amt Y k) < absZ (x.a + amt Y (I.getD b 0))
          · simp only [hd, he, decide_true, if_true, and_self, Option.map_some, h4]
          · simp only [hd, he, decide_true, if_true, if_false, and_false, Option.map_some, h3]
        · simp only [hd, decide_false, if_false, false_and, Bool.false_eq_true, Option.map_some, h3]
theorem candT_eq (x : On) (Y : List On) (u : List Bool) : ∀ k, candT x Y u k = (idx x Y u k).take 12
  | 0 => rfl
  | k + 1 => by
    have ih := candT_eq x Y u k
    rw [idx_succ, candT, ih]
    by_cases hc : (!(u.getD k true) && oppB x.a (amt Y k)) = true
    case neg =>
      have hc : (!(u.getD k true) && oppB x.a (amt Y k)) = false := by simpa using hc
      rw [hc]
      simp
    case pos =>
      rw [hc]
      simp only [Bool.true_and, if_true]
      generalize idx x Y u k = I
      by_cases hl : I.length < 12
      · rw [if_pos (by simp; omega), List.take_of_length_le (by omega), List.take_of_length_le (by simp; omega)]
      · rw [if_neg (by simp; omega), List.take_append_of_le_length (by omega)]

/-! ### the sets -/
theorem ch_comb (tol : Int) : ∀ (l : List On) (k i : Nat) (sum : Int) (a : Nat → Int), (∀ j, j < l.length → (gO l j).a = a (i + j)) → ch tol l k i sum = (comb (List.range' i l.length) k).find? (fun ps => decide (absZ (sum + (ps.map a).sum) ≤ tol)) := by
  intro l
  induction l with
  | nil =>
    intro k i sum a _
    cases k with
    | zero => by_cases h : absZ sum ≤ tol <;> simp [ch_zero, comb_zero, h]
    | succ k => simp [ch, comb]
  | cons x l ih =>
    intro k i sum a ha
    cases k with
    | zero => by_cases h : absZ sum ≤ tol <;> simp [ch_zero, comb_zero, h]
    | succ k =>
      have hx : x.a = a i := by have := ha 0 (by simp); simpa [gO] using this
      have hl : ∀ j, j < l.length → (gO l j).a = a (i + 1 + j) := fun j hj => by
        have := ha (j + 1) (by simpa using hj)
        rw [show i + 1 + j = i + (j + 1) from by omega, ← this]; simp [gO]
      rw [List.length_cons, List.range'_succ, comb, List.find?_append, List.find?_map, ch, ih k (i + 1) (sum + x.a) a hl, ih (k + 1) (i + 1) sum a hl]
      have hf : ((fun ps : List Nat => decide (absZ (sum + (ps.map a).sum) ≤ tol)) ∘ (i :: ·)) = fun ps => decide (absZ (sum + x.a + (ps.map a).sum) ≤ tol) := by
        funext ps
        simp [hx, Int.add_assoc]
      rw [hf]
      cases (comb (List.range' (i + 1) l.length) k).find? (fun ps => decide (absZ (sum + x.a + (ps.map a).sum) ≤ tol)) <;> rfl
theorem firstK_flat {f : Nat → Option (List Nat)} {C : Nat → List (List Nat)} {p : List Nat → Bool} (h0 : ∀ k, k < 2 → f k = none) (h : ∀ k, 2 ≤ k → f k = (C k).find? p) : ∀ n, firstK f (n + 1) = ((List.range' 2 (n - 1)).flatMap C).find? p
  | 0 => by simp [firstK, h0]
  | 1 => by simp [firstK, h0]
  | n + 2 => by
    have ih := firstK_flat h0 h (n + 1)
    rw [firstK, ih]
    have hr : List.range' 2 (n + 2 - 1) = List.range' 2 (n + 1 - 1) ++ [n + 2] := by
      rw [show n + 2 - 1 = n + 1 - 1 + 1 from by omega, List.range'_concat]
      simp; omega
    rw [hr, List.flatMap_append, List.find?_append, h (n + 2) (by omega), List.flatMap_cons, List.flatMap_nil, List.append_nil]
    cases ((List.range' 2 (n + 1 - 1)).flatMap C).find? p <;> simp
theorem selT_pl (m : Mk) (cs : List Nat) : ∀ b, b ≤ cs.length → selT m cs b = ((List.range b).filter (inM m)).map (fun j => cs.getD j 0)
  | 0, _ => rfl
  | b + 1, hb => by
    have ih := selT_pl m cs b (by omega)
    rw [selT, List.getElem?_eq_getElem (by omega), List.range_succ, List.filter_append, List.filter_cons, List.filter_nil]
    simp only [ih]
    split
    · simp [List.getElem?_eq_getElem (show b < cs.length by omega)]
    · simp
theorem many_eq (x : On) (Y : List On) (u : List Bool) (used : List Rf) (tol : Int) (hu : ∀ j, j < Y.length → u.getD j true = decide ((gO Y j).r ∈ used)) :
    manyL x (againstL x (withoutL Y used)) tol = match (mAll (candT x Y u Y.length).length).find? (fitM x Y tol (candT x Y u Y.length)) with
      | none => []
      | some m => (selT m (candT x Y u Y.length) (candT x Y u Y.length).length).map (rfAt Y) := by
  have hc12 := candT_len x Y u Y.length
  unfold manyL
  rw [avail hu, ← List.map_take, ← candT_eq]
  generalize candT x Y u Y.length = cs at hc12 ⊢
  obtain ⟨l, hl⟩ : ∃ l, cs.map (gO Y) = l := ⟨_, rfl⟩
  have hlen : l.length = cs.length := by rw [← hl]; simp
  rw [hl]
  have hmf : ∀ k, 2 ≤ k → mf x l tol k = (comb (List.range cs.length) k).find? (fun ps => decide (absZ (x.a + (ps.map (amt l)).sum) ≤ tol)) := fun k hk => by
    rw [mf, if_neg (by omega), ch_comb tol l k 0 x.a (amt l) (fun j _ => by rw [amt_g, Nat.zero_add]), hlen, List.range_eq_range']
  have hfk := firstK_flat (f := mf x l tol) (C := comb (List.range cs.length)) (p := fun ps => decide (absZ (x.a + (ps.map (amt l)).sum) ≤ tol)) (fun k hk => by rw [mf, if_pos hk]) hmf cs.length
  rw [← mAll_comb hc12, List.find?_map] at hfk
  have hfit : ((fun ps : List Nat => decide (absZ (x.a + (ps.map (amt l)).sum) ≤ tol)) ∘ pl cs.length) = fitM x Y tol cs := by
    funext m
    simp only [Function.comp_apply]
    have : (pl cs.length m).map (amt l) = ((List.range cs.length).filter (inM m)).map (amt Y ∘ fun j => cs.getD j 0) := by
      unfold pl
      apply List.map_congr_left
      intro b hb
      have hb := List.mem_range.1 (List.mem_filter.1 hb).1
      simp only [Function.comp_apply]
      rw [amt_g, amt_g, ← hl, gO_map cs Y hb]
    have h2 : fitM x Y tol cs m = decide (absZ (x.a + (((List.range cs.length).filter (inM m)).map (amt Y ∘ fun j => cs.getD j 0)).sum) ≤ tol) := by
      unfold fitM sumT
      rw [selT_pl m cs _ (Nat.le_refl _), List.map_map]
    rw [h2]
    exact congrArg (fun s : List Int => decide (absZ (x.a + s.sum) ≤ tol)) this
  rw [hfit] at hfk
  rw [← hlen] at hfk
  cases hf : (mAll cs.length).find? (fitM x Y tol cs) with
  | none =>
    rw [hlen, hf] at hfk
    rw [manyT_none (by rw [hlen]; exact hfk)]
  | some m =>
    rw [hlen, hf] at hfk
    rw [manyT_some (by rw [hlen]; exact hfk)]
    simp only []
    rw [selT_pl m cs _ (Nat.le_refl _), List.map_map]
    unfold pl
    apply List.map_congr_left
    intro b hb
    have hb := List.mem_range.1 (List.mem_filter.1 hb).1
    simp only [Function.comp_apply]
    rw [rfAt_g, rfAt_g, ← hl, gO_map cs Y hb]
