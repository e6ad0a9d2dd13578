/- The masks in the program's order are the lists of places in lexicographic order, by their size. No conditions but at most 12 places. -/
import Derived.Test.YtccgleiildgckaaC4
namespace Go.Proofs.Ytccgleiildgckaa
open Go.RowKit Go.Sort

/-! ### lists of places -/
def lexi : List Nat → List (List Nat)
  | [] => [[]]
  | x :: l => (lexi l).map (x :: ·) ++ lexi l
/-- The lists of n places among l, in lexicographic order. -/
def comb : List Nat → Nat → List (List Nat)
  | _, 0 => [[]]
  | [], _ + 1 => []
  | x :: l, n + 1 => (comb l n).map (x :: ·) ++ comb l (n + 1)
theorem comb_zero (l : List Nat) : comb l 0 = [[]] := by cases l <;> rfl
theorem lexi_len (l : List Nat) : ∀ n, (lexi l).filter (fun ps => ps.length == n) = comb l n := by
  induction l with
  | nil => intro n; cases n <;> rfl
  | cons x l ih =>
    intro n
    rw [lexi, List.filter_append, List.filter_map]
    cases n with
    | zero =>
      rw [ih 0, comb_zero, comb_zero]
      have : (lexi l).filter ((fun ps : List Nat => ps.length == 0) ∘ (x :: ·)) = [] := by
        rw [List.filter_eq_nil_iff]; intro a _; simp
      rw [this]; rfl
    | succ n =>
      rw [ih (n + 1), comb, ← ih n]
      congr 2
      apply List.filter_congr
      intro a _
      simp
theorem lexi_filter (p : Nat → Bool) (l : List Nat) : (lexi l).filter (fun ps => ps.all p) = lexi (l.filter p) := by
  induction l with
  | nil => rfl
  | cons x l ih =>
    rw [lexi, List.filter_append, List.filter_map, ih, List.filter_cons]
    cases hp : p x with
    | true =>
      simp only [if_true]
      rw [lexi, ← ih]
      congr 2
      apply List.filter_congr
      intro a _
      simp [hp]
    | false =>
      have : (lexi l).filter ((fun ps : List Nat => ps.all p) ∘ (x :: ·)) = [] := by
        rw [List.filter_eq_nil_iff]; intro a _; simp [hp]
      rw [this]; rfl

/-! ### masks -/
def plN (m c : Nat) : List Nat := (List.range c).filter (fun b => m / 2 ^ b % 2 == 1)
/-- The places of a mask among the first c. -/
def pl (c : Nat) (m : Mk) : List Nat := (List.range c).filter (inM m)
theorem pl_plN (c : Nat) (m : Mk) : pl c m = plN m.val c := rfl
def dMs : List Nat := (List.range 4096).map (fun r => revN 12 (4095 - r))
set_option maxRecDepth 1000000 in
theorem dMs_lexi : dMs.map (fun m => plN m 12) = lexi (List.range 12) := by decide +kernel
theorem pop_pl2 : ∀ a b : Fin 64, popN 12 (64 * a.val + b.val) = (plN (64 * a.val + b.val) 12).length := by decide +kernel
theorem pop_pl {m : Nat} (hm : m < 4096) : popN 12 m = (plN m 12).length := by
  have := pop_pl2 ⟨m / 64, by omega⟩ ⟨m % 64, by omega⟩
  simp only [Nat.div_add_mod] at this
  exact this
theorem rev_lt2 : ∀ a b : Fin 64, revN 12 (64 * a.val + b.val) < 4096 := by decide +kernel
theorem rev_lt {m : Nat} (hm : m < 4096) : revN 12 m < 4096 := by
  have := rev_lt2 ⟨m / 64, by omega⟩ ⟨m % 64, by omega⟩
  simp only [Nat.div_add_mod] at this
  exact this
def dM : List Mk := (List.finRange 4096).map (fun r => ⟨revN 12 (4095 - r.val), rev_lt (by omega)⟩)
theorem dM_val : dM.map (fun m : Mk => m.val) = dMs := by
  unfold dM dMs
  rw [List.map_map]
  apply List.ext_getElem
  · simp
  · intro i h1 h2; simp
theorem dM_mem (m : Mk) : m ∈ dM := by
  unfold dM
  refine List.mem_map.2 ⟨⟨4095 - revN 12 m.val, by omega⟩, List.mem_finRange _, ?_⟩
  apply Fin.ext
  have h := rev_lt m.isLt
  show revN 12 (4095 - (4095 - revN 12 m.val)) = m.val
  rw [show 4095 - (4095 - revN 12 m.val) = revN 12 m.val from by omega, rev_inj m.isLt]
def mkLt (x y : Mk) : Prop := revN 12 y.val < revN 12 x.val
theorem dM_sorted : dM.Pairwise mkLt := by
  unfold dM
  rw [List.pairwise_map]
  refine List.Pairwise.imp_of_mem ?_ (List.pairwise_lt_finRange 4096)
  intro a b _ _ h
  unfold mkLt
  show revN 12 (revN 12 (4095 - b.val)) < revN 12 (revN 12 (4095 - a.val))
  rw [rev_inj (by omega), rev_inj (by omega)]
  have : a.val < b.val := h
  have := b.isLt
  omega
/-- Two lists in strict order with the same members are one. -/
theorem sorted_eq {α : Type} {lt : α → α → Prop} (hirr : ∀ x, ¬ lt x x) (htr : ∀ x y z, lt x y → lt y z → lt x z) : ∀ {l l' : List α}, l.Pairwise lt → l'.Pairwise lt → (∀ x, x ∈ l ↔ x ∈ l') → l = l'
  | [], [], _, _, _ => rfl
  | [], y :: l', _, _, h => by have := (h y).2 (by simp); simp at this
  | x :: l, [], _, _, h => by have := (h x).1 (by simp); simp at this
  | x :: l, y :: l', h1, h2, h => by
    rw [List.pairwise_cons] at h1 h2
    have hxy : x = y := by
      have hx := (h x).1 (by simp)
      have hy := (h y).2 (by simp)
      rcases List.mem_cons.1 hx with e | hx
      · exact e
      · rcases List.mem_cons.1 hy with e | hy
        · exact e.symm
        · exact absurd (htr _ _ _ (h1.1 y hy) (h2.1 x hx)) (hirr _)
    subst hxy
    congr 1
    refine sorted_eq hirr htr h1.2 h2.2 (fun z => ?_)
    constructor
    · intro hz
      rcases List.mem_cons.1 ((h z).1 (by simp [hz])) with e | e
      · subst e; exact absurd (h1.1 z hz) (hirr _)
      · exact e
    · intro hz
      rcases List.mem_cons.1 ((h z).2 (by simp [hz])) with e | e
      · subst e; exact absurd (h2.1 z hz) (hirr _)
      · exact e
theorem mL_mem {n q : Nat} (hq : q ≤ 4096) (m : Mk) : m ∈ mL n q ↔ m.val < q ∧ popN 12 m.val = n := by
  unfold mL
  rw [List.mem_filter]
  simp only [beq_iff_eq]
  constructor
  · rintro ⟨h1, h2⟩
    obtain ⟨i, hi, he⟩ := List.mem_take_iff_getElem.1 h1
    simp at hi he
    refine ⟨?_, h2⟩
    rw [← he]; simp; omega
  · rintro ⟨h1, h2⟩
    refine ⟨List.mem_take_iff_getElem.2 ⟨m.val, by simp; omega, ?_⟩, h2⟩
    simp
theorem mSort_sorted {l : List Mk} (hn : l.Nodup) : (mSort l).Pairwise mkLt := by
  have h1 : (mSort l).Pairwise (fun x y => (!(ltOf mkCmp) y x) = true) := by
    refine List.pairwise_mergeSort ?_ ?_ l
    · intro a b c h1 h2
      simp only [mk_lt, Bool.not_eq_true', decide_eq_false_iff_not] at *
      omega
    · intro a b
      simp only [mk_lt, Bool.or_eq_true, Bool.not_eq_true', decide_eq_false_iff_not]
      omega
  have h2 : (mSort l).Nodup := (List.mergeSort_perm l _).nodup_iff.2 hn
  refine (h1.and h2).imp ?_
  rintro a b ⟨h1, h2⟩
  unfold mkLt
  rw [mk_lt] at h1
  simp at h1
  rcases Nat.lt_or_ge (revN 12 b.val) (revN 12 a.val) with h | h
  · exact h
  · have h : revN 12 a.val = revN 12 b.val := by omega
    have := congrArg (revN 12) h
    rw [rev_inj a.isLt, rev_inj b.isLt] at this
    exact absurd (Fin.ext this) h2
theorem mSorted_eq {k : Nat} (n : Nat) (hk : k ≤ 12) : mSorted k n = dM.filter (fun m => decide (m.val < 2 ^ k) && popN 12 m.val == n) := by
  have hp : 2 ^ k ≤ 4096 := Nat.pow_le_pow_right (by decide) hk (n := 2)
  refine sorted_eq (lt := mkLt) (fun x h => by unfold mkLt at h; omega) (fun x y z h1 h2 => by unfold mkLt at *; omega) (mSort_sorted ?_) (dM_sorted.filter _) (fun m => ?_)
  · unfold mL
    exact ((List.nodup_finRange 4096).sublist (List.take_sublist _ _)).filter _
  · unfold mSorted mSort
    rw [(List.mergeSort_perm _ _).mem_iff, mL_mem hp, List.mem_filter]
    simp [dM_mem]
theorem mk_small (m : Mk) {k : Nat} (_hk : k ≤ 12) : decide (m.val < 2 ^ k) = (pl 12 m).all (fun b => decide (b < k)) := by
  rw [Bool.eq_iff_iff]
  simp only [decide_eq_true_eq, List.all_eq_true, pl, List.mem_filter, List.mem_range]
  have hbit : ∀ b, inM m b = m.val.testBit b := fun b => by
    rw [Nat.testBit_eq_decide_div_mod_eq]
    unfold inM
    rw [Bool.eq_iff_iff]; simp
  constructor
  · rintro h b ⟨_, hb⟩
    rw [hbit] at hb
    by_cases hbk : b < k
    · exact hbk
    · have : m.val < 2 ^ b := Nat.lt_of_lt_of_le h (Nat.pow_le_pow_right (by decide) (by omega))
      rw [Nat.testBit_lt_two_pow this] at hb; cases hb
  · intro h
    refine Nat.lt_pow_two_of_testBit _ (fun i hi => ?_)
    cases ht : m.val.testBit i with
    | false => rfl
    | true =>
      by_cases h12 : i < 12
      · have := h i ⟨h12, by rw [hbit, ht]⟩; omega
      · have : m.val < 2 ^ i := Nat.lt_of_lt_of_le m.isLt (show 4096 ≤ 2 ^ i from Nat.pow_le_pow_right (n := 2) (i := 12) (by decide) (by omega))
        rw [Nat.testBit_lt_two_pow this] at ht; cases ht
theorem range_filter {k c : Nat} (hk : k ≤ c) : (List.range c).filter (fun b => decide (b < k)) = List.range k := by
  obtain ⟨d, rfl⟩ := Nat.exists_eq_add_of_le hk
  rw [List.range_add, List.filter_append]
  have h1 : (List.range k).filter (fun b => decide (b < k)) = List.range k := by
    rw [List.filter_eq_self]; intro a ha; simpa using ha
  have h2 : ((List.range d).map (k + ·)).filter (fun b => decide (b < k)) = [] := by
    rw [List.filter_eq_nil_iff]; intro a ha; simp at ha ⊢; omega
  rw [h1, h2, List.append_nil]
theorem pl_small {m : Mk} {k : Nat} (hk : k ≤ 12) (h : m.val < 2 ^ k) : pl 12 m = pl k m := by
  have h1 := mk_small m hk
  rw [decide_eq_true h] at h1
  have h2 : pl 12 m = (pl 12 m).filter (fun b => decide (b < k)) := by
    symm; rw [List.filter_eq_self]; exact List.all_eq_true.1 h1.symm
  rw [h2]
  unfold pl
  rw [List.filter_filter, ← range_filter hk, List.filter_filter]
  apply List.filter_congr
  intro a _
  rw [Bool.and_comm]
theorem mSorted_comb {k : Nat} (n : Nat) (hk : k ≤ 12) : (mSorted k n).map (pl k) = comb (List.range k) n := by
  rw [mSorted_eq n hk]
  have h1 : (dM.filter (fun m => decide (m.val < 2 ^ k) && popN 12 m.val == n)).map (pl k) = (dM.filter (fun m => decide (m.val < 2 ^ k) && popN 12 m.val == n)).map (pl 12) := by
    apply List.map_congr_left
    intro m hm
    have := (List.mem_filter.1 hm).2
    simp only [Bool.and_eq_true, decide_eq_true_eq] at this
    exact (pl_small hk this.1).symm
  rw [h1]
  have h2 : dM.filter (fun m => decide (m.val < 2 ^ k) && popN 12 m.val == n) = dM.filter ((fun ps : List Nat => ps.length == n && ps.all (fun b => decide (b < k))) ∘ pl 12) := by
    apply List.filter_congr
    intro m _
    simp only [Function.comp_apply]
    rw [mk_small m hk, pop_pl m.isLt, pl_plN, Bool.and_comm]
  rw [h2, ← List.filter_map]
  have h3 : dM.map (pl 12) = lexi (List.range 12) := by
    rw [← dMs_lexi, ← dM_val, List.map_map]
    rfl
  rw [h3, ← List.filter_filter, lexi_filter, range_filter hk, lexi_len]
theorem mAll_comb {k : Nat} (hk : k ≤ 12) : (mAll k).map (pl k) = (List.range' 2 (k - 1)).flatMap (comb (List.range k)) := by
  unfold mAll
  rw [List.map_flatMap]
  congr 1
  funext n
  exact mSorted_comb n hk
end Go.Proofs.Ytccgleiildgckaa
