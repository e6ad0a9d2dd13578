/- Contracts of the small functions of both packages: sizes, signs, look-ups in lists of references and of open lines. Each returns what the plain function says, and leaves all that lay before as it was. -/
import Derived.Test.YtccgleiildgckaaA0
namespace Go.Proofs.Ytccgleiildgckaa
open Go.RowKit

/-- The absolute value, as a plain function. -/
def absZ (n : Int) : Int := if n < 0 then -n else n
theorem absZ_le {n t : Int} : absZ n ≤ t ↔ n ≤ t ∧ -n ≤ t := by unfold absZ; split <;> omega
theorem absZ_bd {n B : Int} (h1 : -B ≤ n) (h2 : n ≤ B) : 0 ≤ absZ n ∧ absZ n ≤ B := by unfold absZ; split <;> omega

set_option maxHeartbeats 400000 in
theorem size_any (n : Int) (w : World) (h1 : -4000000000000000 ≤ n) (h2 : n ≤ 4000000000000000) :
    Calls Try.prog 40 #[.int .i64 n] w fun e w' => e = .returned (.int .i64 (absZ n)) ∧ w = w' := by
  by_cases h : n < 0
  · have hb : n < -n := by omega
    go_enter Try.func40, Try.ntmps40
    go_wp2
    all_goals (go_ret; exact ⟨ret_int (by unfold absZ; split <;> omega), rfl⟩)
  · go_enter Try.func40, Try.ntmps40
    go_wp2
    all_goals (go_ret; exact ⟨ret_int (by unfold absZ; split <;> omega), rfl⟩)

set_option maxHeartbeats 400000 in
theorem rsize_any (n : Int) (w : World) (h1 : -4000000000000000 ≤ n) (h2 : n ≤ 4000000000000000) :
    Calls Try.prog 44 #[.int .i64 n] w fun e w' => e = .returned (.int .i64 (absZ n)) ∧ w = w' := by
  go_enter Try.func44, Try.ntmps44
  go_wp2
  all_goals (go_ret; exact ⟨ret_int (by unfold absZ; split <;> omega), rfl⟩)

/-- Two amounts have different signs. -/
def oppB (a b : Int) : Bool := decide (a < 0) != decide (b < 0)
theorem oppB_iff {a b : Int} : oppB a b = true ↔ ¬ (a < 0 ↔ b < 0) := by unfold oppB; by_cases h : a < 0 <;> by_cases h' : b < 0 <;> simp [h, h']

set_option maxHeartbeats 400000 in
theorem opposite_any (a b : Int) (w : World) :
    Calls Try.prog 41 #[.int .i64 a, .int .i64 b] w fun e w' => e = .returned (.bool (oppB a b)) ∧ w = w' := by
  go_enter Try.func41, Try.ntmps41
  go_wp2
  all_goals (go_ret; exact ⟨rfl, rfl⟩)

/-- An amount is in range. -/
def amtB (n : Int) : Bool := decide (-1000000000000 ≤ n) && decide (n ≤ 1000000000000)
theorem amtB_iff {n : Int} : amtB n = true ↔ -1000000000000 ≤ n ∧ n ≤ 1000000000000 := by simp [amtB]

set_option maxHeartbeats 400000 in
theorem amount8_any (n : Int) (w : World) :
    Calls Try.prog 43 #[.int .i64 n] w fun e w' => e = .returned (.bool (amtB n)) ∧ w = w' := by
  by_cases h : -1000000000000 ≤ n
  · go_enter Try.func43, Try.ntmps43
    go_wp2
    all_goals (go_ret; exact ⟨ret_bool (by simp [amtB, h]), rfl⟩)
  · have e : amtB n = false := by rw [Bool.eq_false_iff]; intro h3; exact h (amtB_iff.1 h3).1
    have E := Lib.hid e; clear e
    have h' : n < -1000000000000 := by omega
    go_enter Try.func43, Try.ntmps43
    go_wp2
    all_goals (go_ret; exact ⟨ret_bool E.out.symm, rfl⟩)

set_option maxHeartbeats 400000 in
theorem in_any (A : Option Addr) (n c : Nat) (zs : List Rf) (r : Rf) (w : World) (hn : zs.length = n) (hl : n ≤ maxLen) (h : Rd rfC 2 w.heap.size w A zs) :
    Calls Try.prog 16 #[.slice A n c, rfV r] w fun e w' => e = .returned (.bool (decide (r ∈ zs))) ∧ Below w.heap.size w w' := by
  have Hn := Lib.hid hn; clear hn
  unfold maxLen at hl
  go_enter Try.func16, Try.ntmps16
  go_wp2
  go_loopw [5] (fun i wr => ∃ k : Nat, k ≤ n ∧ i = .int .i64 k ∧ r ∉ zs.take k ∧ Below w.heap.size w wr ∧ Blk wr w.heap.size 41 #[.int .i64 r.e, .int .i64 r.l]) (fun i _ => n - (intOf i).toNat)
  case atStart => exact ⟨0, by omega, rfl, by simp, (Below.refl _ _).alloc (Nat.le_refl _) _, Blk.new _ _ _⟩
  case round =>
    obtain ⟨k, hk, rfl, hno, hB, hX⟩ := hrel
    have x1 := hX.cell 0
    have x2 := hX.cell 1
    by_cases hlt : k < n
    · have hk' : k < zs.length := by rw [Hn.out]; exact hlt
      obtain ⟨b, off, rfl, hb, h1, h2⟩ := rd_rf (h.below hB) hk'
      generalize hz : zs[k] = z at h1 h2
      have Hz := Lib.hid hz; clear hz
      go_wp2
      go_quiet (fail)
      go_wp2
      · have ht : rfEq z r = true := by assumption
        go_ret
        exact ⟨ret_bool (by rw [rfEq_true, ← Hz.out] at ht; subst ht; simp), below_drewNs hB _⟩
      · have ht : rfEq z r = false := by assumption
        go_roundw
        case rel => exact ⟨k + 1, by omega, by go_num, mem_take_succ hk' hno (by rw [Hz.out]; exact rfEq_false.1 ht), below_drewNs hB _, hX⟩
        case measure => simp [intOf]; omega
    · go_wp2
      go_ret
      exact ⟨ret_bool (by rw [List.take_of_length_le (by rw [Hn.out]; omega)] at hno; simp [hno]), hB⟩

/-- The amount of the first line with a reference, or 0. -/
def amountOf : List On → Rf → Int
  | [], _ => 0
  | x :: l, r => if x.r = r then x.a else amountOf l r
theorem amountOf_hit {zs : List On} {r : Rf} {k : Nat} (hk : k < zs.length) (hno : ∀ x ∈ zs.take k, x.r ≠ r) (h : zs[k].r = r) : amountOf zs r = zs[k].a := by
  induction zs generalizing k with
  | nil => simp at hk
  | cons x l ih =>
    cases k with
    | zero => simp at h; simp [amountOf, h]
    | succ k =>
      have hx : x.r ≠ r := hno x (by simp)
      simp only [amountOf, if_neg hx, List.getElem_cons_succ]
      exact ih (by simpa using hk) (fun y hy => hno y (by simp [hy])) (by simpa using h)
theorem amountOf_miss {zs : List On} {r : Rf} (hno : ∀ x ∈ zs, x.r ≠ r) : amountOf zs r = 0 := by
  induction zs with
  | nil => rfl
  | cons x l ih => rw [amountOf, if_neg (hno x (by simp))]; exact ih fun y hy => hno y (by simp [hy])
theorem all_take_succ {α : Type} {p : α → Prop} {zs : List α} {k : Nat} (hk : k < zs.length) (h : ∀ x ∈ zs.take k, p x) (hp : p zs[k]) : ∀ x ∈ zs.take (k + 1), p x := by
  rw [List.take_succ_eq_append_getElem hk]
  intro x hx
  rcases List.mem_append.1 hx with hx | hx
  · exact h x hx
  · simp at hx; subst hx; exact hp

set_option maxHeartbeats 400000 in
theorem amount_any (A : Option Addr) (n c : Nat) (zs : List On) (r : Rf) (w : World) (hn : zs.length = n) (hl : n ≤ maxLen) (h : Rd onC 3 w.heap.size w A zs) :
    Calls Try.prog 15 #[.slice A n c, rfV r] w fun e w' => e = .returned (.int .i64 (amountOf zs r)) ∧ Below w.heap.size w w' := by
  have Hn := Lib.hid hn; clear hn
  unfold maxLen at hl
  go_enter Try.func15, Try.ntmps15
  go_wp2
  go_loopw [5] (fun i wr => ∃ k : Nat, k ≤ n ∧ i = .int .i64 k ∧ Hid (∀ x ∈ zs.take k, x.r ≠ r) ∧ Below w.heap.size w wr ∧ Blk wr w.heap.size 41 #[.int .i64 r.e, .int .i64 r.l]) (fun i _ => n - (intOf i).toNat)
  case atStart => exact ⟨0, by omega, rfl, by simp [Hid], (Below.refl _ _).alloc (Nat.le_refl _) _, Blk.new _ _ _⟩
  case round =>
    obtain ⟨k, hk, rfl, hno, hB, hX⟩ := hrel
    have x1 := hX.cell 0
    have x2 := hX.cell 1
    by_cases hlt : k < n
    · have hk' : k < zs.length := by rw [Hn.out]; exact hlt
      obtain ⟨b, off, rfl, hb, h1, h2, h3⟩ := rd_on (h.below hB) hk'
      generalize hz : zs[k] = z at h1 h2 h3
      have Hz := Lib.hid hz; clear hz
      go_wp2
      go_quiet (fail)
      go_wp2
      · have ht : rfEq z.r r = true := by assumption
        go_ret
        exact ⟨ret_int (by rw [rfEq_true, ← Hz.out] at ht; rw [amountOf_hit hk' hno.out ht, Hz.out]), below_drewNs hB _⟩
      · have ht : rfEq z.r r = false := by assumption
        go_roundw
        case rel => exact ⟨k + 1, by omega, by go_num, all_take_succ hk' hno.out (by rw [Hz.out]; exact rfEq_false.1 ht), below_drewNs hB _, hX⟩
        case measure => simp [intOf]; omega
    · go_wp2
      go_ret
      exact ⟨ret_int (by have h := hno.out; rw [List.take_of_length_le (by rw [Hn.out]; omega)] at h; rw [amountOf_miss h]), hB⟩

set_option maxHeartbeats 400000 in
theorem sameRefs_q (A A' : Option Addr) (n c n' c' : Nat) (zs ys : List Rf) (w : World) (hn : zs.length = n) (hn' : ys.length = n') (hl : n ≤ maxLen) (h : Rd rfC 2 w.heap.size w A zs) (h' : Rd rfC 2 w.heap.size w A' ys) :
    Calls Try.prog 35 #[.slice A n c, .slice A' n' c'] w fun e w' => e = .returned (.bool (decide (zs = ys))) ∧ ∃ q, w' = w.drewN q := by
  have Hn := Lib.hid hn; clear hn
  have Hn' := Lib.hid hn'; clear hn'
  unfold maxLen at hl
  by_cases hne : n = n'
  · subst hne
    go_enter Try.func35, Try.ntmps35
    go_wp2
    go_loopw [5] (fun i wr => ∃ k : Nat, k ≤ n ∧ i = .int .i64 k ∧ Hid (zs.take k = ys.take k) ∧ ∃ q, wr = w.drewN q) (fun i _ => n - (intOf i).toNat)
    case atStart => exact ⟨0, by omega, rfl, by simp [Hid], 0, rfl⟩
    case round =>
      obtain ⟨k, hk, rfl, hno, q, rfl⟩ := hrel
      by_cases hlt : k < n
      · have hk' : k < zs.length := by rw [Hn.out]; exact hlt
        have hk2 : k < ys.length := by rw [Hn'.out]; exact hlt
        obtain ⟨b, off, rfl, hb, h1, h2⟩ := rd_rf h hk'
        obtain ⟨b', off', rfl, hb', h1', h2'⟩ := rd_rf h' hk2
        generalize hz : zs[k] = z at h1 h2
        have Hz := Lib.hid hz; clear hz
        generalize hz : ys[k] = y at h1' h2'
        have Hy := Lib.hid hz; clear hz
        go_wp2
        go_quiet (fail)
        go_wp2
        · have ht0 : (!rfEq z y) = true := by assumption
          have ht : rfEq z y = false := by simpa using ht0
          clear ht0
          go_ret
          exact ⟨ret_bool (by rw [rfEq_false, ← Hz.out, ← Hy.out] at ht; symm; rw [decide_eq_false_iff_not]; rintro rfl; exact ht rfl), drew_two _ _ _⟩
        · have ht0 : (!rfEq z y) = false := by assumption
          have ht : rfEq z y = true := by simpa using ht0
          clear ht0
          go_roundw
          case rel => exact ⟨k + 1, by omega, by go_num, by show _ = _; rw [List.take_succ_eq_append_getElem hk', List.take_succ_eq_append_getElem hk2, hno.out, Hz.out, Hy.out, rfEq_true.1 ht], _, rfl⟩
          case measure => simp [intOf]; omega
      · go_wp2
        go_ret
        exact ⟨ret_bool (by have h := hno.out; rw [List.take_of_length_le (by rw [Hn.out]; omega), List.take_of_length_le (by rw [Hn'.out]; omega)] at h; simp [h]), q, rfl⟩
  · have hb : ((n : Int) != (n' : Int)) = true := by rw [bne_iff_ne]; omega
    go_enter Try.func35, Try.ntmps35
    go_wp2
    go_ret
    exact ⟨ret_bool (by symm; rw [decide_eq_false_iff_not]; rintro rfl; rw [Hn.out] at Hn'; exact hne Hn'.out), 0, rfl⟩

theorem sameRefs_any (A A' : Option Addr) (n c n' c' : Nat) (zs ys : List Rf) (w : World) (hn : zs.length = n) (hn' : ys.length = n') (hl : n ≤ maxLen) (h : Rd rfC 2 w.heap.size w A zs) (h' : Rd rfC 2 w.heap.size w A' ys) :
    Calls Try.prog 35 #[.slice A n c, .slice A' n' c'] w fun e w' => e = .returned (.bool (decide (zs = ys))) ∧ Below w.heap.size w w' :=
  (sameRefs_q A A' n c n' c' zs ys w hn hn' hl h h').mono fun _ _ ⟨h1, _, h2⟩ => ⟨h1, h2 ▸ below_drewNs (Below.refl _ _) _⟩

set_option maxRecDepth 20000 in
set_option maxHeartbeats 400000 in
theorem to_any (A : Option Addr) (n c : Nat) (zs : List On) (w : World) (hn : zs.length = n) (hl : n ≤ 1000) (h : Rd onC 3 w.heap.size w A zs) :
    Calls Try.prog 11 #[.slice A n c] w fun e w' => ∃ A' c', e = .returned (.slice A' n c') ∧ w'.ownsRow w.heap.size 48 3 (.slice A' n c') n (zs.flatMap onC) ∧ Below w.heap.size w w' := by
  have Hn := Lib.hid hn; clear hn
  obtain ⟨i0, hi, hz0, hz1, hz2⟩ := info_parts Try.info48
  go_enter Try.func11, Try.ntmps11
  go_wp2
  go_loopw [3, 8] (fun o i wr => ∃ k : Nat, k ≤ n ∧ i = .int .i64 k ∧ wr.ownsRow w.heap.size 48 3 o k ((zs.take k).flatMap onC) ∧ Below w.heap.size w wr) (fun _ i _ => n - (intOf i).toNat)
  case atStart => exact ⟨0, by omega, rfl, World.ownsRow_nil _ _ _ _, Below.refl _ _⟩
  case round =>
    obtain ⟨k, hk, rfl, hO, hB⟩ := hrel
    by_cases hlt : k < n
    · have hk' : k < zs.length := by rw [Hn.out]; exact hlt
      obtain ⟨b, off, rfl, hb, h1, h2, h3⟩ := rd_on (h.below hB) hk'
      generalize hz : zs[k] = z at h1 h2 h3
      have Hz := Lib.hid hz; clear hz
      have hsz := hB.size
      have Hs := flat_take_succ onC hk'
      rw [Hz.out] at Hs
      have HS := Lib.hid Hs; clear Hs
      go_wp2_with (at_builtin; refine wpList_append_new rfl (.tmp 12) (.tmp 14) 28 rfl w.heap.size 48 i0 _ 3 24 Try.underlying28 hi hz0 hz1 hz2 rfl (by decide) _ k _ rfl (hO.alloc _) (wr.heap.size + 1) 1 1 rfl (by simp) (onC z) rfl rfl (by simp [onC, Value.oneCell']) (by omega) (by omega) (by simp; omega) ?_; intro A' c' w1 hO1 hg1 _)
      have hall := hB.grown ((World.grownBy_alloc wr _ _).trans hg1) hsz (fun j hj => (hO.lt j hj).1)
      go_roundw
      case rel => exact ⟨k + 1, by omega, by go_num, by rw [HS.out]; exact hO1, hall⟩
      case measure => simp [intOf]; omega
    · obtain rfl : k = n := by omega
      obtain ⟨A', c', rfl⟩ := own_form hO
      go_wp2
      go_ret
      exact ⟨A', c', rfl, by rw [List.take_of_length_le (by rw [Hn.out]; omega)] at hO; exact hO, hB⟩
end Go.Proofs.Ytccgleiildgckaa
