/- Contracts of the reference's functions choose and many. Conditions: at most 12 lines, and sums in range. -/
import Derived.Test.YtccgleiildgckaaA2
namespace Go.Proofs.Ytccgleiildgckaa
open Go.RowKit

/-- The first list of k places from i0 on whose amounts fit with a sum. -/
def ch (tol : Int) : List On → Nat → Nat → Int → Option (List Nat)
  | _, 0, _, sum => if absZ sum ≤ tol then some [] else none
  | [], _ + 1, _, _ => none
  | x :: l, k + 1, i, sum => match ch tol l k (i + 1) (sum + x.a) with
    | some r => some (i :: r)
    | none => ch tol l (k + 1) (i + 1) sum
theorem ch_zero (tol : Int) (l : List On) (i : Nat) (sum : Int) : ch tol l 0 i sum = if absZ sum ≤ tol then some [] else none := by cases l <;> rfl
def natV (n : Nat) : Value := .int .i64 n

theorem ch_drop (tol : Int) (zs : List On) (i k : Nat) (sum : Int) (hi : i < zs.length) : ch tol (zs.drop i) (k + 1) i sum = match ch tol (zs.drop (i + 1)) k (i + 1) (sum + zs[i].a) with
    | some r => some (i :: r)
    | none => ch tol (zs.drop (i + 1)) (k + 1) (i + 1) sum := by
  rw [List.drop_eq_getElem_cons hi]; rfl

theorem ch_len {tol : Int} : ∀ {l : List On} {k i : Nat} {sum : Int} {r : List Nat}, ch tol l k i sum = some r → r.length = k := by
  intro l
  induction l with
  | nil =>
    intro k i sum r h
    cases k with
    | zero => rw [ch_zero] at h; split at h <;> simp at h; subst h; rfl
    | succ k => simp [ch] at h
  | cons x l ih =>
    intro k i sum r h
    cases k with
    | zero => rw [ch_zero] at h; split at h <;> simp at h; subst h; rfl
    | succ k =>
      rw [ch] at h
      split at h
      · rename_i q hq
        simp at h; subst h
        simp [ih hq]
      · exact ih h

def chPost (w : World) (r : Option (List Nat)) (e : Ending) (w' : World) : Prop :=
  ∃ A m c, e = .returned (.tuple #[.slice A m c, .bool r.isSome]) ∧ m = (r.getD []).length ∧ w'.ownsRow w.heap.size 3 1 (.slice A m c) m ((r.getD []).map natV) ∧ Below w.heap.size w w'

set_option maxRecDepth 20000 in
set_option maxHeartbeats 800000 in
theorem choose_any (zs : List On) (A : Option Addr) (n c : Nat) (tol : Int) (hn : zs.length = n) (hl : n ≤ 1000) (hok : ∀ y ∈ zs, OnOk y) :
    ∀ (k : Nat) (i : Nat) (sum : Int) (fr kk : Int) (w : World), fr = i → kk = k → i ≤ n → k ≤ 100 → -(4000000000000000 - 1000000000000 * (k : Int)) ≤ sum → sum ≤ 4000000000000000 - 1000000000000 * (k : Int) → Rd onC 3 w.heap.size w A zs →
    Calls Try.prog 45 #[.slice A n c, .int .i64 fr, .int .i64 kk, .int .i64 sum, .int .i64 tol] w (chPost w (ch tol (zs.drop i) k i sum)) := by
  have Hn := Lib.hid hn; clear hn
  have Hok := Lib.hid hok; clear hok
  obtain ⟨i0, hi0, hz0, hz1, hz2⟩ := info_parts Try.info3
  intro k
  induction k with
  | zero =>
    intro i sum fr kk w rfl rfl hi hk hs1 hs2 h
    go_enter Try.func45, Try.ntmps45
    go_wp2_with (go_at_call 44; refine (rsize_any _ _ (by omega) (by omega)).mono ?_; rintro e w' ⟨rfl, rfl⟩)
    go_ret2
    refine ⟨none, 0, 0, ?_, ?_, ?_, Below.refl _ _⟩
    · rw [ch_zero]; by_cases ht : absZ sum ≤ tol <;> simp [ht]
    · rw [ch_zero]; by_cases ht : absZ sum ≤ tol <;> simp [ht]
    · rw [ch_zero]; by_cases ht : absZ sum ≤ tol <;> simp [ht] <;> exact World.ownsRow_nil _ _ _ _
  | succ k ih =>
    have IH := Lib.hid ih; clear ih
    intro i sum fr kk w rfl hkk hi hk hs1 hs2 h
    have hk0 : (kk == 0) = false := by rw [beq_eq_false_iff_ne]; omega
    have hk1 : 1 ≤ kk := by omega
    have hk2 : kk ≤ 100 := by omega
    have hs3 : -4000000000000000 ≤ sum := by omega
    have hs4 : sum ≤ 4000000000000000 := by omega
    have HS : Hid (-(4000000000000000 - 1000000000000 * ((k + 1 : Nat) : Int)) ≤ sum ∧ sum ≤ 4000000000000000 - 1000000000000 * ((k + 1 : Nat) : Int)) := ⟨hs1, hs2⟩
    have HK : Hid (kk = ((k + 1 : Nat) : Int)) := hkk
    clear hs1 hs2 hkk
    go_enter Try.func45, Try.ntmps45
    go_wp2
    go_loopw [12] (fun q wr => ∃ j : Nat, i ≤ j ∧ j ≤ n ∧ q = .int .i64 j ∧ Hid (ch tol (zs.drop i) (k + 1) i sum = ch tol (zs.drop j) (k + 1) j sum) ∧ Below w.heap.size w wr) (fun q _ => n - (intOf q).toNat)
    case atStart => exact ⟨i, Nat.le_refl _, hi, rfl, rfl, Below.refl _ _⟩
    case round =>
      obtain ⟨j, hij, hjn, rfl, HE, hB⟩ := hrel
      by_cases hlt : j < n
      · have hj' : j < zs.length := by rw [Hn.out]; exact hlt
        have hRd := h.below hB
        obtain ⟨b, off, rfl, hb, h1, h2, h3⟩ := rd_on hRd hj'
        have hsz := hB.size
        have hoz := Hok.out zs[j] (List.getElem_mem hj')
        have HD := Lib.hid (ch_drop tol zs j k sum hj')
        generalize zs[j] = z at h1 h2 h3 HD hoz
        obtain ⟨hy1, hy2⟩ := hoz
        have hsa : -4000000000000000 ≤ sum + z.a := by have := HS.out; omega
        have hsb : sum + z.a ≤ 4000000000000000 := by have := HS.out; omega
        go_wp2_with fail
        refine (IH.out (j + 1) (sum + z.a) _ _ wr (by omega) (by have := HK.out; omega) (by omega) (by omega) (by have := HS.out; omega) (by have := HS.out; omega) (hRd.mono hsz)).mono ?_
        rintro e w1 ⟨A1, m1, c1, rfl, hm1, hO1, hb1⟩
        have HM := Lib.hid hm1; clear hm1
        have HD' := HD.out
        cases hr : ch tol (zs.drop (j + 1)) k (j + 1) (sum + z.a) with
        | some r =>
          rw [hr] at HD' HM hO1
          have HD := Lib.hid HD'
          have HR := Lib.hid hr
          clear HD' hr
          have hm : m1 ≤ 100 := by have e1 := HM.out; rw [Option.getD_some] at e1; have := ch_len HR.out; omega
          have hsz1 := hb1.size
          have hl1 : (r.map natV).length = m1 * 1 := by have := HM.out; simp at this; simp [this]
          have h1c : ∀ u ∈ r.map natV, u.oneCell' = true := by intro u hu; obtain ⟨q, _, rfl⟩ := List.mem_map.1 hu; rfl
          have Hl1 := Lib.hid hl1; clear hl1
          have H1c := Lib.hid h1c; clear h1c
          go_wp2_with (at_builtin; refine wpList_append_src rfl (.tmp 47) (.tmp 48) 99 rfl w1.heap.size 3 i0 _ 1 8 Try.underlying99 hi0 hz0 hz1 hz2 rfl (by decide) (.slice (some ⟨w1.heap.size, 0, none⟩) 1 1) 1 [.int .i64 j] rfl (World.ownsRow_lit w1 #[.int .i64 j] 1 (Nat.le_refl _) (by decide) rfl) A1 m1 c1 (r.map natV) rfl Hl1.out (own_src (hO1.alloc _)) H1c.out (by omega) (by omega) (by simp) ?_; intro A2 c2 w2 hO2 hg2 _)
          have hbb : Below w1.heap.size w1 w2 := ((Below.refl _ w1).alloc (Nat.le_refl _) _).grown hg2 (by simp) (by simp [Value.ownBlock])
          have hBB := (hB.trans (hb1.mono hsz)).trans (hbb.mono (Nat.le_trans hsz hsz1))
          go_ret2
          refine ⟨A2, 1 + m1, c2, ?_, ?_, ?_, hBB⟩
          · rw [HE.out, HD.out]; rfl
          · rw [HE.out, HD.out]; have := HM.out; simp at this; simp [this]; omega
          · rw [HE.out, HD.out]; exact own_base hO2 (Nat.le_trans hsz hsz1)
        | none => 
          rw [hr] at HD'
          have HD := Lib.hid HD'; clear HD' hr
          have hBB := hB.trans (hb1.mono hsz)
          go_wp2
          go_roundw
          case rel => exact ⟨j + 1, by omega, by omega, by go_num, HE.out.trans HD.out, hBB⟩
          case measure => simp [intOf]; omega
      · obtain rfl : j = n := by omega
        have hnone : ch tol (zs.drop i) (k + 1) i sum = none := by rw [HE.out, List.drop_eq_nil_of_le (by rw [Hn.out]; omega)]; rfl
        have HN := Lib.hid hnone; clear hnone HE
        go_wp2
        go_ret2
        refine ⟨none, 0, 0, ?_, ?_, ?_, hB⟩
        · rw [HN.out]; rfl
        · rw [HN.out]; rfl
        · rw [HN.out]; exact World.ownsRow_nil _ _ _ _
end Go.Proofs.Ytccgleiildgckaa
