/- Contract of from. Conditions: at most 1000 proposals. -/
import Derived.Test.YtccgleiildgckaaA6
namespace Go.Proofs.Ytccgleiildgckaa
open Go.RowKit
theorem Try.info88 : (Try.prog.info? 88).map (fun i => (i.zero, i.size, i.bytes)) = some (some (.agg #[.slice none 0 0, .slice none 0 0]), 2, 48) := by kernel_rfl
theorem Try.info39 : (Try.prog.info? 39).map (fun i => (i.zero, i.size, i.bytes)) = some (some (.agg #[.slice none 0 0, .slice none 0 0]), 2, 48) := by kernel_rfl

set_option maxRecDepth 20000 in
set_option maxHeartbeats 800000 in
theorem from_any (A : Option Addr) (n c : Nat) (zs : List Pv) (w : World) (hn : zs.length = n) (hl : n ≤ 1000) (h : Rd pvC 2 w.heap.size w A zs) :
    Calls Try.prog 14 #[.slice A n c] w fun e w' => ∃ A' c', e = .returned (.slice A' n c') ∧ w'.ownsRow w.heap.size 88 2 (.slice A' n c') n (zs.flatMap pvC) ∧ Below w.heap.size w w' := by
  have Hn := Lib.hid hn; clear hn
  obtain ⟨i0, hi, hz0, hz1, hz2⟩ := info_parts Try.info88
  go_enter Try.func14, Try.ntmps14
  go_wp2
  go_loopw [3, 8] (fun o i wr => ∃ k : Nat, k ≤ n ∧ i = .int .i64 k ∧ wr.ownsRow w.heap.size 88 2 o k ((zs.take k).flatMap pvC) ∧ Below w.heap.size w wr) (fun _ i _ => n - (intOf i).toNat)
  case atStart => exact ⟨0, by omega, rfl, World.ownsRow_nil _ _ _ _, Below.refl _ _⟩
  case round =>
    obtain ⟨k, hk, rfl, hO, hB⟩ := hrel
    by_cases hlt : k < n
    · have hk' : k < zs.length := by rw [Hn.out]; exact hlt
      obtain ⟨b, off, rfl, hb, h1, h2⟩ := rd_pv (h.below hB) hk'
      generalize hz : zs[k] = z at h1 h2
      have Hz := Lib.hid hz; clear hz
      have hsz := hB.size
      have Hs := flat_take_succ pvC hk'
      rw [Hz.out] at Hs
      have HS := Lib.hid Hs; clear Hs
      go_wp2_with (at_builtin; refine wpList_append_new rfl (.tmp 12) (.tmp 14) 30 rfl w.heap.size 88 i0 _ 2 48 Try.underlying30 hi hz0 hz1 hz2 rfl (by decide) _ k _ rfl (hO.alloc _) (wr.heap.size + 1) 1 1 rfl (by simp) (pvC z) rfl rfl (by simp [pvC, Value.oneCell']) (by omega) (by omega) (by simp; omega) ?_; intro A' c' w1 hO1 hg1 _)
      have hall := hB.grown ((World.grownBy_alloc wr _ _).trans hg1) hsz (fun j hj => (hO.lt j hj).1)
      go_roundw
      case rel => exact ⟨k + 1, by omega, by go_num, by rw [HS.out]; exact hO1, hall⟩
      case measure => simp [intOf]; omega
    · obtain rfl : k = n := by omega
      obtain ⟨A', c', rfl⟩ := own_form hO
      go_wp2
      go_ret
      exact ⟨A', c', rfl, by rw [List.take_of_length_le (by rw [Hn.out]; omega)] at hO; exact hO, hB⟩
end Go.Proofs.Ytccgleiildgckaa
