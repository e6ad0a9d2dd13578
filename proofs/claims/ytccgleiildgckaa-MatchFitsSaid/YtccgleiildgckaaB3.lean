/- Contracts of math/bits at numbers below 4096: OnesCount, Reverse; and of the order of masks that the program sorts by. -/
import Derived.Test.YtccgleiildgckaaA0
import Derived.Lib.BitFns
namespace Go.Proofs.Ytccgleiildgckaa
open Go.RowKit

def pc1 (y : Int) : Int := IntKind.u64.wrap (bits .and .u64 (y / 2) 6148914691236517205 + bits .and .u64 y 6148914691236517205)
def pc2 (y : Int) : Int := IntKind.u64.wrap (bits .and .u64 (y / 4) 3689348814741910323 + bits .and .u64 y 3689348814741910323)
def pc3 (y : Int) : Int := bits .and .u64 (IntKind.u64.wrap (y / 16 + y)) 1085102592571150095
def pc4 (k y : Int) : Int := IntKind.u64.wrap (y + y / k)
def pcI (y : Int) : Int := bits .and .i64 (wrap64 (pc4 4294967296 (pc4 65536 (pc4 256 (pc3 (pc2 (pc1 y))))))) 127
def rvS (c k y : Int) : Int := bits .or .u64 (bits .and .u64 (y / k) c) (IntKind.u64.wrap (bits .and .u64 y c * k))
def rbI (y : Int) : Int :=
  let z := rvS 281470681808895 65536 (rvS 71777214294589695 256 y)
  bits .or .u64 (z / 4294967296) (IntKind.u64.wrap (z * 4294967296))
def rvI (y : Int) : Int := rbI (rvS 1085102592571150095 16 (rvS 3689348814741910323 4 (rvS 6148914691236517205 2 y)))
/-- The lowest n bits of a number, the other way round. -/
def revN : Nat → Nat → Nat
  | 0, _ => 0
  | n + 1, m => (m % 2) * 2 ^ n + revN n (m / 2)
def popN : Nat → Nat → Nat
  | 0, _ => 0
  | n + 1, m => m % 2 + popN n (m / 2)
theorem pc_all2 : ∀ a b : Fin 64, pcI ((64 * a.val + b.val : Nat) : Int) = (popN 12 (64 * a.val + b.val) : Int) := by decide +kernel
theorem pc_all (m : Nat) (hm : m < 4096) : pcI (m : Int) = (popN 12 m : Int) := by
  have := pc_all2 ⟨m / 64, by omega⟩ ⟨m % 64, by omega⟩
  simp only [Nat.div_add_mod] at this
  exact this
theorem rv_all2 : ∀ a b : Fin 64, rvI ((64 * a.val + b.val : Nat) : Int) = (revN 12 (64 * a.val + b.val) : Int) * 4503599627370496 := by decide +kernel
theorem rv_all (m : Nat) (hm : m < 4096) : rvI (m : Int) = (revN 12 m : Int) * 4503599627370496 := by
  have := rv_all2 ⟨m / 64, by omega⟩ ⟨m % 64, by omega⟩
  simp only [Nat.div_add_mod] at this
  exact this

theorem ones64_any (m : Nat) (w : World) (hm : m < 4096) : Calls Try.prog 59 #[.int .u64 m] w fun e w' => e = .returned (.int .i64 (popN 12 m)) ∧ w' = w := by
  have h := Lib.hid (pc_all m hm)
  go_enter Try.func59, Try.ntmps59
  go_wp2
  go_ret
  refine ⟨?_, rfl⟩
  rw [← h.out]
  rfl

theorem ones_any (m : Nat) (w : World) (hm : m < 4096) : Calls Try.prog 51 #[.int .u64 m] w fun e w' => e = .returned (.int .i64 (popN 12 m)) ∧ w' = w := by
  have c := ones64_any m w hm
  go_enter Try.func51, Try.ntmps51
  go_wp2_with fail
  refine c.mono ?_
  rintro e w1 ⟨rfl, rfl⟩
  go_wp2
  go_ret
  exact ⟨rfl, rfl⟩

theorem revb64_any (y : Int) (w : World) : Calls Try.prog 75 #[.int .u64 y] w fun e w' => e = .returned (.int .u64 (rbI y)) ∧ w' = w := by
  go_enter Try.func75, Try.ntmps75
  go_wp2
  go_ret
  exact ⟨rfl, rfl⟩

theorem rev64_any (y : Int) (w : World) : Calls Try.prog 63 #[.int .u64 y] w fun e w' => e = .returned (.int .u64 (rvI y)) ∧ w' = w := by
  go_enter Try.func63, Try.ntmps63
  go_wp2_with fail
  refine (revb64_any _ _).mono ?_
  rintro e w1 ⟨rfl, rfl⟩
  go_wp2
  go_ret
  exact ⟨rfl, rfl⟩

theorem rev_any (m : Nat) (w : World) (hm : m < 4096) : Calls Try.prog 54 #[.int .u64 m] w fun e w' => e = .returned (.int .u64 ((revN 12 m : Int) * 4503599627370496)) ∧ w' = w := by
  have h := Lib.hid (rv_all m hm)
  have c := rev64_any m w
  go_enter Try.func54, Try.ntmps54
  go_wp2_with fail
  refine c.mono ?_
  rintro e w1 ⟨rfl, rfl⟩
  go_wp2
  go_ret
  refine ⟨?_, rfl⟩
  rw [← h.out]
  rfl

/-- The order of masks. -/
def mCmp (a b : Nat) : Int := if revN 12 b < revN 12 a then -1 else if revN 12 a < revN 12 b then 1 else 0

theorem cmp_any (a b : Nat) (w : World) (ha : a < 4096) (hb : b < 4096) : Calls Try.prog 53 #[.int .u64 a, .int .u64 b] w fun e w' => e = .returned (.int .i64 (mCmp a b)) ∧ w' = w := by
  have c1 := rev_any a w ha
  have c2 := rev_any b w hb
  have hv : mCmp a b = if revN 12 b < revN 12 a then -1 else if revN 12 a < revN 12 b then 1 else 0 := rfl
  generalize mCmp a b = v at hv ⊢
  generalize revN 12 a = x at c1 hv
  generalize revN 12 b = y at c2 hv
  by_cases h1 : y < x
  · rw [if_pos h1] at hv
    subst hv
    go_enter Try.func53, Try.ntmps53
    go_wp2_with fail
    refine c1.mono ?_
    rintro e w1 ⟨rfl, rfl⟩
    go_wp2_with fail
    refine c2.mono ?_
    rintro e w1 ⟨rfl, rfl⟩
    clear c1 c2
    go_wp2
    go_ret
    exact ⟨rfl, rfl⟩
  · rw [if_neg h1] at hv
    by_cases h2 : x < y
    · rw [if_pos h2] at hv
      subst hv
      go_enter Try.func53, Try.ntmps53
      go_wp2_with fail
      refine c1.mono ?_
      rintro e w1 ⟨rfl, rfl⟩
      go_wp2_with fail
      refine c2.mono ?_
      rintro e w1 ⟨rfl, rfl⟩
      clear c1 c2
      go_wp2
      go_ret
      exact ⟨rfl, rfl⟩
    · rw [if_neg h2] at hv
      subst hv
      go_enter Try.func53, Try.ntmps53
      go_wp2_with fail
      refine c1.mono ?_
      rintro e w1 ⟨rfl, rfl⟩
      go_wp2_with fail
      refine c2.mono ?_
      rintro e w1 ⟨rfl, rfl⟩
      clear c1 c2
      go_wp2
      go_ret
      exact ⟨rfl, rfl⟩
end Go.Proofs.Ytccgleiildgckaa
