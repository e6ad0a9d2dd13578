/- Contracts of the closures that make a proposal, and of subsets. -/
import Derived.Test.YtccgleiildgckaaC2
import Derived.Test.YtccgleiildgckaaB8
namespace Go.Proofs.Ytccgleiildgckaa
open Go.RowKit

/-- What a closure makes of a reference and a list of references. -/
def mkPost (w : World) (x : Rf) (s : Sh) (flip : Bool) (e : Ending) (w' : World) : Prop :=
  ∃ g, e = .returned (if flip then .agg #[.slice s.A s.n s.c, .slice (some ⟨g, 0, none⟩) 1 1] else .agg #[.slice (some ⟨g, 0, none⟩) 1 1, .slice s.A s.n s.c]) ∧ Blk w' g 41 #[.int .i64 x.e, .int .i64 x.l] ∧ w.heap.size ≤ g ∧ g < w'.heap.size ∧ Below w.heap.size w w'

theorem mk28_any (x : Rf) (s : Sh) (w : World) : Calls Try.prog 28 #[rfV x, .slice s.A s.n s.c] w (mkPost w x s false) := by
  go_enter Try.func28, Try.ntmps28
  go_wp2
  refine bodyPost_ret (v := .agg #[.slice (some ⟨w.heap.size + 1 + 1, 0, none⟩) 1 1, .slice s.A s.n s.c]) ?_ rfl ?_
  · simp [results, loadVar, asAddr, go_sem]
  exact ⟨w.heap.size + 1 + 1, rfl, blk_new3 rfl, by omega, by simp, (((Below.refl _ _).alloc (Nat.le_refl _) _).alloc (by simp) _).alloc (by simp; omega) _⟩
theorem mk29_any (x : Rf) (s : Sh) (w : World) : Calls Try.prog 29 #[rfV x, .slice s.A s.n s.c] w (mkPost w x s true) := by
  go_enter Try.func29, Try.ntmps29
  go_wp2
  refine bodyPost_ret (v := .agg #[.slice s.A s.n s.c, .slice (some ⟨w.heap.size + 1 + 1, 0, none⟩) 1 1]) ?_ rfl ?_
  · simp [results, loadVar, asAddr, go_sem]
  exact ⟨w.heap.size + 1 + 1, rfl, blk_new3 rfl, by omega, by simp, (((Below.refl _ _).alloc (Nat.le_refl _) _).alloc (by simp) _).alloc (by simp; omega) _⟩
theorem sub42_any (k : Nat) (w : World) : Calls Try.prog 42 #[.int .i64 k] w fun e w' => e = .returned (.func (.func 50) #[] #[.pointer (some ⟨w.heap.size, 0, none⟩)]) ∧ w' = w.alloc (.cells #[.int .i64 k] 3) := by
  go_enter Try.func42, Try.ntmps42
  go_wp2
  go_ret
  exact ⟨rfl, rfl⟩
end Go.Proofs.Ytccgleiildgckaa
