/- From the plain laws of operations to those inside a round of a range over a function. Conditions: no operation is a defer statement. -/
import Derived.Test.YtccgleiildgckaaA0
import Derived.RangeFuncNested
import Derived.RangeFuncBound
import Derived.RangeFuncCalls
import Derived.RangeFuncLeaves
import Derived.Shelf.Abstract
import Derived.Shelf.RegionOpen
import Derived.OwnWalkIn
import Derived.TacticsInMore
import Derived.LoopNIn
import Derived.LoopIn
namespace Go.Rf
open Go.RowKit

/-- A fence that lets every function in, at whatever depth. -/
structure Free (F : Fence) : Prop where
  fn : ∀ f, F.fn f
  depth : F.depth = none
  calls : ∀ {n : Nat} {P : Program} {f : FuncId} {args : Array Value} {w : World} {R : Ending → World → Prop}, Calls P f args w R → CallsIn F n P f args w R
  rows : ∀ {n : Nat} {P : Program} {row : String} {args : Array Value} {w : World} {R : Value → World → Prop}, Rows P row args w R → RowsIn F n P row args w R

theorem Free.dep {F : Fence} (O : Free F) {n : Nat} : F.depth.isSome = true → 1 ≤ n := by rw [O.depth]; intro h; cases h

theorem free_wide : Free Fence.wide where
  fn _ := trivial
  depth := rfl
  calls h := callsIn_wide.2 h
  rows h := fun c cs _ => let ⟨v, w', r, s⟩ := h c cs; ⟨v, w', r, stepsIn_wide.2 s⟩
theorem free_round (l : Nat) : Free (Fence.wide.inRound l) where
  fn _ := trivial
  depth := rfl
  calls h := (callsIn_wide.2 h).inRound l
  rows h := free_wide.rows h

variable {F : Fence} {n : Nat} {P : Program} {ops : Array Oper} {Q : Exit → Act → World → Prop}

theorem lift_op (O : Free F) {o : Oper} {a : Act} {w : World} {K : Act → World → Prop} (hd : ∀ c, o.op ≠ .defer c) (h : o.wp P a w K Q) : o.wpIn F n P a w K Q := by
  refine ⟨fun f _ => O.fn f, ?_⟩
  rw [Oper.semAt_eq _ _ _ hd]
  unfold Oper.wp at h
  generalize (execOp a.eval o).run P w = r at h ⊢
  have hdep : F.depth.isSome = true → 1 ≤ n := by rw [O.depth]; intro h; cases h
  cases r with
  | ok x w' =>
    cases x <;> simp only [Oper.upon, Oper.uponIn] at h ⊢ <;> first | exact h | exact ⟨hdep, O.calls h⟩ | exact ⟨hdep, O.rows h⟩ | exact h.elim
  | halt x w' => cases x <;> simp only [Oper.upon, Oper.uponIn] at h ⊢ <;> exact h

def noDefer (o : Oper) : Bool := match o.op with | .defer _ => false | _ => true
theorem noDefer_spec {o : Oper} (h : noDefer o = true) : ∀ c, o.op ≠ .defer c := fun c e => by simp [noDefer, e] at h

theorem lift_wpOp (O : Free F) (hQ : ¬ LetsOut Q) (hd : ops.all noDefer = true) {i : Nat} {a : Act} {w : World} {K K' : Act → World → Prop} (hK : ∀ a w, K a w → K' a w) (h : wpOp P ops Q i K a w) : wpOpIn F n P ops Q i K' a w := by
  unfold wpOp at h
  unfold wpOpIn
  cases ho : ops[i]? with
  | none => rw [ho] at h; exact hK _ _ h
  | some o =>
    rw [ho] at h
    have hno : noDefer o = true := by
      have h1 := Array.all_eq_true_iff_forall_mem.1 hd
      exact h1 o (Array.mem_of_getElem? ho)
    simp only at h ⊢
    split
    · rename_i hw
      rw [if_pos hw] at h
      rcases h with h | ⟨_, h⟩
      · exact Oper.wpIn_mono hK (lift_op O (noDefer_spec hno) h)
      · exact absurd h hQ
    · rename_i hw
      rw [if_neg hw] at h
      exact ⟨fun f _ => O.fn f, hK _ _ h⟩

theorem lift_any (O : Free F) (hQ : ¬ LetsOut Q) (hd : ops.all noDefer = true) {md : Region.Mode} : ∀ (fuel : Nat) (listed : Array Bool) (a : Act) (w : World), wpAny P md ops Q fuel listed a w → wpAnyIn F n P md ops Q fuel listed a w
  | 0, _, _, _, h => h
  | fuel + 1, _, _, _, h => ⟨h.1, fun i hi => lift_wpOp O hQ hd (fun a' w' h' => lift_any O hQ hd fuel _ a' w' h') (h.2 i hi)⟩

/-- A region that draws its order, in a round: by the plain laws on its operations. -/
theorem lift_region (O : Free F) (hm : P.follows .mixedOrders = true) (hQ : ¬ LetsOut Q) (hd : ops.all noDefer = true) {id : Nat} {a : Act} {w : World}
    (h : wpAny P .any ops Q ops.size (Array.replicate ops.size false) a w.drew) : (Code.region id ops true).wpIn F n P Q a w :=
  wpIn_region_any hm (lift_any O hQ hd _ _ _ _ h)

/-- What comes behind one operation. -/
def Then (K : Act → World → Prop) : Exit → Act → World → Prop
  | .normal, a, w => K a w
  | _, _, _ => False
theorem then_out (K : Act → World → Prop) : ¬ LetsOut (Then K) := fun ⟨_, _, h⟩ => h

/-- One operation in a round: by its plain law. -/
theorem lift_one (O : Free F) {o : Oper} {rest : List Oper} {a : Act} {w : World} (hg : o.guard = none) (hd : noDefer o = true)
    (h : wpList P ops (Then (wpListIn F n P ops Q rest)) [o] a w) : wpListIn F n P ops Q (o :: rest) a w := by
  refine wpListIn_plain hg fun K hK => ?_
  simp only [wpList, Region.wanted, hg, if_true] at h
  rcases h with h | ⟨_, h⟩
  · refine Oper.wpIn_mono hK ?_
    have h2 := lift_op (n := n) O (noDefer_spec hd) h
    refine ⟨h2.1, ?_⟩
    have h3 := h2.2
    generalize (o.semAt F.round a.eval).run P w = r at h3 ⊢
    cases r with
    | ok x w' =>
      cases x <;> simp only [Oper.uponIn, Then] at h3 ⊢ <;> first
        | exact h3
        | exact ⟨h3.1, CallsIn.mono h3.2 (fun e w'' he => by cases e <;> first | exact he | exact he.elim | exact absurd he (then_out _))⟩
        | exact ⟨h3.1, RoundIn.mono h3.2 (fun e w'' he => by cases e <;> first | exact he | exact he.elim | exact absurd he (then_out _))⟩
    | halt x w' => cases x <;> simp only [Oper.uponIn, Then] at h3 ⊢ <;> first | exact h3 | exact h3.elim
  · exact absurd h (then_out _)
theorem then_done {o : List Oper} {a : Act} {w : World} (h : wpListIn F n P ops Q o a w) : wpList P ops (Then (wpListIn F n P ops Q o)) [] a w := h

end Go.Rf
