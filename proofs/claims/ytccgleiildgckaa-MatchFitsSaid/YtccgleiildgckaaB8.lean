/- The law of a loop over the iterator that subsets returns: rounds that go on leave the old memory as it was; a round that leaves does so by one block's exit. -/
import Derived.Test.YtccgleiildgckaaB7
namespace Go.Proofs.Ytccgleiildgckaa
open Go.RowKit Go.Shelf Go.Rf

/-- How a round's body is left. -/
def rdPost (ce B : Nat) (fit : Mk → Bool) (Jx : Mk → World → Prop) (x : Mk) (W : World) : Exit → Act → World → Prop
  | .normal, _, W' => fit x = false ∧ Below W.heap.size W W'
  | .exit id, _, W' => id = ce ∧ fit x = true ∧ (∀ b, B ≤ b → b < B + 2 → W'.heap[b]? = W.heap[b]?) ∧ Jx x W'
  | _, _, _ => False

theorem putObj_below (W : World) (l B : Nat) (o : Obj) (h : B ≤ l) : Below B W (W.putObj l o) :=
  ⟨rfl, rfl, rfl, by simp, fun k hk => World.putObj_heap_other (by omega)⟩

theorem range_subsets {n p Bk k ce : Nat} {g : Operand} {assign body : Code} {Q : Exit → Act → World → Prop} {a : Act} {w : World} (fit : Mk → Bool) (Jx : Mk → World → Prop)
    (hg : a.eval g = .func (.func 50) #[] #[.pointer (some ⟨Bk, 0, none⟩)]) (hk : k ≤ 12) (hB : Bk < w.heap.size) (hc : w.cell? ⟨Bk, 0, none⟩ = some (.int .i64 k)) (a₁ : Mk → Act)
    (hassign : ∀ (l : Nat) (x : Mk) (W : World) (K : Act → World → Prop), K (a₁ x) W → assign.wpIn (Fence.wide.inRound l) (n - 1 - 1) Try.prog (Exit.then K (fun _ _ _ => False)) { tmps := a.tmps.setIfInBounds p (mkV x), defers := [] } W)
    (hbody : ∀ (l : Nat) (x : Mk) (W : World), Below w.heap.size w W → w.heap.size + 2 ≤ W.heap.size → x ∈ mAll k → W.heap[w.heap.size]? = some (.deferred (some [])) → (∃ L, W.heap[w.heap.size + 1]? = some (.loop L)) → body.wpIn (Fence.wide.inRound l) (n - 1 - 1) Try.prog (rdPost ce w.heap.size fit Jx x W) (a₁ x) W)
    (hJ : ∀ (x : Mk) (A : World) (j : Nat) (o : Obj), w.heap.size ≤ j → j < w.heap.size + 2 → Jx x A → Jx x (A.putObj j o))
    (hdone : ∀ W, (mAll k).find? fit = none → Below w.heap.size w W → w.heap.size + 2 ≤ W.heap.size → W.heap[w.heap.size]? = some (.deferred (some [])) → Q .normal { a with defers := { target := .collected w.heap.size, args := #[] } :: a.defers } W)
    (hstop : ∀ x W, (mAll k).find? fit = some x → Jx x W → W.heap[w.heap.size]? = some (.deferred (some [])) → (Code.exit ce).wpIn Fence.wide n Try.prog Q { a with defers := { target := .collected w.heap.size, args := #[] } :: a.defers } W) :
    (Code.rangeFunc g #[p] assign body).wpIn Fence.wide n Try.prog Q a w := by
  refine wpIn_rangeFunc ?_
  intro fn _
  obtain ⟨rec, hrec⟩ : ∃ rec : LoopState → Option Code → Loop, rec = fun st pe => { state := st, pending := pe, fn, tmps := a.tmps, params := #[p], assign, body, defers := w.heap.size } := ⟨_, rfl⟩
  obtain ⟨W1, hW1⟩ : ∃ W1, (w.alloc (.deferred (some []))).alloc (.loop (rec .ready none)) = W1 := ⟨_, rfl⟩
  have hsz1 : W1.heap.size = w.heap.size + 2 := by rw [← hW1]; simp
  have hL1 : W1.heap[w.heap.size + 1]? = some (.loop (rec .ready none)) := by
    rw [← hW1]
    have := World.alloc_heap_new (w.alloc (.deferred (some []))) (.loop (rec .ready none))
    rwa [World.size_alloc] at this
  have hK1 : W1.heap[w.heap.size]? = some (.deferred (some [])) := by
    rw [← hW1]
    exact (Below.heap_alloc _ _ _ (by simp)).trans (World.alloc_heap_new w _)
  have hb1 : Below w.heap.size w W1 := by
    rw [← hW1]
    exact ((Below.refl _ w).alloc (Nat.le_refl _) _).alloc (by simp) _
  refine ⟨w.heap.size + 1, [{ target := .collected w.heap.size, args := #[] }], W1, { target := .fn (.func 50) #[.pointer (some ⟨Bk, 0, none⟩)], args := #[.func (.yield (w.heap.size + 1)) #[] #[]] }, W1, 50,
    #[.func (.yield (w.heap.size + 1)) #[] #[]] ++ #[.pointer (some ⟨Bk, 0, none⟩)], W1, ?_, ?_, fun _ _ => trivial, ?_, free_wide.dep, ?_⟩
  · rw [← hW1, hrec]; exact run_enterLoop_outer _ _ _ _ _
  · simp only [resolve, hg]
    simp [go_sem]
  · have eg : ∀ args w, (callFunc 50 args).run Try.prog w = .ok (.enter 50 args) w := enters_of Try.func50 (by kernel_rfl) rfl
    simp [invoke, go_sem, eg]
  · have hc1 := (hb1.cell (p := ⟨Bk, 0, none⟩) hB).trans hc
    refine (subsets_it Fence.wide (n - 1) (w.heap.size + 1) k Bk free_wide rfl hk W1 (by omega) hc1 fit (fun x W => Jx x W ∧ W.heap[w.heap.size + 1]? = some (.loop (rec .done (some (.exit ce)))) ∧ W.heap[w.heap.size]? = some (.deferred (some []))) ?_).mono ?_
    · intro x W hbW hx
      have hsW : w.heap.size + 2 ≤ W.heap.size := by have := hbW.size; omega
      have hl : W.heap[w.heap.size + 1]? = some (.loop (rec .ready none)) := (hbW.block _ (by omega)).trans hL1
      have hd : W.heap[w.heap.size]? = some (.deferred (some [])) := (hbW.block _ (by omega)).trans hK1
      have hy : (Instr.yield (w.heap.size + 1) #[mkV x]).run Try.prog W = .ok (.round (w.heap.size + 1) fn (a.tmps.setIfInBounds p (mkV x)) assign body) W := by
        have hy := run_yield (P := Try.prog) (args := #[mkV x]) hl (by rw [hrec]; rfl)
        rw [hrec] at hy
        simpa using hy
      refine ⟨fn, _, assign, body, hy, roundIn_of_wpIn trivial ?_⟩
      have hbr := run_beginRound (P := Try.prog) hl (by rw [hrec])
      refine hassign _ x W _ ?_
      refine ⟨_, hbr, ?_⟩
      obtain ⟨W2, hW2⟩ : ∃ W2, W.putObj (w.heap.size + 1) (.loop { rec .ready none with state := .busy }) = W2 := ⟨_, rfl⟩
      have hl2 : W2.heap[w.heap.size + 1]? = some (.loop { rec .ready none with state := .busy }) := by rw [← hW2]; exact World.putObj_heap_same (by omega)
      have hd2 : W2.heap[w.heap.size]? = some (.deferred (some [])) := by rw [← hW2]; exact (World.putObj_heap_other (by omega)).trans hd
      have hs2 : W2.heap.size = W.heap.size := by rw [← hW2]; simp
      have hb2 : Below w.heap.size w W2 := by rw [← hW2]; exact (hb1.trans (hbW.mono (by omega))).trans (putObj_below _ _ _ _ (by omega))
      rw [hW2]
      refine wpIn_mono (hbody _ x W2 hb2 (by omega) hx hd2 ⟨_, hl2⟩) ?_
      rintro e a3 W3 hp
      cases e with
      | normal =>
        obtain ⟨hf, hb3⟩ := hp
        have hl3 := (hb3.block (w.heap.size + 1) (by omega)).trans hl2
        have hr := run_endRound (P := Try.prog) none hl3
        rw [hrec] at hr
        refine ⟨_, _, hr, ?_, fun _ => ?_, fun h => absurd (hf.symm.trans h) (by decide)⟩
        · rw [hf]; rfl
        · have hos : W2.os = W.os ∧ W2.tape = W.tape ∧ W2.output = W.output := by rw [← hW2]; exact ⟨rfl, rfl, rfl⟩
          refine ⟨hb3.os.trans hos.1, hb3.tape.trans hos.2.1, hb3.output.trans hos.2.2, by have := hb3.size; simp; omega, fun j hj => ?_⟩
          by_cases hjl : j = w.heap.size + 1
          · subst hjl
            rw [World.putObj_heap_same (by have := hb3.size; omega), hl, hrec]
            rfl
          · rw [World.putObj_heap_other hjl, hb3.block j (by omega), ← hW2, World.putObj_heap_other hjl]
      | exit id =>
        obtain ⟨rfl, hf, hk3, hj3⟩ := hp
        have hl3 := (hk3 (w.heap.size + 1) (by omega) (by omega)).trans hl2
        have hd3 := (hk3 w.heap.size (by omega) (by omega)).trans hd2
        have hr := run_endRound (P := Try.prog) (some (.exit id)) hl3
        have hlt3 : w.heap.size + 1 < W3.heap.size := (Array.getElem?_eq_some_iff.1 hl3).1
        rw [hrec] at hr
        refine ⟨_, _, hr, ?_, fun h => absurd (hf.symm.trans h) (by decide), fun _ => ⟨hJ _ _ _ _ (by omega) (by omega) hj3, ?_, ?_⟩⟩
        · rw [hf]; rfl
        · rw [World.putObj_heap_same hlt3, hrec]; rfl
        · exact (World.putObj_heap_other (by omega)).trans hd3
      | ret => exact hp.elim
      | goto t => exact hp.elim
      | panic ch => exact hp.elim
      | outgrown => exact hp.elim
    · rintro e W2 ⟨⟨v, rfl⟩, hfin⟩
      cases hfind : (mAll k).find? fit with
      | none =>
        rw [hfind] at hfin
        have hfin : Below W1.heap.size W1 W2 := hfin
        have hl2 := (hfin.block (w.heap.size + 1) (by omega)).trans hL1
        have hr := run_endLoop (P := Try.prog) hl2 (by rw [hrec]; simp)
        rw [hrec] at hr
        refine ⟨none, _, hr, hdone _ hfind ?_ ?_ ?_⟩
        · exact (hb1.trans (hfin.mono (by omega))).trans (putObj_below _ _ _ _ (by omega))
        · have := hfin.size; simp; omega
        · exact (World.putObj_heap_other (by omega)).trans ((hfin.block _ (by omega)).trans hK1)
      | some x =>
        rw [hfind] at hfin
        obtain ⟨hj, hl2, hd2⟩ := hfin
        have hr := run_endLoop (P := Try.prog) hl2 (by rw [hrec]; simp)
        rw [hrec] at hr
        exact ⟨some (.exit ce), _, hr, hstop x _ hfind (hJ _ _ _ _ (by omega) (by omega) hj) ((World.putObj_heap_other (by omega)).trans hd2)⟩
end Go.Proofs.Ytccgleiildgckaa
