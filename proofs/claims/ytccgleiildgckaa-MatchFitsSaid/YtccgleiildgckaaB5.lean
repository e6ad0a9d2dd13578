/- Contract of slices.SortFunc over masks below 4096, and the list of all masks in the program's order. -/
import Derived.Test.YtccgleiildgckaaB4
namespace Go.Proofs.Ytccgleiildgckaa
open Go.RowKit Go.Shelf Go.Sort

abbrev Mk := Fin 4096
def mkV (m : Mk) : Value := .int .u64 (m.val : Nat)
def mkC (m : Mk) : Int := mCmp m.val m.val
def mkCmp (a b : Mk) : Int := mCmp a.val b.val
theorem rev_inj2 : ∀ a b : Fin 64, revN 12 (revN 12 (64 * a.val + b.val)) = 64 * a.val + b.val := by decide +kernel
theorem rev_inj {m : Nat} (hm : m < 4096) : revN 12 (revN 12 m) = m := by
  have := rev_inj2 ⟨m / 64, by omega⟩ ⟨m % 64, by omega⟩
  simp only [Nat.div_add_mod] at this
  exact this
theorem mk_lt (x y : Mk) : ltOf mkCmp x y = decide (revN 12 y.val < revN 12 x.val) := by
  unfold ltOf mkCmp mCmp
  by_cases h1 : revN 12 y.val < revN 12 x.val
  · simp [h1]
  · by_cases h2 : revN 12 x.val < revN 12 y.val <;> simp [h1, h2]
theorem mk_swo : SWO (ltOf mkCmp) where
  irrefl x := by rw [mk_lt]; simp
  trans x y z h1 h2 := by rw [mk_lt] at *; simp at *; omega
  ntrans x y z h1 h2 := by rw [mk_lt] at *; simp at *; omega
theorem mk_total : ∀ x y : Mk, (ltOf mkCmp) x y = false → (ltOf mkCmp) y x = false → x = y := by
  intro x y h1 h2
  rw [mk_lt] at h1 h2
  simp at h1 h2
  have h : revN 12 x.val = revN 12 y.val := by omega
  have := congrArg (revN 12) h
  rw [rev_inj x.isLt, rev_inj y.isLt] at this
  exact Fin.ext this
theorem mk_reads (blk off size : Nat) (w : World) : CmpReads Try.prog 53 #[] mkV mkCmp blk off size w :=
  fun _ _ _ _ x y => (cmp_any x.val y.val _ x.isLt y.isLt).mono fun _ _ ⟨he, hw⟩ => ⟨he, 0, hw⟩

/-- The masks in the program's order. -/
def mSort (l : List Mk) : List Mk := l.mergeSort fun x y => !(ltOf mkCmp) y x

theorem sorted_world (w : World) (g m : Nat) (d : Array Mk) (os : Array Obj) (cur : Array Value) (h : w.heap[g]? = some (.cells cur 105 (0, 0))) (hd : d.size ≤ cur.size) :
    (sortWorld mkV w g 0 m d os).heap[g]? = some (.cells (putCells mkV 0 d cur) 105 (0, 0)) ∧ (putCells mkV 0 d cur).size = cur.size ∧ (putCells mkV 0 d cur).toList.take d.size = d.toList.map mkV ∧
    ∀ base, base ≤ g → g < w.heap.size → Below base w (sortWorld mkV w g 0 m d os) := by
  have hlt : g < w.heap.size := lt_of_block h
  have hh : (sortWorld mkV w g 0 m d os).heap = (w.heap.modify g (onCells (putCells mkV 0 d))) ++ os := rfl
  refine ⟨?_, by simp [putCells], ?_, ?_⟩
  · rw [hh, Array.getElem?_append_left (by simpa using hlt), Array.getElem?_modify, if_pos rfl, h]
    rfl
  · apply List.ext_getElem?
    intro i
    by_cases hi : i < d.size
    · rw [List.getElem?_take, if_pos hi]
      simp [putCells, hi, Nat.lt_of_lt_of_le hi hd]
    · rw [List.getElem?_take, if_neg hi, List.getElem?_eq_none (by simpa using hi)]
  · intro base hb _
    refine ⟨rfl, rfl, rfl, ?_, fun k hk => ?_⟩
    · rw [hh]; simp
    · rw [hh, Array.getElem?_append_left (by simp; omega), Array.getElem?_modify, if_neg (by omega)]

theorem sort_any (A : Option Addr) (n c : Nat) (l : List Mk) (w : World) (base : Nat) (hn : n ≤ 4096) (hb : base ≤ w.heap.size) (hO : w.ownsRow base 105 1 (.slice A n c) n (l.map mkV)) :
    Calls Try.prog 52 #[.slice A n c, .func (.func 53) #[] #[]] w fun e w' => e = .returned (.tuple #[]) ∧ w'.ownsRow base 105 1 (.slice A n c) n ((mSort l).map mkV) ∧ Below base w w' := by
  have hlen : l.length = n := by have := hO.1; simpa using this
  have eg : ∀ args w, (callFunc 53 args).run Try.prog w = .ok (.enter 53 args) w := enters_of Try.func53 (by kernel_rfl) rfl
  rcases hO.2 with ⟨e1, e2⟩ | ⟨g, cap, cur, hv, hg, hheap, hcap, hmax, hcur, htake⟩
  · have h0 : l = [] := by rw [← List.length_eq_zero_iff]; omega
    subst h0
    subst e2
    have hcon := AnyF.slices_SortFunc_none { Try.sort52 with } A c (.func (.func 53) #[] #[]) w
    change Calls Try.prog 52 _ _ _ at hcon
    refine hcon.mono ?_
    rintro e w' ⟨rfl, rfl⟩
    exact ⟨rfl, by simpa [mSort] using hO, Below.refl _ _⟩
  · have hA : A = some ⟨g, 0, none⟩ ∧ c = cap := by injection hv with h1 h2 h3; exact ⟨h1, h3⟩
    obtain ⟨rfl, rfl⟩ := hA
    have hlt : g < w.heap.size := lt_of_block hheap
    have hH : Holds mkV w g 0 l.toArray := by
      intro j hj
      have hj' : j < l.length := by simpa using hj
      refine ⟨?_, ?_⟩
      · have h1 : cur.toList[j]? = some (mkV l[j]) := by
          have h2 : (cur.toList.take (n * 1))[j]? = some (mkV l[j]) := by rw [htake]; simp [hj']
          rw [List.getElem?_take] at h2
          split at h2
          · exact h2
          · cases h2
        have h3 := cell_of_row w g (0 + j) cur 105 (0, 0) hheap
        rw [h3, Nat.zero_add]
        simpa [hj'] using h1
      · simp [World.frozen?, hheap]
    have hcon := Any.slices_SortFunc_total Try.sort52 mkV (fun _ => rfl) mkCmp mk_swo 53 #[] g 0 c l.toArray w eg (mk_reads g 0 l.toArray.size w).lays hH hlt (by simp; omega) mk_total
    have hsz : l.toArray.size = n := by simpa using hlen
    rw [hsz] at hcon
    change Calls Try.prog 52 _ _ _ at hcon
    refine hcon.mono ?_
    rintro e w' ⟨rfl, m, os, rfl⟩
    have hms : (mSort l).length = n := by simp [mSort, hlen]
    obtain ⟨h1, h2, h3, h4⟩ := sorted_world w g m (mSort l).toArray os cur hheap (by simp [hms]; omega)
    refine ⟨rfl, ⟨by simp [hms], .inr ⟨g, c, _, rfl, hg, h1, hcap, hmax, h2.trans hcur, ?_⟩⟩, h4 base hg hlt⟩
    simpa [hms] using h3
end Go.Proofs.Ytccgleiildgckaa
