/- Contract of Propose. Conditions: the lines are valid, the tolerance is in range; else the errors. -/
import Derived.Test.YtccgleiildgckaaC5
import Derived.Test.YtccgleiildgckaaB2
import Derived.StillTailTactics
namespace Go.Proofs.Ytccgleiildgckaa
open Go.RowKit Go.Rf

def f0 (L R : List On) (tol : Int) : Fc := ⟨0, 0, 0, 0, 0, none, 0, none, 0, L, R, tol⟩
def s0 (L R : List On) : Fs := ⟨List.replicate L.length false, List.replicate R.length false, []⟩
def gsL (s : Fs) : Gs := ⟨s.u1, s.u2, s.ps⟩
def gsR (g : Gs) : Gs := ⟨g.uy, g.ux, g.ps⟩
def p1 (L R : List On) (tol : Int) : Fs := oneAll (f0 L R tol) (s0 L R) L.length
def p2 (L R : List On) (tol : Int) : Gs := manyAll ⟨f0 L R tol, false⟩ (gsL (p1 L R tol)) L.length
def p3 (L R : List On) (tol : Int) : Gs := manyAll ⟨f0 L R tol, true⟩ (gsR (p2 L R tol)) R.length
/-- The proposals that the program makes of valid lines. -/
def progOut (L R : List On) (tol : Int) : List Pr := (p3 L R tol).ps
theorem oneAll_f (f : Fc) (s : Fs) (k : Nat) : oneAll f s k = oneAll (f0 f.L f.R f.tol) s k := rfl
theorem manyAll_f (v : Fv) (s : Gs) (k : Nat) : manyAll v s k = manyAll ⟨f0 v.f.L v.f.R v.f.tol, v.fl⟩ s k := rfl
theorem made_bools (n : Nat) : madeCells (Value.bool false).cells n = blA (List.replicate n false) := by
  apply Array.ext
  · simp [madeCells, blA]
  · intro i h1 h2
    simp [madeCells, blA, Value.cells, Nat.mod_one]

def pPost (w : World) (ps : List Pr) (e : Ending) (w' : World) : Prop :=
  ∃ A n c qs, e = .returned (.tuple #[.slice A n c, .int .i64 0]) ∧ n = ps.length ∧ w'.ownsRow w.heap.size 39 2 (.slice A n c) n (qs.flatMap pvC) ∧ PvAll (fun b => b < w'.heap.size) w' qs ps ∧ Below w.heap.size w w'

theorem fc_ok {B : Nat} {U1 U2 : Nat} (h1 : (U1 = B ∧ U2 = B + 1) ∨ (U1 = B + 1 ∧ U2 = B)) (A1 A2 : Option Addr) (c1 c2 : Nat) (L R : List On) (tol : Int) : (⟨B + 2, U1, U2, B + 3, B, A1, c1, A2, c2, L, R, tol⟩ : Fc).Ok := by
  constructor <;> simp only [] <;> omega
theorem gx {v : Fv} {w : World} {s : Fs} (hf : v.fl = false) (h : FinAt v.f w s) : ∃ qs A c, FinV v w (gsL s) qs A c := by
  obtain ⟨qs, A, c, h⟩ := h
  refine ⟨qs, A, c, ⟨?_⟩⟩
  unfold Fv.st gsL
  rw [hf]
  exact h

theorem own_nil {w : World} {base : Nat} {e : TypeId} {size : Nat} : w.ownsRow base e size (.slice none 0 0) 0 [] := World.ownsRow_nil _ _ _ _
/-- Where Propose lays the finder. -/
def Start (L R : List On) (tol : Int) (w0 W : World) : Prop := ∃ f : Fc, f.Fk = w0.heap.size + 1 + 1 ∧ f.Ok ∧ f.L = L ∧ f.R = R ∧ f.tol = tol ∧ f.B = w0.heap.size ∧ f.base = w0.heap.size + 3 ∧ FinAt f W (s0 L R)
theorem start1 {A A' : Option Addr} {n c n' c' : Nat} {L R : List On} {tol : Int} {w0 : World} (hn : L.length = n) (hn' : R.length = n') (h : Rd onC 3 w0.heap.size w0 A L) (h' : Rd onC 3 w0.heap.size w0 A' R) :
    Start L R tol w0 (((w0.alloc (.cells (blA (List.replicate n false)) 4)).alloc (.cells (blA (List.replicate n' false)) 4)).alloc (.cells #[.slice A n c, .slice (some ⟨w0.heap.size, 0, none⟩) n n, .slice A' n' c', .slice (some ⟨w0.heap.size + 1, 0, none⟩) n' n', .int .i64 tol, .slice none 0 0] 80)).drew := by
  subst hn
  subst hn'
  have hb : ∀ o1 o2 o3, Below w0.heap.size w0 (((w0.alloc o1).alloc o2).alloc o3).drew := fun _ _ _ => below_al3
  refine ⟨⟨w0.heap.size + 2, w0.heap.size, w0.heap.size + 1, w0.heap.size + 3, w0.heap.size, A, c, A', c', L, R, tol⟩, rfl, fc_ok (.inl ⟨rfl, rfl⟩) _ _ _ _ _ _ _, rfl, rfl, rfl, rfl, rfl, [], none, 0, ?_⟩
  exact ⟨blk_drew (blk_new3 rfl), blk_a3, blk_b3, by simp [s0], by simp [s0], own_nil, PvAll.nil, h.below (hb _ _ _), h'.below (hb _ _ _), by show w0.heap.size + 3 ≤ (((w0.alloc _).alloc _).alloc _).heap.size; simp⟩
theorem start2 {A A' : Option Addr} {n c n' c' : Nat} {L R : List On} {tol : Int} {w0 : World} (hn : L.length = n) (hn' : R.length = n') (h : Rd onC 3 w0.heap.size w0 A L) (h' : Rd onC 3 w0.heap.size w0 A' R) :
    Start L R tol w0 (((w0.alloc (.cells (blA (List.replicate n' false)) 4)).alloc (.cells (blA (List.replicate n false)) 4)).alloc (.cells #[.slice A n c, .slice (some ⟨w0.heap.size + 1, 0, none⟩) n n, .slice A' n' c', .slice (some ⟨w0.heap.size, 0, none⟩) n' n', .int .i64 tol, .slice none 0 0] 80)).drew := by
  subst hn
  subst hn'
  have hb : ∀ o1 o2 o3, Below w0.heap.size w0 (((w0.alloc o1).alloc o2).alloc o3).drew := fun _ _ _ => below_al3
  refine ⟨⟨w0.heap.size + 2, w0.heap.size + 1, w0.heap.size, w0.heap.size + 3, w0.heap.size, A, c, A', c', L, R, tol⟩, rfl, fc_ok (.inr ⟨rfl, rfl⟩) _ _ _ _ _ _ _, rfl, rfl, rfl, rfl, rfl, [], none, 0, ?_⟩
  exact ⟨blk_drew (blk_new3 rfl), blk_b3, blk_a3, by simp [s0], by simp [s0], own_nil, PvAll.nil, h.below (hb _ _ _), h'.below (hb _ _ _), by show w0.heap.size + 3 ≤ (((w0.alloc _).alloc _).alloc _).heap.size; simp⟩
theorem gy {f : Fc} {w : World} {g : Gs} (h : ∃ qs A c, FinV ⟨f, false⟩ w g qs A c) : ∃ qs A c, FinV ⟨f, true⟩ w (gsR g) qs A c := by
  obtain ⟨qs, A, c, h⟩ := h
  exact ⟨qs, A, c, ⟨h.fin⟩⟩
theorem p1_len (L R : List On) (tol : Int) : (p1 L R tol).ps.length ≤ L.length := by
  have := oneAll_len (f0 L R tol) (s0 L R) L.length
  simpa [p1, s0] using this
theorem p2_len (L R : List On) (tol : Int) : (p2 L R tol).ps.length ≤ L.length + L.length := by
  have := manyAll_len ⟨f0 L R tol, false⟩ (gsL (p1 L R tol)) L.length
  have h1 := p1_len L R tol
  unfold p2
  simp only [gsL] at this ⊢
  omega
theorem p3_len (L R : List On) (tol : Int) : (p3 L R tol).ps.length ≤ L.length + L.length + R.length := by
  have := manyAll_len ⟨f0 L R tol, true⟩ (gsR (p2 L R tol)) R.length
  have h1 := p2_len L R tol
  unfold p3
  simp only [gsR] at this ⊢
  omega

set_option maxRecDepth 20000 in
set_option maxHeartbeats 1600000 in
theorem propose_any (A A' : Option Addr) (n c n' c' : Nat) (L R : List On) (tol : Int) (w : World) (hn : L.length = n) (hn' : R.length = n')
    (h : Rd onC 3 w.heap.size w A L) (h' : Rd onC 3 w.heap.size w A' R) (hwf : ∀ x ∈ L ++ R, RfWf x.r) (hok : LinesOk L R) (ht0 : 0 ≤ tol) (ht1 : tol ≤ 1000000000000) :
    Calls Try.prog 10 #[.slice A n c, .slice A' n' c', .int .i64 tol] w (pPost w (progOut L R tol)) := by
  have hl : n ≤ 60 := by have := hok.2.2.1; omega
  have hl' : n' ≤ 60 := by have := hok.2.2.2; omega
  have hoL : ∀ x ∈ L, OnOk x := fun x hx => good_ok (hok.1 x (by simp [hx]))
  have hoR : ∀ x ∈ R, OnOk x := fun x hx => good_ok (hok.1 x (by simp [hx]))
  have HoL := Lib.hid hoL; clear hoL
  have HoR := Lib.hid hoR; clear hoR
  have HW := Lib.hid hwf; clear hwf
  have Hn := Lib.hid hn; clear hn
  have Hn' := Lib.hid hn'; clear hn'
  have HV := Lib.hid (linesB_true.2 hok); clear hok
  have htd : decide (tol < 0) = false := decide_eq_false (by omega)
  have htd2 : decide (1000000000000 < tol) = false := decide_eq_false (by omega)
  obtain ⟨i4, hi4, hz4, hy4, hb4⟩ := info_parts (show (Try.prog.info? 4).map (fun i => (i.zero, i.size, i.bytes)) = some (some (.bool false), 1, 1) by kernel_rfl)
  have hmk : ∀ (W : World) (m : Nat), m ≤ 60 → (Instr.makeSlice 76 (.int .i64 m) (.int .i64 m)).run Try.prog W = .ok (.slice (some ⟨W.heap.size, 0, none⟩) m m) (W.alloc (.cells (blA (List.replicate m false)) 4)) := fun W m hm => by
    have hr := run_make (P := Try.prog) W 76 4 i4 _ Try.underlying76 hi4 hz4 .i64 .i64 m m (by omega) (Int.le_refl _) (by rw [hb4]; omega) (by omega)
    rw [hy4] at hr
    simpa [made_bools] using hr
  have hm1 := fun W => hmk W n hl
  have hm2 := fun W => hmk W n' hl'
  clear hmk
  go_enter Try.func10, Try.ntmps10
  go_wp2_with fail
  refine (lines_any A A' n c n' c' L R w Hn.out Hn'.out (by omega) (by omega) h h' HW.out).mono ?_
  rw [HV.out]
  rintro e w0 ⟨rfl, hb0⟩
  have HR0 := Lib.hid ((h.below hb0).mono hb0.size)
  have HR0' := Lib.hid ((h'.below hb0).mono hb0.size)
  go_wp2
  refine Rg.region (d := 13) (F := fun _ => True) (by kernel_rfl) ?_
  refine Rg.takes (fun _ _ tt _ _ h => by cases tt <;> exact h) [0, 1, 2, 5, 6, 7, 10] [.slice A n c, .slice A n c, .int .i64 n, .slice A' n' c', .slice A' n' c', .int .i64 n', .int .i64 tol] 7 _ _ _ (by kernel_rfl) ?hq trivial ?hr
  case hq =>
    intro w' _
    simp only [Rg.pick, List.filterMap_cons, List.filterMap_nil, List.getElem?_toArray, List.getElem?_cons_succ, List.getElem?_cons_zero]
    iterate 7
      refine Rg.quiets_cons ?_ ?_
      · go_simp
      simp only [Act.put, List.setIfInBounds_toArray, List.set_cons_zero, List.set_cons_succ]
    exact Rg.quiets_nil
  case hr =>
    simp only [Rg.pick, Rg.putAll, Act.put, List.filterMap_cons, List.filterMap_nil, List.getElem?_toArray, List.getElem?_cons_succ, List.getElem?_cons_zero, List.setIfInBounds_toArray, List.set_cons_zero, List.set_cons_succ]
    refine Rg.anyS_two (i := 3) (j := 8) (by kernel_rfl) (Rg.one (ops' := #[]) rfl rfl ?_) (Rg.one (ops' := #[]) rfl rfl ?_)
    · go_wp2
      refine ⟨fun _ => trivial, ?_⟩
      refine Rg.takes (fun _ _ tt _ _ h => by cases tt <;> exact h) [4] [.agg #[.slice A n c, .slice (some ⟨w0.heap.size, 0, none⟩) n n]] 5 _ _ _ (by kernel_rfl) ?hq2 trivial ?hr2
      case hq2 =>
        intro w' _
        simp only [Rg.pick, List.filterMap_cons, List.filterMap_nil, List.getElem?_toArray, List.getElem?_cons_succ, List.getElem?_cons_zero]
        refine Rg.quiets_cons ?_ ?_
        · go_simp
        exact Rg.quiets_nil
      case hr2 =>
        simp only [Rg.pick, Rg.putAll, Act.put, List.filterMap_cons, List.filterMap_nil, List.getElem?_toArray, List.getElem?_cons_succ, List.getElem?_cons_zero, List.setIfInBounds_toArray, List.set_cons_zero, List.set_cons_succ]
        refine Rg.run_forced [8, 9, 11, 12, 13] 5 _ _ _ (by decide) (by kernel_rfl) rfl (by decide) ?_
        simp only [Rg.pick, List.filterMap_cons, List.filterMap_nil, List.getElem?_toArray, List.getElem?_cons_succ, List.getElem?_cons_zero]
        iterate 4
          refine Rg.runS_cons ?_
          go_wp2
          refine Rg.then_kept trivial ?_
        refine Rg.runS_cons ?_
        go_wp2
        refine Rg.then_last ?_
        clear hm1 hm2
        generalize hWq : World.drew _ = Wq
        have hst : Start L R tol w0 Wq := by subst hWq; exact start1 Hn.out Hn'.out HR0.out HR0'.out
        have hBq : Below w0.heap.size w0 Wq := by subst hWq; exact below_al3
        clear hWq
        obtain ⟨f, hFk, hOk, hfL, hfR, hft, hfB, hfb, hfin⟩ := hst
        rw [← hFk]
        have hp1 : oneAll f (s0 L R) f.L.length = p1 L R tol := by rw [oneAll_f, hfL, hfR, hft]; rfl
        have hp2 : manyAll ⟨f, false⟩ (gsL (p1 L R tol)) (Fv.X ⟨f, false⟩).length = p2 L R tol := by
          rw [manyAll_f]
          show manyAll ⟨f0 f.L f.R f.tol, false⟩ (gsL (p1 L R tol)) f.L.length = _
          rw [hfL, hfR, hft]; rfl
        have hp3 : manyAll ⟨f, true⟩ (gsR (p2 L R tol)) (Fv.X ⟨f, true⟩).length = p3 L R tol := by
          rw [manyAll_f]
          show manyAll ⟨f0 f.L f.R f.tol, true⟩ (gsR (p2 L R tol)) f.R.length = _
          rw [hfL, hfR, hft]; rfl
        have hlL : f.L.length ≤ 60 := by rw [hfL, Hn.out]; exact hl
        have hlR : f.R.length ≤ 60 := by rw [hfR, Hn'.out]; exact hl'
        have hokL : ∀ x ∈ f.L, OnOk x := by rw [hfL]; exact HoL.out
        have hokR : ∀ x ∈ f.R, OnOk x := by rw [hfR]; exact HoR.out
        have hl1 := p1_len L R tol
        have hl2 := p2_len L R tol
        have hl3 := p3_len L R tol
        rw [Hn.out] at hl1 hl2 hl3
        rw [Hn'.out] at hl3
        have HP1 := Lib.hid hp1; clear hp1
        have HP2 := Lib.hid hp2; clear hp2
        have HP3 := Lib.hid hp3; clear hp3
        have HLL := Lib.hid hlL; clear hlL
        have HLR := Lib.hid hlR; clear hlR
        have HKL := Lib.hid hokL; clear hokL
        have HKR := Lib.hid hokR; clear hokR
        have HFK := Lib.hid hFk; clear hFk
        have HFB := Lib.hid hfB; clear hfB
        have HFb := Lib.hid hfb; clear hfb
        clear hfL hfR hft
        go_wp2_with ((with_reducible refine (fone_any f hOk (s0 L R) Wq HLL.out HLR.out (by simp [s0]) HKL.out HKR.out hfin).mono ?_); rintro e W1 ⟨rfl, hF1, hB1⟩)
        rw [HP1.out] at hF1
        have hG1 := gx (v := ⟨f, false⟩) rfl hF1
        go_still_tail 7, (by kernel_rfl)
        go_wp2_with (refine (fmany_any ⟨f, false⟩ 28 rfl hOk (gsL (p1 L R tol)) _ HLL.out HLR.out (by simp only [gsL]; omega) HKL.out HKR.out (by obtain ⟨a1, a2, a3, a4⟩ := hG1; exact ⟨a1, a2, a3, a4.drew⟩)).mono ?_; rintro e W2 ⟨rfl, hF2, hB2⟩)
        rw [HP2.out] at hF2
        have hG2 := gy hF2
        go_still_tail 7, (by kernel_rfl)
        go_wp2_with (refine (fmany_any ⟨f, true⟩ 29 rfl hOk (gsR (p2 L R tol)) _ HLR.out HLL.out (by simp only [gsR]; omega) HKR.out HKL.out (by obtain ⟨a1, a2, a3, a4⟩ := hG2; exact ⟨a1, a2, a3, a4.drew⟩)).mono ?_; rintro e W3 ⟨rfl, hF3, hB3⟩; rw [HP3.out] at hF3; obtain ⟨qs, A3, c3, hF3⟩ := hF3; have r5 : W3.cell? ⟨f.Fk, 5, none⟩ = some (.slice A3 (p3 L R tol).ps.length c3) := hF3.out5; have lF : f.Fk < W3.heap.size := hF3.ltF; have HF3 := Lib.hid hF3; clear hF3 hG1 hG2 hF1 hF2 hfin)
        go_ret2
        refine ⟨A3, _, c3, qs, rfl, rfl, ?_, ?_, ?_⟩
        · have := HF3.out.own
          exact own_base this (by rw [HFb.out]; have := hb0.size; omega)
        · have := HF3.out.fin.pv
          exact this.imp fun b hb => hb.2.1
        · have e1 : w.heap.size ≤ f.B := by rw [HFB.out]; exact hb0.size
          exact (((hb0.trans (hBq.mono hb0.size)).trans (hB1.mono e1)).trans ((below_un hB2).mono e1)).trans ((below_un hB3).mono e1)
    · go_wp2
      refine ⟨fun _ => trivial, ?_⟩
      refine Rg.takes (fun _ _ tt _ _ h => by cases tt <;> exact h) [9] [.agg #[.slice A' n' c', .slice (some ⟨w0.heap.size, 0, none⟩) n' n']] 5 _ _ _ (by kernel_rfl) ?hq2 trivial ?hr2
      case hq2 =>
        intro w' _
        simp only [Rg.pick, List.filterMap_cons, List.filterMap_nil, List.getElem?_toArray, List.getElem?_cons_succ, List.getElem?_cons_zero]
        refine Rg.quiets_cons ?_ ?_
        · go_simp
        exact Rg.quiets_nil
      case hr2 =>
        simp only [Rg.pick, Rg.putAll, Act.put, List.filterMap_cons, List.filterMap_nil, List.getElem?_toArray, List.getElem?_cons_succ, List.getElem?_cons_zero, List.setIfInBounds_toArray, List.set_cons_zero, List.set_cons_succ]
        refine Rg.run_forced [3, 4, 11, 12, 13] 5 _ _ _ (by decide) (by kernel_rfl) rfl (by decide) ?_
        simp only [Rg.pick, List.filterMap_cons, List.filterMap_nil, List.getElem?_toArray, List.getElem?_cons_succ, List.getElem?_cons_zero]
        iterate 4
          refine Rg.runS_cons ?_
          go_wp2
          refine Rg.then_kept trivial ?_
        refine Rg.runS_cons ?_
        go_wp2
        refine Rg.then_last ?_
        clear hm1 hm2
        generalize hWq : World.drew _ = Wq
        have hst : Start L R tol w0 Wq := by subst hWq; exact start2 Hn.out Hn'.out HR0.out HR0'.out
        have hBq : Below w0.heap.size w0 Wq := by subst hWq; exact below_al3
        clear hWq
        obtain ⟨f, hFk, hOk, hfL, hfR, hft, hfB, hfb, hfin⟩ := hst
        rw [← hFk]
        have hp1 : oneAll f (s0 L R) f.L.length = p1 L R tol := by rw [oneAll_f, hfL, hfR, hft]; rfl
        have hp2 : manyAll ⟨f, false⟩ (gsL (p1 L R tol)) (Fv.X ⟨f, false⟩).length = p2 L R tol := by
          rw [manyAll_f]
          show manyAll ⟨f0 f.L f.R f.tol, false⟩ (gsL (p1 L R tol)) f.L.length = _
          rw [hfL, hfR, hft]; rfl
        have hp3 : manyAll ⟨f, true⟩ (gsR (p2 L R tol)) (Fv.X ⟨f, true⟩).length = p3 L R tol := by
          rw [manyAll_f]
          show manyAll ⟨f0 f.L f.R f.tol, true⟩ (gsR (p2 L R tol)) f.R.length = _
          rw [hfL, hfR, hft]; rfl
        have hlL : f.L.length ≤ 60 := by rw [hfL, Hn.out]; exact hl
        have hlR : f.R.length ≤ 60 := by rw [hfR, Hn'.out]; exact hl'
        have hokL : ∀ x ∈ f.L, OnOk x := by rw [hfL]; exact HoL.out
        have hokR : ∀ x ∈ f.R, OnOk x := by rw [hfR]; exact HoR.out
        have hl1 := p1_len L R tol
        have hl2 := p2_len L R tol
        have hl3 := p3_len L R tol
        rw [Hn.out] at hl1 hl2 hl3
        rw [Hn'.out] at hl3
        have HP1 := Lib.hid hp1; clear hp1
        have HP2 := Lib.hid hp2; clear hp2
        have HP3 := Lib.hid hp3; clear hp3
        have HLL := Lib.hid hlL; clear hlL
        have HLR := Lib.hid hlR; clear hlR
        have HKL := Lib.hid hokL; clear hokL
        have HKR := Lib.hid hokR; clear hokR
        have HFK := Lib.hid hFk; clear hFk
        have HFB := Lib.hid hfB; clear hfB
        have HFb := Lib.hid hfb; clear hfb
        clear hfL hfR hft
        go_wp2_with ((with_reducible refine (fone_any f hOk (s0 L R) Wq HLL.out HLR.out (by simp [s0]) HKL.out HKR.out hfin).mono ?_); rintro e W1 ⟨rfl, hF1, hB1⟩)
        rw [HP1.out] at hF1
        have hG1 := gx (v := ⟨f, false⟩) rfl hF1
        go_still_tail 7, (by kernel_rfl)
        go_wp2_with (refine (fmany_any ⟨f, false⟩ 28 rfl hOk (gsL (p1 L R tol)) _ HLL.out HLR.out (by simp only [gsL]; omega) HKL.out HKR.out (by obtain ⟨a1, a2, a3, a4⟩ := hG1; exact ⟨a1, a2, a3, a4.drew⟩)).mono ?_; rintro e W2 ⟨rfl, hF2, hB2⟩)
        rw [HP2.out] at hF2
        have hG2 := gy hF2
        go_still_tail 7, (by kernel_rfl)
        go_wp2_with (refine (fmany_any ⟨f, true⟩ 29 rfl hOk (gsR (p2 L R tol)) _ HLR.out HLL.out (by simp only [gsR]; omega) HKR.out HKL.out (by obtain ⟨a1, a2, a3, a4⟩ := hG2; exact ⟨a1, a2, a3, a4.drew⟩)).mono ?_; rintro e W3 ⟨rfl, hF3, hB3⟩; rw [HP3.out] at hF3; obtain ⟨qs, A3, c3, hF3⟩ := hF3; have r5 : W3.cell? ⟨f.Fk, 5, none⟩ = some (.slice A3 (p3 L R tol).ps.length c3) := hF3.out5; have lF : f.Fk < W3.heap.size := hF3.ltF; have HF3 := Lib.hid hF3; clear hF3 hG1 hG2 hF1 hF2 hfin)
        go_ret2
        refine ⟨A3, _, c3, qs, rfl, rfl, ?_, ?_, ?_⟩
        · have := HF3.out.own
          exact own_base this (by rw [HFb.out]; have := hb0.size; omega)
        · have := HF3.out.fin.pv
          exact this.imp fun b hb => hb.2.1
        · have e1 : w.heap.size ≤ f.B := by rw [HFB.out]; exact hb0.size
          exact (((hb0.trans (hBq.mono hb0.size)).trans (hB1.mono e1)).trans ((below_un hB2).mono e1)).trans ((below_un hB3).mono e1)
end Go.Proofs.Ytccgleiildgckaa
