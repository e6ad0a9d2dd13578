/- The errors of both Proposes, open, and awake: it returns true. Conditions: at most 1000 lines on each side. -/
import Derived.Test.YtccgleiildgckaaP3
namespace Go.Proofs.Ytccgleiildgckaa
open Go.RowKit

def errPost (w : World) (k : Int) (e : Ending) (w' : World) : Prop := e = .returned (.tuple #[.slice none 0 0, .int .i64 k]) ∧ Below w.heap.size w w'

set_option maxRecDepth 20000 in
set_option maxHeartbeats 400000 in
theorem propose_arg (A A' : Option Addr) (n c n' c' : Nat) (L R : List On) (tol : Int) (w : World) (hn : L.length = n) (hn' : R.length = n') (hl : n ≤ 1000) (hl' : n' ≤ 1000)
    (h : Rd onC 3 w.heap.size w A L) (h' : Rd onC 3 w.heap.size w A' R) (hwf : ∀ x ∈ L ++ R, RfWf x.r) (hok : ¬ LinesOk L R) :
    Calls Try.prog 10 #[.slice A n c, .slice A' n' c', .int .i64 tol] w (errPost w 1) := by
  have HC := Lib.hid (lines_any A A' n c n' c' L R w hn hn' hl hl' h h' hwf)
  have HV := Lib.hid (linesB_false.2 hok)
  clear hn hn' h h' hwf hok
  go_enter Try.func10, Try.ntmps10
  go_wp2_with fail
  refine HC.out.mono ?_
  rw [HV.out]
  rintro e w0 ⟨rfl, hb0⟩
  go_wp2
  go_ret2
  exact ⟨rfl, hb0⟩
set_option maxRecDepth 20000 in
set_option maxHeartbeats 400000 in
theorem propose_range (A A' : Option Addr) (n c n' c' : Nat) (L R : List On) (tol : Int) (w : World) (hn : L.length = n) (hn' : R.length = n') (hl : n ≤ 1000) (hl' : n' ≤ 1000)
    (h : Rd onC 3 w.heap.size w A L) (h' : Rd onC 3 w.heap.size w A' R) (hwf : ∀ x ∈ L ++ R, RfWf x.r) (hok : LinesOk L R) (ht : tol < 0 ∨ 1000000000000 < tol) :
    Calls Try.prog 10 #[.slice A n c, .slice A' n' c', .int .i64 tol] w (errPost w 2) := by
  have HC := Lib.hid (lines_any A A' n c n' c' L R w hn hn' hl hl' h h' hwf)
  have HV := Lib.hid (linesB_true.2 hok)
  clear hn hn' h h' hwf hok
  by_cases h0 : tol < 0
  · have htd : decide (tol < 0) = true := decide_eq_true h0
    go_enter Try.func10, Try.ntmps10
    go_wp2_with fail
    refine HC.out.mono ?_
    rw [HV.out]
    rintro e w0 ⟨rfl, hb0⟩
    go_wp2
    go_ret2
    exact ⟨rfl, hb0⟩
  · have h1 : 1000000000000 < tol := by omega
    have htd : decide (tol < 0) = false := decide_eq_false h0
    have htd2 : decide (1000000000000 < tol) = true := decide_eq_true h1
    go_enter Try.func10, Try.ntmps10
    go_wp2_with fail
    refine HC.out.mono ?_
    rw [HV.out]
    rintro e w0 ⟨rfl, hb0⟩
    go_wp2
    go_ret2
    exact ⟨rfl, hb0⟩
set_option maxRecDepth 20000 in
set_option maxHeartbeats 400000 in
theorem rpropose_arg (A A' : Option Addr) (n c n' c' : Nat) (L R : List On) (tol : Int) (w : World) (hn : L.length = n) (hn' : R.length = n') (hl : n ≤ 1000) (hl' : n' ≤ 1000)
    (h : Rd onC 3 w.heap.size w A L) (h' : Rd onC 3 w.heap.size w A' R) (hok : ¬ LinesOk L R) :
    Calls Try.prog 12 #[.slice A n c, .slice A' n' c', .int .i64 tol] w (errPost w 1) := by
  have HC := Lib.hid (rvalid_any A A' n c n' c' L R w hn hn' hl hl' h h')
  have HV := Lib.hid (linesB_false.2 hok)
  clear hn hn' h h' hok
  go_enter Try.func12, Try.ntmps12
  go_wp2_with fail
  refine HC.out.mono ?_
  rw [HV.out]
  rintro e w0 ⟨rfl, hb0⟩
  go_wp2
  go_ret2
  exact ⟨rfl, hb0⟩
set_option maxRecDepth 20000 in
set_option maxHeartbeats 400000 in
theorem rpropose_range (A A' : Option Addr) (n c n' c' : Nat) (L R : List On) (tol : Int) (w : World) (hn : L.length = n) (hn' : R.length = n') (hl : n ≤ 1000) (hl' : n' ≤ 1000)
    (h : Rd onC 3 w.heap.size w A L) (h' : Rd onC 3 w.heap.size w A' R) (hok : LinesOk L R) (ht : tol < 0 ∨ 1000000000000 < tol) :
    Calls Try.prog 12 #[.slice A n c, .slice A' n' c', .int .i64 tol] w (errPost w 2) := by
  have HC := Lib.hid (rvalid_any A A' n c n' c' L R w hn hn' hl hl' h h')
  have HV := Lib.hid (linesB_true.2 hok)
  clear hn hn' h h' hok
  by_cases h0 : tol < 0
  · have htd : decide (tol < 0) = true := decide_eq_true h0
    go_enter Try.func12, Try.ntmps12
    go_wp2_with fail
    refine HC.out.mono ?_
    rw [HV.out]
    rintro e w0 ⟨rfl, hb0⟩
    go_wp2
    go_ret2
    exact ⟨rfl, hb0⟩
  · have h1 : 1000000000000 < tol := by omega
    have htd : decide (tol < 0) = false := decide_eq_false h0
    have htd2 : decide (1000000000000 < tol) = true := decide_eq_true h1
    go_enter Try.func12, Try.ntmps12
    go_wp2_with fail
    refine HC.out.mono ?_
    rw [HV.out]
    rintro e w0 ⟨rfl, hb0⟩
    go_wp2
    go_ret2
    exact ⟨rfl, hb0⟩

/-! ### open and awake -/
def openL (e : Int) (zs : List Int) : List On := (List.range zs.length).map fun (i : Nat) => ⟨⟨e, (i : Int)⟩, zs.getD i 0⟩
theorem openL_len (e : Int) (zs : List Int) : (openL e zs).length = zs.length := by simp [openL]
theorem openL_at {e : Int} {zs : List Int} {k : Nat} (h : k < zs.length) : (openL e zs)[k]'(by rw [openL_len]; exact h) = ⟨⟨e, k⟩, zs[k]⟩ := by simp [openL, h]
set_option maxRecDepth 20000 in
set_option maxHeartbeats 400000 in
theorem open_any (A : Option Addr) (n c : Nat) (e : Int) (zs : List Int) (w : World) (hn : zs.length = n) (hl : n ≤ 1000) (h : Rd inC 1 w.heap.size w A zs) :
    Calls Try.prog 24 #[.int .i64 e, .slice A n c] w fun e' w' => ∃ A' c', e' = .returned (.slice A' n c') ∧ w'.ownsRow w.heap.size 48 3 (.slice A' n c') n ((openL e zs).flatMap onC) ∧ Below w.heap.size w w' := by
  have Hn := Lib.hid hn; clear hn
  obtain ⟨i0, hi, hz0, hz1, hz2⟩ := info_parts Try.info48
  go_enter Try.func24, Try.ntmps24
  go_wp2
  go_loopw [5, 10] (fun o i wr => ∃ k : Nat, k ≤ n ∧ i = .int .i64 k ∧ wr.ownsRow w.heap.size 48 3 o k (((openL e zs).take k).flatMap onC) ∧ Below w.heap.size w wr) (fun _ i _ => n - (intOf i).toNat)
  case atStart => exact ⟨0, by omega, rfl, World.ownsRow_nil _ _ _ _, Below.refl _ _⟩
  case round =>
    obtain ⟨k, hk, rfl, hO, hB⟩ := hrel
    by_cases hlt : k < n
    · have hk' : k < zs.length := by rw [Hn.out]; exact hlt
      obtain ⟨b, off, rfl, hb, h1⟩ := rd_in (h.below hB) hk'
      have Hs := flat_take_succ onC (zs := openL e zs) (k := k) (by rw [openL_len]; exact hk')
      rw [openL_at hk'] at Hs
      have HS := Lib.hid Hs; clear Hs
      generalize zs[k] = z at h1 HS
      have hsz := hB.size
      go_wp2_with (at_builtin; refine wpList_append_new rfl (.tmp 15) (.tmp 21) 28 rfl w.heap.size 48 i0 _ 3 24 Try.underlying28 hi hz0 hz1 hz2 rfl (by decide) _ k _ rfl hO wr.heap.size 1 1 rfl rfl (onC ⟨⟨e, k⟩, z⟩) rfl rfl (by simp [onC, Value.oneCell']) (by omega) (by omega) (by omega) ?_; intro A' c' w1 hO1 hg1 _)
      have hall := hB.grown hg1 hsz (fun j hj => (hO.lt j hj).1)
      go_roundw
      case rel => exact ⟨k + 1, by omega, by go_num, by rw [HS.out]; exact hO1, hall⟩
      case measure => simp [intOf]; omega
    · obtain rfl : k = n := by omega
      obtain ⟨A', c', rfl⟩ := own_form hO
      go_wp2
      go_ret
      exact ⟨A', c', rfl, by rw [List.take_of_length_le (by rw [openL_len, Hn.out]; omega)] at hO; exact hO, hB⟩
def awL : List On := openL 1 [100, 70]
def awR : List On := openL 2 [-40, -101, -30]
theorem aw_ref : refOut awL awR 1 = [⟨[⟨1, 0⟩], [⟨2, 1⟩]⟩, ⟨[⟨1, 1⟩], [⟨2, 0⟩, ⟨2, 2⟩]⟩] := by decide +kernel
theorem aw_lines : LinesOk awL awR := by
  refine ⟨?_, by decide +kernel, by decide +kernel, by decide +kernel⟩
  unfold OnGood
  decide +kernel
theorem aw_wf : ∀ x ∈ awL ++ awR, RfWf x.r := by
  unfold RfWf
  decide +kernel
theorem aw_out : progOut awL awR 1 = [⟨[⟨1, 0⟩], [⟨2, 1⟩]⟩, ⟨[⟨1, 1⟩], [⟨2, 0⟩, ⟨2, 2⟩]⟩] := (prog_ref 1 aw_lines.2.1).trans aw_ref
theorem rd_blk {w : World} {g : Nat} {zs : List Int} (h : Blk w g 3 (zs.map (Value.int .i64)).toArray) : Rd inC 1 w.heap.size w (some ⟨g, 0, none⟩) zs := fun i x hx => by
  refine ⟨g, 0, rfl, h.lt, fun j u hu => ?_⟩
  cases j with
  | zero =>
    have hu : (Value.int .i64 x) = u := by simpa [inC] using hu
    subst hu
    rw [h.cell]
    simp [hx]
  | succ j => simp [inC] at hu

set_option maxRecDepth 20000 in
set_option maxHeartbeats 800000 in
theorem awake_any (w : World) : Calls Try.prog 9 #[] w fun e w' => e = .returned (.bool true) ∧ Below w.heap.size w w' := by
  go_enter Try.func9, Try.ntmps9
  go_wp2_with fail
  have hb0 : Blk (w.alloc (.cells #[Value.int .i64 100, Value.int .i64 70] 3)) w.heap.size 3 (([100, 70] : List Int).map (Value.int .i64)).toArray := Blk.new _ _ _
  have hs0 : (w.alloc (.cells #[Value.int .i64 100, Value.int .i64 70] 3)).heap.size = w.heap.size + 1 := by simp
  have hbl0 : Below w.heap.size w (w.alloc (.cells #[Value.int .i64 100, Value.int .i64 70] 3)) := (Below.refl _ _).alloc (Nat.le_refl _) _
  have c0 := open_any (some ⟨w.heap.size, 0, none⟩) 2 2 1 [100, 70] _ rfl (by omega) (rd_blk hb0)
  generalize w.alloc (.cells #[Value.int .i64 100, Value.int .i64 70] 3) = w1 at c0 hs0 hbl0 hb0
  refine c0.mono ?_
  rintro e w2 ⟨A1, c1, rfl, hO1, hb1⟩
  have hb1w : Below w.heap.size w w2 := hbl0.trans (hb1.mono (by omega))
  have R1 := Rd.of_own (enc := onC) (k := 3) (zs := awL) (fun _ => rfl) hO1 rfl
  clear c0 hO1 hb0 hs0 hbl0 hb1
  go_wp2_with fail
  have hb0 : Blk (w2.alloc (.cells #[Value.int .i64 (-40), Value.int .i64 (-101), Value.int .i64 (-30)] 3)) w2.heap.size 3 (([-40, -101, -30] : List Int).map (Value.int .i64)).toArray := Blk.new _ _ _
  have hbl0 : Below w2.heap.size w2 (w2.alloc (.cells #[Value.int .i64 (-40), Value.int .i64 (-101), Value.int .i64 (-30)] 3)) := (Below.refl _ _).alloc (Nat.le_refl _) _
  have c0 := open_any (some ⟨w2.heap.size, 0, none⟩) 3 3 2 [-40, -101, -30] _ rfl (by omega) (rd_blk hb0)
  generalize w2.alloc (.cells #[Value.int .i64 (-40), Value.int .i64 (-101), Value.int .i64 (-30)] 3) = w3 at c0 hbl0 hb0 ⊢
  refine c0.mono ?_
  rintro e w4 ⟨A2, c2, rfl, hO2, hb2⟩
  have hb24 : Below w2.heap.size w2 w4 := hbl0.trans (hb2.mono hbl0.size)
  have R2 := Rd.of_own (enc := onC) (k := 3) (zs := awR) (fun _ => rfl) hO2 rfl
  have R1' := (R1.below hb24).mono hb24.size
  have hb4w : Below w.heap.size w w4 := hb1w.trans (hb24.mono hb1w.size)
  clear c0 hO2 hb0 hbl0 hb2 R1 hb24 hb1w
  have c5 := propose_any A1 A2 2 c1 3 c2 awL awR 1 w4 rfl rfl R1' R2 aw_wf aw_lines (by decide) (by decide)
  rw [aw_out] at c5
  clear R1' R2
  go_wp2_with fail
  refine c5.mono ?_
  rintro e w5 ⟨A3, n3, c3, qs, rfl, hn3, hO3, hpv, hb5⟩
  obtain rfl : n3 = 2 := hn3
  have hql : qs.length = 2 := hpv.1
  obtain ⟨b, off, hA3, hb, k1, k2⟩ := rd_pv (Rd.of_own (enc := pvC) (k := 2) (zs := qs) (fun _ => rfl) hO3 hql) (i := 1) (by omega)
  obtain ⟨p1, p2, p3, p4, p5, p6⟩ := hpv.2 1 qs[1] _ (List.getElem?_eq_getElem (by omega)) rfl
  generalize qs[1] = q at k2 p2 p4
  obtain ⟨b2, off2, hA4, hb2, e1⟩ := p4 1 ⟨2, 2⟩ rfl
  have e2 := e1 1 _ rfl
  have hbw : Below w.heap.size w w5 := hb4w.trans (hb5.mono hb4w.size)
  have p2' : q.y.n = 2 := p2.symm
  obtain ⟨qx, qyA, qyn, qyc⟩ := q
  simp only [] at k2 p2' hA4
  subst p2'
  subst hA3
  subst hA4
  clear hpv c5 p1 p2 p3 p5 p6 e1 hO3 k1 hql hb4w hb5
  simp only [Nat.one_mul, Nat.add_assoc, Nat.reduceAdd] at k2 e2
  go_wp2
  go_ret
  exact ⟨rfl, hbw⟩
end Go.Proofs.Ytccgleiildgckaa
