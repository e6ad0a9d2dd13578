/- The law MatchPropose returns true. No conditions beside the reading of the arguments. -/
import Derived.Test.YtccgleiildgckaaL1
namespace Go.Proofs.Ytccgleiildgckaa
open Go.RowKit

def lawPost (w : World) (e : Ending) (w' : World) : Prop := e = .returned (.bool true) ∧ Below w.heap.size w w'

set_option maxRecDepth 20000 in
set_option maxHeartbeats 800000 in
theorem mpropose_many (A A' : Option Addr) (n c n' c' : Nat) (tol : Int) (w : World) (hm : n ≤ maxLen) (hm' : n' ≤ maxLen) (h : 12 < n ∨ 12 < n') :
    Calls Try.prog 3 #[.slice A n c, .slice A' n' c', .int .i64 tol] w (lawPost w) := by
  unfold maxLen at hm hm'
  by_cases h0 : 12 < n
  · have g0 : decide ((12 : Int) < n) = true := decide_eq_true (by omega)
    go_enter Try.func3, Try.ntmps3
    go_wp2_with fail
    refine (awake_any _).mono ?_
    rintro e w1 ⟨rfl, hb1⟩
    go_wp2_with fail
    refine (awake_any _).mono ?_
    rintro e w2 ⟨rfl, hb2⟩
    go_wp2
    go_ret
    exact ⟨rfl, hb1.trans (hb2.mono hb1.size)⟩
  · have g0 : decide ((12 : Int) < n) = false := decide_eq_false (by omega)
    have g1 : decide ((12 : Int) < n') = true := decide_eq_true (by omega)
    go_enter Try.func3, Try.ntmps3
    go_wp2_with fail
    refine (awake_any _).mono ?_
    rintro e w1 ⟨rfl, hb1⟩
    go_wp2_with fail
    refine (awake_any _).mono ?_
    rintro e w2 ⟨rfl, hb2⟩
    go_wp2
    go_ret
    exact ⟨rfl, hb1.trans (hb2.mono hb1.size)⟩

set_option maxRecDepth 20000 in
set_option maxHeartbeats 800000 in
theorem mpropose_few (A A' : Option Addr) (n c n' c' : Nat) (L R : List On) (tol : Int) (w : World) (hn : L.length = n) (hn' : R.length = n') (hc : n ≤ c) (hc' : n' ≤ c') (hl : n ≤ 12) (hl' : n' ≤ 12)
    (h : Rd onC 3 w.heap.size w A L) (h' : Rd onC 3 w.heap.size w A' R) (hwf : ∀ x ∈ L ++ R, RfWf x.r) :
    Calls Try.prog 3 #[.slice A n c, .slice A' n' c', .int .i64 tol] w (lawPost w) := by
  have Hn := Lib.hid hn; clear hn
  have Hn' := Lib.hid hn'; clear hn'
  have HW := Lib.hid hwf; clear hwf
  have g0 : decide ((12 : Int) < n) = false := decide_eq_false (by omega)
  have g1 : decide ((12 : Int) < n') = false := decide_eq_false (by omega)
  go_enter Try.func3, Try.ntmps3
  go_wp2_with fail
  refine (awake_any _).mono ?_
  rintro e w1 ⟨rfl, hb1⟩
  have R0 := (h.below hb1).mono hb1.size
  have R1 := (h'.below hb1).mono hb1.size
  clear h h'
  go_wp2_with fail
  refine (to_any A n c L w1 Hn.out (by omega) R0).mono ?_
  rintro e w2 ⟨A1, c1, rfl, hO1, hb2⟩
  have R2 := (R0.below hb2).mono hb2.size
  have R3 := (R1.below hb2).mono hb2.size
  have T1 := Rd.of_own (enc := onC) (k := 3) (zs := L) (fun _ => rfl) hO1 Hn.out
  have hw2 := hb1.trans (hb2.mono hb1.size)
  clear R0 R1 hO1 hb1 hb2
  go_wp2_with fail
  refine (to_any A' n' c' R w2 Hn'.out (by omega) R3).mono ?_
  rintro e w3 ⟨A2, c2, rfl, hO2, hb3⟩
  have R4 := (R2.below hb3).mono hb3.size
  have R5 := (R3.below hb3).mono hb3.size
  have T1' := (T1.below hb3).mono hb3.size
  have T2 := Rd.of_own (enc := onC) (k := 3) (zs := R) (fun _ => rfl) hO2 Hn'.out
  have hw3 := hw2.trans (hb3.mono hw2.size)
  clear R2 R3 T1 hO2 hb3 hw2
  by_cases hok : LinesOk L R
  · by_cases ht : 0 ≤ tol ∧ tol ≤ 1000000000000
    · have hpr := prog_ref tol hok.2.1
      go_wp2_with fail
      refine (propose_any A1 A2 n c1 n' c2 L R tol w3 Hn.out Hn'.out T1' T2 HW.out hok ht.1 ht.2).mono ?_
      rintro e w4 ⟨A3, n3, c3, qs, rfl, hn3, hO3, hpv, hb4⟩
      have hl3 := p3_len L R tol
      change (progOut L R tol).length ≤ _ at hl3
      rw [← hn3, Hn.out, Hn'.out] at hl3
      have hql : qs.length = n3 := by rw [hpv.1, hn3]
      have Q1 := Rd.of_own (enc := pvC) (k := 2) (zs := qs) (fun _ => rfl) hO3 hql
      have R6 := (R4.below hb4).mono hb4.size
      have R7 := (R5.below hb4).mono hb4.size
      have hw4 := hw3.trans (hb4.mono hw3.size)
      have HN3 := Lib.hid hn3; clear hn3
      have HQL := Lib.hid hql; clear hql
      have HPV := Lib.hid hpv; clear hpv
      have HPR := Lib.hid hpr; clear hpr
      clear R4 R5 T1' T2 hO3 hb4 hw3
      go_wp2_with fail
      refine (rpropose_any A A' n c n' c' L R tol w4 Hn.out Hn'.out hl hl' hc hc' R6 R7 hok ht.1 ht.2).mono ?_
      rintro e w5 ⟨A4, n4, c4, qs4, rfl, hn4, hO4, hpv4, hb5⟩
      have hl4 : n4 ≤ 1000 := by rw [hn4, ← HPR.out, ← HN3.out]; omega
      have hql4 : qs4.length = n4 := by rw [hpv4.1, hn4]
      have Q2 := Rd.of_own (enc := pvC) (k := 2) (zs := qs4) (fun _ => rfl) hO4 hql4
      have Q1' := (Q1.below hb5).mono hb5.size
      have HPV' := Lib.hid ((HPV.out.kept (fun b hb => hb5.block b hb)).imp (fun b hb => Nat.lt_of_lt_of_le hb hb5.size))
      have hw5 := hw4.trans (hb5.mono hw4.size)
      have HN4 := Lib.hid hn4; clear hn4
      have HPV4 := Lib.hid hpv4; clear hpv4
      clear Q1 HPV hql4 hO4 hb5 hw4 R6 R7
      go_wp2_with fail
      refine (from_any A3 n3 c3 qs w5 HQL.out (by omega) Q1').mono ?_
      rintro e w6 ⟨A5, c5, rfl, hO5, hb6⟩
      have Q3 := Rd.of_own (enc := pvC) (k := 2) (zs := qs) (fun _ => rfl) hO5 HQL.out
      have Q2' := (Q2.below hb6).mono hb6.size
      have P1 := Lib.hid ((HPV'.out.kept (fun b hb => hb6.block b hb)).imp (fun b hb => Nat.lt_of_lt_of_le hb hb6.size))
      have P2 := Lib.hid ((HPV4.out.kept (fun b hb => hb6.block b hb)).imp (fun b hb => Nat.lt_of_lt_of_le hb hb6.size))
      have hw6 := hw5.trans (hb6.mono hw5.size)
      clear Q2 Q1' hO5 hb6 hw5 HPV' HPV4
      go_wp2_with fail
      refine (samePairs_any A5 A4 n3 c5 n4 c4 qs qs4 _ _ w6 HN3.out.symm HN4.out.symm (by omega) Q3 P1.out Q2' P2.out).mono ?_
      rw [decide_eq_true HPR.out]
      rintro e w7 ⟨rfl, q7, rfl⟩
      go_wp2
      go_ret
      exact ⟨rfl, below_drewNs hw6 _⟩
    · have ht' : tol < 0 ∨ 1000000000000 < tol := by omega
      have HT := Lib.hid ht'; clear ht ht'
      go_wp2_with fail
      refine (propose_range A1 A2 n c1 n' c2 L R tol w3 Hn.out Hn'.out (by omega) (by omega) T1' T2 HW.out hok HT.out).mono ?_
      rintro e w4 ⟨rfl, hb4⟩
      have R6 := (R4.below hb4).mono hb4.size
      have R7 := (R5.below hb4).mono hb4.size
      have hw4 := hw3.trans (hb4.mono hw3.size)
      clear R4 R5 T1' T2 hb4 hw3
      go_wp2_with fail
      refine (rpropose_range A A' n c n' c' L R tol w4 Hn.out Hn'.out (by omega) (by omega) R6 R7 hok HT.out).mono ?_
      rintro e w5 ⟨rfl, hb5⟩
      have hw5 := hw4.trans (hb5.mono hw4.size)
      clear R6 R7 hb5 hw4
      go_wp2_with fail
      refine (from_any none 0 0 [] w5 rfl (by omega) Rd.nil).mono ?_
      rintro e w6 ⟨A5, c5, rfl, hO5, hb6⟩
      have hw6 := hw5.trans (hb6.mono hw5.size)
      clear hO5 hb6 hw5
      go_wp2_with fail
      refine (samePairs_any A5 none 0 c5 0 0 [] [] [] [] w6 rfl rfl (by omega) Rd.nil PvAll.nil Rd.nil PvAll.nil).mono ?_
      rintro e w7 ⟨rfl, q7, rfl⟩
      go_wp2
      go_ret
      exact ⟨rfl, below_drewNs hw6 _⟩
  · go_wp2_with fail
    refine (propose_arg A1 A2 n c1 n' c2 L R tol w3 Hn.out Hn'.out (by omega) (by omega) T1' T2 HW.out hok).mono ?_
    rintro e w4 ⟨rfl, hb4⟩
    have R6 := (R4.below hb4).mono hb4.size
    have R7 := (R5.below hb4).mono hb4.size
    have hw4 := hw3.trans (hb4.mono hw3.size)
    clear R4 R5 T1' T2 hb4 hw3
    go_wp2_with fail
    refine (rpropose_arg A A' n c n' c' L R tol w4 Hn.out Hn'.out (by omega) (by omega) R6 R7 hok).mono ?_
    rintro e w5 ⟨rfl, hb5⟩
    have hw5 := hw4.trans (hb5.mono hw4.size)
    clear R6 R7 hb5 hw4
    go_wp2_with fail
    refine (from_any none 0 0 [] w5 rfl (by omega) Rd.nil).mono ?_
    rintro e w6 ⟨A5, c5, rfl, hO5, hb6⟩
    have hw6 := hw5.trans (hb6.mono hw5.size)
    clear hO5 hb6 hw5
    go_wp2_with fail
    refine (samePairs_any A5 none 0 c5 0 0 [] [] [] [] w6 rfl rfl (by omega) Rd.nil PvAll.nil Rd.nil PvAll.nil).mono ?_
    rintro e w7 ⟨rfl, q7, rfl⟩
    go_wp2
    go_ret
    exact ⟨rfl, below_drewNs hw6 _⟩
theorem mpropose_any (A A' : Option Addr) (n c n' c' : Nat) (L R : List On) (tol : Int) (w : World) (hn : L.length = n) (hn' : R.length = n') (hc : n ≤ c) (hc' : n' ≤ c') (hm : c ≤ maxLen) (hm' : c' ≤ maxLen)
    (h : Rd onC 3 w.heap.size w A L) (h' : Rd onC 3 w.heap.size w A' R) (hwf : ∀ x ∈ L ++ R, RfWf x.r) :
    Calls Try.prog 3 #[.slice A n c, .slice A' n' c', .int .i64 tol] w (lawPost w) := by
  by_cases hb : 12 < n ∨ 12 < n'
  · exact mpropose_many A A' n c n' c' tol w (by omega) (by omega) hb
  · exact mpropose_few A A' n c n' c' L R tol w hn hn' hc hc' (by omega) (by omega) h h' hwf
end Go.Proofs.Ytccgleiildgckaa
