/- The law MatchRest returns true. No conditions beside the reading of the arguments. -/
import Derived.Test.YtccgleiildgckaaL2
import Derived.Test.YtccgleiildgckaaP4
namespace Go.Proofs.Ytccgleiildgckaa
open Go.RowKit Go.Rf
attribute [local go_sem ↓] Go.wp_at_zero Go.wp_at_succ

theorem usedP_take_succ {ps : List Pr} {k : Nat} (hk : k < ps.length) : usedP (ps.take (k + 1)) = usedP (ps.take k) ++ (ps[k].x ++ ps[k].y) := by
  rw [List.take_succ_eq_append_getElem hk, usedP_snoc]
/-- The used references in the caller's hands. -/
structure UsedIn (W : World) (B : Nat) (us : List Rf) (u : Value) : Prop where
  ex : ∃ A c, u = .slice A us.length c ∧ W.ownsRow B 41 2 (.slice A us.length c) us.length (us.flatMap rfC)
theorem UsedIn.start (W : World) (B : Nat) : UsedIn W B [] (.slice none 0 0) := ⟨none, 0, rfl, World.ownsRow_nil _ _ _ _⟩

set_option maxRecDepth 20000 in
set_option maxHeartbeats 1600000 in
theorem mrest_many (A A' : Option Addr) (n c n' c' : Nat) (tol : Int) (w : World) (hm : n ≤ maxLen) (hm' : n' ≤ maxLen) (h : 30 < n ∨ 30 < n') :
    Calls Try.prog 6 #[.slice A n c, .slice A' n' c', .int .u16 tol] w (lawPost w) := by
  unfold maxLen at hm hm'
  by_cases h0 : 30 < n
  · have g0 : decide ((30 : Int) < n) = true := decide_eq_true (by omega)
    go_enter Try.func6, Try.ntmps6
    go_wp2_with fail
    refine (awake_any _).mono ?_
    rintro e w1 ⟨rfl, hb1⟩
    go_wp2_with fail
    refine (awake_any _).mono ?_
    rintro e w2 ⟨rfl, hb2⟩
    go_wp2
    go_ret
    exact ⟨rfl, hb1.trans (hb2.mono hb1.size)⟩
  · have g0 : decide ((30 : Int) < n) = false := decide_eq_false (by omega)
    have g1 : decide ((30 : Int) < n') = true := decide_eq_true (by omega)
    go_enter Try.func6, Try.ntmps6
    go_wp2_with fail
    refine (awake_any _).mono ?_
    rintro e w1 ⟨rfl, hb1⟩
    go_wp2_with fail
    refine (awake_any _).mono ?_
    rintro e w2 ⟨rfl, hb2⟩
    go_wp2
    go_ret
    exact ⟨rfl, hb1.trans (hb2.mono hb1.size)⟩

set_option maxRecDepth 20000 in
set_option maxHeartbeats 1600000 in
theorem mrest_few (A A' : Option Addr) (n c n' c' : Nat) (L R : List On) (tol : Int) (w : World) (hn : L.length = n) (hn' : R.length = n') (hl : n ≤ 30) (hl' : n' ≤ 30)
    (h : Rd onC 3 w.heap.size w A L) (h' : Rd onC 3 w.heap.size w A' R) (hwf : ∀ x ∈ L ++ R, RfWf x.r) (ht0 : 0 ≤ tol) (ht1 : tol ≤ 65535) :
    Calls Try.prog 6 #[.slice A n c, .slice A' n' c', .int .u16 tol] w (lawPost w) := by
  obtain ⟨i41, hi41, hz41, hy41, hb41⟩ := info_parts Try.info41
  have Hn := Lib.hid hn; clear hn
  have Hn' := Lib.hid hn'; clear hn'
  have HW := Lib.hid hwf; clear hwf
  have g0 : decide ((30 : Int) < n) = false := decide_eq_false (by omega)
  have g1 : decide ((30 : Int) < n') = false := decide_eq_false (by omega)
  go_enter Try.func6, Try.ntmps6
  go_wp2_with fail
  refine (awake_any _).mono ?_
  rintro e w1 ⟨rfl, hb1⟩
  have R0 := (h.below hb1).mono hb1.size
  have R1 := (h'.below hb1).mono hb1.size
  clear h h'
  go_wp2_with fail
  refine (to_any A n c L w1 Hn.out (by omega) R0).mono ?_
  rintro e w2 ⟨A1, c1, rfl, hO1, hb2⟩
  have R2 := (R0.below hb2).mono hb2.size
  have R3 := (R1.below hb2).mono hb2.size
  have T1 := Rd.of_own (enc := onC) (k := 3) (zs := L) (fun _ => rfl) hO1 Hn.out
  have hw2 := hb1.trans (hb2.mono hb1.size)
  clear R0 R1 hO1 hb1 hb2
  go_wp2_with fail
  refine (to_any A' n' c' R w2 Hn'.out (by omega) R3).mono ?_
  rintro e w3 ⟨A2, c2, rfl, hO2, hb3⟩
  have R4 := (R2.below hb3).mono hb3.size
  have R5 := (R3.below hb3).mono hb3.size
  have T1' := (T1.below hb3).mono hb3.size
  have T2 := Rd.of_own (enc := onC) (k := 3) (zs := R) (fun _ => rfl) hO2 Hn'.out
  have hw3 := hw2.trans (hb3.mono hw2.size)
  clear R2 R3 T1 hO2 hb3 hw2
  by_cases hok : LinesOk L R
  · go_wp2_with fail
    refine (propose_any A1 A2 n c1 n' c2 L R tol w3 Hn.out Hn'.out T1' T2 HW.out hok ht0 (by omega)).mono ?_
    rintro e w4 ⟨A3, n3, c3, qs, rfl, hn3, hO3, hpv, hb4⟩
    have hl3 := p3_len L R tol
    change (progOut L R tol).length ≤ _ at hl3
    rw [← hn3, Hn.out, Hn'.out] at hl3
    have hql : qs.length = n3 := by rw [hpv.1, hn3]
    have Q1 := Rd.of_own (enc := pvC) (k := 2) (zs := qs) (fun _ => rfl) hO3 hql
    have R6 := (R4.below hb4).mono hb4.size
    have R7 := (R5.below hb4).mono hb4.size
    have hw4 := hw3.trans (hb4.mono hw3.size)
    have hrest := fun i j hi hj h1 h2 => rest_law (i := i) (j := j) tol (dist_of hok.2.1) hi hj h1 h2
    have HRest := Lib.hid hrest; clear hrest
    have hgood := hok.1
    have HG := Lib.hid hgood; clear hgood
    generalize progOut L R tol = ps at hn3 hpv HRest
    have HN3 := Lib.hid hn3; clear hn3
    have HQL := Lib.hid hql; clear hql
    have HPV := Lib.hid hpv; clear hpv
    clear R4 R5 T1' T2 hO3 hb4 hw3 hok
    go_wp2
    go_loopw [9, 44] (fun u i wr => ∃ k : Nat, k ≤ n3 ∧ i = .int .i64 k ∧ UsedIn wr w4.heap.size (usedP (ps.take k)) u ∧ (usedP (ps.take k)).length ≤ 2000 * k ∧ Below w4.heap.size w4 wr) (fun _ i _ => n3 - (intOf i).toNat)
    case atStart => exact ⟨0, Nat.zero_le _, rfl, UsedIn.start _ _, by simp [usedP], Below.refl _ _⟩
    case round =>
      obtain ⟨k, hk, rfl, ⟨Au, cu, rfl, hOu⟩, hul, hb5⟩ := hrel
      obtain ⟨w5, rfl⟩ : ∃ u, u = wr := ⟨wr, rfl⟩
      have hs5 := hb5.size
      by_cases hlt : k < n3
      · have hk1 : k < ps.length := by rw [← HN3.out]; exact hlt
        have hk2 : k < qs.length := by rw [HQL.out]; exact hlt
        obtain ⟨b, off, hA3, hb, k1, k2⟩ := rd_pv (Q1.below hb5) hk2
        obtain ⟨p1, p2, p3, p4, p5, p6⟩ := HPV.out.2 k qs[k] ps[k] (List.getElem?_eq_getElem hk2) (List.getElem?_eq_getElem hk1)
        have htk := usedP_take_succ hk1
        generalize qs[k] = q at k1 k2 p1 p2 p3 p4 p5 p6
        generalize ps[k] = pp at p1 p2 p3 p4 htk
        generalize hus : usedP (ps.take k) = us at hOu hul htk
        obtain ⟨m, hm⟩ : ∃ m, us.length = m := ⟨_, rfl⟩
        rw [hm] at hOu hul ⊢
        have HUS := Lib.hid hus; clear hus
        have HM := Lib.hid hm; clear hm
        have HTK := Lib.hid htk; clear htk
        subst hA3
        obtain ⟨⟨xA, xn, xc⟩, ⟨yA, yn, yc⟩⟩ := q
        simp only [] at k1 k2 p1 p2 p3 p4 p5 p6
        have P1 := Lib.hid p1; clear p1
        have P2 := Lib.hid p2; clear p2
        have hbs : b < w5.heap.size := by omega
        have hik : (0 : Int) ≤ (k : Int) := by omega
        have hik2 : (k : Int) < (n3 : Int) := by omega
        go_wp2
        obtain ⟨W6, hW6⟩ : ∃ u, w5.alloc (.cells #[.slice xA xn xc, .slice yA yn yc] 39) = u := ⟨_, rfl⟩
        have hX6 : Blk W6 w5.heap.size 39 #[.slice xA xn xc, .slice yA yn yc] := by rw [← hW6]; exact Blk.new _ _ _
        have hO6 : W6.ownsRow w4.heap.size 41 2 (.slice Au m cu) m (us.flatMap rfC) := by rw [← hW6]; exact hOu.alloc _
        have hb6 : Below w4.heap.size w4 W6 := by rw [← hW6]; exact hb5.alloc hs5 _
        have hs6 : W6.heap.size = w5.heap.size + 1 := by rw [← hW6]; simp
        rw [hW6]
        have e0 : W6.cell? ⟨w5.heap.size, 0, none⟩ = some (.slice xA xn xc) := hX6.cell 0
        have e1 : W6.cell? ⟨w5.heap.size, 1, none⟩ = some (.slice yA yn yc) := hX6.cell 1
        have hne := own_type hO6 hX6 (by decide)
        have hlx := hX6.lt
        have p3' := (p3.toRd (B := w4.heap.size) (fun b h => h)).below hb6
        have p4' := (p4.toRd (B := w4.heap.size) (fun b h => h)).below hb6
        have p5' : xn ≤ 1000 := p5
        have p6' : yn ≤ 1000 := p6
        have HP3 := Lib.hid p3'; clear p3 p3'
        have HP4 := Lib.hid p4'; clear p4 p4'
        have HO6 := Lib.hid hO6; clear hO6 hOu
        clear hW6 hX6 k1 k2
        refine Rg.region (d := 7) (F := Rg.Kept (.slice Au m cu) W6) (by kernel_rfl) ?_
        refine Rg.takes (fun _ _ tt _ _ h => by cases tt <;> exact h) [0, 1, 2, 4, 5] [.slice Au m cu, .pointer (some ⟨w5.heap.size, 0, none⟩), .slice xA xn xc, .pointer (some ⟨w5.heap.size, 1, none⟩), .slice yA yn yc] 3 _ _ _ (by kernel_rfl) ?hq (Rg.Kept.refl _ _).drew ?hr
        case hq =>
          intro w' hF'
          have f1 := hF'.cell e0 hlx hne
          have f2 := hF'.cell e1 hlx hne
          clear hF'
          simp only [Rg.pick, List.filterMap_cons, List.filterMap_nil, List.getElem?_toArray, List.getElem?_cons_succ, List.getElem?_cons_zero]
          iterate 5
            refine Rg.quiets_cons ?_ ?_
            · go_simp
            simp only [Act.put, List.setIfInBounds_toArray, List.set_cons_zero, List.set_cons_succ]
          exact Rg.quiets_nil
        case hr =>
          simp only [Rg.pick, Rg.putAll, Act.put, List.filterMap_cons, List.filterMap_nil, List.getElem?_toArray, List.getElem?_cons_succ, List.getElem?_cons_zero, List.setIfInBounds_toArray, List.set_cons_zero, List.set_cons_succ]
          refine Rg.run_forced [3, 6, 7] 3 _ _ _ (by decide) (by kernel_rfl) rfl (by decide) ?_
          simp only [Rg.pick, List.filterMap_cons, List.filterMap_nil, List.getElem?_toArray, List.getElem?_cons_succ, List.getElem?_cons_zero]
          refine Rg.runS_cons ?_
          refine wpList_append_src rfl (.tmp 48) (.tmp 50) 37 rfl w4.heap.size 41 i41 _ 2 16 Try.underlying37 hi41 hz41 hy41 hb41 rfl (by decide) (.slice Au m cu) m (us.flatMap rfC) rfl (own_drew HO6.out) xA xn xc (pp.x.flatMap rfC) rfl (by rw [len_flat (enc := rfC) (k := 2) (fun _ => rfl), P1.out]) (rd_src (fun _ => rfl) HP3.out) (one_rfC _) (by omega) (by omega) (by show w4.heap.size ≤ W6.heap.size; omega) ?_
          intro A7 c7 w7 hO7 hg7 hloc7
          have hK7 : Rg.Kept (.slice Au m cu) W6 w7 := (Rg.Kept.refl _ _).drew.grown hg7
          have hb7 : Below w4.heap.size W6 w7 := (Below.refl _ _).grown ⟨hg7.os, hg7.tape, hg7.output, hg7.size, hg7.block⟩ (by omega) (fun b e => own_ge HO6.out (Nat.le_refl _) b e)
          have hs7 := hb7.size
          refine Rg.nil_kept hK7 ?_
          simp only [Act.put, List.setIfInBounds_toArray, List.set_cons_zero, List.set_cons_succ]
          refine Rg.runS_cons ?_
          refine wpList_append_src rfl (.tmp 51) (.tmp 53) 37 rfl w4.heap.size 41 i41 _ 2 16 Try.underlying37 hi41 hz41 hy41 hb41 rfl (by decide) (.slice A7 (m + xn) c7) (m + xn) (us.flatMap rfC ++ pp.x.flatMap rfC) rfl hO7 yA yn yc (pp.y.flatMap rfC) rfl (by rw [len_flat (enc := rfC) (k := 2) (fun _ => rfl), P2.out]) (rd_src (fun _ => rfl) (HP4.out.below hb7)) (one_rfC _) (by omega) (by omega) (by omega) ?_
          intro A8 c8 w8 hO8 hg8 hloc8
          have hK8 : Rg.Kept (.slice Au m cu) W6 w8 := by
            refine ⟨Nat.le_trans hK7.1 hg8.size, fun b hb hn => (hg8.block b (Nat.lt_of_lt_of_le hb hK7.1) (fun e => ?_)).trans (hK7.2 b hb hn)⟩
            rcases hloc7 with h7 | h7
            · exact hn (e.trans h7)
            · have := h7 b e.symm
              have hb : b < W6.heap.size := hb
              have this : W6.heap.size ≤ b := this
              omega
          have hb8 : Below w4.heap.size w4 w8 := (hb6.trans (hb7.mono (Nat.le_refl _))).grown hg8 (by omega) (fun b e => own_ge hO7 (Nat.le_refl _) b e)
          have hO9 : w8.ownsRow w4.heap.size 41 2 (.slice A8 (m + xn + yn) c8) (m + xn + yn) ((us ++ (pp.x ++ pp.y)).flatMap rfC) := by
            rw [List.flatMap_append, List.flatMap_append, ← List.append_assoc]; exact hO8
          have hlen9 : (us ++ (pp.x ++ pp.y)).length = m + xn + yn := by rw [List.length_append, List.length_append, HM.out, P1.out, P2.out, Nat.add_assoc]
          have HU9 : Hid (UsedIn w8 w4.heap.size (usedP (ps.take (k + 1))) (.slice A8 (m + xn + yn) c8)) := by
            rw [HTK.out]
            exact ⟨⟨A8, c8, by rw [hlen9], by rw [hlen9]; exact hO9⟩⟩
          have HL9 : Hid ((usedP (ps.take (k + 1))).length = m + xn + yn) := by rw [HTK.out]; exact hlen9
          clear hO7 hO8 hO9 hlen9 hg7 hg8 hloc7 hloc8 hb7
          refine Rg.nil_kept hK8 ?_
          simp only [Act.put, List.setIfInBounds_toArray, List.set_cons_zero, List.set_cons_succ]
          refine Rg.runS_cons ?_
          go_wp2
          refine Rg.then_last ?_
          go_wp2
          go_roundw
          case rel => exact ⟨k + 1, by omega, by go_num, HU9, by rw [HL9.out]; omega, hb8⟩
          case measure => simp [intOf]; omega
      · obtain rfl : k = n3 := by omega
        have R8 := (R6.below hb5).mono hs5
        have R9 := (R7.below hb5).mono hs5
        have hw5 := hw4.trans (hb5.mono hw4.size)
        rw [List.take_of_length_le (by rw [← HN3.out]; exact Nat.le_refl _)] at hOu hul ⊢
        generalize hus : usedP ps = us at hOu hul HRest ⊢
        clear hus
        have hRu : Rd rfC 2 w5.heap.size w5 Au us := Rd.of_own (fun _ => rfl) hOu rfl
        obtain ⟨m, hm⟩ : ∃ m, us.length = m := ⟨_, rfl⟩
        rw [hm] at hul ⊢
        have HM := Lib.hid hm; clear hm
        have hmx : m ≤ maxLen := by unfold maxLen; omega
        clear hOu R6 R7 Q1 hw4 hb5 HN3 HQL HPV
        go_wp2
        go_loopw [58] (fun i wr => ∃ i' : Nat, i' ≤ n ∧ i = .int .i64 i' ∧ Below w5.heap.size w5 wr) (fun i _ => n - (intOf i).toNat)
        case atStart => exact ⟨0, Nat.zero_le _, rfl, Below.refl _ _⟩
        case round =>
          obtain ⟨i, hi, rfl, hb6⟩ := hrel
          obtain ⟨w6, rfl⟩ : ∃ u, u = wr := ⟨wr, rfl⟩
          by_cases hilt : i < n
          · have hi' : i < L.length := by rw [Hn.out]; exact hilt
            obtain ⟨b, off, hA, hb, f0, f1, f2⟩ := rd_on (R8.below hb6) hi'
            have hgx := HG.out L[i] (by simp)
            have hxr : (gO L i) = L[i] := gO_at hi'
            have HRi := fun j => HRest.out i j hi'
            rw [hxr] at HRi
            generalize L[i] = x at f0 f1 f2 hgx HRi
            have HRI := Lib.hid HRi; clear HRi hxr
            obtain ⟨hx1, hx2⟩ := good_ok hgx
            have hs6 := hb6.size
            have hbs : b < w6.heap.size := by omega
            subst hA
            have hik : (0 : Int) ≤ (i : Int) := by omega
            have hik2 : (i : Int) < (n : Int) := by omega
            clear hgx
            go_wp2
            obtain ⟨W0, hW0⟩ : ∃ u, w6.alloc (.cells #[.int .i64 x.r.e, .int .i64 x.r.l, .int .i64 x.a] 50) = u := ⟨_, rfl⟩
            have hX0 : Blk W0 w6.heap.size 50 #[.int .i64 x.r.e, .int .i64 x.r.l, .int .i64 x.a] := by rw [← hW0]; exact Blk.new _ _ _
            have hB0 : Below w5.heap.size w5 W0 := by rw [← hW0]; exact hb6.alloc hs6 _
            have hs0 : W0.heap.size = w6.heap.size + 1 := by rw [← hW0]; simp
            rw [hW0]
            clear hW0 f0 f1 f2
            go_loopw [64] (fun j wr => ∃ j' : Nat, j' ≤ n' ∧ j = .int .i64 j' ∧ Below W0.heap.size W0 wr) (fun j _ => n' - (intOf j).toNat)
            case atStart => exact ⟨0, Nat.zero_le _, rfl, Below.refl _ _⟩
            case round =>
              obtain ⟨j, hj, rfl, hb7⟩ := hrel
              obtain ⟨w7, rfl⟩ : ∃ u, u = wr := ⟨wr, rfl⟩
              have hs7 := hb7.size
              have hB7 := hB0.trans (hb7.mono (by omega))
              by_cases hjlt : j < n'
              · have hj' : j < R.length := by rw [Hn'.out]; exact hjlt
                obtain ⟨b2, off2, hA2, hb2, g0, g1, g2⟩ := rd_on (R9.below hB7) hj'
                have hgy := HG.out R[j] (by simp)
                have hyr : (gO R j) = R[j] := gO_at hj'
                have HRj := HRI.out j hj'
                rw [hyr] at HRj
                generalize R[j] = y at g0 g1 g2 hgy HRj
                have HRJ := Lib.hid HRj; clear HRj hyr
                obtain ⟨hy1, hy2⟩ := good_ok hgy
                have hb2s : b2 < w7.heap.size := by omega
                subst hA2
                have hjk : (0 : Int) ≤ (j : Int) := by omega
                have hjk2 : (j : Int) < (n' : Int) := by omega
                have x0 : w7.cell? ⟨w6.heap.size, 0, none⟩ = some (.int .i64 x.r.e) := (hX0.below hb7 hX0.lt).cell 0
                have x1 : w7.cell? ⟨w6.heap.size, 1, none⟩ = some (.int .i64 x.r.l) := (hX0.below hb7 hX0.lt).cell 1
                have x2 : w7.cell? ⟨w6.heap.size, 2, none⟩ = some (.int .i64 x.a) := (hX0.below hb7 hX0.lt).cell 2
                have hxs : w6.heap.size < w7.heap.size := by omega
                clear hgy
                go_wp2_with fail
                obtain ⟨W1, hW1⟩ : ∃ u, w7.alloc (.cells #[.int .i64 y.r.e, .int .i64 y.r.l, .int .i64 y.a] 50) = u := ⟨_, rfl⟩
                have hY1 : Blk W1 w7.heap.size 50 #[.int .i64 y.r.e, .int .i64 y.r.l, .int .i64 y.a] := by rw [← hW1]; exact Blk.new _ _ _
                have hX1 : Blk W1 w6.heap.size 50 #[.int .i64 x.r.e, .int .i64 x.r.l, .int .i64 x.a] := by rw [← hW1]; exact (hX0.below hb7 hX0.lt).alloc _
                have hB1 : Below W0.heap.size W0 W1 := by rw [← hW1]; exact hb7.alloc hs7 _
                have hB51 : Below w5.heap.size w5 W1 := hB0.trans (hB1.mono (by omega))
                have hs1 : W1.heap.size = w7.heap.size + 1 := by rw [← hW1]; simp
                rw [hW1]
                clear hW1 g0 g1 g2 x0 x1 x2
                have hRu1 : Rd rfC 2 W1.heap.size W1 Au us := (hRu.below hB51).mono hB51.size
                refine (in_any Au m cu us x.r W1 HM.out hmx hRu1).mono ?_
                rintro e w8 ⟨rfl, hb8⟩
                have hB8 : Below W0.heap.size W0 w8 := hB1.trans (hb8.mono hB1.size)
                have hRu2 : Rd rfC 2 w8.heap.size w8 Au us := (hRu1.below hb8).mono hb8.size
                have y0 : w8.cell? ⟨w7.heap.size, 0, none⟩ = some (.int .i64 y.r.e) := (hY1.below hb8 hY1.lt).cell 0
                have y1 : w8.cell? ⟨w7.heap.size, 1, none⟩ = some (.int .i64 y.r.l) := (hY1.below hb8 hY1.lt).cell 1
                have hs8 := hb8.size
                have hys : w7.heap.size < w8.heap.size := by omega
                by_cases h1 : x.r ∈ us
                · rw [decide_eq_true h1]
                  clear HRJ h1
                  have HCUR := Lib.hid hB8
                  go_wp2
                  go_roundw
                  case rel => exact ⟨j + 1, by omega, by go_num, HCUR⟩
                  case measure => simp [intOf]; omega
                · rw [decide_eq_false h1]
                  go_wp2_with fail
                  refine (in_any Au m cu us y.r w8 HM.out hmx hRu2).mono ?_
                  rintro e w9 ⟨rfl, hb9⟩
                  have hB9 : Below W0.heap.size W0 w9 := hB8.trans (hb9.mono hB8.size)
                  have hs9 := hb9.size
                  have z2 : w9.cell? ⟨w6.heap.size, 2, none⟩ = some (.int .i64 x.a) := ((hX1.below hb8 hX1.lt).below hb9 (by omega)).cell 2
                  have z3 : w9.cell? ⟨w7.heap.size, 2, none⟩ = some (.int .i64 y.a) := ((hY1.below hb8 hY1.lt).below hb9 (by omega)).cell 2
                  have hxs9 : w6.heap.size < w9.heap.size := by omega
                  have hys9 : w7.heap.size < w9.heap.size := by omega
                  have HCUR := Lib.hid hB9
                  by_cases h2 : y.r ∈ us
                  · rw [decide_eq_true h2]
                    clear HRJ h1 h2
                    go_wp2
                    go_roundw
                    case rel => exact ⟨j + 1, by omega, by go_num, HCUR⟩
                    case measure => simp [intOf]; omega
                  · rw [decide_eq_false h2]
                    have hno := HRJ.out h1 h2
                    rw [oppB_iff, absZ_le] at hno
                    clear HRJ h1 h2
                    by_cases ha : x.a < 0 <;> by_cases hc : y.a < 0
                    · have da : decide (x.a < 0) = true := decide_eq_true ha
                      have dc : decide (y.a < 0) = true := decide_eq_true hc
                      clear hno
                      go_wp2
                      go_roundw
                      case rel => exact ⟨j + 1, by omega, by go_num, HCUR⟩
                      case measure => simp [intOf]; omega
                    · have da : decide (x.a < 0) = true := decide_eq_true ha
                      have dc : decide (y.a < 0) = false := decide_eq_false hc
                      by_cases hd : x.a + y.a ≤ tol
                      · have de : decide (-(x.a + y.a) ≤ tol) = false := decide_eq_false (by omega)
                        clear hno
                        go_wp2
                        go_roundw
                        case rel => exact ⟨j + 1, by omega, by go_num, HCUR⟩
                        case measure => simp [intOf]; omega
                      · have de : decide (x.a + y.a ≤ tol) = false := decide_eq_false hd
                        clear hno
                        go_wp2
                        go_roundw
                        case rel => exact ⟨j + 1, by omega, by go_num, HCUR⟩
                        case measure => simp [intOf]; omega
                    · have da : decide (x.a < 0) = false := decide_eq_false ha
                      have dc : decide (y.a < 0) = true := decide_eq_true hc
                      by_cases hd : x.a + y.a ≤ tol
                      · have de : decide (-(x.a + y.a) ≤ tol) = false := decide_eq_false (by omega)
                        clear hno
                        go_wp2
                        go_roundw
                        case rel => exact ⟨j + 1, by omega, by go_num, HCUR⟩
                        case measure => simp [intOf]; omega
                      · have de : decide (x.a + y.a ≤ tol) = false := decide_eq_false hd
                        clear hno
                        go_wp2
                        go_roundw
                        case rel => exact ⟨j + 1, by omega, by go_num, HCUR⟩
                        case measure => simp [intOf]; omega
                    · have da : decide (x.a < 0) = false := decide_eq_false ha
                      have dc : decide (y.a < 0) = false := decide_eq_false hc
                      clear hno
                      go_wp2
                      go_roundw
                      case rel => exact ⟨j + 1, by omega, by go_num, HCUR⟩
                      case measure => simp [intOf]; omega
              · obtain rfl : j = n' := by omega
                have HCUR := Lib.hid hB7
                go_wp2
                go_roundw
                case rel => exact ⟨i + 1, by omega, by go_num, HCUR⟩
                case measure => simp [intOf]; omega
          · obtain rfl : i = n := by omega
            go_wp2
            go_ret
            exact ⟨rfl, hw5.trans (hb6.mono hw5.size)⟩
  · go_wp2_with fail
    refine (propose_arg A1 A2 n c1 n' c2 L R tol w3 Hn.out Hn'.out (by omega) (by omega) T1' T2 HW.out hok).mono ?_
    rintro e w4 ⟨rfl, hb4⟩
    have hw4 := hw3.trans (hb4.mono hw3.size)
    clear R4 R5 T1' T2 hb4 hw3
    go_wp2
    go_ret
    exact ⟨rfl, hw4⟩
theorem wf_u16 {n : Int} (h : (Lit.int .u16 n).wf = true) : 0 ≤ n ∧ n ≤ 65535 := by
  simp only [Lit.wf, Bool.and_eq_true, decide_eq_true_eq] at h
  exact h
theorem matchRest_any (A A' : Option Addr) (n c n' c' : Nat) (L R : List On) (tol : Int) (w : World) (hn : L.length = n) (hn' : R.length = n') (hc : n ≤ c) (hc' : n' ≤ c') (hm : c ≤ maxLen) (hm' : c' ≤ maxLen)
    (h : Rd onC 3 w.heap.size w A L) (h' : Rd onC 3 w.heap.size w A' R) (hwf : ∀ x ∈ L ++ R, RfWf x.r) (wt : (Lit.int .u16 tol).wf = true) :
    Calls Try.prog 6 #[.slice A n c, .slice A' n' c', .int .u16 tol] w (lawPost w) := by
  by_cases hb : 30 < n ∨ 30 < n'
  · exact mrest_many A A' n c n' c' tol w (by omega) (by omega) hb
  · exact mrest_few A A' n c n' c' L R tol w hn hn' (by omega) (by omega) h h' hwf (wf_u16 wt).1 (wf_u16 wt).2
end Go.Proofs.Ytccgleiildgckaa
