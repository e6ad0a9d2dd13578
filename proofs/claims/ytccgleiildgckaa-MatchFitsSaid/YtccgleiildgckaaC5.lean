/- Contract of the finder's step many. Conditions: at most 60 lines on each side, amounts in range. -/
import Derived.Test.YtccgleiildgckaaC4b
namespace Go.Proofs.Ytccgleiildgckaa
open Go.RowKit Go.Rf
attribute [local go_sem] Oper.semAt_some

set_option maxRecDepth 100000 in
set_option maxHeartbeats 1600000 in
theorem fmany_any (v : Fv) (gg : Nat) (hgg : gg = if v.fl then 29 else 28) (O : v.f.Ok) (s : Gs) (w : World) (hX : v.X.length ≤ 60) (hY : v.Y.length ≤ 60) (hps : s.ps.length ≤ 200) (hokX : ∀ x ∈ v.X, OnOk x) (hokY : ∀ x ∈ v.Y, OnOk x) (h : ∃ qs A c, FinV v w s qs A c) :
    Calls Try.prog 27 #[.pointer (some ⟨v.f.Fk, 0, none⟩), .pointer (some ⟨v.f.Fk, v.oX, none⟩), .pointer (some ⟨v.f.Fk, v.oY, none⟩), .func (.func gg) #[] #[]] w fun e w' => e = .returned (.tuple #[]) ∧ (∃ qs A c, FinV v w' (manyAll v s v.X.length) qs A c) ∧ Below v.f.B w w' := by
  have HG := Lib.hid hgg; clear hgg
  obtain ⟨i3, hi3, hz3, hy3, hb3⟩ := info_parts Try.info3
  obtain ⟨i39, hi39, hz39, hy39, hb39⟩ := info_parts Try.info39
  obtain ⟨i41, hi41, hz41, hy41, hb41⟩ := info_parts Try.info41
  have HX := Lib.hid hokX; clear hokX
  have HY := Lib.hid hokY; clear hokY
  obtain ⟨qs, A, c, h⟩ := h
  have c0 := h.cX.1
  have hbs0 := h.size
  have hFk := h.ltF
  have hFk1 : v.f.Fk < w.heap.size + 1 := by omega
  have hFk2 : v.f.Fk < w.heap.size + 1 + 1 := by omega
  have hFk3 : v.f.Fk < w.heap.size + 1 + 1 + 1 := by omega
  obtain ⟨nX, hnX⟩ : ∃ n, v.X.length = n := ⟨_, rfl⟩
  obtain ⟨nY, hnY⟩ : ∃ n, v.Y.length = n := ⟨_, rfl⟩
  rw [hnX] at c0 hX ⊢
  rw [hnY] at hY
  have HnX := Lib.hid hnX; clear hnX
  have HnY := Lib.hid hnY; clear hnY
  refine (callsIn_wide (n := 9)).1 ?_
  refine callsIn_of_wp_marks Try.func27 rfl trivial ?_
  refine (wpIn_wide (n := 9)).2 ?_
  simp only [Try.ntmps27, List.size_toArray, List.length_cons, List.length_nil, Nat.reduceAdd, Nat.reduceSub, Array.replicate_succ, Array.replicate_zero, List.push_toArray, List.append_toArray, List.nil_append, List.cons_append]
  go_wp2
  obtain ⟨W0, hW0⟩ : ∃ W, (((w.alloc (.cells #[.pointer (some ⟨v.f.Fk, 0, none⟩)] 75)).alloc (.cells #[.pointer (some ⟨v.f.Fk, v.oX, none⟩)] 82)).alloc (.cells #[.pointer (some ⟨v.f.Fk, v.oY, none⟩)] 82)).alloc (.cells #[.func (.func gg) #[] #[]] 83) = W := ⟨_, rfl⟩
  have hbx : Bxs v gg w.heap.size W0 := by rw [← hW0]; exact bxs_new v gg w
  have hbw : Below w.heap.size w W0 := by rw [← hW0]; exact ((((Below.refl _ _).alloc (Nat.le_refl _) _).alloc (by simp) _).alloc (by simp; omega) _).alloc (by simp; omega) _
  have hF0 := h.kept O hbw
  have hB0 : Below v.f.B w W0 := hbw.mono (by have := h.size; have := O.bk; have := O.tk; omega)
  rw [hW0]
  clear hW0 h c0 hFk1 hFk2 hFk3 hbw
  refine wp_loop (OutI v gg w s nX) (fun a _ => nX - (intOf (a.tmps.getD 25 undef)).toNat) ?_ ?_
  · exact ⟨0, fr_mk rfl, Nat.zero_le _, trivial, ⟨_, _, _, hF0⟩, hB0, hbx⟩
  · rintro ⟨tmps, ds⟩ wr ⟨k, ⟨u, ht⟩, hk, hM, ⟨qs, A, c, h⟩, hB, hbx⟩
    clear hF0 hB0
    simp only at ht hM
    subst ht
    unfold frT
    obtain ⟨z, rfl⟩ : ∃ z, z = wr := ⟨wr, rfl⟩
    have hzs := h.size
    by_cases hlt : k < nX
    · have hlen := manyAll_len v s k
      have hst := manyAll_succ v s k
      generalize manyAll v s k = t at h hlen hst
      have hk' : k < v.X.length := by rw [HnX.out]; exact hlt
      obtain ⟨b, off, hAX, hb, f0, f1, f2⟩ := rd_on h.rX hk'
      obtain ⟨hx1, hx2⟩ := HX.out v.X[k] (List.getElem_mem hk')
      unfold manySt at hst
      rw [List.getElem?_eq_getElem hk'] at hst
      generalize v.X[k] = x at f0 f1 f2 hx1 hx2 hst
      have hu := h.uX hk'
      have d1 := h.cX.2
      rw [HnX.out] at d1
      have p1 : z.cell? ⟨w.heap.size + 1, 0, none⟩ = some (.pointer (some ⟨v.f.Fk, v.oX, none⟩)) := hbx.b1.cell 0
      have hFk := h.ltF
      have hUX := h.ltX
      have hn1 := hbx.b1.lt
      have hn3 := hbx.b3.lt
      have hbz : b < z.heap.size := Nat.lt_of_lt_of_le hb (by have := O.bk; have := O.tk; omega)
      have hik : (0 : Int) ≤ (k : Int) := by omega
      have hik2 : (k : Int) < (nX : Int) := by omega
      have hFk1 : v.f.Fk < z.heap.size + 1 := by omega
      have hUX1 : v.UX < z.heap.size + 1 := by omega
      have hn11 : w.heap.size + 1 < z.heap.size + 1 := by omega
      rw [hAX]
      have HAX := Lib.hid hAX; clear hAX
      cases hux : t.ux.getD k true with
      | true =>
        rw [hux] at hu hst
        have HS := Lib.hid hst; clear hst hux
        go_wp2
        go_quiet (fail)
        go_wp2
        rename_i nq
        have hbl : ∀ o1 o2, Below z.heap.size z (((z.alloc o1).alloc o2).drewN nq) := fun o1 o2 => below_drewNs (((Below.refl _ z).alloc (Nat.le_refl _) o1).alloc (by simp) o2) _
        refine ⟨⟨k + 1, ?_, by omega, Marks.below hM (hbl _ _), ⟨qs, A, c, ?_⟩, hB.trans ((hbl _ _).mono (by have := O.bk; omega)), hbx.below (hbl _ _)⟩, ?_⟩
        · rw [← HAX.out]
          exact fr_mk rfl
        · rw [HS.out]
          exact h.kept O (hbl _ _)
        · simp [intOf]; omega
      | false =>
        rw [hux] at hu hst
        have HS := Lib.hid hst; clear hst hux
        have g1 := h.cY.1
        have g2 := h.cY.2
        rw [HnY.out] at g1 g2
        have b2c : z.cell? ⟨w.heap.size + 1 + 1, 0, none⟩ = some (.pointer (some ⟨v.f.Fk, v.oY, none⟩)) := hbx.b2.cell 0
        have hn2 := hbx.b2.lt
        have hUY := h.ltY
        have hFk2 : v.f.Fk < z.heap.size + 1 + 1 := by omega
        have hn21 : w.heap.size + 1 + 1 < z.heap.size + 1 := by omega
        have hn22 : w.heap.size + 1 + 1 < z.heap.size + 1 + 1 := by omega
        go_wp2
        go_quiet (fail)
        rename_i nq
        go_wp2
        obtain ⟨Z1, hZ1⟩ : ∃ W, (((z.alloc (.cells #[.int .i64 k] 3)).alloc (.cells #[.int .i64 x.r.e, .int .i64 x.r.l, .int .i64 x.a] 48)).drewN nq).alloc (.cells #[.slice none 0 0] 99) = W := ⟨_, rfl⟩
        have hZb : Below z.heap.size z Z1 := by rw [← hZ1]; exact (below_drewNs (((Below.refl _ z).alloc (Nat.le_refl _) _).alloc (by simp) _) _).alloc (by show z.heap.size ≤ ((z.alloc _).alloc _).heap.size; simp; omega) _
        have hZs : Z1.heap.size = z.heap.size + 1 + 1 + 1 := by rw [← hZ1]; show (((z.alloc _).alloc _).alloc _).heap.size = _; simp
        have hZk : Blk Z1 z.heap.size 3 #[.int .i64 k] := by rw [← hZ1]; exact (((Blk.new z _ _).alloc _).alloc _ : Blk (((z.alloc _).alloc _).alloc _) _ _ _)
        have hZx : Blk Z1 (z.heap.size + 1) 48 #[.int .i64 x.r.e, .int .i64 x.r.l, .int .i64 x.a] := by
          have := ((Blk.new (z.alloc (.cells #[.int .i64 k] 3)) 48 #[.int .i64 x.r.e, .int .i64 x.r.l, .int .i64 x.a]).alloc (.cells #[.slice none 0 0] 99))
          rw [World.size_alloc] at this
          rw [← hZ1]; exact this
        have hZc : Blk Z1 (z.heap.size + 1 + 1) 99 #[.slice none 0 0] := by
          have := Blk.new ((z.alloc (.cells #[.int .i64 k] 3)).alloc (.cells #[.int .i64 x.r.e, .int .i64 x.r.l, .int .i64 x.a] 48)) 99 #[.slice none 0 0]
          rw [World.size_alloc, World.size_alloc] at this
          rw [← hZ1]; exact this
        have hC0 : Cnd v x t.uy (z.heap.size + 1 + 1) 0 Z1 none 0 0 := ⟨hZc, rfl, World.ownsRow_nil _ _ _ _⟩
        rw [hZ1]
        clear hZ1 hZc
        go_loopw [42] (fun i wr => ∃ (q : Nat) (A' : Option Addr) (m c' : Nat), q ≤ nY ∧ i = .int .i64 q ∧ Cnd v x t.uy (z.heap.size + 1 + 1) q wr A' m c' ∧ Below (z.heap.size + 1 + 1) Z1 wr) (fun i _ => nY - (intOf i).toNat)
        case atStart => exact ⟨0, none, 0, 0, Nat.zero_le _, rfl, hC0, Below.refl _ _⟩
        case round =>
          clear hC0
          obtain ⟨q, A', m, c', hq, rfl, hC, hb1⟩ := hrel
          have hbb := hZb.trans (hb1.mono (by omega))
          have hws := hb1.size
          by_cases hqlt : q < nY
          · have hq' : q < v.Y.length := by rw [HnY.out]; exact hqlt
            obtain ⟨b2, off2, hAY, hbl2, r0, r1, r2⟩ := rd_on h.rY hq'
            have huy := h.uY hq'
            obtain ⟨hy1, hy2⟩ := HY.out v.Y[q] (List.getElem_mem hq')
            have ham := amt_at hq'
            generalize v.Y[q] = y at r0 r1 r2 hy1 hy2 ham
            have hb2z : b2 < z.heap.size := by have := O.bk; have := O.tk; omega
            have k0 := (hbb.cell (p := ⟨b2, off2 + q * 3, none⟩) hb2z).trans r0
            have k1 := (hbb.cell (p := ⟨b2, off2 + q * 3 + 1, none⟩) hb2z).trans r1
            have k2 := (hbb.cell (p := ⟨b2, off2 + q * 3 + 2, none⟩) hb2z).trans r2
            have ku := (hbb.cell (p := ⟨v.UY, q, none⟩) hUY).trans huy
            have m1 := (hbb.cell (p := ⟨v.f.Fk, v.oY, none⟩) hFk).trans g1
            have m2 := (hbb.cell (p := ⟨v.f.Fk, v.oY + 1, none⟩) hFk).trans g2
            have mb := (hbb.cell (p := ⟨w.heap.size + 1 + 1, 0, none⟩) hn2).trans b2c
            have x2 : wr.cell? ⟨z.heap.size + 1, 2, none⟩ = some (.int .i64 x.a) := (hZx.below hb1 (by omega)).cell 2
            have cb : wr.cell? ⟨z.heap.size + 1 + 1, 0, none⟩ = some (.slice A' m c') := hC.box.cell 0
            have cf := hC.box.frozen 0
            have s1 : z.heap.size + 1 < wr.heap.size := by omega
            have s2 : z.heap.size + 1 + 1 < wr.heap.size := by omega
            have s3 : v.f.Fk < wr.heap.size := by omega
            have s4 : v.UY < wr.heap.size := by omega
            have s5 : b2 < wr.heap.size := by omega
            have s6 : w.heap.size + 1 + 1 < wr.heap.size := by omega
            have hiq : (0 : Int) ≤ (q : Int) := by omega
            have hiq2 : (q : Int) < (nY : Int) := by omega
            have hm12 := candT_len x v.Y t.uy q
            rw [hC.len] at hm12
            have hT : candT x v.Y t.uy (q + 1) = if !(t.uy.getD q true) && oppB x.a y.a && decide (m < 12) then candT x v.Y t.uy q ++ [q] else candT x v.Y t.uy q := by rw [candT, ham, hC.len]
            rw [hAY] at m1 ⊢
            have HAY := Lib.hid hAY; clear hAY
            generalize t.uy.getD q true = uu at ku hT
            have HO := Lib.hid (opposite_any x.a y.a)
            generalize oppB x.a y.a = op at hT HO
            cases uu with
            | true =>
              have HT := Lib.hid hT; clear hT
              go_wp2_with (go_at_call 41; refine (HO.out _).mono ?_; rintro e w3 ⟨rfl, rfl⟩)
              go_roundw
              case rel => first | exact ⟨q + 1, A', m, c', by omega, by go_num, ⟨hC.box.alloc _, by rw [HT.out]; exact hC.len, by rw [HT.out]; exact hC.own.alloc _⟩, hb1.alloc (by omega) _⟩ | exact ⟨_, _, _, _, _, _, _, _, _, _, _, _, _, _, _, _, _, _, _, _, _, _, _, _, _, _, _, _, _, _, _, _, ⟨q + 1, A', m, c', by omega, by go_num, ⟨hC.box.alloc _, by rw [HT.out]; exact hC.len, by rw [HT.out]; exact hC.own.alloc _⟩, hb1.alloc (by omega) _⟩, rfl⟩
              case measure => simp [intOf]; omega
            | false =>
              cases op with
              | false =>
                have HT := Lib.hid hT; clear hT
                go_wp2_with (go_at_call 41; refine (HO.out _).mono ?_; rintro e w3 ⟨rfl, rfl⟩)
                go_roundw
                case rel => first | exact ⟨q + 1, A', m, c', by omega, by go_num, ⟨hC.box.alloc _, by rw [HT.out]; exact hC.len, by rw [HT.out]; exact hC.own.alloc _⟩, hb1.alloc (by omega) _⟩ | exact ⟨_, _, _, _, _, _, _, _, _, _, _, _, _, _, _, _, _, _, _, _, _, _, _, _, _, _, _, _, _, _, _, _, ⟨q + 1, A', m, c', by omega, by go_num, ⟨hC.box.alloc _, by rw [HT.out]; exact hC.len, by rw [HT.out]; exact hC.own.alloc _⟩, hb1.alloc (by omega) _⟩, rfl⟩
                case measure => simp [intOf]; omega
              | true =>
                by_cases hm : m < 12
                · have hmd : decide ((m : Int) < 12) = true := decide_eq_true (by omega)
                  rw [decide_eq_true hm] at hT
                  simp only [Bool.not_false, Bool.and_self, if_true] at hT
                  have HT := Lib.hid hT; clear hT
                  have HC := Lib.hid hC; clear hC
                  go_wp2_with (first | (go_at_call 41; refine (HO.out _).mono ?_; rintro e w3 ⟨rfl, rfl⟩) | (at_builtin; refine wpList_append_new rfl (.tmp 67) (.tmp 69) 99 rfl (z.heap.size + 1 + 1 + 1) 3 i3 _ 1 8 Try.underlying99 hi3 hz3 hy3 hb3 rfl (by decide) (.slice A' m c') m _ rfl (HC.out.own.alloc _) _ 1 1 rfl (by simp) [natV q] rfl rfl (by simp [natV, Value.oneCell']) (by omega) (by omega) (by simp; omega) ?_; intro A5 c5 w5 hO5 hg5 hloc5; have cb5 := (hg5.block (z.heap.size + 1 + 1) (by simp; omega) (own_ne HC.out.own (by omega))).trans ((Below.heap_alloc wr _ _ s2).trans HC.out.box); have cb6 := Blk.cell cb5 0; have cb7 := Blk.frozen cb5 0))
                  go_roundw
                  case rel => exact ⟨q + 1, A5, m + 1, c5, by omega, by go_num, ⟨Blk.set_ cb5 0 _, by rw [HT.out]; simp [HC.out.len], by rw [HT.out, List.map_append]; exact own_far hO5 (Nat.lt_succ_self _) _⟩, ((hb1.alloc (by omega) _).grown hg5 (by simp; omega) (fun kk e => by have := own_ge HC.out.own (Nat.le_refl _) kk e; omega)).setCell (Nat.le_refl _) _⟩
                  case measure => simp [intOf]; omega
                · have hmd : decide ((m : Int) < 12) = false := decide_eq_false (by omega)
                  rw [decide_eq_false hm] at hT
                  have HT := Lib.hid hT; clear hT
                  go_wp2_with (go_at_call 41; refine (HO.out _).mono ?_; rintro e w3 ⟨rfl, rfl⟩)
                  go_roundw
                  case rel => first | exact ⟨q + 1, A', m, c', by omega, by go_num, ⟨hC.box.alloc _, by rw [HT.out]; exact hC.len, by rw [HT.out]; exact hC.own.alloc _⟩, hb1.alloc (by omega) _⟩ | exact ⟨_, _, _, _, _, _, _, _, _, _, _, _, _, _, _, _, _, _, _, _, _, _, _, _, _, _, _, _, _, _, _, _, ⟨q + 1, A', m, c', by omega, by go_num, ⟨hC.box.alloc _, by rw [HT.out]; exact hC.len, by rw [HT.out]; exact hC.own.alloc _⟩, hb1.alloc (by omega) _⟩, rfl⟩
                  case measure => simp [intOf]; omega
          · obtain rfl : q = nY := by omega
            have cb : wr.cell? ⟨z.heap.size + 1 + 1, 0, none⟩ = some (.slice A' m c') := hC.box.cell 0
            have hm12 := candT_len x v.Y t.uy q
            rw [hC.len] at hm12
            go_wp2_with (go_at_call 42; refine (sub42_any m _).mono ?_; rintro e w3 ⟨rfl, rfl⟩)
            have hM0 : Mv v gg w ds z t qs A c := ⟨h, hbx, hM, hB, hbs0⟩
            obtain ⟨cs, hcs⟩ : ∃ cs, candT x v.Y t.uy q = cs := ⟨_, rfl⟩
            have hclt : ∀ j ∈ cs, j < q := by rw [← hcs]; exact candT_lt x v.Y t.uy q
            obtain ⟨R, hR⟩ : ∃ R, wr.alloc (.cells #[.int .i64 m] 3) = R := ⟨_, rfl⟩
            have hRs : R.heap.size = wr.heap.size + 1 := by rw [← hR]; simp
            have hRb : Below (z.heap.size + 1 + 1) Z1 R := by rw [← hR]; exact hb1.alloc (by omega) _
            have hRz : Below z.heap.size z R := hZb.trans (hRb.mono (by omega))
            have hRm : R.cell? ⟨wr.heap.size, 0, none⟩ = some (.int .i64 m) := by rw [← hR]; exact (Blk.new wr 3 #[.int .i64 m]).cell 0
            have hRc : Blk R (z.heap.size + 1 + 1) 99 #[.slice A' m c'] := by rw [← hR]; exact hC.box.alloc _
            have hRo : R.ownsRow (z.heap.size + 1 + 1 + 1) 3 1 (.slice A' m c') m (cs.map natV) := by rw [← hR, ← hcs]; exact hC.own.alloc _
            have hcl : cs.length = m := by rw [← hcs]; exact hC.len
            have hRM := hM0.below O hRz
            have hRx : Blk R (z.heap.size + 1) 48 #[.int .i64 x.r.e, .int .i64 x.r.l, .int .i64 x.a] := hZx.below hRb (by omega)
            have hRk : Blk R z.heap.size 3 #[.int .i64 k] := hZk.below hRb (by omega)
            have hnone : (mAll m).find? (fitM x v.Y v.f.tol cs) = none → manyAll v s (k + 1) = t := by
              intro e
              have := HS.out
              rw [HnY.out, hcs, hcl, e] at this
              simpa using this
            have hsome : ∀ y, (mAll m).find? (fitM x v.Y v.f.tol cs) = some y → manyAll v s (k + 1) = stM v t k x cs y := by
              intro y e
              have := HS.out
              rw [HnY.out, hcs, hcl, e] at this
              simpa [stM, hcl] using this
            have Hnone := Lib.hid hnone; clear hnone
            have Hsome := Lib.hid hsome; clear hsome
            have Hclt := Lib.hid hclt; clear hclt
            have Hcl := Lib.hid hcl; clear hcl
            rw [hR]
            clear hC hR cb hRb hb1 hbb hws hZb hZs hZk hZx h hbx hM hB f0 f1 f2 hu d1 p1 b2c g1 g2 hcs HS hq hqlt hFk1 hFk2 hUX1 hn11 hn21 hn22
            have hzR : z.heap.size + 1 + 1 + 1 ≤ R.heap.size := by have := hRo.lt; have := hRc.lt; omega
            refine (wpIn_wide (n := 9)).1 ?_
            refine range_subsets2 (ce := 4) (p2 := 13) (k := m) (Bk := wr.heap.size) (fitM x v.Y v.f.tol cs) (fun y B => ∃ A0, (∃ qs A c, Mv v gg w ds A0 (stM v t k x cs y) qs A c) ∧ (∀ cs t fr, A0.heap[R.heap.size]? ≠ some (.cells cs t fr)) ∧ (∀ cs t fr, A0.heap[R.heap.size + 1]? ≠ some (.cells cs t fr)) ∧ DefOnly R.heap.size A0 B) rfl hm12 (by omega) hRm ?_ ?_ ?_ ?_ ?_
            · intro l y W K hK
              simp only [mkV, List.setIfInBounds_toArray, List.set_cons_zero, List.set_cons_succ] at hK ⊢
              gi_wp2
              exact hK
            · intro l y W hWb hWs hy hWd ⟨L0, hWl⟩
              simp only [mkV, List.setIfInBounds_toArray, List.set_cons_zero, List.set_cons_succ]
              have hWM := hRM.below O hWb
              have hWc := hRc.below hWb hRc.lt
              have hWx := hRx.below hWb hRx.lt
              have hWk := hRk.below hWb hRk.lt
              have hWo := own_below hRo hWb
              have hy1 := y.isLt
              obtain ⟨mv, hmv⟩ : ∃ n : Nat, n = y.val := ⟨_, rfl⟩
              rw [← hmv] at hy1 ⊢
              have cbW := hWc.cell 0
              have cxa : W.cell? ⟨z.heap.size + 1, 2, none⟩ = some (.int .i64 x.a) := hWx.cell 2
              have hzW : z.heap.size + 1 + 1 + 1 ≤ W.heap.size := by omega
              have hzW1 : z.heap.size + 1 < W.heap.size := by omega
              gi_wp2
              gi_loopw [14, 15, 80] (fun sm rf i W1 => ∃ (bi n' : Nat) (A1 : Option Addr) (c1 : Nat), bi ≤ m ∧ i = .int .i64 bi ∧ sm = .int .i64 (sumT x v.Y (selT y cs bi)) ∧ rf = .slice A1 n' c1 ∧ n' = (selT y cs bi).length ∧ W1.ownsRow W.heap.size 41 2 (.slice A1 n' c1) n' (((selT y cs bi).map (rfAt v.Y)).flatMap rfC) ∧ Below W.heap.size W W1) (fun _ _ i _ => m - (intOf i).toNat)
              case atStart => exact ⟨0, 0, none, 0, Nat.zero_le _, rfl, by simp [sumT, selT], rfl, rfl, World.ownsRow_nil _ _ _ _, Below.refl _ _⟩
              case round =>
                obtain ⟨bi, n', A1, c1, hbi, rfl, rfl, rfl, hn', hO1, hB1⟩ := hrel
                obtain ⟨W1, rfl⟩ : ∃ u, u = wr := ⟨wr, rfl⟩
                have hs1 := hB1.size
                by_cases hblt : bi < m
                · have hb' : bi < cs.length := by rw [Hcl.out]; exact hblt
                  have hst := selT_succ y cs hb'
                  have hkq := Hclt.out cs[bi] (List.getElem_mem hb')
                  have rdc : Rd ntC 1 W.heap.size W A' cs := Rd.of_own (fun _ => rfl) (by rw [← map_ntC]; exact hWo) Hcl.out
                  obtain ⟨b3, off3, hA3, hb3, r0⟩ := rd_nt rdc hb'
                  have r1 := (hB1.cell (p := ⟨b3, off3 + bi, none⟩) hb3).trans r0
                  have hsum := sumT_bd x v.Y ⟨hx1, hx2⟩ HY.out (selT y cs bi)
                  have hsl := selT_len y cs bi
                  rw [← hn'] at hsl hsum
                  have hsn := fun j => sumT_snoc x v.Y (selT y cs bi) j
                  generalize selT y cs bi = sl at hn' hst hsum hO1 hsn ⊢
                  generalize cs[bi] = kk at r1 hst hkq
                  obtain ⟨sm, hsm⟩ : ∃ n, sumT x v.Y sl = n := ⟨_, rfl⟩
                  rw [hsm] at hsum ⊢
                  have hkk : kk < v.Y.length := by rw [HnY.out]; exact hkq
                  obtain ⟨b2, off2, hAY, hbl2, q0, q1, q2⟩ := rd_on (hWM.below O hB1).fin.rY hkk
                  obtain ⟨hy3, hy4⟩ := HY.out v.Y[kk] (List.getElem_mem hkk)
                  have ham := amt_at hkk
                  have hrf := rfAt_at hkk
                  generalize v.Y[kk] = yy at q0 q1 q2 hy3 hy4 ham hrf
                  have m1 := (hWM.below O hB1).fin.cY.1
                  have mb := (hWM.below O hB1).bx.b2.cell 0
                  have lF := (hWM.below O hB1).fin.ltF
                  have lB := (hWM.below O hB1).bx.b2.lt
                  have lb2 : b2 < W1.heap.size := Nat.lt_of_lt_of_le hbl2 (by have := (hWM.below O hB1).fin.size; have := O.bk; have := O.tk; omega)
                  have lb3 : b3 < W1.heap.size := by omega
                  rw [HnY.out] at m1
                  subst hA3
                  rw [hAY] at m1
                  have HAY := Lib.hid hAY; clear hAY
                  have HST := Lib.hid hst; clear hst
                  have HSM := Lib.hid hsm; clear hsm
                  have HN := Lib.hid hn'; clear hn'
                  have HSN := Lib.hid hsn; clear hsn
                  have HAM := Lib.hid ham; clear ham
                  have HRF := Lib.hid hrf; clear hrf
                  have HMV := Lib.hid hmv; clear hmv
                  have HOW := Lib.hid hO1; clear hO1 hWo hRo rdc
                  have hb0 : (0 : Int) ≤ (bi : Int) := by omega
                  have hb12 : (bi : Int) < 12 := by omega
                  have hb13 : (bi : Int) < (m : Int) := by omega
                  have hk0 : (0 : Int) ≤ (kk : Int) := by omega
                  have hk1 : (kk : Int) < (q : Int) := by omega
                  have hbf := bit_fact y bi
                  rw [← HMV.out] at hbf
                  cases hin : inM y bi with
                  | false =>
                    rw [hin] at hbf
                    have HIN := Lib.hid hin; clear hin
                    gi_wp2_with fail
                    go_roundw
                    case rel => exact ⟨bi + 1, n', A1, c1, by omega, by go_num, by rw [HST.out, HIN.out]; simp [HSM.out], rfl, by rw [HST.out, HIN.out]; simpa using HN.out, by rw [HST.out, HIN.out]; simpa using HOW.out, hB1⟩
                    case measure => simp [intOf]; omega
                  | true =>
                    rw [hin] at hbf
                    have HIN := Lib.hid hin; clear hin
                    gi_wp2_with (gi_at_builtin; refine lift_one (free_round l) rfl rfl ?_; refine wpList_append_new rfl (.tmp 100) (.tmp 109) 37 rfl W.heap.size 41 i41 _ 2 16 Try.underlying37 hi41 hz41 hy41 hb41 rfl (by decide) (.slice A1 n' c1) n' _ rfl HOW.out _ 1 1 rfl rfl (rfC yy.r) rfl rfl (by simp [rfC, Value.oneCell']) (by omega) (by omega) hs1 ?_; intro A5 c5 w5 hO5 hg5 hloc5; refine then_done ?_)
                    go_roundw
                    case rel => exact ⟨bi + 1, n' + 1, A5, c5, by omega, by go_num, by rw [HST.out, HIN.out]; simp [HSN.out, HSM.out, HAM.out], rfl, by rw [HST.out, HIN.out]; simp [HN.out], by rw [HST.out, HIN.out]; simp only [if_true]; rw [List.map_append, List.flatMap_append]; simpa [HRF.out] using hO5, hB1.grown hg5 hs1 (own_ge HOW.out (Nat.le_refl _))⟩
                    case measure => simp [intOf]; omega
                · obtain rfl : bi = m := by omega
                  have hW1M := hWM.below O hB1
                  have htol := hW1M.fin.tol
                  have lF := hW1M.fin.ltF
                  have mb0 := hW1M.bx.b0.cell 0
                  have hlb0 := hW1M.bx.b0.lt
                  have hsum := sumT_bd x v.Y ⟨hx1, hx2⟩ HY.out (selT y cs bi)
                  have hsl := selT_len y cs bi
                  rw [← hn'] at hsl hsum
                  have hfit : fitM x v.Y v.f.tol cs y = decide (absZ (sumT x v.Y (selT y cs bi)) ≤ v.f.tol) := by rw [fitM, Hcl.out]
                  obtain ⟨sl, hsl2⟩ : ∃ l, selT y cs bi = l := ⟨_, rfl⟩
                  rw [hsl2] at hn' hsum hO1 hfit ⊢
                  obtain ⟨sm, hsm⟩ : ∃ n, sumT x v.Y sl = n := ⟨_, rfl⟩
                  rw [hsm] at hsum hfit ⊢
                  have HSL := Lib.hid hsl2; clear hsl2
                  have HSM := Lib.hid hsm; clear hsm
                  have HN := Lib.hid hn'; clear hn'
                  have HMV := Lib.hid hmv; clear hmv
                  have HOW := Lib.hid hO1; clear hO1
                  have HWO := Lib.hid hWo; clear hWo hRo
                  have hsm1 : -4000000000000000 ≤ sm := by omega
                  have hsm2 : sm ≤ 4000000000000000 := by omega
                  by_cases hle : absZ sm ≤ v.f.tol
                  · rw [decide_eq_true hle] at hfit
                    have HF := Lib.hid hfit; clear hfit
                    have hgt : decide (v.f.tol < absZ sm) = false := decide_eq_false (by omega)
                    gi_wp2
                    refine Go.Rf.quiet_lit (free_round l) (by kernel_rfl) (by rintro ⟨_, _, h⟩; exact h) (by kernel_rfl) (by kernel_rfl) ?_
                    repeat (quiet_step ((go_at_call 40; exact Calls.quiet_of_same (size_q _ _ hsm1 hsm2))))
                    refine wpQuiet_nil ?_
                    intro _ hw'
                    obtain ⟨nq2, hw''⟩ := hw'
                    subst hw''
                    obtain ⟨W2, hW2⟩ : ∃ u, W1.drewN nq2 = u := ⟨_, rfl⟩
                    have hB2 : Below W.heap.size W W2 := by rw [← hW2]; exact below_drewNs hB1 _
                    have hO2 : W2.ownsRow W.heap.size 41 2 (.slice A1 n' c1) n' ((sl.map (rfAt v.Y)).flatMap rfC) := by rw [← hW2]; exact own_drewN HOW.out _
                    have hM2 := hWM.below O hB2
                    rw [hW2]
                    clear hW2 hB1 HOW hW1M htol hgt lF mb0 hlb0 cbW cxa
                    have hs2 := hB2.size
                    have g0 : W2.cell? ⟨w.heap.size + 1, 0, none⟩ = some (.pointer (some ⟨v.f.Fk, v.oX, none⟩)) := hM2.bx.b1.cell 0
                    have g1 := hM2.fin.cX.2
                    rw [HnX.out] at g1
                    have g2 : W2.cell? ⟨z.heap.size, 0, none⟩ = some (.int .i64 k) := (hWk.below hB2 hWk.lt).cell 0
                    have hk' : k < v.X.length := by rw [HnX.out]; exact hlt
                    have g3 := hM2.fin.uX hk'
                    have g4 := hM2.fin.frX k
                    have e1 := hM2.bx.b1.lt
                    have e2 := hM2.fin.ltF
                    have e3 : z.heap.size < W2.heap.size := by omega
                    have e4 := hM2.fin.ltX
                    have e5 : (0 : Int) ≤ (k : Int) := by omega
                    have e6 : (k : Int) < (nX : Int) := by omega
                    have HM2 := Lib.hid hM2; clear hM2
                    have HO2 := Lib.hid hO2; clear hO2
                    gi_wp2
                    refine Rg.region_in (d := 6) (F := Rg.Kept (.slice none 0 0) W2) (free_round l) (by kernel_rfl) (by rintro ⟨_, _, h⟩; exact h) (by kernel_rfl) ?_
                    refine Rg.takes (fun _ _ tt _ _ h => by cases tt <;> exact h) [0, 1, 2, 3, 4, 5] [.pointer (some ⟨v.f.Fk, v.oX, none⟩), .pointer (some ⟨v.f.Fk, v.oX, none⟩), .pointer (some ⟨v.f.Fk, v.oX + 1, none⟩), .slice (some ⟨v.UX, 0, none⟩) nX nX, .int .i64 k, .pointer (some ⟨v.UX, k, none⟩)] 1 _ _ _ (by kernel_rfl) ?hq (Rg.Kept.refl _ _).drew ?hr
                    case hq =>
                      intro w' hF'
                      have f1 := hF'.cell g0 e1 (by intro h; cases h)
                      have f2 := hF'.cell g1 e2 (by intro h; cases h)
                      have f3 := hF'.cell g2 e3 (by intro h; cases h)
                      clear hF'
                      simp only [Rg.pick, List.filterMap_cons, List.filterMap_nil, List.getElem?_toArray, List.getElem?_cons_succ, List.getElem?_cons_zero]
                      iterate 6
                        refine Rg.quiets_cons ?_ ?_
                        · go_simp
                        simp only [Act.put, List.setIfInBounds_toArray, List.set_cons_zero, List.set_cons_succ]
                      exact Rg.quiets_nil
                    case hr =>
                      simp only [Rg.pick, Rg.putAll, Act.put, List.filterMap_cons, List.filterMap_nil, List.getElem?_toArray, List.getElem?_cons_succ, List.getElem?_cons_zero, List.setIfInBounds_toArray, List.set_cons_zero, List.set_cons_succ]
                      refine Rg.run_forced [6] 1 _ _ _ (by decide) (by kernel_rfl) rfl (by decide) ?_
                      simp only [Rg.pick, List.filterMap_cons, List.filterMap_nil, List.getElem?_toArray, List.getElem?_cons_succ, List.getElem?_cons_zero]
                      refine Rg.runS_cons ?_
                      go_wp2
                      refine Rg.then_last ?_
                      obtain ⟨W3, hW3⟩ : ∃ u, (W2.setCell ⟨v.UX, k, none⟩ (.bool true)).drew = u := ⟨_, rfl⟩
                      have hH3 : Hi v.f.base W2 W3 := by rw [← hW3]; exact ((Hi.refl _ _).set_ (p := ⟨v.UX, k, none⟩) (Fv.okX O).2.1 _).drew
                      have hM3 : Mv v gg w ds W3 ⟨t.ux.set k true, setAll t.uy (selT y cs 0), t.ps⟩ qs A c := by rw [← hW3]; exact (HM2.out.setX O k).drew
                      rw [hW3]
                      have cb3 : W3.cell? ⟨z.heap.size + 1 + 1, 0, none⟩ = some (.slice A' bi c') := (hH3.blk (hWc.below hB2 hWc.lt) (by omega)).cell 0
                      have hs3 := hH3.1
                      clear hW3 g0 g1 g2 g3 g4 e1 e2 e3 e4 e5 e6
                      gi_wp2
                      gi_loopw [127] (fun i W4 => ∃ bj : Nat, bj ≤ bi ∧ i = .int .i64 bj ∧ Mv v gg w ds W4 ⟨t.ux.set k true, setAll t.uy (selT y cs bj), t.ps⟩ qs A c ∧ Hi v.f.base W2 W4) (fun i _ => bi - (intOf i).toNat)
                      case atStart => exact ⟨0, Nat.zero_le _, rfl, hM3, hH3⟩
                      case round =>
                        clear hM3 hH3 hs3 cb3
                        obtain ⟨bj, hbj, rfl, hM4, hH4⟩ := hrel
                        obtain ⟨W4, rfl⟩ : ∃ u, u = wr := ⟨wr, rfl⟩
                        have hs4 := hH4.1
                        by_cases hjlt : bj < bi
                        · have hb' : bj < cs.length := by rw [Hcl.out]; exact hjlt
                          have hst := selT_succ y cs hb'
                          have hkq := Hclt.out cs[bj] (List.getElem_mem hb')
                          have rdc : Rd ntC 1 W4.heap.size W4 A' cs := Rd.of_own (fun _ => rfl) (by rw [← map_ntC]; exact hH4.own (own_below HWO.out hB2) (by omega)) Hcl.out
                          obtain ⟨b3, off3, hA3, hb3, r0⟩ := rd_nt rdc hb'
                          generalize cs[bj] = kk at r0 hst hkq
                          have hkk : kk < v.Y.length := by rw [HnY.out]; exact hkq
                          have m0 := hM4.bx.b2.cell 0
                          have m1 := hM4.fin.cY.2
                          rw [HnY.out] at m1
                          have m2 := hM4.fin.uY hkk
                          have m3 := hM4.fin.frY kk
                          have m4 := hM4.bx.b2.lt
                          have m5 := hM4.fin.ltF
                          have m6 := hM4.fin.ltY
                          subst hA3
                          generalize Value.bool _ = cu at m2
                          have hb0 : (0 : Int) ≤ (bj : Int) := by omega
                          have hb12 : (bj : Int) < 12 := by omega
                          have hb13 : (bj : Int) < (bi : Int) := by omega
                          have hk0 : (0 : Int) ≤ (kk : Int) := by omega
                          have hk1 : (kk : Int) < (q : Int) := by omega
                          have HST := Lib.hid hst; clear hst rdc
                          have HM4 := Lib.hid hM4; clear hM4
                          have hbf := bit_fact y bj
                          rw [← HMV.out] at hbf
                          cases hin : inM y bj with
                          | false =>
                            rw [hin] at hbf
                            have HIN := Lib.hid hin; clear hin
                            gi_wp2
                            go_roundw
                            case rel => exact ⟨bj + 1, by omega, by go_num, by rw [HST.out, HIN.out]; exact HM4.out, hH4⟩
                            case measure => simp [intOf]; omega
                          | true =>
                            rw [hin] at hbf
                            have HIN := Lib.hid hin; clear hin
                            gi_wp2
                            go_roundw
                            case rel => exact ⟨bj + 1, by omega, by go_num, by rw [HST.out, HIN.out]; simp only [if_true]; rw [setAll_snoc]; exact HM4.out.setY O kk, hH4.set_ (p := ⟨v.UY, kk, none⟩) (Fv.okY O).2.1 _⟩
                            case measure => simp [intOf]; omega
                        · obtain rfl : bj = bi := by omega
                          rw [HSL.out] at hM4
                          have h31 := hM4.fin.out5
                          have hO4 := hH4.own HO2.out (by omega)
                          have k0 := hM4.bx.b0.cell 0
                          have k1 := hM4.bx.b3.cell 0
                          have hX4 := hH4.blk (hWx.below hB2 hWx.lt) (by omega)
                          have k2 : W4.cell? ⟨z.heap.size + 1, 0, none⟩ = some (.int .i64 x.r.e) := hX4.cell 0
                          have k3 : W4.cell? ⟨z.heap.size + 1, 1, none⟩ = some (.int .i64 x.r.l) := hX4.cell 1
                          have l0 := hM4.bx.b0.lt
                          have l3 := hM4.bx.b3.lt
                          have lF := hM4.fin.ltF
                          have l5 : z.heap.size + 1 < W4.heap.size := by omega
                          have hown := hM4.fin.own
                          have n0 := own_type hown hM4.bx.b0 (by decide)
                          have n3 := own_type hown hM4.bx.b3 (by decide)
                          have nX1 := own_type hown hX4 (by decide)
                          have nF : some v.f.Fk ≠ (Value.slice A t.ps.length c).ownBlock := own_ne hown O.tk
                          have frF := hM4.fin.frF 5
                          have hOlt : ∀ b, (Value.slice A t.ps.length c).ownBlock = some b → b < R.heap.size := fun b e => (hRM.fin.own.lt b e).2
                          have hpl : t.ps.length ≤ 300 := by omega
                          have HM4 := Lib.hid hM4; clear hM4 hX4
                          gi_wp2
                          refine Rg.region_in (d := 14) (F := Rg.Kept (.slice A t.ps.length c) W4) (free_round l) (by kernel_rfl) (by rintro ⟨_, _, h⟩; exact h) (by kernel_rfl) ?_
                          refine Rg.takes (fun _ _ tt _ _ h => by cases tt <;> exact h) [0, 1, 2, 3, 4, 5, 6, 7, 8] [.pointer (some ⟨v.f.Fk, 0, none⟩), .pointer (some ⟨v.f.Fk, 0, none⟩), .pointer (some ⟨v.f.Fk, 0, none⟩), .pointer (some ⟨v.f.Fk, 5, none⟩), .slice A t.ps.length c, .func (.func gg) #[] #[], .pointer (some ⟨z.heap.size + 1, 0, none⟩), .agg #[.int .i64 x.r.e, .int .i64 x.r.l], .slice A1 n' c1] 6 _ _ _ (by kernel_rfl) ?hq2 (Rg.Kept.refl _ _).drew ?hr2
                          case hq2 =>
                            intro w' hF'
                            have f1 := hF'.cell k0 l0 n0
                            have f2 := hF'.cell k1 l3 n3
                            have f3 := hF'.cell k2 l5 nX1
                            have f4 := hF'.cell k3 l5 nX1
                            have f5 := hF'.cell h31 lF nF
                            clear hF'
                            simp only [Rg.pick, List.filterMap_cons, List.filterMap_nil, List.getElem?_toArray, List.getElem?_cons_succ, List.getElem?_cons_zero]
                            iterate 9
                              refine Rg.quiets_cons ?_ ?_
                              · go_simp
                              simp only [Act.put, List.setIfInBounds_toArray, List.set_cons_zero, List.set_cons_succ]
                            exact Rg.quiets_nil
                          case hr2 =>
                            simp only [Rg.pick, Rg.putAll, Act.put, List.filterMap_cons, List.filterMap_nil, List.getElem?_toArray, List.getElem?_cons_succ, List.getElem?_cons_zero, List.setIfInBounds_toArray, List.set_cons_zero, List.set_cons_succ]
                            refine Rg.run_forced [9, 10, 11, 12, 13, 14] 6 _ _ _ (by decide) (by kernel_rfl) rfl (by decide) ?_
                            simp only [Rg.pick, List.filterMap_cons, List.filterMap_nil, List.getElem?_toArray, List.getElem?_cons_succ, List.getElem?_cons_zero]
                            have eg := enters_gg v gg HG.out
                            refine Rg.runS_cons ?_
                            go_wp2_with (refine (mkG_any v gg HG.out x.r ⟨A1, n', c1⟩ (sl.map (rfAt v.Y)) W4.drew).mono ?_; rintro e Wm ⟨pq, rfl, hBm, hpq⟩)
                            clear eg
                            have hKm : Rg.Kept (.slice A t.ps.length c) W4 Wm := (Rg.Kept.refl _ _).drew.below hBm
                            refine Rg.then_kept hKm ?_
                            refine Rg.runS_cons ?_
                            go_wp2_with fail
                            refine Rg.then_kept (hKm.alloc _) ?_
                            have hBm4 : Below W4.heap.size W4 Wm := below_un hBm
                            have hMm := HM4.out.below O hBm4
                            have hsm4 := hBm4.size
                            have hRd : RdP rfC 2 (fun b => W.heap.size ≤ b ∧ b < W4.heap.size) W4 A1 (sl.map (rfAt v.Y)) := RdP.of_own (fun _ => rfl) hO4 (by simp [HN.out])
                            have hslm : (sl.map (rfAt v.Y)).length = n' := by simp [HN.out]
                            have hn12 : n' ≤ 1000 := by omega
                            have hpq2 := hpq (Fre v.f Wm (.slice A t.ps.length c)) (fun b h1 h2 => ⟨by have := hMm.fin.size; have h1 : W4.heap.size ≤ b := h1; omega, h2, fun e => by have := hOlt b e; have h1 : W4.heap.size ≤ b := h1; omega⟩) ((hRd.kept (fun b hb => hBm4.block b hb.2)).imp (fun b hb => ⟨by omega, by omega, fun e => by have := hOlt b e; omega⟩)) hslm hn12
                            clear hpq
                            have hMa := hMm.below O ((Below.refl _ Wm).alloc (Nat.le_refl _) (.cells #[.slice pq.x.A pq.x.n pq.x.c, .slice pq.y.A pq.y.n pq.y.c] 39))
                            have hpq3 : PvOk (Fre v.f (Wm.alloc (.cells #[.slice pq.x.A pq.x.n pq.x.c, .slice pq.y.A pq.y.n pq.y.c] 39)) (.slice A t.ps.length c)) (Wm.alloc (.cells #[.slice pq.x.A pq.x.n pq.x.c, .slice pq.y.A pq.y.n pq.y.c] 39)) pq _ := (hpq2.kept (fun b hb => Below.heap_alloc Wm _ b hb.2.1)).imp (fun b hb => ⟨hb.1, by have := hb.2.1; simp; omega, hb.2.2⟩)
                            clear hpq2 hRd
                            have hst : (⟨t.ux.set k true, setAll t.uy sl, t.ps ++ [if v.fl then ⟨sl.map (rfAt v.Y), [x.r]⟩ else ⟨[x.r], sl.map (rfAt v.Y)⟩]⟩ : Gs) = stM v t k x cs y := by unfold stM; rw [Hcl.out, HSL.out]
                            have HST := Lib.hid hst; clear hst
                            refine Rg.runS_cons ?_
                            refine wpList_append_blk rfl (.tmp 148) (.tmp 154) 24 rfl v.f.base 39 i39 _ 2 48 Try.underlying24 hi39 hz39 hy39 hb39 rfl (by decide) (.slice A t.ps.length c) t.ps.length (qs.flatMap pvC) rfl hMa.fin.own Wm.heap.size 1 1 rfl 39 _ (Blk.new Wm _ _) _ rfl rfl (by simp [Value.oneCell']) (by omega) (by omega) hMa.fin.size ?_
                            intro A5 c5 w5 hO5 hg5 hloc5
                            have hK5 : Rg.Kept (.slice A t.ps.length c) W4 w5 := (hKm.alloc _).grown hg5
                            refine Rg.nil_kept hK5 ?_
                            have r5' := hK5.cell h31 lF nF
                            have frz' : w5.frozen? ⟨v.f.Fk, 5, none⟩ = false := (World.frozen?_of_block (w := W4) (a := ⟨v.f.Fk, 5, none⟩) (hK5.2 v.f.Fk lF nF)).trans frF
                            have hMz := hMa.out O hpq3 hg5 hO5 hloc5
                            simp only [] at hMz
                            rw [HST.out] at hMz
                            have hkeep : ∀ b, R.heap.size ≤ b → b < R.heap.size + 2 → (w5.setCell ⟨v.f.Fk, 5, none⟩ (.slice A5 (t.ps.length + 1) c5)).heap[b]? = W.heap[b]? := by
                              intro b h1 h2
                              have t1 := O.tk
                              rw [Below.heap_setCell w5 ⟨v.f.Fk, 5, none⟩ _ b (by show b ≠ v.f.Fk; omega), hg5.block b (by simp; omega) (fun e => by have := hOlt b e.symm; omega), Below.heap_alloc Wm _ b (by omega), hBm4.block b (by omega), hH4.2 b (by omega), hB2.block b (by omega)]
                            have HK := Lib.hid hkeep
                            have HMZ := Lib.hid hMz
                            clear hMz hkeep hO5 hg5 hloc5 hMa hpq3 hMm hBm4 hBm
                            refine Rg.runS_cons ?_
                            go_wp2
                            refine Rg.then_kept hK5 ?_
                            refine Rg.runS_cons ?_
                            go_wp2
                            refine Rg.then_kept hK5 ?_
                            refine Rg.runS_cons ?_
                            go_wp2
                            refine Rg.then_last ?_
                            gi_wp2
                            refine ⟨rfl, HF.out, HK.out, _, ⟨_, _, _, HMZ.out⟩, ?_, ?_, DefOnly.refl _ _⟩
                            · intro cs t fr e
                              rw [HK.out _ (Nat.le_refl _) (by omega), hWd] at e
                              cases e
                            · intro cs t fr e
                              rw [HK.out _ (by omega) (by omega), hWl] at e
                              cases e
                  · have hgt : v.f.tol < absZ sm := by omega
                    rw [decide_eq_false hle] at hfit
                    have HF := Lib.hid hfit; clear hfit
                    gi_wp2
                    refine Go.Rf.quiet_lit (free_round l) (by kernel_rfl) (by rintro ⟨_, _, h⟩; exact h) (by kernel_rfl) (by kernel_rfl) ?_
                    repeat (quiet_step ((go_at_call 40; exact Calls.quiet_of_same (size_q _ _ hsm1 hsm2))))
                    refine wpQuiet_nil ?_
                    intro _ hw'
                    obtain ⟨nq, hw''⟩ := hw'
                    subst hw''
                    gi_wp2
                    exact ⟨HF.out, below_drewNs hB1 _⟩
            · rintro y B j o hj1 hj2 ⟨A0, hc0, hn0, hn1, hd⟩
              refine ⟨A0, hc0, hn0, hn1, hd.put hj1 ?_ o⟩
              rcases (by omega : j = R.heap.size ∨ j = R.heap.size + 1) with rfl | rfl
              · exact hn0
              · exact hn1
            · intro W hf hWb hWs hd
              have hMW := hRM.below O hWb
              have hne := hRM.mks.ne (Nat.le_refl _)
              have HN1 := Lib.hid (Hnone.out hf)
              have HMW := Lib.hid hMW
              clear hRM hRc hRo hRx hRk hRm hWb hf
              go_wp2
              refine ⟨⟨k + 1, ?_, by omega, ⟨R.heap.size, rfl, by omega, hd, hne, HMW.out.mks⟩, ⟨qs, A, c, ?_⟩, HMW.out.bl, HMW.out.bx⟩, ?_⟩
              · rw [← HAX.out]
                exact fr_mk rfl
              · rw [HN1.out]
                exact HMW.out.fin
              · simp [intOf]; omega
            · rintro y W hf ⟨A0, ⟨qs0, A1, c1, hc0⟩, hn0, hn1, hd⟩ hdf
              have hne := hRM.mks.ne (Nat.le_refl _)
              have hltm := hRM.mks.lt
              have HN1 := Lib.hid (Hsome.out y hf)
              have HC0 := Lib.hid hc0
              have HD := Lib.hid hd
              clear hRM hRc hRo hRx hRk hRm hf hc0 hn0 hn1 hd
              refine (wpIn_wide (n := 9)).2 ?_
              go_wp2
              refine ⟨⟨k + 1, ?_, by omega, ⟨R.heap.size, rfl, by omega, hdf, hne, HC0.out.mks.kept2 hltm (fun D x hD hx => ?_)⟩, ⟨qs0, A1, c1, ?_⟩, HD.out.below (by have := O.bk; have := O.tk; omega) HC0.out.bl, HD.out.bxs HC0.out.bx⟩, ?_⟩
              · rw [← HAX.out]
                exact fr_mk rfl
              · rcases HD.out.same D with e | ⟨e, _⟩
                · exact e.trans hx
                · omega
              · rw [HN1.out]
                exact ⟨HD.out.fin HC0.out.fin.fin⟩
              · simp [intOf]; omega
    · obtain rfl : k = nX := by omega
      have HF := Lib.hid h; clear h
      have HAll := Lib.hid hM.all
      go_wp2
      refine leaves_marks ds z (DefOnly.refl w.heap.size z) hM HAll.out (fun w' hd => ?_)
      exact ⟨_, results_none rfl _ _ _, rfl, ⟨_, _, _, ⟨hd.fin HF.out.fin⟩⟩, hd.below (by have := O.bk; omega) hB⟩
end Go.Proofs.Ytccgleiildgckaa
