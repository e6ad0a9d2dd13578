/- Contract of the finder's step for one line with one line. Conditions: at most 60 lines on each side, amounts in range. -/
import Derived.Test.YtccgleiildgckaaC1
import Derived.Test.YtccgleiildgckaaR
namespace Go.Proofs.Ytccgleiildgckaa
open Go.RowKit
attribute [local go_sem ↓] Go.wp_at_zero Go.wp_at_succ

/-- Line k of the other side may be taken for x. -/
def okT (x : On) (R : List On) (u : List Bool) (tol : Int) (k : Nat) : Bool := !(u.getD k true) && oppB x.a (amt R k) && decide (absZ (x.a + amt R k) ≤ tol)
def bestTo (x : On) (R : List On) (u : List Bool) (tol : Int) : Nat → Option Nat
  | 0 => none
  | k + 1 => if okT x R u tol k then (match bestTo x R u tol k with
      | none => some k
      | some b => if absZ (x.a + amt R k) < absZ (x.a + amt R b) then some k else some b)
    else bestTo x R u tol k
theorem bestTo_lt {x : On} {R : List On} {u : List Bool} {tol : Int} : ∀ {k b : Nat}, bestTo x R u tol k = some b → b < k
  | 0, b, h => by simp [bestTo] at h
  | k + 1, b, h => by
    simp only [bestTo] at h
    split at h
    · split at h
      · simp at h; omega
      · rename_i b' hb'
        have := bestTo_lt hb'
        split at h <;> simp at h <;> omega
    · have := bestTo_lt h; omega
def oneSt (f : Fc) (s : Fs) (i : Nat) : Fs := match f.L[i]? with
  | none => s
  | some x => match bestTo x f.R s.u2 f.tol f.R.length with
    | none => s
    | some k => ⟨s.u1.set i true, s.u2.set k true, s.ps ++ [⟨[x.r], [rfAt f.R k]⟩]⟩
def oneAll (f : Fc) (s : Fs) (k : Nat) : Fs := (List.range k).foldl (oneSt f) s
theorem oneAll_succ (f : Fc) (s : Fs) (k : Nat) : oneAll f s (k + 1) = oneSt f (oneAll f s k) k := by
  simp [oneAll, List.range_succ]
theorem oneAll_len (f : Fc) (s : Fs) : ∀ k, (oneAll f s k).ps.length ≤ s.ps.length + k
  | 0 => Nat.le_refl _
  | k + 1 => by
    have h := oneAll_len f s k
    rw [oneAll_succ]
    unfold oneSt
    split
    · omega
    · split
      · omega
      · simp; omega

theorem size_q (n : Int) (w : World) (h1 : -4000000000000000 ≤ n) (h2 : n ≤ 4000000000000000) :
    Calls Try.prog 40 #[.int .i64 n] w fun e w' => e = .returned (.int .i64 (absZ n)) ∧ w' = w := (size_any n w h1 h2).mono fun _ _ ⟨a, b⟩ => ⟨a, b.symm⟩

set_option maxRecDepth 20000 in
set_option maxHeartbeats 1600000 in
theorem fone_any (f : Fc) (O : f.Ok) (s : Fs) (w : World) (hL : f.L.length ≤ 60) (hR : f.R.length ≤ 60) (hps : s.ps.length ≤ 100) (hokL : ∀ x ∈ f.L, OnOk x) (hokR : ∀ x ∈ f.R, OnOk x) (h : FinAt f w s) :
    Calls Try.prog 26 #[.pointer (some ⟨f.Fk, 0, none⟩)] w fun e w' => e = .returned (.tuple #[]) ∧ FinAt f w' (oneAll f s f.L.length) ∧ Below f.B w w' := by
  obtain ⟨i39, hi39, hz39, hy39, hb39⟩ := info_parts (show (Try.prog.info? 39).map (fun i => (i.zero, i.size, i.bytes)) = some (some (.agg #[.slice none 0 0, .slice none 0 0]), 2, 48) by kernel_rfl)
  have HL := Lib.hid hokL; clear hokL
  have HR := Lib.hid hokR; clear hokR
  obtain ⟨qs, A, c, h⟩ := h
  have c0 : w.cell? ⟨f.Fk, 0, none⟩ = some (.slice f.A1 f.L.length f.c1) := h.fk.cell 0
  obtain ⟨nL, hnL⟩ : ∃ n, f.L.length = n := ⟨_, rfl⟩
  obtain ⟨nR, hnR⟩ : ∃ n, f.R.length = n := ⟨_, rfl⟩
  rw [hnL] at c0 hL ⊢
  rw [hnR] at hR
  have HnL := Lib.hid hnL; clear hnL
  have HnR := Lib.hid hnR; clear hnR
  go_enter Try.func26, Try.ntmps26
  go_wp2
  go_loopw [14] (fun i wr => ∃ k : Nat, k ≤ nL ∧ i = .int .i64 k ∧ FinAt f wr (oneAll f s k) ∧ Below f.B w wr) (fun i _ => nL - (intOf i).toNat)
  case atStart => exact ⟨0, Nat.zero_le _, rfl, ⟨qs, A, c, h⟩, Below.refl _ _⟩
  case round =>
    clear h c0
    obtain ⟨k, hk, rfl, ⟨qs, A, c, h⟩, hB⟩ := hrel
    obtain ⟨v, rfl⟩ : ∃ v, v = wr := ⟨wr, rfl⟩
    by_cases hlt : k < nL
    · have hlen := oneAll_len f s k
      have hst := oneAll_succ f s k
      generalize oneAll f s k = t at h hlen hst
      have hk' : k < f.L.length := by rw [HnL.out]; exact hlt
      obtain ⟨b, off, hA1, hb, f0, f1, f2⟩ := rd_on h.rl hk'
      obtain ⟨hx1, hx2⟩ := HL.out f.L[k] (List.getElem_mem hk')
      unfold oneSt at hst
      rw [List.getElem?_eq_getElem hk'] at hst
      generalize f.L[k] = x at f0 f1 f2 hx1 hx2 hst
      have HST := Lib.hid hst; clear hst
      have g1 : v.cell? ⟨f.Fk, 1, none⟩ = some (.slice (some ⟨f.U1, 0, none⟩) f.L.length f.L.length) := h.fk.cell 1
      have g2 : v.cell? ⟨f.Fk, 2, none⟩ = some (.slice f.A2 f.R.length f.c2) := h.fk.cell 2
      have g3 : v.cell? ⟨f.Fk, 3, none⟩ = some (.slice (some ⟨f.U2, 0, none⟩) f.R.length f.R.length) := h.fk.cell 3
      have g4 : v.cell? ⟨f.Fk, 4, none⟩ = some (.int .i64 f.tol) := h.fk.cell 4
      have g5 : v.cell? ⟨f.Fk, 5, none⟩ = some (.slice A t.ps.length c) := h.fk.cell 5
      have hFk := h.fk.lt
      have hbs : b < v.heap.size := Nat.lt_of_lt_of_le hb (by have := h.size; have := O.bk; have := O.tk; omega)
      rw [HnL.out] at g1
      rw [HnR.out] at g2 g3
      have hblk : Below v.heap.size v (v.alloc (.cells #[.int .i64 x.r.e, .int .i64 x.r.l, .int .i64 x.a] 48)) := (Below.refl _ _).alloc (Nat.le_refl _) _
      rw [hA1]
      have HA1 := Lib.hid hA1; clear hA1
      have hFs := h.size
      have hbF : f.B ≤ v.heap.size := by have := O.bk; omega
      go_wp2
      obtain ⟨W1, hW1⟩ : ∃ W, v.alloc (.cells #[.int .i64 x.r.e, .int .i64 x.r.l, .int .i64 x.a] 48) = W := ⟨_, rfl⟩
      have hX : Blk W1 v.heap.size 48 #[.int .i64 x.r.e, .int .i64 x.r.l, .int .i64 x.a] := by rw [← hW1]; exact Blk.new _ _ _
      have hs1 : W1.heap.size = v.heap.size + 1 := by rw [← hW1]; simp
      rw [hW1] at hblk ⊢
      clear hW1
      go_loopw [4, 25] (fun o i wr' => ∃ q : Nat, q ≤ nR ∧ i = .int .i64 q ∧ o = .int .i64 (optI (bestTo x f.R t.u2 f.tol q)) ∧ Below W1.heap.size W1 wr') (fun _ i _ => nR - (intOf i).toNat)
      case atStart => exact ⟨0, Nat.zero_le _, rfl, rfl, Below.refl _ _⟩
      case round =>
        obtain ⟨q, hq, rfl, rfl, hb1⟩ := hrel
        have hbb := hblk.trans (hb1.mono hblk.size)
        by_cases hqlt : q < nR
        · have hq' : q < f.R.length := by rw [HnR.out]; exact hqlt
          obtain ⟨b2, off2, hA2, hbl2, p0, p1, p2⟩ := rd_on h.rr hq'
          have hu := h.u2c hq'
          have hFu := h.x2.lt
          obtain ⟨hy1, hy2⟩ := HR.out f.R[q] (List.getElem_mem hq')
          have ham := amt_at hq'
          generalize f.R[q] = y at p0 p1 p2 hy1 hy2 ham
          have k0 := (hbb.cell (p := ⟨b2, off2 + q * 3, none⟩) (by show b2 < _; omega)).trans p0
          have k1 := (hbb.cell (p := ⟨b2, off2 + q * 3 + 1, none⟩) (by show b2 < _; omega)).trans p1
          have k2 := (hbb.cell (p := ⟨b2, off2 + q * 3 + 2, none⟩) (by show b2 < _; omega)).trans p2
          have ku := (hbb.cell (p := ⟨f.U2, q, none⟩) hFu).trans hu
          have m2 := (hbb.cell (p := ⟨f.Fk, 2, none⟩) hFk).trans g2
          have m3 := (hbb.cell (p := ⟨f.Fk, 3, none⟩) hFk).trans g3
          have m4 := (hbb.cell (p := ⟨f.Fk, 4, none⟩) hFk).trans g4
          have x2 : wr.cell? ⟨v.heap.size, 2, none⟩ = some (.int .i64 x.a) := (hX.below hb1 hX.lt).cell 2
          have hws := hb1.size
          have hxs : v.heap.size < wr.heap.size := by omega
          have hFk' : f.Fk < wr.heap.size := by omega
          have hU2' : f.U2 < wr.heap.size := by omega
          have hb2' : b2 < wr.heap.size := by omega
          have hT : okT x f.R t.u2 f.tol q = (!(t.u2.getD q true) && oppB x.a y.a && decide (absZ (x.a + y.a) ≤ f.tol)) := by rw [okT, ham]
          have hB1 : bestTo x f.R t.u2 f.tol (q + 1) = if okT x f.R t.u2 f.tol q then (match bestTo x f.R t.u2 f.tol q with | none => some q | some b => if absZ (x.a + y.a) < absZ (x.a + amt f.R b) then some q else some b) else bestTo x f.R t.u2 f.tol q := by rw [bestTo, ham]
          rw [hT] at hB1
          clear hT p0 p1 p2 hu ham
          have hwr : IntKind.i64.wrap (x.a + y.a) = x.a + y.a := IntWalk.i64_in _ (by omega)
          have hd : (0 : Int) ≤ absZ (x.a + y.a) := (absZ_bd (B := 4000000000000) (by omega) (by omega)).1
          rw [hA2] at m2 ⊢
          have HA2 := Lib.hid hA2; clear hA2
          generalize t.u2.getD q true = u at ku hB1
          have HO := Lib.hid (opposite_any x.a y.a)
          generalize oppB x.a y.a = op at hB1 HO
          have HS := Lib.hid (size_any (x.a + y.a))
          cases u with
          | true =>
            have HB := Lib.hid hB1; clear hB1
            go_wp2_with (first | (go_at_call 40; refine (HS.out _ (by omega) (by omega)).mono ?_; rintro e w3 ⟨rfl, rfl⟩) | (go_at_call 41; refine (HO.out _).mono ?_; rintro e w3 ⟨rfl, rfl⟩))
            go_roundw
            case rel => exact ⟨q + 1, by omega, by go_num, by rw [HB.out]; rfl, (hb1.alloc (by omega) _)⟩
            case measure => simp [intOf]; omega
          | false =>
            cases op with
            | false =>
              have HB := Lib.hid hB1; clear hB1
              go_wp2_with (first | (go_at_call 40; refine (HS.out _ (by omega) (by omega)).mono ?_; rintro e w3 ⟨rfl, rfl⟩) | (go_at_call 41; refine (HO.out _).mono ?_; rintro e w3 ⟨rfl, rfl⟩))
              go_roundw
              case rel => exact ⟨q + 1, by omega, by go_num, by rw [HB.out]; rfl, (hb1.alloc (by omega) _)⟩
              case measure => simp [intOf]; omega
            | true =>
              by_cases hfit : absZ (x.a + y.a) ≤ f.tol
              · have hfd : decide (f.tol < absZ (x.a + y.a)) = false := decide_eq_false (by omega)
                rw [decide_eq_true hfit] at hB1
                simp only [Bool.not_false, Bool.and_self, if_true] at hB1
                cases hbest : bestTo x f.R t.u2 f.tol q with
                | none =>
                  rw [hbest] at hB1
                  have HB := Lib.hid hB1; clear hB1 hbest
                  rw [show optI none = -1 from rfl]
                  have hfit' : (absZ (x.a + y.a) > f.tol) = False := by simp; omega
                  go_wp2_with (first | (go_at_call 40; refine (HS.out _ (by omega) (by omega)).mono ?_; rintro e w3 ⟨rfl, rfl⟩) | (go_at_call 41; refine (HO.out _).mono ?_; rintro e w3 ⟨rfl, rfl⟩))
                  go_quiet (fail)
                  go_wp2
                  go_roundw
                  case rel => exact ⟨q + 1, by omega, by go_num, by rw [HB.out]; rfl, (below_drewNs (hb1.alloc (by omega) _) _)⟩
                  case measure => simp [intOf]; omega
                | some p =>
                  have hpq := bestTo_lt hbest
                  rw [hbest] at hB1
                  clear hbest
                  have hp' : p < f.R.length := by omega
                  have hpn : p < nR := by omega
                  obtain ⟨hz1, hz2⟩ := HR.out f.R[p] (List.getElem_mem hp')
                  obtain ⟨b3, off3, e3, hb3, q0, q1, q2⟩ := rd_on h.rr hp'
                  rw [HA2.out] at e3
                  have hbo : b2 = b3 ∧ off2 = off3 := by simpa using e3
                  obtain ⟨rfl, rfl⟩ := hbo
                  clear e3
                  have j2 := (hbb.cell (p := ⟨b2, off2 + p * 3 + 2, none⟩) (by show b2 < _; omega)).trans q2
                  simp only [] at hB1
                  rw [amt_at hp'] at hB1
                  clear q0 q1 q2
                  generalize f.R[p] = z at j2 hz1 hz2 hB1
                  rw [show optI (some p) = (p : Int) from rfl]
                  have hwr2 : IntKind.i64.wrap (x.a + z.a) = x.a + z.a := IntWalk.i64_in _ (by omega)
                  have hd2 : (0 : Int) ≤ absZ (x.a + z.a) := (absZ_bd (B := 4000000000000) (by omega) (by omega)).1
                  have hpd : decide ((p : Int) < 0) = false := decide_eq_false (by omega)
                  have HS2 := Lib.hid (size_q (x.a + z.a))
                  by_cases hcmp : absZ (x.a + y.a) < absZ (x.a + z.a)
                  · have hcd : decide (absZ (x.a + y.a) < absZ (x.a + z.a)) = true := decide_eq_true hcmp
                    rw [if_pos hcmp] at hB1
                    have HB := Lib.hid hB1; clear hB1
                    go_wp2_with (first | (go_at_call 40; refine (HS.out _ (by omega) (by omega)).mono ?_; rintro e w3 ⟨rfl, rfl⟩) | (go_at_call 41; refine (HO.out _).mono ?_; rintro e w3 ⟨rfl, rfl⟩))
                    go_quiet ((go_at_call 40; exact Calls.quiet_of_same (HS2.out _ (by omega) (by omega))))
                    go_wp2
                    go_roundw
                    case rel => exact ⟨q + 1, by omega, by go_num, by rw [HB.out]; rfl, (below_drewNs (hb1.alloc (by omega) _) _)⟩
                    case measure => simp [intOf]; omega
                  · have hcd : decide (absZ (x.a + y.a) < absZ (x.a + z.a)) = false := decide_eq_false hcmp
                    rw [if_neg hcmp] at hB1
                    have HB := Lib.hid hB1; clear hB1
                    go_wp2_with (first | (go_at_call 40; refine (HS.out _ (by omega) (by omega)).mono ?_; rintro e w3 ⟨rfl, rfl⟩) | (go_at_call 41; refine (HO.out _).mono ?_; rintro e w3 ⟨rfl, rfl⟩))
                    go_quiet ((go_at_call 40; exact Calls.quiet_of_same (HS2.out _ (by omega) (by omega))))
                    go_wp2
                    go_roundw
                    case rel => exact ⟨q + 1, by omega, by go_num, by rw [HB.out]; rfl, (below_drewNs (hb1.alloc (by omega) _) _)⟩
                    case measure => simp [intOf]; omega
              · have hfd : decide (f.tol < absZ (x.a + y.a)) = true := decide_eq_true (by omega)
                rw [decide_eq_false hfit] at hB1
                have HB := Lib.hid hB1; clear hB1
                go_wp2_with (first | (go_at_call 40; refine (HS.out _ (by omega) (by omega)).mono ?_; rintro e w3 ⟨rfl, rfl⟩) | (go_at_call 41; refine (HO.out _).mono ?_; rintro e w3 ⟨rfl, rfl⟩))
                go_roundw
                case rel => exact ⟨q + 1, by omega, by go_num, by rw [HB.out]; rfl, (hb1.alloc (by omega) _)⟩
                case measure => simp [intOf]; omega
        · obtain rfl : q = nR := by omega
          have hst := HST.out
          rw [HnR.out] at hst
          have hF := h.kept O hbb
          have hBw := hB.trans (hbb.mono hbF)
          have hws := hb1.size
          cases hbest : bestTo x f.R t.u2 f.tol q with
          | none =>
            rw [hbest] at hst
            have HS := Lib.hid hst; clear hst hbest
            rw [show optI none = -1 from rfl]
            clear h hB hblk hX hb1 hbb f0 f1 f2 g1 g2 g3 g4 g5
            have HF := Lib.hid hF; clear hF
            go_wp2
            go_roundw
            case rel => exact ⟨k + 1, by omega, by go_num, by rw [HS.out]; exact ⟨_, _, _, HF.out⟩, hBw⟩
            case measure => simp [intOf]; omega
          | some p =>
            have hOlt : ∀ b, (Value.slice A t.ps.length c).ownBlock = some b → b < v.heap.size := fun b e => (h.own.lt b e).2
            have hpq := bestTo_lt hbest
            rw [hbest] at hst
            have HS := Lib.hid hst; clear hst hbest
            rw [show optI (some p) = (p : Int) from rfl]
            have hp' : p < f.R.length := by rw [HnR.out]; exact hpq
            obtain ⟨b2, off2, hA2, hbl2, p0, p1, p2⟩ := rd_on hF.rr hp'
            have m1 := (hbb.cell (p := ⟨f.Fk, 1, none⟩) hFk).trans g1
            have m2 := (hbb.cell (p := ⟨f.Fk, 2, none⟩) hFk).trans g2
            have m3 := (hbb.cell (p := ⟨f.Fk, 3, none⟩) hFk).trans g3
            have m5 := (hbb.cell (p := ⟨f.Fk, 5, none⟩) hFk).trans g5
            have ku := hF.u2c hp'
            have kv := hF.u1c hk'
            have fu := hF.x2.frozen p
            have fv := hF.x1.frozen k
            have hU1 := hF.x1.lt
            have hU2 := hF.x2.lt
            have x0 : wr.cell? ⟨v.heap.size, 0, none⟩ = some (.int .i64 x.r.e) := (hX.below hb1 hX.lt).cell 0
            have x1 : wr.cell? ⟨v.heap.size, 1, none⟩ = some (.int .i64 x.r.l) := (hX.below hb1 hX.lt).cell 1
            rw [hA2] at m2
            have hrf := rfAt_at hp'
            generalize f.R[p] = y at p0 p1 p2 hrf
            have HRF := Lib.hid hrf; clear hrf
            have hxs : v.heap.size < wr.heap.size := by omega
            have hFk' : f.Fk < wr.heap.size := by omega
            have hik : (0 : Int) ≤ (k : Int) := by omega
            have hik2 : (k : Int) < (nL : Int) := by omega
            have hip : (0 : Int) ≤ (p : Int) := by omega
            have hip2 : (p : Int) < (q : Int) := by omega
            have n1 := O.k1
            have n2 := O.k2
            have n3 := O.u12
            clear h hB hblk hX hb1 hbb f0 f1 f2 g1 g2 g3 g4 g5 p2
            have HF := Lib.hid hF; clear hF
            go_wp2
            generalize t.u2.getD p true = cu at ku
            generalize t.u1.getD k true = cv at kv
            go_region_held3 (fun w' => w'.cell? ⟨f.Fk, 1, none⟩ = some (.slice (some ⟨f.U1, 0, none⟩) nL nL) ∧ w'.cell? ⟨f.Fk, 3, none⟩ = some (.slice (some ⟨f.U2, 0, none⟩) q q)) (first | (go_keep; done) | (exact ⟨(cell_set1 (Ne.symm n1)).trans m1, (cell_set1 (Ne.symm n1)).trans m3⟩) | (exact ⟨(cell_set1 (Ne.symm n2)).trans m1, (cell_set1 (Ne.symm n2)).trans m3⟩) | (exact ⟨(cell_set2 (Ne.symm n1) (Ne.symm n2)).trans m1, (cell_set2 (Ne.symm n1) (Ne.symm n2)).trans m3⟩) | (exact ⟨(cell_set2 (Ne.symm n2) (Ne.symm n1)).trans m1, (cell_set2 (Ne.symm n2) (Ne.symm n1)).trans m3⟩)) (fail)
            all_goals
              generalize hWd : World.drew _ = Wd
              have hF2 : FinIn f Wd ⟨t.u1.set k true, t.u2.set p true, t.ps⟩ qs A c := by
                subst hWd
                first | exact ((HF.out.used1 O k).used2 O p).drew | exact ((HF.out.used2 O p).used1 O k).drew
              have hB2 : Below f.B w Wd := by
                subst hWd
                first | exact ((hBw.setCell O.b1 _).setCell O.b2 _).drew | exact ((hBw.setCell O.b2 _).setCell O.b1 _).drew
              have hsd : Wd.heap.size = wr.heap.size := by subst hWd; simp
              have y0 : Wd.cell? ⟨v.heap.size, 0, none⟩ = some (.int .i64 x.r.e) := by
                subst hWd
                exact (cell_set2 (by have := O.t1; have := O.t2; omega) (by have := O.t1; have := O.t2; omega)).trans x0
              have y1 : Wd.cell? ⟨v.heap.size, 1, none⟩ = some (.int .i64 x.r.l) := by
                subst hWd
                exact (cell_set2 (by have := O.t1; have := O.t2; omega) (by have := O.t1; have := O.t2; omega)).trans x1
              have z0 : Wd.cell? ⟨b2, off2 + p * 3, none⟩ = some (.int .i64 y.r.e) := by
                subst hWd
                exact (cell_set2 (by have := O.b1; have := O.b2; omega) (by have := O.b1; have := O.b2; omega)).trans p0
              have z1 : Wd.cell? ⟨b2, off2 + p * 3 + 1, none⟩ = some (.int .i64 y.r.l) := by
                subst hWd
                exact (cell_set2 (by have := O.b1; have := O.b2; omega) (by have := O.b1; have := O.b2; omega)).trans p1
              have r2 : Wd.cell? ⟨f.Fk, 2, none⟩ = some (.slice (some ⟨b2, off2, none⟩) q f.c2) := by
                have := hF2.fk.cell 2
                rw [this]
                show some (Value.slice f.A2 f.R.length f.c2) = _
                rw [hA2, HnR.out]
              have r5 : Wd.cell? ⟨f.Fk, 5, none⟩ = some (.slice A t.ps.length c) := hF2.fk.cell 5
              have frz := hF2.fk.frozen 5
              have hO := hF2.own
              have h1n : some v.heap.size ≠ (Value.slice A t.ps.length c).ownBlock := fun e => by
                have := hOlt _ e.symm
                omega
              have hOlt2 : ∀ b, (Value.slice A t.ps.length c).ownBlock = some b → b < Wd.heap.size := fun b e => by have := hOlt b e; omega
              clear hWd x0 x1 p0 p1 m1 m2 m3 m5 ku kv fu fv HF
              have hbl2' : b2 < Wd.heap.size := by have := O.bk; omega
              have hxs' : v.heap.size < Wd.heap.size := by omega
              have hFk2 : f.Fk < Wd.heap.size := by omega
              have h2n : some b2 ≠ (Value.slice A t.ps.length c).ownBlock := own_ne hO (by have := O.bk; have := O.tk; omega)
              have h3n : some f.Fk ≠ (Value.slice A t.ps.length c).ownBlock := own_ne hO O.tk
              have hbs2 : f.base ≤ Wd.heap.size := by omega
              clear hsd
              go_wp2
              refine Rg.region (d := 23) (F := Rg.Kept (.slice A t.ps.length c) Wd) (by kernel_rfl) ?_
              refine Rg.takes (fun _ _ tt _ _ h => by cases tt <;> exact h) [0, 1, 2, 3, 4, 5, 6, 8, 9, 10, 11, 12, 13, 14, 15, 16] [.pointer (some ⟨f.Fk, 0, none⟩), .pointer (some ⟨f.Fk, 0, none⟩), .pointer (some ⟨f.Fk, 0, none⟩), .pointer (some ⟨f.Fk, 5, none⟩), .slice A t.ps.length c, .pointer (some ⟨v.heap.size, 0, none⟩), .agg #[.int .i64 x.r.e, .int .i64 x.r.l], .pointer (some ⟨f.Fk, 0, none⟩), .pointer (some ⟨f.Fk, 0, none⟩), .pointer (some ⟨f.Fk, 2, none⟩), .pointer (some ⟨f.Fk, 2, none⟩), .slice (some ⟨b2, off2, none⟩) q f.c2, .int .i64 p, .pointer (some ⟨b2, off2 + p * 3, none⟩), .pointer (some ⟨b2, off2 + p * 3, none⟩), .agg #[.int .i64 y.r.e, .int .i64 y.r.l]] 8 _ _ _ (by kernel_rfl) ?hq (Rg.Kept.refl _ _).drew ?hr
              case hq =>
                intro w' hF'
                have e1 := hF'.cell y0 hxs' h1n
                have e2 := hF'.cell y1 hxs' h1n
                have e3 := hF'.cell z0 hbl2' h2n
                have e4 := hF'.cell z1 hbl2' h2n
                have e5 := hF'.cell r2 hFk2 h3n
                have e6 := hF'.cell r5 hFk2 h3n
                clear hF'
                simp only [Rg.pick, List.filterMap_cons, List.filterMap_nil, List.getElem?_toArray, List.getElem?_cons_succ, List.getElem?_cons_zero]
                refine Rg.quiets_cons ?_ ?_
                · go_simp
                simp only [Act.put, List.setIfInBounds_toArray, List.set_cons_zero, List.set_cons_succ]
                refine Rg.quiets_cons ?_ ?_
                · go_simp
                simp only [Act.put, List.setIfInBounds_toArray, List.set_cons_zero, List.set_cons_succ]
                refine Rg.quiets_cons ?_ ?_
                · go_simp
                simp only [Act.put, List.setIfInBounds_toArray, List.set_cons_zero, List.set_cons_succ]
                refine Rg.quiets_cons ?_ ?_
                · go_simp
                simp only [Act.put, List.setIfInBounds_toArray, List.set_cons_zero, List.set_cons_succ]
                refine Rg.quiets_cons ?_ ?_
                · go_simp
                simp only [Act.put, List.setIfInBounds_toArray, List.set_cons_zero, List.set_cons_succ]
                refine Rg.quiets_cons ?_ ?_
                · go_simp
                simp only [Act.put, List.setIfInBounds_toArray, List.set_cons_zero, List.set_cons_succ]
                refine Rg.quiets_cons ?_ ?_
                · go_simp
                simp only [Act.put, List.setIfInBounds_toArray, List.set_cons_zero, List.set_cons_succ]
                refine Rg.quiets_cons ?_ ?_
                · go_simp
                simp only [Act.put, List.setIfInBounds_toArray, List.set_cons_zero, List.set_cons_succ]
                refine Rg.quiets_cons ?_ ?_
                · go_simp
                simp only [Act.put, List.setIfInBounds_toArray, List.set_cons_zero, List.set_cons_succ]
                refine Rg.quiets_cons ?_ ?_
                · go_simp
                simp only [Act.put, List.setIfInBounds_toArray, List.set_cons_zero, List.set_cons_succ]
                refine Rg.quiets_cons ?_ ?_
                · go_simp
                simp only [Act.put, List.setIfInBounds_toArray, List.set_cons_zero, List.set_cons_succ]
                refine Rg.quiets_cons ?_ ?_
                · go_simp
                simp only [Act.put, List.setIfInBounds_toArray, List.set_cons_zero, List.set_cons_succ]
                refine Rg.quiets_cons ?_ ?_
                · go_simp
                simp only [Act.put, List.setIfInBounds_toArray, List.set_cons_zero, List.set_cons_succ]
                refine Rg.quiets_cons ?_ ?_
                · go_simp
                simp only [Act.put, List.setIfInBounds_toArray, List.set_cons_zero, List.set_cons_succ]
                refine Rg.quiets_cons ?_ ?_
                · go_simp
                simp only [Act.put, List.setIfInBounds_toArray, List.set_cons_zero, List.set_cons_succ]
                refine Rg.quiets_cons ?_ ?_
                · go_simp
                simp only [Act.put, List.setIfInBounds_toArray, List.set_cons_zero, List.set_cons_succ]
                exact Rg.quiets_nil
              case hr =>
                simp only [Rg.pick, Rg.putAll, Act.put, List.filterMap_cons, List.filterMap_nil, List.getElem?_toArray, List.getElem?_cons_succ, List.getElem?_cons_zero, List.setIfInBounds_toArray, List.set_cons_zero, List.set_cons_succ]
                refine Rg.run_two (i := 7) (j := 17) (fuel := 7) (is1 := [17, 18, 19, 20, 21, 22, 23]) (is2 := [7, 18, 19, 20, 21, 22, 23]) (by kernel_rfl) ?_ ?_
                all_goals simp only [Rg.pick, List.filterMap_cons, List.filterMap_nil, List.getElem?_toArray, List.getElem?_cons_succ, List.getElem?_cons_zero]
                · refine Rg.runS_cons ?_
                  go_wp2
                  refine Rg.then_kept ((Rg.Kept.refl _ _).alloc _).drew ?_
                  refine Rg.runS_cons ?_
                  go_wp2
                  refine Rg.then_kept (((Rg.Kept.refl _ _).alloc _).alloc _).drew ?_
                  refine Rg.runS_cons ?_
                  go_wp2
                  refine Rg.then_kept (((Rg.Kept.refl _ _).alloc _).alloc _).drew ?_
                  refine Rg.runS_cons ?_
                  go_wp2
                  refine Rg.then_kept ((((Rg.Kept.refl _ _).alloc _).alloc _).alloc _).drew ?_
                  refine Rg.runS_cons ?_
                  refine wpList_append_blk rfl (.tmp 101) (.tmp 116) 24 rfl f.base 39 i39 _ 2 48 Try.underlying24 hi39 hz39 hy39 hb39 rfl (by decide) (.slice A t.ps.length c) t.ps.length (qs.flatMap pvC) rfl (own_drew (((hO.alloc _).alloc _).alloc _)) (Wd.heap.size + 2) 1 1 rfl 39 _ (blk_drew (blk_new3 rfl)) _ rfl rfl (by simp [Value.oneCell']) (by omega) (by omega) (by show f.base ≤ (((Wd.alloc _).alloc _).alloc _).heap.size; simp; omega) ?_
                  intro A5 c5 w4 hO5 hg5 hloc5
                  have hK4 : Rg.Kept (.slice A t.ps.length c) Wd w4 := ((((Rg.Kept.refl _ _).alloc _).alloc _).alloc _).drew.grown hg5
                  refine Rg.nil_kept hK4 ?_
                  simp only [Act.put, List.setIfInBounds_toArray, List.set_cons_zero, List.set_cons_succ]
                  have r5' := hK4.cell r5 hFk2 h3n
                  have frz' : w4.frozen? ⟨f.Fk, 5, none⟩ = false := (World.frozen?_of_block (w := Wd) (a := ⟨f.Fk, 5, none⟩) (hK4.2 f.Fk hFk2 h3n)).trans frz
                  have hF4 : ∃ qs4, FinIn f (w4.setCell ⟨f.Fk, 5, none⟩ (.slice A5 (t.ps.length + 1) c5)) ⟨t.u1.set k true, t.u2.set p true, t.ps ++ [⟨[x.r], [y.r]⟩]⟩ qs4 A5 c5 :=
                    ⟨_, (hF2.kept O below_al3).out O (q := ⟨⟨some ⟨Wd.heap.size, 0, none⟩, 1, 1⟩, ⟨some ⟨Wd.heap.size + 1, 0, none⟩, 1, 1⟩⟩) (p := ⟨[x.r], [y.r]⟩) ⟨rfl, rfl, RdP.one blk_a3 (fre_a3 hbs2 hOlt2).1, RdP.one blk_b3 (fre_a3 hbs2 hOlt2).2, (by show 1 ≤ 1000; decide), (by show 1 ≤ 1000; decide)⟩ hg5 hO5 hloc5⟩
                  have hB4 : Below f.B w (w4.setCell ⟨f.Fk, 5, none⟩ (.slice A5 (t.ps.length + 1) c5)) := ((hB2.trans (below_al3.mono (by have := hB2.size; have := O.bk; have := O.tk; omega))).grown hg5 (by show f.B ≤ (((Wd.alloc _).alloc _).alloc _).heap.size; have := O.bk; simp; omega) (fun b e => by have := own_ge hO (Nat.le_refl _) b e; have := O.bk; have := O.tk; omega)).setCell O.bk _
                  obtain ⟨qs4, hF4⟩ := hF4
                  have HF4 := Lib.hid hF4
                  clear hF4 hO5 hg5 hloc5 hF2 hO hB2 y0 y1 z0 z1 r2 r5
                  refine Rg.runS_cons ?_
                  go_wp2
                  refine Rg.then_kept hK4 ?_
                  refine Rg.runS_cons ?_
                  go_wp2
                  refine Rg.then_kept hK4 ?_
                  refine Rg.runS_cons ?_
                  go_wp2
                  refine Rg.then_last ?_
                  go_wp2
                  go_roundw
                  case rel => exact ⟨k + 1, by omega, by go_num, by rw [HS.out, HRF.out]; exact ⟨_, _, _, HF4.out⟩, hB4⟩
                  case measure => simp [intOf]; omega
                · refine Rg.runS_cons ?_
                  go_wp2
                  refine Rg.then_kept ((Rg.Kept.refl _ _).alloc _).drew ?_
                  refine Rg.runS_cons ?_
                  go_wp2
                  refine Rg.then_kept (((Rg.Kept.refl _ _).alloc _).alloc _).drew ?_
                  refine Rg.runS_cons ?_
                  go_wp2
                  refine Rg.then_kept (((Rg.Kept.refl _ _).alloc _).alloc _).drew ?_
                  refine Rg.runS_cons ?_
                  go_wp2
                  refine Rg.then_kept ((((Rg.Kept.refl _ _).alloc _).alloc _).alloc _).drew ?_
                  refine Rg.runS_cons ?_
                  refine wpList_append_blk rfl (.tmp 101) (.tmp 116) 24 rfl f.base 39 i39 _ 2 48 Try.underlying24 hi39 hz39 hy39 hb39 rfl (by decide) (.slice A t.ps.length c) t.ps.length (qs.flatMap pvC) rfl (own_drew (((hO.alloc _).alloc _).alloc _)) (Wd.heap.size + 2) 1 1 rfl 39 _ (blk_drew (blk_new3 rfl)) _ rfl rfl (by simp [Value.oneCell']) (by omega) (by omega) (by show f.base ≤ (((Wd.alloc _).alloc _).alloc _).heap.size; simp; omega) ?_
                  intro A5 c5 w4 hO5 hg5 hloc5
                  have hK4 : Rg.Kept (.slice A t.ps.length c) Wd w4 := ((((Rg.Kept.refl _ _).alloc _).alloc _).alloc _).drew.grown hg5
                  refine Rg.nil_kept hK4 ?_
                  simp only [Act.put, List.setIfInBounds_toArray, List.set_cons_zero, List.set_cons_succ]
                  have r5' := hK4.cell r5 hFk2 h3n
                  have frz' : w4.frozen? ⟨f.Fk, 5, none⟩ = false := (World.frozen?_of_block (w := Wd) (a := ⟨f.Fk, 5, none⟩) (hK4.2 f.Fk hFk2 h3n)).trans frz
                  have hF4 : ∃ qs4, FinIn f (w4.setCell ⟨f.Fk, 5, none⟩ (.slice A5 (t.ps.length + 1) c5)) ⟨t.u1.set k true, t.u2.set p true, t.ps ++ [⟨[x.r], [y.r]⟩]⟩ qs4 A5 c5 :=
                    ⟨_, (hF2.kept O below_al3).out O (q := ⟨⟨some ⟨Wd.heap.size + 1, 0, none⟩, 1, 1⟩, ⟨some ⟨Wd.heap.size, 0, none⟩, 1, 1⟩⟩) (p := ⟨[x.r], [y.r]⟩) ⟨rfl, rfl, RdP.one blk_b3 (fre_a3 hbs2 hOlt2).2, RdP.one blk_a3 (fre_a3 hbs2 hOlt2).1, (by show 1 ≤ 1000; decide), (by show 1 ≤ 1000; decide)⟩ hg5 hO5 hloc5⟩
                  have hB4 : Below f.B w (w4.setCell ⟨f.Fk, 5, none⟩ (.slice A5 (t.ps.length + 1) c5)) := ((hB2.trans (below_al3.mono (by have := hB2.size; have := O.bk; have := O.tk; omega))).grown hg5 (by show f.B ≤ (((Wd.alloc _).alloc _).alloc _).heap.size; have := O.bk; simp; omega) (fun b e => by have := own_ge hO (Nat.le_refl _) b e; have := O.bk; have := O.tk; omega)).setCell O.bk _
                  obtain ⟨qs4, hF4⟩ := hF4
                  have HF4 := Lib.hid hF4
                  clear hF4 hO5 hg5 hloc5 hF2 hO hB2 y0 y1 z0 z1 r2 r5
                  refine Rg.runS_cons ?_
                  go_wp2
                  refine Rg.then_kept hK4 ?_
                  refine Rg.runS_cons ?_
                  go_wp2
                  refine Rg.then_kept hK4 ?_
                  refine Rg.runS_cons ?_
                  go_wp2
                  refine Rg.then_last ?_
                  go_wp2
                  go_roundw
                  case rel => exact ⟨k + 1, by omega, by go_num, by rw [HS.out, HRF.out]; exact ⟨_, _, _, HF4.out⟩, hB4⟩
                  case measure => simp [intOf]; omega
    · obtain rfl : k = nL := by omega
      have HF := Lib.hid h; clear h
      go_wp2
      go_end0
      exact ⟨rfl, ⟨_, _, _, HF.out⟩, hB⟩
end Go.Proofs.Ytccgleiildgckaa
