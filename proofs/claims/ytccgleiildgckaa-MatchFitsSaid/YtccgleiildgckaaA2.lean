/- Contracts of the reference's functions against, without and one. Conditions: at most 1000 lines, and amounts in range where they are added. -/
import Derived.Test.YtccgleiildgckaaA1
namespace Go.Proofs.Ytccgleiildgckaa
open Go.RowKit

theorem filter_take_succ {α : Type} {p : α → Bool} {zs : List α} {k : Nat} (hk : k < zs.length) : (zs.take (k + 1)).filter p = (zs.take k).filter p ++ if p zs[k] then [zs[k]] else [] := by
  rw [List.take_succ_eq_append_getElem hk, List.filter_append]
  by_cases h : p zs[k] <;> simp [h]

/-- The lines whose amounts have another sign. -/
def againstL (x : On) (l : List On) : List On := l.filter fun y => oppB y.a x.a

set_option maxRecDepth 20000 in
set_option maxHeartbeats 800000 in
theorem against_any (A : Option Addr) (n c : Nat) (x : On) (zs : List On) (w : World) (hn : zs.length = n) (hl : n ≤ 1000) (h : Rd onC 3 w.heap.size w A zs) :
    Calls Try.prog 31 #[onV x, .slice A n c] w fun e w' => ∃ A' m c', e = .returned (.slice A' m c') ∧ m = (againstL x zs).length ∧ w'.ownsRow w.heap.size 50 3 (.slice A' m c') m ((againstL x zs).flatMap onC) ∧ Below w.heap.size w w' := by
  have Hn := Lib.hid hn; clear hn
  obtain ⟨i0, hi, hz0, hz1, hz2⟩ := info_parts Try.info50
  go_enter Try.func31, Try.ntmps31
  go_wp2
  go_loopw [5, 6] (fun o i wr => ∃ (k m : Nat) (A' : Option Addr) (c' : Nat), k ≤ n ∧ i = .int .i64 k ∧ o = .slice A' m c' ∧ Hid (m = (againstL x (zs.take k)).length) ∧ m ≤ k ∧ wr.ownsRow (w.heap.size + 1) 50 3 o m ((againstL x (zs.take k)).flatMap onC) ∧ Below w.heap.size w wr ∧ Blk wr w.heap.size 50 #[.int .i64 x.r.e, .int .i64 x.r.l, .int .i64 x.a]) (fun _ i _ => n - (intOf i).toNat)
  case atStart => exact ⟨0, 0, none, 0, by omega, rfl, rfl, rfl, by omega, World.ownsRow_nil _ _ _ _, (Below.refl _ _).alloc (Nat.le_refl _) _, Blk.new _ _ _⟩
  case round =>
    obtain ⟨k, m, A', c', hk, rfl, rfl, hm, hmk, hO, hB, hX⟩ := hrel
    have x1 := hX.cell 1
    have x2 := hX.cell 2
    by_cases hlt : k < n
    · have hk' : k < zs.length := by rw [Hn.out]; exact hlt
      obtain ⟨b, off, rfl, hb, h1, h2, h3⟩ := rd_on (h.below hB) hk'
      generalize hz : zs[k] = z at h1 h2 h3
      have Hz := Lib.hid hz; clear hz
      have hsz := hX.lt
      have hF := filter_take_succ (p := fun y : On => oppB y.a x.a) hk'
      rw [Hz.out] at hF
      have HF := Lib.hid hF; clear hF
      go_wp2
      go_quiet (fail)
      go_wp2_with (at_builtin; refine wpList_append_new rfl (.tmp 23) (.tmp 28) 22 rfl (w.heap.size + 1) 50 i0 _ 3 24 Try.underlying22 hi hz0 hz1 hz2 rfl (by decide) _ m _ rfl (own_drewN hO nq) wr.heap.size 1 1 rfl rfl (onC z) rfl rfl (by simp [onC, Value.oneCell']) (by omega) (by omega) hsz ?_; intro A1 c1 w1 hO1 hg1 _)
      · have ht : oppB z.a x.a = true := by show (!(decide (z.a < 0) == decide (x.a < 0))) = true; assumption
        have hall := hB.grown (grown_drewN hg1) hB.size (own_ge hO (Nat.le_succ _))
        have hX1 := hX.grown (grown_drewN hg1) (own_ne hO (Nat.lt_succ_self _))
        go_roundw
        case rel => exact ⟨k + 1, m + 1, A1, c1, by omega, by go_num, rfl, by show _ = _; rw [againstL, HF.out, ht]; simp [hm.out, againstL], by omega, by rw [againstL, HF.out, ht]; simpa [againstL] using hO1, hall, hX1⟩
        case measure => simp [intOf]; omega
      · have ht : oppB z.a x.a = false := by show (!(decide (z.a < 0) == decide (x.a < 0))) = false; assumption
        go_roundw
        case rel => exact ⟨k + 1, m, A', c', by omega, by go_num, rfl, by show _ = _; rw [againstL, HF.out, ht]; simp [hm.out, againstL], by omega, by rw [againstL, HF.out, ht]; simpa [againstL] using own_drewN hO nq, below_drewNs hB _, hX⟩
        case measure => simp [intOf]; omega
    · obtain rfl : k = n := by omega
      go_wp2
      go_ret
      rw [List.take_of_length_le (by rw [Hn.out]; omega)] at hO hm
      exact ⟨A', m, c', rfl, hm.out, own_base hO (Nat.le_succ _), hB⟩

/-- The lines whose references are not in a list. -/
def withoutL (l : List On) (refs : List Rf) : List On := l.filter fun y => !decide (y.r ∈ refs)

set_option maxRecDepth 20000 in
set_option maxHeartbeats 800000 in
theorem without_any (A R : Option Addr) (n c nr cr : Nat) (zs : List On) (rs : List Rf) (w : World) (hn : zs.length = n) (hnr : rs.length = nr) (hl : n ≤ 1000) (hlr : nr ≤ maxLen) (h : Rd onC 3 w.heap.size w A zs) (hr : Rd rfC 2 w.heap.size w R rs) :
    Calls Try.prog 32 #[.slice A n c, .slice R nr cr] w fun e w' => ∃ A' m c', e = .returned (.slice A' m c') ∧ m = (withoutL zs rs).length ∧ w'.ownsRow w.heap.size 50 3 (.slice A' m c') m ((withoutL zs rs).flatMap onC) ∧ Below w.heap.size w w' := by
  have Hn := Lib.hid hn; clear hn
  have Hnr := Lib.hid hnr; clear hnr
  obtain ⟨i0, hi, hz0, hz1, hz2⟩ := info_parts Try.info50
  go_enter Try.func32, Try.ntmps32
  go_wp2
  go_loopw [5, 6] (fun o i wr => ∃ (k m : Nat) (A' : Option Addr) (c' : Nat), k ≤ n ∧ i = .int .i64 k ∧ o = .slice A' m c' ∧ Hid (m = (withoutL (zs.take k) rs).length) ∧ m ≤ k ∧ wr.ownsRow w.heap.size 50 3 o m ((withoutL (zs.take k) rs).flatMap onC) ∧ Below w.heap.size w wr) (fun _ i _ => n - (intOf i).toNat)
  case atStart => exact ⟨0, 0, none, 0, by omega, rfl, rfl, rfl, by omega, World.ownsRow_nil _ _ _ _, Below.refl _ _⟩
  case round =>
    obtain ⟨k, m, A', c', hk, rfl, rfl, hm, hmk, hO, hB⟩ := hrel
    by_cases hlt : k < n
    · have hk' : k < zs.length := by rw [Hn.out]; exact hlt
      obtain ⟨b, off, rfl, hb, h1, h2, h3⟩ := rd_on (h.below hB) hk'
      generalize hz : zs[k] = z at h1 h2 h3
      have Hz := Lib.hid hz; clear hz
      have hsz := hB.size
      have hF := filter_take_succ (p := fun y : On => !decide (y.r ∈ rs)) hk'
      rw [Hz.out] at hF
      have HF := Lib.hid hF; clear hF
      have hR := (hr.step hB (Nat.le_refl _)).mono hsz
      go_wp2_with fail
      refine (in_any R nr cr rs z.r _ Hnr.out hlr hR).mono ?_
      rintro e w1 ⟨rfl, hb1⟩
      have hB1 := hB.trans (hb1.mono hsz)
      have hsz1 := hB1.size
      have hO1 : w1.ownsRow w.heap.size 50 3 (.slice A' m c') m ((withoutL (zs.take k) rs).flatMap onC) := own_below hO hb1
      have g1 := (hb1.cell (p := ⟨b, off + k * 3, none⟩) (by show b < _; omega)).trans h1
      have g2 := (hb1.cell (p := ⟨b, off + k * 3 + 1, none⟩) (by show b < _; omega)).trans h2
      have g3 := (hb1.cell (p := ⟨b, off + k * 3 + 2, none⟩) (by show b < _; omega)).trans h3
      clear h1 h2 h3 hO hB
      go_wp2_with (at_builtin; refine wpList_append_new rfl (.tmp 21) (.tmp 26) 22 rfl w.heap.size 50 i0 _ 3 24 Try.underlying22 hi hz0 hz1 hz2 rfl (by decide) _ m _ rfl hO1 w1.heap.size 1 1 rfl rfl (onC z) rfl rfl (by simp [onC, Value.oneCell']) (by omega) (by omega) hsz1 ?_; intro A1 c1 w2 hO2 hg2 _)
      · have ht : (!decide (z.r ∈ rs)) = true := by assumption
        have hall := hB1.grown hg2 hsz1 (own_ge hO1 (Nat.le_refl _))
        go_roundw
        case rel => exact ⟨k + 1, m + 1, A1, c1, by omega, by go_num, rfl, by show _ = _; rw [withoutL, HF.out, if_pos ht]; simp [hm.out, withoutL], by omega, by rw [withoutL, HF.out, if_pos ht, List.flatMap_append]; simpa only [withoutL, List.flatMap_cons, List.flatMap_nil, List.append_nil] using hO2, hall⟩
        case measure => simp [intOf]; omega
      · have ht : (!decide (z.r ∈ rs)) = false := by assumption
        go_roundw
        case rel => exact ⟨k + 1, m, A', c', by omega, by go_num, rfl, by show _ = _; rw [withoutL, HF.out, if_neg (by rw [ht]; exact Bool.false_ne_true), List.append_nil]; exact hm.out, by omega, by rw [withoutL, HF.out, if_neg (by rw [ht]; exact Bool.false_ne_true), List.append_nil]; exact hO1, hB1⟩
        case measure => simp [intOf]; omega
    · obtain rfl : k = n := by omega
      go_wp2
      go_ret
      rw [List.take_of_length_le (by rw [Hn.out]; omega)] at hO hm
      exact ⟨A', m, c', rfl, hm.out, hO, hB⟩

/-- The amount of the i-th line. -/
def amt (l : List On) (i : Nat) : Int := match l[i]? with | some y => y.a | none => 0
theorem amt_at {l : List On} {i : Nat} (h : i < l.length) : amt l i = l[i].a := by simp [amt, h]
/-- The line that fits best among the first k. -/
def oneTo (x : On) (l : List On) (tol : Int) : Nat → Option Nat
  | 0 => none
  | k + 1 => match oneTo x l tol k with
    | none => if absZ (x.a + amt l k) ≤ tol then some k else none
    | some b => if absZ (x.a + amt l k) ≤ tol ∧ absZ (x.a + amt l k) < absZ (x.a + amt l b) then some k else some b
theorem oneTo_lt {x : On} {l : List On} {tol : Int} : ∀ {k b : Nat}, oneTo x l tol k = some b → b < k
  | 0, b, h => by simp [oneTo] at h
  | k + 1, b, h => by
    simp only [oneTo] at h
    split at h
    · split at h
      · simp at h; omega
      · simp at h
    · rename_i b' hb'
      have := oneTo_lt hb'
      split at h <;> simp at h <;> omega
def optI : Option Nat → Int
  | none => -1
  | some b => b

theorem rsize_q (n : Int) (w : World) (h1 : -4000000000000000 ≤ n) (h2 : n ≤ 4000000000000000) :
    Calls Try.prog 44 #[.int .i64 n] w fun e w' => e = .returned (.int .i64 (absZ n)) ∧ w' = w := (rsize_any n w h1 h2).mono fun _ _ ⟨a, b⟩ => ⟨a, b.symm⟩
def OnOk (x : On) : Prop := -1000000000000 ≤ x.a ∧ x.a ≤ 1000000000000

set_option maxRecDepth 20000 in
set_option maxHeartbeats 800000 in
theorem one_any (A : Option Addr) (n c : Nat) (x : On) (tol : Int) (zs : List On) (w : World) (hn : zs.length = n) (hl : n ≤ 1000) (h : Rd onC 3 w.heap.size w A zs) (hx : OnOk x) (hok : ∀ y ∈ zs, OnOk y) :
    Calls Try.prog 33 #[onV x, .slice A n c, .int .i64 tol] w fun e w' => e = .returned (.int .i64 (optI (oneTo x zs tol n))) ∧ Below w.heap.size w w' := by
  have Hn := Lib.hid hn; clear hn
  have Hok := Lib.hid hok; clear hok
  obtain ⟨hx1, hx2⟩ := hx
  go_enter Try.func33, Try.ntmps33
  go_wp2
  go_loopw [7, 8] (fun o i wr => ∃ (k : Nat), k ≤ n ∧ i = .int .i64 k ∧ o = .int .i64 (optI (oneTo x zs tol k)) ∧ Below w.heap.size w wr ∧ Blk wr w.heap.size 50 #[.int .i64 x.r.e, .int .i64 x.r.l, .int .i64 x.a]) (fun _ i _ => n - (intOf i).toNat)
  case atStart => exact ⟨0, by omega, rfl, rfl, (Below.refl _ _).alloc (Nat.le_refl _) _, Blk.new _ _ _⟩
  case round =>
    obtain ⟨k, hk, rfl, rfl, hB, hX⟩ := hrel
    have x2 := hX.cell 2
    by_cases hlt : k < n
    · have hk' : k < zs.length := by rw [Hn.out]; exact hlt
      obtain ⟨hy1, hy2⟩ := Hok.out zs[k] (List.getElem_mem hk')
      have hRd := h.below hB
      obtain ⟨b, off, rfl, hb, h1, h2, h3⟩ := rd_on hRd hk'
      have ha := amt_at hk'
      generalize hz : zs[k] = z at h1 h2 h3 ha hy1 hy2
      have HA := Lib.hid ha; clear ha
      clear hz
      have hd : (0 : Int) ≤ absZ (x.a + z.a) := (absZ_bd (B := 4000000000000) (by omega) (by omega)).1
      have hwr : IntKind.i64.wrap (x.a + z.a) = x.a + z.a := IntWalk.i64_in _ (by omega)
      have HT : Hid (oneTo x zs tol (k + 1) = match oneTo x zs tol k with
        | none => if absZ (x.a + z.a) ≤ tol then some k else none
        | some b => if absZ (x.a + z.a) ≤ tol ∧ absZ (x.a + z.a) < absZ (x.a + amt zs b) then some k else some b) := by
        show _ = _; rw [oneTo, HA.out]
      cases hb' : oneTo x zs tol k with
      | none =>
        rw [hb'] at HT
        have HT' := HT.out
        clear hb' HT
        rw [show optI none = -1 from rfl]
        go_wp2
        go_quiet ((go_at_call 44; exact Calls.quiet_of_same (rsize_q _ _ (by omega) (by omega))))
        generalize absZ (x.a + z.a) = d at hd HT' ⊢
        have HT := Lib.hid HT'; clear HT'
        by_cases ht : d ≤ tol
        · have ht' : decide (d ≤ tol) = true := by simpa using ht
          go_wp2
          go_quiet (fail)
          go_wp2
          go_roundw
          case rel => exact ⟨k + 1, by omega, by go_num, by rw [HT.out]; (first | rw [if_neg (by omega)] | rw [if_pos (by omega)]); rfl, below_drewNs hB _, hX⟩
          case measure => simp [intOf]; omega
        · have ht' : decide (d ≤ tol) = false := by simpa using ht
          go_wp2
          go_quiet (fail)
          go_wp2
          go_roundw
          case rel => exact ⟨k + 1, by omega, by go_num, by rw [HT.out]; (first | rw [if_neg (by omega)] | rw [if_pos (by omega)]); rfl, below_drewNs hB _, hX⟩
          case measure => simp [intOf]; omega
      | some q =>
        have hqk := oneTo_lt hb'
        have hq : q < zs.length := by omega
        have hqn : ¬ (q : Int) < 0 := by omega
        have hqlt : q < n := by omega
        obtain ⟨hq1, hq2⟩ := Hok.out zs[q] (List.getElem_mem hq)
        obtain ⟨b2, off2, e2, hb2, g1, g2, g3⟩ := rd_on hRd hq
        have hbo : b = b2 ∧ off = off2 := by simpa using e2
        obtain ⟨rfl, rfl⟩ := hbo
        clear e2
        have ha := amt_at hq
        rw [hb'] at HT
        have HT' := HT.out
        clear hb' HT
        simp only [] at HT'
        rw [ha] at HT'
        rw [show optI (some q) = (q : Int) from rfl]
        clear ha
        generalize zs[q] = y at g1 g2 g3 hq1 hq2 HT'
        have hd2 : (0 : Int) ≤ absZ (x.a + y.a) := (absZ_bd (B := 4000000000000) (by omega) (by omega)).1
        have hwr2 : IntKind.i64.wrap (x.a + y.a) = x.a + y.a := IntWalk.i64_in _ (by omega)
        have hqd : decide ((q : Int) < 0) = false := decide_eq_false hqn
        have HT := Lib.hid HT'; clear HT'
        go_wp2
        go_quiet ((go_at_call 44; exact Calls.quiet_of_same (rsize_q _ _ (by omega) (by omega))))
        by_cases ht : absZ (x.a + z.a) ≤ tol
        · have ht' : decide (absZ (x.a + z.a) ≤ tol) = true := by simpa using ht
          by_cases hu : absZ (x.a + z.a) < absZ (x.a + y.a)
          · go_wp2
            go_quiet ((go_at_call 44; exact quiet_add_same (rsize_q _ _ (by omega) (by omega))))
            go_wp2
            go_roundw
            case rel => exact ⟨k + 1, by omega, by go_num, by rw [HT.out, if_pos (by omega)]; rfl, below_drewNs hB _, hX⟩
            case measure => simp [intOf]; omega
          · go_wp2
            go_quiet ((go_at_call 44; exact quiet_add_same (rsize_q _ _ (by omega) (by omega))))
            go_wp2
            go_roundw
            case rel => exact ⟨k + 1, by omega, by go_num, by rw [HT.out, if_neg (by omega)]; rfl, below_drewNs hB _, hX⟩
            case measure => simp [intOf]; omega
        · have ht' : decide (absZ (x.a + z.a) ≤ tol) = false := by simpa using ht
          go_wp2
          go_quiet (fail)
          go_wp2
          go_roundw
          case rel => exact ⟨k + 1, by omega, by go_num, by rw [HT.out]; (first | rw [if_neg (by omega)] | rw [if_pos (by omega)]); rfl, below_drewNs hB _, hX⟩
          case measure => simp [intOf]; omega
    · obtain rfl : k = n := by omega
      go_wp2
      go_ret
      exact ⟨rfl, hB⟩
end Go.Proofs.Ytccgleiildgckaa
