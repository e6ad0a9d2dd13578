/- Contract of the iterator that subsets returns, for at most 12 places. -/
import Derived.Test.YtccgleiildgckaaB5
import Derived.Test.YtccgleiildgckaaB6
namespace Go.Proofs.Ytccgleiildgckaa
open Go.RowKit Go.Shelf Go.Rf
attribute [local go_sem] Oper.semAt_some

/-- The masks below q with n places, in rising order. -/
def mL (n q : Nat) : List Mk := ((List.finRange 4096).take q).filter (fun m => popN 12 m.val == n)
theorem mL_zero (n : Nat) : mL n 0 = [] := rfl
theorem mL_succ (n q : Nat) (hq : q < 4096) : mL n (q + 1) = mL n q ++ if popN 12 q = n then [⟨q, hq⟩] else [] := by
  unfold mL
  rw [List.take_succ_eq_append_getElem (by simpa using hq), List.filter_append]
  congr 1
  simp only [List.getElem_finRange, List.filter_cons, List.filter_nil, Fin.val_cast, beq_iff_eq]
  split <;> rfl
theorem mL_len (n q : Nat) : (mL n q).length ≤ 4096 := by
  unfold mL
  refine Nat.le_trans (List.length_filter_le _ _) ?_
  simp
  omega
/-- The masks of k places with n of them, as the program sorts them. -/
def mSorted (k n : Nat) : List Mk := mSort (mL n (2 ^ k))
/-- All masks with two places at least, in the program's order. -/
def mAll (k : Nat) : List Mk := (List.range' 2 (k - 1)).flatMap (mSorted k)

def mC (x : Mk) : List Value := [mkV x]
theorem map_mC (l : List Mk) : l.map mkV = l.flatMap mC := by
  induction l with
  | nil => rfl
  | cons x l ih => rw [List.map_cons, List.flatMap_cons, ih]; rfl
theorem rd_mk {B w A zs} {i : Nat} (h : Rd mC 1 B w A zs) (hi : i < zs.length) : ∃ b off, A = some ⟨b, off, none⟩ ∧ b < B ∧
    w.cell? ⟨b, off + i, none⟩ = some (mkV zs[i]) := by
  obtain ⟨b, off, e, hb, hc⟩ := h.at_ hi
  exact ⟨b, off, e, hb, by simpa using hc 0 _ rfl⟩
theorem mAll_mem {k q : Nat} (hq : 2 ≤ q) (hk : q ≤ k) {x : Mk} (hx : x ∈ mSorted k q) : x ∈ mAll k :=
  List.mem_flatMap.2 ⟨q, by simp [List.mem_range'_1]; omega, hx⟩
theorem mAll_split {k q : Nat} (hq : 2 ≤ q) (hk : q ≤ k) : mAll k = (List.range' 2 (q - 2)).flatMap (mSorted k) ++ (mSorted k q ++ (List.range' (q + 1) (k - q)).flatMap (mSorted k)) := by
  have h : List.range' 2 (k - 1) = List.range' 2 (q - 2) ++ (q :: List.range' (q + 1) (k - q)) := by
    rw [← List.range'_succ]
    have := List.range'_append_1 (s := 2) (m := q - 2) (n := k - q + 1)
    rw [show 2 + (q - 2) = q from by omega, show q - 2 + (k - q + 1) = k - 1 from by omega] at this
    exact this.symm
  unfold mAll
  rw [h, List.flatMap_append, List.flatMap_cons]
theorem take_split {α : Type} {l : List α} {i : Nat} (h : i < l.length) : l = l.take i ++ l[i] :: l.drop (i + 1) := by
  rw [← List.drop_eq_getElem_cons h, List.take_append_drop]
theorem find_hit {α : Type} {f : α → Bool} {l r : List α} {x : α} (h : l.find? f = none) (hx : f x = true) : (l ++ x :: r).find? f = some x := by
  rw [List.find?_append, h, List.find?_cons, hx]; rfl

def itPost (W : World) (Jx : Mk → World → Prop) (o : Option Mk) (e : Ending) (W' : World) : Prop :=
  (∃ v, e = .returned v) ∧ match o with
    | none => Below W.heap.size W W'
    | some x => Jx x W'

set_option maxRecDepth 20000 in
set_option maxHeartbeats 2000000 in
theorem subsets_it (F : Fence) (n l k Bk : Nat) (O : Free F) (hro : F.round = none) (hk : k ≤ 12) (W : World) (hB : Bk < W.heap.size) (hc : W.cell? ⟨Bk, 0, none⟩ = some (.int .i64 k)) (fit : Mk → Bool) (Jx : Mk → World → Prop)
    (hY : ∀ (x : Mk) (W1 : World), Below W.heap.size W W1 → x ∈ mAll k → YieldAt F (n - 1) Try.prog l #[mkV x] W1 fun e W' => e = .returned (.bool (!fit x)) ∧ (fit x = false → Below W1.heap.size W1 W') ∧ (fit x = true → Jx x W')) :
    CallsIn F n Try.prog 50 #[.func (.yield l) #[] #[], .pointer (some ⟨Bk, 0, none⟩)] W (itPost W Jx ((mAll k).find? fit)) := by
  obtain ⟨i0, hi0, hz0, hz1, hz2⟩ := info_parts (show (Try.prog.info? 105).map (fun i => (i.zero, i.size, i.bytes)) = some (some (.int .u64 0), 1, 8) by kernel_rfl)
  have hFn := O.fn 50
  refine callsIn_of_wp Try.func50 rfl hFn ?_ hro
  simp only [Try.ntmps50, List.size_toArray, List.length_cons, List.length_nil, Nat.reduceAdd, Nat.reduceSub, Array.replicate_succ, Array.replicate_zero, List.push_toArray, List.append_toArray, List.nil_append, List.cons_append]
  gi_wp2
  gi_loopw [3] (fun i wr => ∃ q : Nat, 2 ≤ q ∧ i = .int .i64 q ∧ ((List.range' 2 (q - 2)).flatMap (mSorted k)).find? fit = none ∧ q - 2 ≤ k - 1 ∧ Below W.heap.size W wr) (fun i _ => k + 2 - (intOf i).toNat)
  case atStart => exact ⟨2, Nat.le_refl _, rfl, rfl, Nat.zero_le _, Below.refl _ _⟩
  case round =>
    obtain ⟨q, hq, rfl, hno, hqk, hb⟩ := hrel
    have hc' := (hb.cell (p := ⟨Bk, 0, none⟩) hB).trans hc
    by_cases hlt : q ≤ k
    · have hp12 : 2 ^ k ≤ 4096 := Nat.pow_le_pow_right (by decide) hk (n := 2)
      obtain ⟨p, hp⟩ : ∃ p : Nat, 2 ^ k = p := ⟨_, rfl⟩
      have hwrap : IntKind.u64.wrap (2 ^ k) = (p : Int) := by
        have h1 : ((2 ^ k : Nat) : Int) = (2 : Int) ^ k := by simp
        rw [← h1, hp]
        exact IntWalk.u64_in _ ⟨by omega, by omega⟩ -- (by omega) (by omega)
      rw [hp] at hp12
      have Hp := Lib.hid hp; clear hp
      have Hno := Lib.hid hno; clear hno
      gi_wp2
      clear hwrap
      gi_loopw [4, 15] (fun v i wr' => ∃ (m n' : Nat) (A : Option Addr) (c : Nat), m ≤ p ∧ i = .int .u64 m ∧ v = .slice A n' c ∧ n' = (mL q m).length ∧ wr'.ownsRow W.heap.size 105 1 (.slice A n' c) n' ((mL q m).map mkV) ∧ Below W.heap.size W wr') (fun _ i _ => p - (intOf i).toNat)
      case atStart => exact ⟨0, 0, none, 0, Nat.zero_le _, rfl, rfl, rfl, World.ownsRow_nil _ _ _ _, hb⟩
      case round =>
        clear hb hc'
        obtain ⟨m, n', A, c, hm, rfl, rfl, hn', hO, hb⟩ := hrel
        have hlen := mL_len q m
        rw [← hn'] at hlen
        have Hn' := Lib.hid hn'; clear hn'
        have HO := Lib.hid hO; clear hO
        have hsz := hb.size
        by_cases hlt2 : m < p
        · have hm4 : m < 4096 := by omega
          have hadd : IntKind.u64.wrap ((m : Int) + 1) = ((m + 1 : Nat) : Int) := IntWalk.u64_in _ ⟨by omega, by omega⟩ -- (by omega) (by omega)
          by_cases hpop : popN 12 m = q
          · have g0 : ((popN 12 m : Int) == q) = true := by simp [hpop]
            have hx : mL q (m + 1) = mL q m ++ [⟨m, hm4⟩] := by rw [mL_succ q m hm4, if_pos hpop]
            have HX := Lib.hid hx; clear hx hpop
            gi_wp2_with (first
              | (refine ⟨O.fn _, O.dep, ?_⟩; gi_at_call 51; refine (O.calls (ones_any m _ hm4)).mono ?_; rintro e w1 ⟨rfl, rfl⟩)
              | (gi_at_builtin; refine lift_one O rfl rfl ?_; refine wpList_append_new rfl (.tmp 22) (.tmp 24) 118 rfl W.heap.size 105 i0 _ 1 8 Try.underlying118 hi0 hz0 hz1 hz2 rfl (by decide) (.slice A n' c) n' _ rfl HO.out _ 1 1 rfl rfl [mkV ⟨m, hm4⟩] rfl rfl (by simp [mkV, Value.oneCell']) (by omega) (by omega) hsz ?_; intro A1 c1 w1 hO1 hg1 hloc; refine then_done ?_))
            go_roundw
            case rel => exact ⟨m + 1, n' + 1, A1, c1, by omega, by go_num, rfl, by rw [HX.out]; simp [Hn'.out], by rw [HX.out, List.map_append]; exact hO1, hb.grown hg1 hsz (own_ge HO.out (Nat.le_refl _))⟩
            case measure => simp [intOf]; omega
          · have g0 : ((popN 12 m : Int) == q) = false := by
              rw [beq_eq_false_iff_ne]
              omega
            have hx : mL q (m + 1) = mL q m := by rw [mL_succ q m hm4, if_neg hpop, List.append_nil]
            have HX := Lib.hid hx; clear hx hpop
            gi_wp2_with (refine ⟨O.fn _, O.dep, ?_⟩; gi_at_call 51; refine (O.calls (ones_any m _ hm4)).mono ?_; rintro e w1 ⟨rfl, rfl⟩)
            go_roundw
            case rel => exact ⟨m + 1, n', A, c, by omega, by go_num, rfl, by rw [HX.out]; exact Hn'.out, by rw [HX.out]; exact HO.out, hb⟩
            case measure => simp [intOf]; omega
        · have hmp : m = p := by omega
          subst hmp
          gi_wp2_with (refine ⟨O.fn _, O.dep, ?_⟩; gi_at_call 52; refine (O.calls (sort_any A n' c (mL q m) _ W.heap.size hlen hsz HO.out)).mono ?_; rintro e w2 ⟨rfl, hO2, hb2⟩)
          have hzl : (mSorted k q).length = n' := by simp [mSorted, mSort, Hp.out, Hn'.out]
          have hO3 : w2.ownsRow W.heap.size 105 1 (.slice A n' c) n' ((mSorted k q).flatMap mC) := by
            rw [← map_mC, mSorted, Hp.out]; exact hO2
          have hrd := Rd.of_own (enc := mC) (fun _ => rfl) hO3 hzl
          have hbw : Below W.heap.size W w2 := hb.trans hb2
          have HZ := Lib.hid hzl; clear hzl
          have HMem := Lib.hid (fun x (hx : x ∈ mSorted k q) => mAll_mem hq hlt hx)
          have HSplit := Lib.hid (mAll_split (k := k) hq hlt)
          clear hO2 hO3 hb2 hb HO hsz
          gi_loopw [31] (fun i wr' => ∃ j : Nat, j ≤ n' ∧ i = .int .i64 j ∧ ((mSorted k q).take j).find? fit = none ∧ Below W.heap.size W wr' ∧ Below w2.heap.size w2 wr') (fun i _ => n' - (intOf i).toNat)
          case atStart => exact ⟨0, Nat.zero_le _, rfl, rfl, hbw, Below.refl _ _⟩
          case round =>
            clear hbw
            obtain ⟨j, hj, rfl, hnf, hbw, hb3⟩ := hrel
            have Hnf := Lib.hid hnf; clear hnf
            by_cases hjlt : j < n'
            · obtain ⟨b, off, rfl, hbb, f0⟩ := rd_mk hrd (i := j) (by rw [HZ.out]; exact hjlt)
              have f1 := (hb3.cell (p := ⟨b, off + j, none⟩) hbb).trans f0
              have hmem : (mSorted k q)[j]'(by rw [HZ.out]; exact hjlt) ∈ mSorted k q := List.getElem_mem _
              have htk := Lib.hid (List.take_succ_eq_append_getElem (i := j) (l := mSorted k q) (by rw [HZ.out]; exact hjlt))
              have hspl := Lib.hid (take_split (l := mSorted k q) (i := j) (by rw [HZ.out]; exact hjlt))
              generalize (mSorted k q)[j]'(by rw [HZ.out]; exact hjlt) = x at *
              clear f0
              obtain ⟨fn, tmps, assign, body, hy, hR⟩ := hY x _ hbw (HMem.out x hmem)
              simp only [mkV] at hy f1
              cases hfit : fit x with
              | false =>
                have hn1 : ((mSorted k q).take (j + 1)).find? fit = none := by
                  rw [htk.out, List.find?_append, Hnf.out, List.find?_cons, hfit]; rfl
                have Hn1 := Lib.hid hn1; clear hn1
                rw [hfit] at hR
                clear hfit
                gi_wp2
                refine ⟨O.dep, ?_⟩
                refine hR.mono ?_
                rintro e W3 ⟨rfl, hbl, _⟩
                have hb4 := hbl (by trivial)
                have hB4 : Below W.heap.size W W3 := hbw.trans (hb4.mono hbw.size)
                have hB5 : Below w2.heap.size w2 W3 := hb3.trans (hb4.mono hb3.size)
                gi_wp2
                go_roundw
                case rel => exact ⟨j + 1, by omega, by go_num, Hn1.out, hB4, hB5⟩
                case measure => simp [intOf]; omega
              | true =>
                have hn1 : (mAll k).find? fit = some x := by
                  rw [HSplit.out, List.find?_append, Hno.out, hspl.out, List.append_assoc, List.cons_append, find_hit Hnf.out hfit]; rfl
                have Hn1 := Lib.hid hn1; clear hn1
                rw [hfit] at hR
                clear hfit
                gi_wp2
                refine ⟨O.dep, ?_⟩
                refine hR.mono ?_
                rintro e W3 ⟨rfl, _, hjx⟩
                have hj4 := hjx (by trivial)
                gi_wp2
                refine bodyPost_ret (results_none rfl _ _ _) rfl ?_
                refine ⟨⟨_, rfl⟩, ?_⟩
                rw [Hn1.out]
                exact hj4
            · have hjn : j = n' := by omega
              subst hjn
              have hall : ((List.range' 2 (q + 1 - 2)).flatMap (mSorted k)).find? fit = none := by
                have h1 : List.range' 2 (q + 1 - 2) = List.range' 2 (q - 2) ++ [q] := by
                  rw [show q + 1 - 2 = q - 2 + 1 from by omega, List.range'_concat]
                  simp
                  omega
                rw [h1, List.flatMap_append, List.find?_append, Hno.out]
                have h2 := Hnf.out
                rw [List.take_of_length_le (by rw [HZ.out]; exact Nat.le_refl _)] at h2
                simpa using h2
              have HAll := Lib.hid hall; clear hall
              gi_wp2
              go_roundw
              case rel => exact ⟨q + 1, by omega, by go_num, HAll.out, by omega, hbw⟩
              case measure => simp [intOf]; omega
    · have hqq : q - 2 = k - 1 := by omega
      rw [hqq] at hno
      have Hno := Lib.hid hno; clear hno
      gi_wp2
      go_end0
      refine ⟨⟨_, rfl⟩, ?_⟩
      rw [mAll, Hno.out]
      exact hb
end Go.Proofs.Ytccgleiildgckaa
