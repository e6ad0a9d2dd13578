/- The law MatchExact returns true. No conditions beside the reading of the arguments. -/
import Derived.Test.YtccgleiildgckaaL2
import Derived.Test.YtccgleiildgckaaP5
namespace Go.Proofs.Ytccgleiildgckaa
open Go.RowKit

def exR (zs : List Int) (b : Nat) : List On := (List.range zs.length).map fun (i : Nat) => ⟨⟨2, (i : Int)⟩, -(zs.getD ((i + b) % zs.length) 0)⟩
theorem exR_len (zs : List Int) (b : Nat) : (exR zs b).length = zs.length := by simp [exR]
theorem exR_at {zs : List Int} {b k : Nat} (h : k < zs.length) : (exR zs b)[k]'(by rw [exR_len]; exact h) = ⟨⟨2, k⟩, -(zs[(k + b) % zs.length]'(Nat.mod_lt _ (by omega)))⟩ := by
  have hm : (k + b) % zs.length < zs.length := Nat.mod_lt _ (by omega)
  simp [exR, hm]
def hwC (n : Int) : List Value := [.int .i16 n]
theorem rd_hw {B w A} {zs : List Int} {i : Nat} (h : Rd hwC 1 B w A zs) (hi : i < zs.length) : ∃ b off, A = some ⟨b, off, none⟩ ∧ b < B ∧
    w.cell? ⟨b, off + i, none⟩ = some (.int .i16 zs[i]) := by
  obtain ⟨b, off, e, hb, hc⟩ := h.at_ hi
  exact ⟨b, off, e, hb, by simpa using hc 0 _ rfl⟩
theorem own_grown {w w' : World} {base : Nat} {e : TypeId} {size : Nat} {v : Value} {n : Nat} {xs : List Value} {row : Option Nat} (h : w.ownsRow base e size v n xs) (hg : w.grownBy w' row) (hne : ∀ b, v.ownBlock = some b → some b ≠ row) : w'.ownsRow base e size v n xs := by
  refine ⟨h.1, h.2.imp id ?_⟩
  rintro ⟨g, cap, cur, hv, hg', hh, r⟩
  exact ⟨g, cap, cur, hv, hg', (hg.block g (lt_of_block hh) (hne g (by rw [hv]; rfl))).trans hh, r⟩
theorem ex_wf {zs : List Int} {b : Nat} (hl : zs.length ≤ 40) : ∀ x ∈ openL 1 zs ++ exR zs b, RfWf x.r := by
  intro x hx
  have hn : ∀ i : Nat, i < 40 → (Lit.int .i64 (i : Int)).wf = true := fun i hi => WalkArith.wf_i64 (by omega)
  rcases List.mem_append.1 hx with hx | hx
  · obtain ⟨i, hi, rfl⟩ := List.mem_map.1 hx
    have := List.mem_range.1 hi
    exact ⟨WalkArith.wf_i64 (n := 1) (by omega), hn i (by omega)⟩
  · obtain ⟨i, hi, rfl⟩ := List.mem_map.1 hx
    have := List.mem_range.1 hi
    exact ⟨WalkArith.wf_i64 (n := 2) (by omega), hn i (by omega)⟩
theorem ex_lines {zs : List Int} {b : Nat} (hl : zs.length ≤ 40) (hne : ∀ x ∈ zs, x ≠ 0) (hbd : ∀ x ∈ zs, -32768 ≤ x ∧ x ≤ 32767) : LinesOk (openL 1 zs) (exR zs b) := by
  refine ⟨fun x hx => ?_, ?_, by rw [openL_len]; omega, by rw [exR_len]; omega⟩
  · have key : ∀ n : Int, n ≠ 0 → -32768 ≤ n → n ≤ 32768 → n ≠ 0 ∧ amtB n = true := fun n h1 h2 h3 => ⟨h1, amtB_iff.2 ⟨by omega, by omega⟩⟩
    rcases List.mem_append.1 hx with hx | hx
    · obtain ⟨i, hi, rfl⟩ := List.mem_map.1 hx
      have hi := List.mem_range.1 hi
      have hm : zs.getD i 0 ∈ zs := by simp [hi]
      have h2 := hbd _ hm
      exact key (zs.getD i 0) (hne _ hm) (by omega) (by omega)
    · obtain ⟨i, hi, rfl⟩ := List.mem_map.1 hx
      have hi := List.mem_range.1 hi
      have hlt : (i + b) % zs.length < zs.length := Nat.mod_lt _ (by omega)
      have hm : zs.getD ((i + b) % zs.length) 0 ∈ zs := by simp [hlt]
      have h1 := hne _ hm
      have h2 := hbd _ hm
      exact key (-(zs.getD ((i + b) % zs.length) 0)) (by omega) (by omega) (by omega)
  · rw [List.map_append, List.nodup_append]
    refine ⟨?_, ?_, ?_⟩
    · unfold openL
      rw [List.map_map, List.Nodup, List.pairwise_map]
      refine List.Pairwise.imp ?_ List.nodup_range
      intro a c h e
      simp only [Function.comp_apply, Rf.mk.injEq] at e
      omega
    · unfold exR
      rw [List.map_map, List.Nodup, List.pairwise_map]
      refine List.Pairwise.imp ?_ List.nodup_range
      intro a c h e
      simp only [Function.comp_apply, Rf.mk.injEq] at e
      omega
    · intro r hr r' hr' e
      subst e
      unfold openL at hr
      unfold exR at hr'
      rw [List.map_map] at hr hr'
      obtain ⟨i, _, e1⟩ := List.mem_map.1 hr
      obtain ⟨j, _, e2⟩ := List.mem_map.1 hr'
      rw [← e1] at e2
      simp at e2
theorem ex_law {zs : List Int} {b : Nat} (hne : ∀ x ∈ zs, x ≠ 0) : (progOut (openL 1 zs) (exR zs b) 0).length = zs.length ∧ ∀ p ∈ progOut (openL 1 zs) (exR zs b) 0, p.x.length = 1 ∧ p.y.length = 1 := by
  have h := exact_law (L := openL 1 zs) (R := exR zs b) (fun x hx => ?_) (by rw [openL_len, exR_len]) ?_
  · rw [openL_len] at h; exact h
  · obtain ⟨i, hi, rfl⟩ := List.mem_map.1 hx
    have hi := List.mem_range.1 hi
    exact hne _ (by simp [hi])
  · have h1 : (openL 1 zs).map On.a = zs := by
      unfold openL
      rw [List.map_map]
      apply List.ext_getElem
      · simp
      · intro i h1 h2; simp at h1; simp [h1]
    have h2 : (exR zs b).map (fun y => -y.a) = (List.range zs.length).map (fun i => zs.getD ((i + b) % zs.length) 0) := by
      unfold exR
      rw [List.map_map]
      apply List.map_congr_left
      intro i _
      simp
    rw [h1, h2]
    rcases Nat.eq_zero_or_pos zs.length with h0 | h0
    · have : zs = [] := List.eq_nil_of_length_eq_zero h0
      subst this
      exact List.Perm.refl _
    · exact rot_perm zs b h0

set_option maxRecDepth 20000 in
set_option maxHeartbeats 1600000 in
theorem mexact_many (A : Option Addr) (n c : Nat) (b : Int) (w : World) (hm : n ≤ maxLen) (h : 40 < n) :
    Calls Try.prog 5 #[.slice A n c, .int .u8 b] w (lawPost w) := by
  unfold maxLen at hm
  have g0 : decide ((40 : Int) < n) = true := decide_eq_true (by omega)
  go_enter Try.func5, Try.ntmps5
  go_wp2_with fail
  refine (awake_any _).mono ?_
  rintro e w1 ⟨rfl, hb1⟩
  go_wp2_with fail
  refine (awake_any _).mono ?_
  rintro e w2 ⟨rfl, hb2⟩
  go_wp2
  go_ret
  exact ⟨rfl, hb1.trans (hb2.mono hb1.size)⟩

/-- The two lists under way. -/
structure ExIn (W : World) (B : Nat) (zs : List Int) (b k : Nat) (u v : Value) : Prop where
  ex : ∃ A1 c1 A2 c2, u = .slice A1 k c1 ∧ v = .slice A2 k c2 ∧ W.ownsRow B 48 3 u k (((openL 1 zs).take k).flatMap onC) ∧ W.ownsRow B 48 3 v k (((exR zs b).take k).flatMap onC) ∧ ∀ g, u.ownBlock = some g → v.ownBlock ≠ some g
theorem ExIn.start (W : World) (B : Nat) (zs : List Int) (b : Nat) : ExIn W B zs b 0 (.slice none 0 0) (.slice none 0 0) := ⟨none, 0, none, 0, rfl, rfl, World.ownsRow_nil _ _ _ _, World.ownsRow_nil _ _ _ _, fun g h => by cases h⟩

set_option maxRecDepth 20000 in
set_option maxHeartbeats 1600000 in
theorem mexact_few (A : Option Addr) (n c : Nat) (zs : List Int) (b : Nat) (w : World) (hn : zs.length = n) (hl : n ≤ 40) (h : Rd hwC 1 w.heap.size w A zs) (hbd : ∀ x ∈ zs, -32768 ≤ x ∧ x ≤ 32767) (hb : b ≤ 255) :
    Calls Try.prog 5 #[.slice A n c, .int .u8 b] w (lawPost w) := by
  obtain ⟨i48, hi48, hz48, hy48, hb48⟩ := info_parts Try.info48
  have Hn := Lib.hid hn; clear hn
  have HB := Lib.hid hbd; clear hbd
  have g0 : decide ((40 : Int) < n) = false := decide_eq_false (by omega)
  go_enter Try.func5, Try.ntmps5
  go_wp2_with fail
  refine (awake_any _).mono ?_
  rintro e w1 ⟨rfl, hb1⟩
  have R0 := (h.below hb1).mono hb1.size
  clear h
  go_wp2
  go_loopw [5, 6, 23] (fun u v i wr => ∃ k : Nat, k ≤ n ∧ i = .int .i64 k ∧ ExIn wr w1.heap.size zs b k u v ∧ Hid (∀ x ∈ zs.take k, x ≠ 0) ∧ Below w1.heap.size w1 wr) (fun _ _ i _ => n - (intOf i).toNat)
  case atStart => exact ⟨0, Nat.zero_le _, rfl, ExIn.start _ _ _ _, by simp [Hid], Below.refl _ _⟩
  case round =>
    obtain ⟨k, hk, rfl, ⟨A1, c1, A2, c2, rfl, rfl, hO1, hO2, hdis⟩, HNZ, hb2⟩ := hrel
    obtain ⟨w2, rfl⟩ : ∃ u, u = wr := ⟨wr, rfl⟩
    have hs2 := hb2.size
    by_cases hlt : k < n
    · have hk' : k < zs.length := by rw [Hn.out]; exact hlt
      have hkm : (k + b) % zs.length < zs.length := Nat.mod_lt _ (by omega)
      obtain ⟨b3, off, hA, hb3, r0⟩ := rd_hw (R0.below hb2) hk'
      obtain ⟨b4, off4, hA', hb4, r1⟩ := rd_hw (R0.below hb2) hkm
      have hx := HB.out _ (List.getElem_mem hk')
      have hx2 := HB.out _ (List.getElem_mem hkm)
      have h1 := flat_take_succ onC (zs := openL 1 zs) (k := k) (by rw [openL_len]; exact hk')
      have h2 := flat_take_succ onC (zs := exR zs b) (k := k) (by rw [exR_len]; exact hk')
      rw [openL_at hk'] at h1
      rw [exR_at hk'] at h2
      have hz0 := all_take_succ (p := fun x : Int => x ≠ 0) hk' HNZ.out
      generalize zs[k] = x at r0 hx h1 hz0
      generalize zs[(k + b) % zs.length] = y at r1 hx2 h2
      rw [hA] at hA'
      cases hA'
      rw [Hn.out] at r1
      have H1 := Lib.hid h1; clear h1
      have H2 := Lib.hid h2; clear h2
      have HZ := Lib.hid hz0; clear hz0
      obtain ⟨hx3, hx4⟩ := hx
      obtain ⟨hy3, hy4⟩ := hx2
      subst hA
      have hO1l := fun g e => (hO1.lt g e).2
      have hO2l := fun g e => (hO2.lt g e).2
      have hik : (0 : Int) ≤ (k : Int) := by omega
      have hik2 : (k : Int) < (n : Int) := by omega
      have hbb : (0 : Int) ≤ (b : Int) := by omega
      have hbb2 : (b : Int) ≤ 255 := by omega
      have hb3s : b3 < w2.heap.size := by omega
      by_cases hx0 : x = 0
      · subst hx0
        have hw2 := hb1.trans (hb2.mono hb1.size)
        go_wp2
        go_ret
        exact ⟨rfl, hw2⟩
      · have hxe : (x == 0) = false := by simpa using hx0
        rw [Hn.out] at hkm
        have hE : ((k : Int) + b) % n = ((k + b) % n : Nat) := by simp
        have hE0 : 0 ≤ ((k : Int) + b) % n := by rw [hE]; omega
        have hE1 : ((k : Int) + b) % n < n := by rw [hE]; omega
        have hE2 : (((k : Int) + b) % n).toNat = (k + b) % n := by rw [hE]; exact Int.toNat_natCast _
        have HNZ' := Lib.hid (HZ.out hx0)
        clear HNZ HZ hx0 hE
        generalize (k + b) % n = qq at hE2 r1
        clear hkm
        go_wp2_with (first | (at_builtin; refine wpList_append_new rfl (.tmp 38) (.tmp 47) 28 rfl w1.heap.size 48 i48 _ 3 24 Try.underlying28 hi48 hz48 hy48 hb48 rfl (by decide) (.slice A1 k c1) k _ rfl hO1 w2.heap.size 1 1 rfl rfl (onC ⟨⟨1, k⟩, x⟩) rfl rfl (by simp [onC, Value.oneCell']) (by omega) (by omega) (by omega) ?_; intro A7 c7 w7 hO7 hg7 hloc7; have hO2' := own_grown hO2 hg7 (fun g e e2 => hdis g e2.symm e); have hs7 := hg7.size; have r1' := (World.cell?_of_block (w := w2) (w' := w7) (a := ⟨b3, off + qq, none⟩) (hg7.block b3 hb3s (own_ne hO1 hb3))).trans r1; have hb37 : b3 < w7.heap.size := by omega) | (at_builtin; refine wpList_append_new rfl (.tmp 49) (.tmp 59) 28 rfl w1.heap.size 48 i48 _ 3 24 Try.underlying28 hi48 hz48 hy48 hb48 rfl (by decide) (.slice A2 k c2) k _ rfl hO2' w7.heap.size 1 1 rfl rfl (onC ⟨⟨2, k⟩, -y⟩) rfl rfl (by simp [onC, Value.oneCell']) (by omega) (by omega) (by omega) ?_; intro A8 c8 w8 hO8 hg8 hloc8))
        have hdl : ∀ g, (Value.slice A7 (k + 1) c7).ownBlock = some g → some g ≠ (Value.slice A2 k c2).ownBlock := fun g e e2 => by
          rcases hloc7 with h7 | h7
          · rw [h7] at e; exact hdis g e e2.symm
          · have := h7 g e
            have := hO2l g e2.symm
            omega
        have hd8 : ∀ g, (Value.slice A7 (k + 1) c7).ownBlock = some g → (Value.slice A8 (k + 1) c8).ownBlock ≠ some g := fun g e e2 => by
          rcases hloc8 with h8 | h8
          · rw [h8] at e2; exact hdl g e e2.symm
          · have := h8 g e2
            have := (hO7.lt g e).2
            omega
        have hb78 : Below w1.heap.size w1 w8 := (hb2.grown hg7 hs2 (fun g e => own_ge hO1 (Nat.le_refl _) g e)).grown hg8 (by omega) (fun g e => own_ge hO2' (Nat.le_refl _) g e)
        go_roundw
        case rel => exact ⟨k + 1, by omega, by go_num, ⟨⟨A7, c7, A8, c8, rfl, rfl, by rw [H1.out]; exact own_grown hO7 hg8 hdl, by rw [H2.out]; exact hO8, hd8⟩⟩, HNZ', hb78⟩
        case measure => simp [intOf]; omega
    · obtain rfl : k = n := by omega
      have hw2 := hb1.trans (hb2.mono hb1.size)
      have hnz : ∀ x ∈ zs, x ≠ 0 := by
        have := HNZ.out
        rwa [List.take_of_length_le (by rw [Hn.out]; exact Nat.le_refl _)] at this
      have hlz : zs.length ≤ 40 := by rw [Hn.out]; exact hl
      have T1 : Rd onC 3 w2.heap.size w2 A1 (openL 1 zs) := by
        rw [List.take_of_length_le (by rw [openL_len, Hn.out]; exact Nat.le_refl _)] at hO1
        exact Rd.of_own (fun _ => rfl) hO1 (by rw [openL_len, Hn.out])
      have T2 : Rd onC 3 w2.heap.size w2 A2 (exR zs b) := by
        rw [List.take_of_length_le (by rw [exR_len, Hn.out]; exact Nat.le_refl _)] at hO2
        exact Rd.of_own (fun _ => rfl) hO2 (by rw [exR_len, Hn.out])
      have hlaw := ex_law (b := b) hnz
      rw [Hn.out] at hlaw
      have cP := propose_any A1 A2 k c1 k c2 (openL 1 zs) (exR zs b) 0 w2 (by rw [openL_len, Hn.out]) (by rw [exR_len, Hn.out]) T1 T2 (ex_wf hlz) (ex_lines hlz hnz HB.out) (by decide) (by decide)
      generalize progOut (openL 1 zs) (exR zs b) 0 = ps at cP hlaw
      have CP := Lib.hid cP; clear cP
      have HLaw := Lib.hid hlaw.2
      have HPL := Lib.hid hlaw.1
      clear hlaw T1 T2 hO1 hO2 hdis HNZ hnz hlz
      go_wp2_with fail
      refine CP.out.mono ?_
      rintro e w3 ⟨A3, n3, c3, qs, rfl, hn3, hO3, hpv, hb3⟩
      obtain rfl : n3 = k := by rw [hn3]; exact HPL.out
      have hql : qs.length = n3 := by rw [hpv.1]; exact HPL.out
      have Q1 := Rd.of_own (enc := pvC) (k := 2) (zs := qs) (fun _ => rfl) hO3 hql
      have hw3 := hw2.trans (hb3.mono hw2.size)
      have HQL := Lib.hid hql
      have HPV := Lib.hid hpv
      clear hql hpv hn3 hO3 hb3 CP hb2
      go_wp2
      go_loopw [79] (fun i wr => ∃ j : Nat, j ≤ n3 ∧ i = .int .i64 j ∧ Below w3.heap.size w3 wr) (fun i _ => n3 - (intOf i).toNat)
      case atStart => exact ⟨0, Nat.zero_le _, rfl, Below.refl _ _⟩
      case round =>
        obtain ⟨j, hj, rfl, hb4⟩ := hrel
        obtain ⟨w4, rfl⟩ : ∃ u, u = wr := ⟨wr, rfl⟩
        have hs4 := hb4.size
        by_cases hjlt : j < n3
        · have hj2 : j < qs.length := by rw [HQL.out]; exact hjlt
          have hj3 : j < ps.length := by rw [HPL.out]; exact hjlt
          obtain ⟨b5, off5, hA3, hb5, k1, k2⟩ := rd_pv (Q1.below hb4) hj2
          obtain ⟨p1, p2, _, _, _, _⟩ := HPV.out.2 j qs[j] ps[j] (List.getElem?_eq_getElem hj2) (List.getElem?_eq_getElem hj3)
          obtain ⟨l1, l2⟩ := HLaw.out ps[j] (List.getElem_mem hj3)
          generalize qs[j] = q at k1 k2 p1 p2
          obtain ⟨⟨xA, xn, xc⟩, ⟨yA, yn, yc⟩⟩ := q
          simp only [] at k1 k2 p1 p2
          obtain rfl : xn = 1 := by omega
          obtain rfl : yn = 1 := by omega
          subst hA3
          have hb5s : b5 < w4.heap.size := by omega
          have hik : (0 : Int) ≤ (j : Int) := by omega
          have hik2 : (j : Int) < (n3 : Int) := by omega
          clear p1 p2 l1 l2
          go_wp2
          go_roundw
          case rel => exact ⟨j + 1, by omega, by go_num, hb4.alloc hs4 _⟩
          case measure => simp [intOf]; omega
        · obtain rfl : j = n3 := by omega
          go_wp2
          go_ret
          exact ⟨rfl, hw3.trans (hb4.mono hw3.size)⟩
theorem wf_u8 {n : Int} (h : (Lit.int .u8 n).wf = true) : 0 ≤ n ∧ n ≤ 255 := by
  simp only [Lit.wf, Bool.and_eq_true, decide_eq_true_eq] at h
  exact h
theorem wf_i16 {n : Int} (h : (Lit.int .i16 n).wf = true) : -32768 ≤ n ∧ n ≤ 32767 := by
  simp only [Lit.wf, Bool.and_eq_true, decide_eq_true_eq] at h
  exact h
theorem matchExact_any (A : Option Addr) (n c : Nat) (zs : List Int) (b : Int) (w : World) (hn : zs.length = n) (hc : n ≤ c) (hm : c ≤ maxLen) (h : Rd hwC 1 w.heap.size w A zs) (hbd : ∀ x ∈ zs, (Lit.int .i16 x).wf = true) (wb : (Lit.int .u8 b).wf = true) :
    Calls Try.prog 5 #[.slice A n c, .int .u8 b] w (lawPost w) := by
  obtain ⟨h0, h1⟩ := wf_u8 wb
  by_cases hb : 40 < n
  · exact mexact_many A n c b w (by omega) hb
  · obtain ⟨b, rfl⟩ := Int.eq_ofNat_of_zero_le h0
    exact mexact_few A n c zs b w hn (by omega) h (fun x hx => wf_i16 (hbd x hx)) (by omega)
end Go.Proofs.Ytccgleiildgckaa
