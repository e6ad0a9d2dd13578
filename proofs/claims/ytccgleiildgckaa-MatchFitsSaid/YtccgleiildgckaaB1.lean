/- Contracts of the library's slices.Grow (onto nil) and slices.Concat (of two slices) at the program's two element types. Conditions: at most 1000 elements a slice. -/
import Derived.Test.YtccgleiildgckaaA7
import Derived.Lib.AppendZeros
namespace Go.Proofs.Ytccgleiildgckaa
open Go.RowKit

theorem Try.isz48 : ∃ i0, Try.prog.info? 48 = some i0 ∧ i0.zero = some (.agg #[.int .i64 0, .int .i64 0, .int .i64 0]) ∧ i0.size = 3 ∧ i0.bytes = 24 := by
  obtain ⟨i0, h1, h2, h3, h4⟩ := info_parts Try.info48
  exact ⟨i0, h1, h2, h3, h4⟩

set_option maxRecDepth 20000 in
set_option maxHeartbeats 800000 in
theorem growOn_any (n : Nat) (w : World) (hn : n ≤ 1000000) :
    Calls Try.prog 49 #[.slice none 0 0, .int .i64 n] w fun e w' => ∃ A c, e = .returned (.slice A 0 c) ∧ w'.ownsRow w.heap.size 48 3 (.slice A 0 c) 0 [] ∧ Below w.heap.size w w' := by
  obtain ⟨i0, hi, hz0, hz1, hz2⟩ := Try.isz48
  by_cases h0 : n = 0
  · subst h0
    go_enter Try.func49, Try.ntmps49
    go_wp2
    go_ret
    exact ⟨none, 0, rfl, World.ownsRow_nil _ _ _ _, Below.refl _ _⟩
  · have hpos : 0 < n := by omega
    have hr := Lib.run_append_nil_zeros (P := Try.prog) w 28 3 28 48 i0 _ .i64 .i64 Try.underlying28 Try.underlying3 hi hz0 n hpos (by omega) (by omega) (by rw [hz2]; omega)
    have hge := grownCap_ge w n 0 48
    have hcm := grownCap_le_maxLen w n 0 48 (by unfold maxLen; omega)
    generalize grownCap w n 0 48 = cap at hr hge hcm
    have hcm2 : cap ≤ 9223372036854775807 := by unfold maxLen at hcm; omega
    clear hcm
    have HR := Lib.hid hr; clear hr h0
    go_enter Try.func49, Try.ntmps49
    go_wp2_with (at_builtin; refine Lib.wpList_append_run _ rfl (.tmp 20) (.tmp 21) 28 3 rfl _ _ rfl rfl _ _ HR.out ?_)
    go_ret
    refine ⟨some ⟨w.heap.size, 0, none⟩, cap, rfl, ⟨by simp, .inr ⟨w.heap.size, cap, _, rfl, Nat.le_refl _, heap_alloc_new w.drew _, Nat.zero_le _, by unfold maxLen; omega, ?_, by simp⟩⟩, (below_drew (Below.refl _ _)).alloc (Nat.le_refl _) _⟩
    simp only [Array.size_append, size_zeroCells, List.size_toArray, List.length_cons, List.length_nil]
    omega

/-- The sizes on the way through two slices. -/
theorem concatOn_any (g cc : Nat) (A A' : Option Addr) (n c n' c' : Nat) (L R : List On) (w : World) (hg : Blk w g 28 #[.slice A n c, .slice A' n' c']) (hn : L.length = n) (hn' : R.length = n') (hl : n ≤ 1000) (hl' : n' ≤ 1000) (h : Rd onC 3 w.heap.size w A L) (h' : Rd onC 3 w.heap.size w A' R) :
    Calls Try.prog 39 #[.slice (some ⟨g, 0, none⟩) 2 cc] w fun e w' => ∃ A2 c2, e = .returned (.slice A2 (n + n') c2) ∧ w'.ownsRow w.heap.size 48 3 (.slice A2 (n + n') c2) (n + n') ((L ++ R).flatMap onC) ∧ Below w.heap.size w w' := by
  obtain ⟨i0, hi, hz0, hz1, hz2⟩ := Try.isz48
  have H1 := Lib.hid (one_onC L)
  have H2 := Lib.hid (one_onC R)
  have hL1 : (L.flatMap onC).length = n * 3 := by rw [len_flat (k := 3) (fun _ => rfl), hn]
  have hL2 : (R.flatMap onC).length = n' * 3 := by rw [len_flat (k := 3) (fun _ => rfl), hn']
  have HL1 := Lib.hid hL1; clear hL1
  have HL2 := Lib.hid hL2; clear hL2
  clear hn hn'
  have f0 : w.cell? ⟨g, 0, none⟩ = some (.slice A n c) := hg.cell 0
  have f1 : w.cell? ⟨g, 1, none⟩ = some (.slice A' n' c') := hg.cell 1
  have hgl := hg.lt
  go_enter Try.func39, Try.ntmps39
  go_wp2
  go_loopw [3, 11] (fun s i wr => wr = w ∧ ((i = .int .i64 0 ∧ s = .int .i64 0) ∨ (i = .int .i64 1 ∧ s = .int .i64 n) ∨ (i = .int .i64 2 ∧ s = .int .i64 (n + n' : Nat)))) (fun _ i _ => 2 - (intOf i).toNat)
  case atStart => exact ⟨rfl, .inl ⟨rfl, rfl⟩⟩
  case round =>
    obtain ⟨rfl, ⟨rfl, rfl⟩ | ⟨rfl, rfl⟩ | ⟨rfl, rfl⟩⟩ := hrel
    · have g0 : decide ((n : Int) < 0) = false := by simp
      go_wp2
      go_roundw
      case rel => exact ⟨trivial, .inr (.inl ⟨rfl, rfl⟩)⟩
      case measure => simp [intOf]
    · have g0 : decide ((n : Int) + n' < 0) = false := decide_eq_false (by omega)
      go_wp2
      go_roundw
      case rel => exact ⟨trivial, .inr (.inr ⟨rfl, by go_num⟩)⟩
      case measure => simp [intOf]
    · go_wp2_with fail
      refine (growOn_any (n + n') _ (by omega)).mono ?_
      rintro e w1 ⟨A1, c1, rfl, hO, hb⟩
      have d0 := (hb.cell (p := ⟨g, 0, none⟩) hgl).trans f0
      have d1 := (hb.cell (p := ⟨g, 1, none⟩) hgl).trans f1
      have hsz := hb.size
      go_wp2
      go_loopw [6, 27] (fun o i wr' => Below wr.heap.size wr wr' ∧ ((i = .int .i64 0 ∧ ∃ A2 c2, o = .slice A2 0 c2 ∧ wr'.ownsRow wr.heap.size 48 3 o 0 []) ∨ (i = .int .i64 1 ∧ ∃ A2 c2, o = .slice A2 n c2 ∧ wr'.ownsRow wr.heap.size 48 3 o n (L.flatMap onC)) ∨ (i = .int .i64 2 ∧ ∃ A2 c2, o = .slice A2 (n + n') c2 ∧ wr'.ownsRow wr.heap.size 48 3 o (n + n') ((L ++ R).flatMap onC)))) (fun _ i _ => 2 - (intOf i).toNat)
      case atStart => exact ⟨hb, .inl ⟨rfl, A1, c1, rfl, hO⟩⟩
      case round =>
        clear hO d0 d1 hb hsz
        obtain ⟨hb, ⟨rfl, A2, c2, rfl, hO⟩ | ⟨rfl, A2, c2, rfl, hO⟩ | ⟨rfl, A2, c2, rfl, hO⟩⟩ := hrel
        · have d0 := (hb.cell (p := ⟨g, 0, none⟩) hgl).trans f0
          have hsz := hb.size
          go_wp2_with (at_builtin; refine wpList_append_src rfl (.tmp 31) (.tmp 32) 28 rfl _ 48 i0 _ 3 24 Try.underlying28 hi hz0 hz1 hz2 rfl (by decide) _ 0 [] rfl hO A n c (L.flatMap onC) rfl HL1.out (rd_src (fun _ => rfl) (h.below hb)) H1.out (by omega) (by omega) hsz ?_; intro A3 c3 w3 hO3 hg3 _; simp only [Nat.zero_add, List.nil_append] at hO3)
          go_roundw
          case rel => exact ⟨hb.grown hg3 hsz (own_ge hO (Nat.le_refl _)), .inr (.inl ⟨rfl, A3, c3, by simp, by simpa using hO3⟩)⟩
          case measure => simp [intOf]
        · have d0 := (hb.cell (p := ⟨g, 1, none⟩) hgl).trans f1
          have hsz := hb.size
          go_wp2_with (at_builtin; refine wpList_append_src rfl (.tmp 31) (.tmp 32) 28 rfl _ 48 i0 _ 3 24 Try.underlying28 hi hz0 hz1 hz2 rfl (by decide) _ n (L.flatMap onC) rfl hO A' n' c' (R.flatMap onC) rfl HL2.out (rd_src (fun _ => rfl) (h'.below hb)) H2.out (by omega) (by omega) hsz ?_; intro A3 c3 w3 hO3 hg3 _)
          go_roundw
          case rel => exact ⟨hb.grown hg3 hsz (own_ge hO (Nat.le_refl _)), .inr (.inr ⟨rfl, A3, c3, rfl, by rw [List.flatMap_append]; exact hO3⟩)⟩
          case measure => simp [intOf]
        · go_wp2
          go_ret
          exact ⟨A2, c2, rfl, hO, hb⟩

theorem Try.isz41 : ∃ i0, Try.prog.info? 41 = some i0 ∧ i0.zero = some (.agg #[.int .i64 0, .int .i64 0]) ∧ i0.size = 2 ∧ i0.bytes = 16 := by
  obtain ⟨i0, h1, h2, h3, h4⟩ := info_parts Try.info41
  exact ⟨i0, h1, h2, h3, h4⟩

set_option maxRecDepth 20000 in
set_option maxHeartbeats 800000 in
theorem growRf_any (n : Nat) (w : World) (hn : n ≤ 1000000) :
    Calls Try.prog 47 #[.slice none 0 0, .int .i64 n] w fun e w' => ∃ A c, e = .returned (.slice A 0 c) ∧ w'.ownsRow w.heap.size 41 2 (.slice A 0 c) 0 [] ∧ Below w.heap.size w w' := by
  obtain ⟨i0, hi, hz0, hz1, hz2⟩ := Try.isz41
  by_cases h0 : n = 0
  · subst h0
    go_enter Try.func47, Try.ntmps47
    go_wp2
    go_ret
    exact ⟨none, 0, rfl, World.ownsRow_nil _ _ _ _, Below.refl _ _⟩
  · have hpos : 0 < n := by omega
    have hr := Lib.run_append_nil_zeros (P := Try.prog) w 37 3 37 41 i0 _ .i64 .i64 Try.underlying37 Try.underlying3 hi hz0 n hpos (by omega) (by omega) (by rw [hz2]; omega)
    have hge := grownCap_ge w n 0 41
    have hcm := grownCap_le_maxLen w n 0 41 (by unfold maxLen; omega)
    generalize grownCap w n 0 41 = cap at hr hge hcm
    have hcm2 : cap ≤ 9223372036854775807 := by unfold maxLen at hcm; omega
    clear hcm
    have HR := Lib.hid hr; clear hr h0
    go_enter Try.func47, Try.ntmps47
    go_wp2_with (at_builtin; refine Lib.wpList_append_run _ rfl (.tmp 20) (.tmp 21) 37 3 rfl _ _ rfl rfl _ _ HR.out ?_)
    go_ret
    refine ⟨some ⟨w.heap.size, 0, none⟩, cap, rfl, ⟨by simp, .inr ⟨w.heap.size, cap, _, rfl, Nat.le_refl _, heap_alloc_new w.drew _, Nat.zero_le _, by unfold maxLen; omega, ?_, by simp⟩⟩, (below_drew (Below.refl _ _)).alloc (Nat.le_refl _) _⟩
    simp only [Array.size_append, size_zeroCells, List.size_toArray, List.length_cons, List.length_nil]
    omega

/-- The sizes on the way through two slices. -/
theorem concatRf_any (g cc : Nat) (A A' : Option Addr) (n c n' c' : Nat) (L R : List Rf) (w : World) (hg : Blk w g 37 #[.slice A n c, .slice A' n' c']) (hn : L.length = n) (hn' : R.length = n') (hl : n ≤ 1000) (hl' : n' ≤ 1000) (h : Rd rfC 2 w.heap.size w A L) (h' : Rd rfC 2 w.heap.size w A' R) :
    Calls Try.prog 37 #[.slice (some ⟨g, 0, none⟩) 2 cc] w fun e w' => ∃ A2 c2, e = .returned (.slice A2 (n + n') c2) ∧ w'.ownsRow w.heap.size 41 2 (.slice A2 (n + n') c2) (n + n') ((L ++ R).flatMap rfC) ∧ Below w.heap.size w w' := by
  obtain ⟨i0, hi, hz0, hz1, hz2⟩ := Try.isz41
  have H1 := Lib.hid (one_rfC L)
  have H2 := Lib.hid (one_rfC R)
  have hL1 : (L.flatMap rfC).length = n * 2 := by rw [len_flat (k := 2) (fun _ => rfl), hn]
  have hL2 : (R.flatMap rfC).length = n' * 2 := by rw [len_flat (k := 2) (fun _ => rfl), hn']
  have HL1 := Lib.hid hL1; clear hL1
  have HL2 := Lib.hid hL2; clear hL2
  clear hn hn'
  have f0 : w.cell? ⟨g, 0, none⟩ = some (.slice A n c) := hg.cell 0
  have f1 : w.cell? ⟨g, 1, none⟩ = some (.slice A' n' c') := hg.cell 1
  have hgl := hg.lt
  go_enter Try.func37, Try.ntmps37
  go_wp2
  go_loopw [3, 11] (fun s i wr => wr = w ∧ ((i = .int .i64 0 ∧ s = .int .i64 0) ∨ (i = .int .i64 1 ∧ s = .int .i64 n) ∨ (i = .int .i64 2 ∧ s = .int .i64 (n + n' : Nat)))) (fun _ i _ => 2 - (intOf i).toNat)
  case atStart => exact ⟨rfl, .inl ⟨rfl, rfl⟩⟩
  case round =>
    obtain ⟨rfl, ⟨rfl, rfl⟩ | ⟨rfl, rfl⟩ | ⟨rfl, rfl⟩⟩ := hrel
    · have g0 : decide ((n : Int) < 0) = false := by simp
      go_wp2
      go_roundw
      case rel => exact ⟨trivial, .inr (.inl ⟨rfl, rfl⟩)⟩
      case measure => simp [intOf]
    · have g0 : decide ((n : Int) + n' < 0) = false := decide_eq_false (by omega)
      go_wp2
      go_roundw
      case rel => exact ⟨trivial, .inr (.inr ⟨rfl, by go_num⟩)⟩
      case measure => simp [intOf]
    · go_wp2_with fail
      refine (growRf_any (n + n') _ (by omega)).mono ?_
      rintro e w1 ⟨A1, c1, rfl, hO, hb⟩
      have d0 := (hb.cell (p := ⟨g, 0, none⟩) hgl).trans f0
      have d1 := (hb.cell (p := ⟨g, 1, none⟩) hgl).trans f1
      have hsz := hb.size
      go_wp2
      go_loopw [6, 27] (fun o i wr' => Below wr.heap.size wr wr' ∧ ((i = .int .i64 0 ∧ ∃ A2 c2, o = .slice A2 0 c2 ∧ wr'.ownsRow wr.heap.size 41 2 o 0 []) ∨ (i = .int .i64 1 ∧ ∃ A2 c2, o = .slice A2 n c2 ∧ wr'.ownsRow wr.heap.size 41 2 o n (L.flatMap rfC)) ∨ (i = .int .i64 2 ∧ ∃ A2 c2, o = .slice A2 (n + n') c2 ∧ wr'.ownsRow wr.heap.size 41 2 o (n + n') ((L ++ R).flatMap rfC)))) (fun _ i _ => 2 - (intOf i).toNat)
      case atStart => exact ⟨hb, .inl ⟨rfl, A1, c1, rfl, hO⟩⟩
      case round =>
        clear hO d0 d1 hb hsz
        obtain ⟨hb, ⟨rfl, A2, c2, rfl, hO⟩ | ⟨rfl, A2, c2, rfl, hO⟩ | ⟨rfl, A2, c2, rfl, hO⟩⟩ := hrel
        · have d0 := (hb.cell (p := ⟨g, 0, none⟩) hgl).trans f0
          have hsz := hb.size
          go_wp2_with (at_builtin; refine wpList_append_src rfl (.tmp 31) (.tmp 32) 37 rfl _ 41 i0 _ 2 16 Try.underlying37 hi hz0 hz1 hz2 rfl (by decide) _ 0 [] rfl hO A n c (L.flatMap rfC) rfl HL1.out (rd_src (fun _ => rfl) (h.below hb)) H1.out (by omega) (by omega) hsz ?_; intro A3 c3 w3 hO3 hg3 _; simp only [Nat.zero_add, List.nil_append] at hO3)
          go_roundw
          case rel => exact ⟨hb.grown hg3 hsz (own_ge hO (Nat.le_refl _)), .inr (.inl ⟨rfl, A3, c3, by simp, by simpa using hO3⟩)⟩
          case measure => simp [intOf]
        · have d0 := (hb.cell (p := ⟨g, 1, none⟩) hgl).trans f1
          have hsz := hb.size
          go_wp2_with (at_builtin; refine wpList_append_src rfl (.tmp 31) (.tmp 32) 37 rfl _ 41 i0 _ 2 16 Try.underlying37 hi hz0 hz1 hz2 rfl (by decide) _ n (L.flatMap rfC) rfl hO A' n' c' (R.flatMap rfC) rfl HL2.out (rd_src (fun _ => rfl) (h'.below hb)) H2.out (by omega) (by omega) hsz ?_; intro A3 c3 w3 hO3 hg3 _)
          go_roundw
          case rel => exact ⟨hb.grown hg3 hsz (own_ge hO (Nat.le_refl _)), .inr (.inr ⟨rfl, A3, c3, rfl, by rw [List.flatMap_append]; exact hO3⟩)⟩
          case measure => simp [intOf]
        · go_wp2
          go_ret
          exact ⟨A2, c2, rfl, hO, hb⟩
end Go.Proofs.Ytccgleiildgckaa
