/- Contract of the reference's function Valid. Conditions: at most 1000 lines on each side. -/
import Derived.Test.YtccgleiildgckaaA4
namespace Go.Proofs.Ytccgleiildgckaa
open Go.RowKit

def OnGood (x : On) : Prop := x.a ≠ 0 ∧ amtB x.a = true
/-- Open lines are valid. -/
def LinesOk (L R : List On) : Prop := (∀ x ∈ L ++ R, OnGood x) ∧ ((L ++ R).map On.r).Nodup ∧ L.length ≤ 60 ∧ R.length ≤ 60
open Classical in
noncomputable def linesB (L R : List On) : Bool := decide (LinesOk L R)
theorem linesB_true {L R : List On} : linesB L R = true ↔ LinesOk L R := by simp [linesB]
theorem linesB_false {L R : List On} : linesB L R = false ↔ ¬ LinesOk L R := by simp [linesB]

theorem rd_src {α : Type} {enc : α → List Value} {k B : Nat} {w : World} {A : Option Addr} {zs : List α} (hk : ∀ x, (enc x).length = k) (h : Rd enc k B w A zs) : ∀ j u, (zs.flatMap enc)[j]? = some u → ∃ b off, A = some ⟨b, off, none⟩ ∧ w.cell? ⟨b, off + j, none⟩ = some u := by
  have key : ∀ (l : List α) (j : Nat) u, (l.flatMap enc)[j]? = some u → ∃ i q x, l[i]? = some x ∧ (enc x)[q]? = some u ∧ j = i * k + q := by
    intro l
    induction l with
    | nil => intro j u h; simp at h
    | cons y l ih =>
      intro j u h
      rw [List.flatMap_cons] at h
      by_cases hj : j < k
      · rw [List.getElem?_append_left (by rw [hk]; exact hj)] at h
        exact ⟨0, j, y, rfl, h, by omega⟩
      · rw [List.getElem?_append_right (by rw [hk]; omega), hk] at h
        obtain ⟨i, q, x, h1, h2, h3⟩ := ih _ _ h
        exact ⟨i + 1, q, x, by simpa using h1, h2, by rw [Nat.succ_mul]; omega⟩
  intro j u hj
  obtain ⟨i, q, x, h1, h2, rfl⟩ := key zs j u hj
  obtain ⟨b, off, e, _, hc⟩ := h i x h1
  exact ⟨b, off, e, by rw [← Nat.add_assoc]; exact hc q u h2⟩
theorem len_flat {α : Type} {enc : α → List Value} {k : Nat} (hk : ∀ x, (enc x).length = k) (zs : List α) : (zs.flatMap enc).length = zs.length * k := by
  induction zs with
  | nil => simp
  | cons x l ih => rw [List.flatMap_cons, List.length_append, hk, ih, List.length_cons, Nat.succ_mul]; omega
theorem one_onC (zs : List On) : ∀ u ∈ zs.flatMap onC, u.oneCell' = true := by
  intro u hu
  obtain ⟨x, _, hx⟩ := List.mem_flatMap.1 hu
  simp only [onC, List.mem_cons, List.not_mem_nil, or_false] at hx
  rcases hx with rfl | rfl | rfl <;> rfl
theorem one_rfC (zs : List Rf) : ∀ u ∈ zs.flatMap rfC, u.oneCell' = true := by
  intro u hu
  obtain ⟨x, _, hx⟩ := List.mem_flatMap.1 hu
  simp only [rfC, List.mem_cons, List.not_mem_nil, or_false] at hx
  rcases hx with rfl | rfl <;> rfl

set_option maxRecDepth 20000 in
set_option maxHeartbeats 800000 in
theorem rvalid_any (A A' : Option Addr) (n c n' c' : Nat) (L R : List On) (w : World) (hn : L.length = n) (hn' : R.length = n') (hl : n ≤ 1000) (hl' : n' ≤ 1000) (h : Rd onC 3 w.heap.size w A L) (h' : Rd onC 3 w.heap.size w A' R) :
    Calls Try.prog 30 #[.slice A n c, .slice A' n' c'] w fun e w' => e = .returned (.bool (linesB L R)) ∧ Below w.heap.size w w' := by
  have hall : (L ++ R).length = n + n' := by simp [hn, hn']
  have Hn := Lib.hid hn; clear hn
  have Hn' := Lib.hid hn'; clear hn'
  have HA := Lib.hid hall; clear hall
  obtain ⟨i0, hi0, hz0, hz1, hz2⟩ := info_parts Try.info50
  have H1 := Lib.hid (one_onC L)
  have H2 := Lib.hid (one_onC R)
  have hL1 : (L.flatMap onC).length = n * 3 := by rw [len_flat (k := 3) (fun _ => rfl), Hn.out]
  have hL2 : (R.flatMap onC).length = n' * 3 := by rw [len_flat (k := 3) (fun _ => rfl), Hn'.out]
  have HL1 := Lib.hid hL1; clear hL1
  have HL2 := Lib.hid hL2; clear hL2
  go_enter Try.func30, Try.ntmps30
  go_wp2_with (first
    | (at_builtin; refine wpList_append_src rfl (.tmp 8) (.tmp 9) 22 rfl w.heap.size 50 i0 _ 3 24 Try.underlying22 hi0 hz0 hz1 hz2 rfl (by decide) (.slice (some ⟨w.heap.size, 0, none⟩) 0 0) 0 [] rfl (World.ownsRow_lit w #[] 0 (Nat.le_refl _) (by decide) rfl) A n c (L.flatMap onC) rfl HL1.out (rd_src (fun _ => rfl) (h.step ((Below.refl _ w).alloc (Nat.le_refl _) _) (Nat.le_refl _))) H1.out (by omega) (by omega) (by simp) ?_; intro A2 c2 w2 hO2 hg2 _; simp only [Nat.zero_add, List.nil_append] at hO2; have hb2 : Below w.heap.size w w2 := ((Below.refl _ w).alloc (Nat.le_refl _) _).grown hg2 (by simp) (by simp [Value.ownBlock]); have hsz2 := hb2.size)
    | (at_builtin; refine wpList_append_src rfl (.tmp 10) (.tmp 11) 22 rfl w.heap.size 50 i0 _ 3 24 Try.underlying22 hi0 hz0 hz1 hz2 rfl (by decide) _ _ _ rfl hO2 A' n' c' (R.flatMap onC) rfl HL2.out (rd_src (fun _ => rfl) (h'.below hb2)) H2.out (by omega) (by omega) hsz2 ?_; intro A3 c3 w3 hO3 hg3 _; have hb3 : Below w.heap.size w w3 := hb2.grown hg3 hsz2 (own_ge hO2 (Nat.le_refl _)); clear hO2 hg2 hg3 hb2 hsz2))
  rw [← List.flatMap_append] at hO3
  have hR : Rd onC 3 w3.heap.size w3 A3 (L ++ R) := Rd.of_own (fun _ => rfl) hO3 HA.out
  have hnn : (L.length ≤ 60 ∧ R.length ≤ 60) ↔ (n ≤ 60 ∧ n' ≤ 60) := by rw [Hn.out, Hn'.out]
  have HNN := Lib.hid hnn; clear hnn
  clear hO3 h h' H1 H2 HL1 HL2 Hn Hn'
  generalize hal : L ++ R = al at hR HA
  have HAL := Lib.hid hal; clear hal
  have HA1 : al.length ≤ n + n' := by rw [HA.out]; omega
  have HA2 : n + n' ≤ al.length := by rw [HA.out]; omega
  go_loopw [6, 7] (fun q _ wr => ∃ k : Nat, k ≤ al.length ∧ q = .int .i64 k ∧ Hid ((∀ x ∈ al.take k, OnGood x) ∧ ((al.take k).map On.r).Nodup) ∧ Below w3.heap.size w3 wr) (fun q _ _ => al.length - (intOf q).toNat)
  case atStart => exact ⟨0, by omega, rfl, ⟨by simp, by simp⟩, Below.refl _ _⟩
  case round =>
    obtain ⟨k, hk, rfl, HG, hB⟩ := hrel
    by_cases hlt : k < al.length
    · obtain ⟨b, off, rfl, hb, h1, h2, h3⟩ := rd_on (hR.below hB) hlt
      have hG1 := fun h => all_take_succ (p := OnGood) hlt HG.out.1 h
      have hG2 : ((al.take (k + 1)).map On.r) = (al.take k).map On.r ++ [al[k].r] := by rw [List.take_succ_eq_append_getElem hlt, List.map_append]; rfl
      generalize hz : al[k] = z at h1 h2 h3 hG1 hG2
      have Hz := Lib.hid hz; clear hz
      have HG1 := Lib.hid hG1; clear hG1
      have HG2 := Lib.hid hG2; clear hG2
      have hbad : ¬ OnGood z → linesB L R = false := fun hz => linesB_false.2 fun ⟨h, _⟩ => hz (by rw [← Hz.out]; exact h _ (by rw [HAL.out]; exact List.getElem_mem hlt))
      have HBAD := Lib.hid hbad; clear hbad
      have hkn : k < n + n' := by omega
      by_cases hz0 : z.a = 0
      · have hz0' : (z.a == 0) = true := by simp [hz0]
        have HB := Lib.hid (HBAD.out (fun h => h.1 hz0))
        clear hz0
        go_wp2
        go_ret
        exact ⟨ret_bool HB.out.symm, hb3.trans (hB.mono hb3.size)⟩
      · have hz0' : (z.a == 0) = false := by simp [hz0]
        cases hamt : amtB z.a with
        | false =>
          have HB := Lib.hid (HBAD.out (fun h => by rw [h.2] at hamt; cases hamt))
          go_wp2_with (go_at_call 43; refine (amount8_any _ _).mono ?_; rintro e w' ⟨rfl, rfl⟩)
          go_ret
          exact ⟨ret_bool HB.out.symm, hb3.trans (hB.mono hb3.size)⟩
        | true =>
          have HGZ := Lib.hid (show OnGood z from ⟨hz0, hamt⟩)
          go_wp2_with (go_at_call 43; refine (amount8_any _ _).mono ?_; rintro e w' ⟨rfl, rfl⟩)
          clear h1 h2 h3 hb
          go_loopw [7] (fun q wr' => ∃ j : Nat, j ≤ k ∧ q = .int .i64 j ∧ Hid (∀ y ∈ al.take j, y.r ≠ z.r) ∧ Below w3.heap.size w3 wr') (fun q _ => k - (intOf q).toNat)
          case atStart => exact ⟨0, by omega, rfl, by simp [Hid], hB⟩
          case round =>
            clear hB
            obtain ⟨j, hj, rfl, HJ, hB⟩ := hrel
            by_cases hjk : j < k
            · have hjl : j < al.length := by omega
              obtain ⟨b1, off1, e1, hb1, p1, p2, p3⟩ := rd_on (hR.below hB) hjl
              obtain ⟨b2, off2, e2, hb2, q1, q2, q3⟩ := rd_on (hR.below hB) hlt
              have hbo : b = b1 ∧ off = off1 := by simpa using e1
              obtain ⟨rfl, rfl⟩ := hbo
              have hbo : b = b2 ∧ off = off2 := by simpa using e2
              obtain ⟨rfl, rfl⟩ := hbo
              clear e1 e2
              rw [Hz.out] at q1 q2 q3
              have hjt := all_take_succ (p := fun y : On => y.r ≠ z.r) hjl HJ.out
              have hjm : al[j] ∈ al.take k := List.mem_take_iff_getElem.2 ⟨j, by omega, rfl⟩
              generalize al[j] = y at p1 p2 p3 hjt hjm
              have HJT := Lib.hid hjt; clear hjt
              have HJM := Lib.hid hjm; clear hjm
              have hjn : j < n + n' := by omega
              go_wp2
              go_quiet (fail)
              go_wp2
              · have ht : rfEq y.r z.r = true := by assumption
                have hB0 : linesB L R = false := linesB_false.2 (by
                  rintro ⟨_, hnd, _⟩
                  rw [HAL.out] at hnd
                  have hnd2 : ((al.take (k + 1)).map On.r).Nodup := (List.Sublist.map _ (List.take_sublist _ _)).nodup hnd
                  rw [HG2.out, List.nodup_append] at hnd2
                  exact hnd2.2.2 _ (List.mem_map_of_mem HJM.out) _ (by simp) (rfEq_true.1 ht))
                have HB := Lib.hid hB0; clear hB0
                go_ret
                exact ⟨ret_bool HB.out.symm, hb3.trans ((below_drewNs hB _).mono hb3.size)⟩
              · have ht : rfEq y.r z.r = false := by assumption
                go_roundw
                case rel => exact ⟨j + 1, by omega, by go_num, HJT.out (rfEq_false.1 ht), below_drewNs hB _⟩
                case measure => simp [intOf]; omega
            · obtain rfl : j = k := by omega
              go_wp2
              go_roundw
              case rel => exact ⟨j + 1, by omega, by go_num, ⟨HG1.out HGZ.out, by
                rw [HG2.out, List.nodup_append]
                refine ⟨HG.out.2, by simp, ?_⟩
                rintro a ha b hb rfl
                obtain ⟨y, hy, rfl⟩ := List.mem_map.1 ha
                simp at hb
                exact HJ.out y hy hb⟩, hB⟩
              case measure => simp [intOf]; omega
    · have hkn : n + n' ≤ k := by omega
      have hg := HG.out
      rw [List.take_of_length_le (by omega)] at hg
      have hlb : linesB L R = (decide (n ≤ 60) && decide (n' ≤ 60)) := by
        rw [Bool.eq_iff_iff, linesB_true]
        simp only [Bool.and_eq_true, decide_eq_true_eq]
        rw [← HNN.out]
        constructor
        · rintro ⟨_, _, h⟩; exact h
        · intro h; exact ⟨by rw [HAL.out]; exact hg.1, by rw [HAL.out]; exact hg.2, h⟩
      have HLB := Lib.hid hlb; clear hlb hg
      by_cases h60 : n ≤ 60
      · go_wp2
        go_ret
        exact ⟨ret_bool (by rw [HLB.out]; simp [h60]; omega), hb3.trans (hB.mono hb3.size)⟩
      · go_wp2
        go_ret
        exact ⟨ret_bool (by rw [HLB.out, decide_eq_false (by omega)]; rfl), hb3.trans (hB.mono hb3.size)⟩
end Go.Proofs.Ytccgleiildgckaa
