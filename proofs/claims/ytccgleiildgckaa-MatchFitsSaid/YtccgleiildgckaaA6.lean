/- How lists of proposals lie in memory; contracts of SamePairs and from. Conditions: at most 1000 proposals, of at most 1000 references a side. -/
import Derived.Test.YtccgleiildgckaaA5
namespace Go.Proofs.Ytccgleiildgckaa
open Go.RowKit

/-- A slice's head. -/
structure Sh where
  A : Option Addr
  n : Nat
  c : Nat
abbrev Sh.v (s : Sh) : Value := .slice s.A s.n s.c
/-- A proposal as it lies in memory: two heads. -/
structure Pv where
  x : Sh
  y : Sh
def pvC (p : Pv) : List Value := [.slice p.x.A p.x.n p.x.c, .slice p.y.A p.y.n p.y.c]
/-- A slice reads as zs, each place in a block of which X holds. -/
def RdP {α : Type} (enc : α → List Value) (k : Nat) (X : Nat → Prop) (w : World) (A : Option Addr) (zs : List α) : Prop :=
  ∀ (i : Nat) (x : α), zs[i]? = some x → ∃ b off, A = some ⟨b, off, none⟩ ∧ X b ∧ ∀ j u, (enc x)[j]? = some u → w.cell? ⟨b, off + i * k + j, none⟩ = some u
section
variable {α : Type} {enc : α → List Value} {k : Nat} {X X' : Nat → Prop} {w w' : World} {A : Option Addr} {zs : List α}
theorem RdP.nil : RdP enc k X w A [] := fun i x h => by simp at h
theorem RdP.imp (h : RdP enc k X w A zs) (hx : ∀ b, X b → X' b) : RdP enc k X' w A zs := fun i x hi => by
  obtain ⟨b, off, e, hb, hc⟩ := h i x hi
  exact ⟨b, off, e, hx b hb, hc⟩
theorem RdP.toRd (h : RdP enc k X w A zs) {B : Nat} (hx : ∀ b, X b → b < B) : Rd enc k B w A zs := fun i x hi => by
  obtain ⟨b, off, e, hb, hc⟩ := h i x hi
  exact ⟨b, off, e, hx b hb, hc⟩
theorem Rd.toP {B : Nat} (h : Rd enc k B w A zs) : RdP enc k (fun b => b < B) w A zs := h
/-- What keeps every block of which X holds keeps the reading. -/
theorem RdP.kept (h : RdP enc k X w A zs) (hk : ∀ b, X b → w'.heap[b]? = w.heap[b]?) : RdP enc k X w' A zs := fun i x hi => by
  obtain ⟨b, off, e, hb, hc⟩ := h i x hi
  exact ⟨b, off, e, hb, fun j u hu => (World.cell?_of_block (w := w) (a := ⟨b, off + i * k + j, none⟩) (hk b hb)).trans (hc j u hu)⟩
end
def PvOk (X : Nat → Prop) (w : World) (q : Pv) (p : Pr) : Prop := p.x.length = q.x.n ∧ p.y.length = q.y.n ∧ RdP rfC 2 X w q.x.A p.x ∧ RdP rfC 2 X w q.y.A p.y ∧ q.x.n ≤ 1000 ∧ q.y.n ≤ 1000
/-- What the heads lead to. -/
def PvAll (X : Nat → Prop) (w : World) (qs : List Pv) (ps : List Pr) : Prop := qs.length = ps.length ∧ ∀ (i : Nat) (q : Pv) (p : Pr), qs[i]? = some q → ps[i]? = some p → PvOk X w q p
section
variable {X X' : Nat → Prop} {w w' : World} {qs : List Pv} {ps : List Pr}
theorem PvOk.kept {q : Pv} {p : Pr} (h : PvOk X w q p) (hk : ∀ b, X b → w'.heap[b]? = w.heap[b]?) : PvOk X w' q p := ⟨h.1, h.2.1, h.2.2.1.kept hk, h.2.2.2.1.kept hk, h.2.2.2.2⟩
theorem PvOk.imp {q : Pv} {p : Pr} (h : PvOk X w q p) (hx : ∀ b, X b → X' b) : PvOk X' w q p := ⟨h.1, h.2.1, h.2.2.1.imp hx, h.2.2.2.1.imp hx, h.2.2.2.2⟩
theorem PvAll.kept (h : PvAll X w qs ps) (hk : ∀ b, X b → w'.heap[b]? = w.heap[b]?) : PvAll X w' qs ps := ⟨h.1, fun i q p h1 h2 => (h.2 i q p h1 h2).kept hk⟩
theorem PvAll.imp (h : PvAll X w qs ps) (hx : ∀ b, X b → X' b) : PvAll X' w qs ps := ⟨h.1, fun i q p h1 h2 => (h.2 i q p h1 h2).imp hx⟩
theorem PvAll.nil : PvAll X w [] [] := ⟨rfl, fun i q p h _ => by simp at h⟩
theorem PvAll.snoc (h : PvAll X w qs ps) {q : Pv} {p : Pr} (hp : PvOk X w q p) : PvAll X w (qs ++ [q]) (ps ++ [p]) := by
  refine ⟨by simp [h.1], fun i q' p' h1 h2 => ?_⟩
  by_cases hi : i < qs.length
  · rw [List.getElem?_append_left hi] at h1
    rw [List.getElem?_append_left (by rw [← h.1]; exact hi)] at h2
    exact h.2 i q' p' h1 h2
  · rw [List.getElem?_append_right (by omega)] at h1
    rw [List.getElem?_append_right (by rw [← h.1]; omega), ← h.1] at h2
    have h0 : i - qs.length = 0 := by
      rcases Nat.eq_zero_or_pos (i - qs.length) with h | h
      · exact h
      · rw [List.getElem?_eq_none (by simp; omega)] at h1; cases h1
    rw [h0] at h1 h2
    simp at h1 h2
    subst h1; subst h2
    exact hp
end
theorem rd_pv {B w A} {zs : List Pv} {i : Nat} (h : Rd pvC 2 B w A zs) (hi : i < zs.length) : ∃ b off, A = some ⟨b, off, none⟩ ∧ b < B ∧
    w.cell? ⟨b, off + i * 2, none⟩ = some (.slice zs[i].x.A zs[i].x.n zs[i].x.c) ∧ w.cell? ⟨b, off + i * 2 + 1, none⟩ = some (.slice zs[i].y.A zs[i].y.n zs[i].y.c) := by
  obtain ⟨b, off, e, hb, hc⟩ := h.at_ hi
  exact ⟨b, off, e, hb, hc 0 _ rfl, hc 1 _ rfl⟩

set_option maxRecDepth 20000 in
set_option maxHeartbeats 800000 in
theorem samePairs_any (A A' : Option Addr) (n c n' c' : Nat) (qs qs' : List Pv) (ps ps' : List Pr) (w : World) (hn : ps.length = n) (hn' : ps'.length = n') (hl : n ≤ 1000)
    (h : Rd pvC 2 w.heap.size w A qs) (hp : PvAll (fun b => b < w.heap.size) w qs ps) (h' : Rd pvC 2 w.heap.size w A' qs') (hp' : PvAll (fun b => b < w.heap.size) w qs' ps') :
    Calls Try.prog 13 #[.slice A n c, .slice A' n' c'] w fun e w' => e = .returned (.bool (decide (ps = ps'))) ∧ ∃ q, w' = w.drewN q := by
  have Hn := Lib.hid hn; clear hn
  have Hn' := Lib.hid hn'; clear hn'
  have HL := Lib.hid hp.1
  have HL' := Lib.hid hp'.1
  have HP := Lib.hid hp.2; clear hp
  have HP' := Lib.hid hp'.2; clear hp'
  by_cases hne : n = n'
  · subst hne
    go_enter Try.func13, Try.ntmps13
    go_wp2
    go_loopw [5] (fun i wr => ∃ k : Nat, k ≤ n ∧ i = .int .i64 k ∧ Hid (ps.take k = ps'.take k) ∧ ∃ q, wr = w.drewN q) (fun i _ => n - (intOf i).toNat)
    case atStart => exact ⟨0, by omega, rfl, by simp [Hid], 0, rfl⟩
    case round =>
      obtain ⟨k, hk, rfl, hno, q, rfl⟩ := hrel
      by_cases hlt : k < n
      · have hk1 : k < ps.length := by rw [Hn.out]; exact hlt
        have hk2 : k < ps'.length := by rw [Hn'.out]; exact hlt
        have hk3 : k < qs.length := by rw [HL.out]; exact hk1
        have hk4 : k < qs'.length := by rw [HL'.out]; exact hk2
        obtain ⟨b, off, rfl, hb, h1, h2⟩ := rd_pv h hk3
        obtain ⟨b', off', rfl, hb', h1', h2'⟩ := rd_pv h' hk4
        have hpk := HP.out k _ _ (List.getElem?_eq_getElem hk3) (List.getElem?_eq_getElem hk1)
        have hpk' := HP'.out k _ _ (List.getElem?_eq_getElem hk4) (List.getElem?_eq_getElem hk2)
        have htk : ps.take (k + 1) = ps'.take (k + 1) ↔ ps[k] = ps'[k] := by
          rw [List.take_succ_eq_append_getElem hk1, List.take_succ_eq_append_getElem (l := ps') hk2, hno.out]; exact ⟨fun h => (List.cons.inj (List.append_cancel_left h)).1, fun h => by rw [h]⟩
        have hne1 : ps[k] ≠ ps'[k] → ps ≠ ps' := by rintro hd rfl; exact hd rfl
        have HTK := Lib.hid htk; clear htk
        have HNE := Lib.hid hne1; clear hne1
        generalize qs[k] = z at h1 h2 hpk
        generalize qs'[k] = z' at h1' h2' hpk'
        generalize ps[k] = p at hpk HTK HNE
        generalize ps'[k] = p' at hpk' HTK HNE
        obtain ⟨⟨zxA, zxn, zxc⟩, zyA, zyn, zyc⟩ := z
        obtain ⟨⟨zxA', zxn', zxc'⟩, zyA', zyn', zyc'⟩ := z'
        obtain ⟨px, py⟩ := p
        obtain ⟨px', py'⟩ := p'
        have HO := Lib.hid hpk; clear hpk
        have HO' := Lib.hid hpk'; clear hpk'
        simp only [] at h1 h2 h1' h2'
        have m1 : zxn ≤ maxLen := by have := HO.out.2.2.2.2.1; unfold maxLen; simp at this; omega
        have m2 : zyn ≤ maxLen := by have := HO.out.2.2.2.2.2; unfold maxLen; simp at this; omega
        have CX := Lib.hid (fun a : Nat => sameRefs_q zxA zxA' zxn zxc zxn' zxc' px px' (w.drewN a) HO.out.1 HO'.out.1 m1 HO.out.2.2.1 HO'.out.2.2.1)
        have CY := Lib.hid (fun a : Nat => sameRefs_q zyA zyA' zyn zyc zyn' zyc' py py' (w.drewN a) HO.out.2.1 HO'.out.2.1 m2 HO.out.2.2.2.1 HO'.out.2.2.2.1)
        clear m1 m2 HO HO'
        have HBX : Hid (∀ bx, bx = decide (px = px') → bx = false → ps ≠ ps') := fun bx e1 e2 => HNE.out (by rintro e; injection e with e3 e4; rw [e3] at e1; simp [e2] at e1)
        have HBY : Hid (∀ bx, bx = decide (py = py') → bx = false → ps ≠ ps') := fun bx e1 e2 => HNE.out (by rintro e; injection e with e3 e4; rw [e4] at e1; simp [e2] at e1)
        have HBZ : Hid (decide (px = px') = true → decide (py = py') = true → ps.take (k + 1) = ps'.take (k + 1)) := fun e1 e2 => HTK.out.2 (by rw [of_decide_eq_true e1, of_decide_eq_true e2])
        have HBX := Lib.hid (HBX.out _ rfl)
        have HBY := Lib.hid (HBY.out _ rfl)
        clear HNE HTK
        generalize decide (px = px') = bx at CX HBX HBZ
        generalize decide (py = py') = bz at CY HBY HBZ
        cases bx with
        | false =>
          have HPN := Lib.hid (HBX.out rfl)
          go_wp2
          go_quiet ((go_at_call 35; with_reducible exact quiet_add (CX.out _)))
          go_wp2
          go_ret
          exact ⟨ret_bool (decide_eq_false HPN.out).symm, drew_two _ _ _⟩
        | true =>
          cases bz with
          | false =>
            have HPN := Lib.hid (HBY.out rfl)
            go_wp2
            go_quiet ((go_at_call 35; first | (with_reducible exact quiet_add (CX.out _)) | (with_reducible exact quiet_add (CY.out _))))
            go_wp2
            go_ret
            exact ⟨ret_bool (decide_eq_false HPN.out).symm, drew_two _ _ _⟩
          | true =>
            have HPN := Lib.hid (HBZ.out rfl rfl)
            go_wp2
            go_quiet ((go_at_call 35; first | (with_reducible exact quiet_add (CX.out _)) | (with_reducible exact quiet_add (CY.out _))))
            go_wp2
            go_roundw
            case rel => exact ⟨k + 1, by omega, by go_num, HPN, _, rfl⟩
            case measure => simp [intOf]; omega
      · go_wp2
        go_ret
        exact ⟨ret_bool (by have h := hno.out; rw [List.take_of_length_le (by rw [Hn.out]; omega), List.take_of_length_le (by rw [Hn'.out]; omega)] at h; simp [h]), q, rfl⟩
  · have hb : ((n : Int) != (n' : Int)) = true := by rw [bne_iff_ne]; omega
    go_enter Try.func13, Try.ntmps13
    go_wp2
    go_ret
    exact ⟨ret_bool (by symm; rw [decide_eq_false_iff_not]; rintro rfl; rw [Hn.out] at Hn'; exact hne Hn'.out), 0, rfl⟩
end Go.Proofs.Ytccgleiildgckaa
