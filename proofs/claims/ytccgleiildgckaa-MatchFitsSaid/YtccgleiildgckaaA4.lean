/- Contract of the reference's function many. Conditions: sums in range. -/
import Derived.Test.YtccgleiildgckaaA3
namespace Go.Proofs.Ytccgleiildgckaa
open Go.RowKit

/-- The first result among f 0, .., f (n - 1). -/
def firstK {β : Type} (f : Nat → Option β) : Nat → Option β
  | 0 => none
  | n + 1 => match firstK f n with
    | some r => some r
    | none => f n
theorem firstK_hit {β : Type} {f : Nat → Option β} {k : Nat} {r : β} (h0 : firstK f k = none) (h : f k = some r) : ∀ {n : Nat}, k < n → firstK f n = some r
  | 0, hn => by omega
  | n + 1, hn => by
    rw [firstK]
    by_cases hk : k < n
    · rw [firstK_hit h0 h hk]
    · obtain rfl : k = n := by omega
      rw [h0]; exact h
/-- The sizes of the sets: two and more. -/
def mf (x : On) (l : List On) (tol : Int) (k : Nat) : Option (List Nat) := if k < 2 then none else ch tol l k 0 x.a
def rfAt (l : List On) (i : Nat) : Rf := match l[i]? with | some y => y.r | none => ⟨0, 0⟩
theorem rfAt_at {l : List On} {i : Nat} (h : i < l.length) : rfAt l i = l[i].r := by simp [rfAt, h]
/-- The references of the first set of lines that fits a line; none if there is none. -/
def manyT (x : On) (l : List On) (tol : Int) : List Rf := match firstK (mf x l tol) (l.length + 1) with
  | some ps => ps.map (rfAt l)
  | none => []
theorem manyT_some {x : On} {l : List On} {tol : Int} {ps : List Nat} (h : firstK (mf x l tol) (l.length + 1) = some ps) : manyT x l tol = ps.map (rfAt l) := by rw [manyT, h]
theorem manyT_none {x : On} {l : List On} {tol : Int} (h : firstK (mf x l tol) (l.length + 1) = none) : manyT x l tol = [] := by rw [manyT, h]
def manyL (x : On) (l : List On) (tol : Int) : List Rf := manyT x (l.take 12) tol

theorem ch_bd {tol : Int} : ∀ {l : List On} {k i : Nat} {sum : Int} {r : List Nat}, ch tol l k i sum = some r → ∀ p ∈ r, p < i + l.length := by
  intro l
  induction l with
  | nil =>
    intro k i sum r h
    cases k with
    | zero => rw [ch_zero] at h; split at h <;> simp at h; subst h; simp
    | succ k => simp [ch] at h
  | cons x l ih =>
    intro k i sum r h
    cases k with
    | zero => rw [ch_zero] at h; split at h <;> simp at h; subst h; simp
    | succ k =>
      rw [ch] at h
      split at h
      · rename_i q hq
        simp at h; subst h
        intro p hp
        rcases List.mem_cons.1 hp with rfl | hp
        · simp
        · have := ih hq p hp; simp; omega
      · intro p hp
        have := ih h p hp; simp; omega
def ntC (p : Nat) : List Value := [natV p]
theorem map_ntC (ps : List Nat) : ps.map natV = ps.flatMap ntC := by induction ps with
  | nil => rfl
  | cons x l ih => simp only [List.map_cons, List.flatMap_cons, ih]; rfl
theorem rd_nt {B w A zs} {i : Nat} (h : Rd ntC 1 B w A zs) (hi : i < zs.length) : ∃ b off, A = some ⟨b, off, none⟩ ∧ b < B ∧
    w.cell? ⟨b, off + i, none⟩ = some (.int .i64 (zs[i] : Nat)) := by
  obtain ⟨b, off, e, hb, hc⟩ := h.at_ hi
  exact ⟨b, off, e, hb, by simpa [natV] using hc 0 _ rfl⟩

def manyPost (w : World) (r : List Rf) (e : Ending) (w' : World) : Prop :=
  ∃ A m c, e = .returned (.slice A m c) ∧ m = r.length ∧ w'.ownsRow w.heap.size 41 2 (.slice A m c) m (r.flatMap rfC) ∧ Below w.heap.size w w'

set_option maxRecDepth 20000 in
set_option maxHeartbeats 800000 in
theorem many_any (A : Option Addr) (n c : Nat) (x : On) (tol : Int) (zs : List On) (w : World) (hn : zs.length = n) (hl : n ≤ 1000) (hc : n ≤ c) (h : Rd onC 3 w.heap.size w A zs) (hx : OnOk x) (hok : ∀ y ∈ zs, OnOk y) :
    Calls Try.prog 34 #[onV x, .slice A n c, .int .i64 tol] w (manyPost w (manyL x zs tol)) := by
  have Hok' : ∀ y ∈ zs.take 12, OnOk y := fun y hy => hok y (List.mem_of_mem_take hy)
  have Hok := Lib.hid Hok'; clear hok Hok'
  obtain ⟨hx1, hx2⟩ := hx
  obtain ⟨i0, hi0, hz0, hz1, hz2⟩ := info_parts Try.info41
  have hlen : (zs.take 12).length = min 12 n := by rw [List.length_take, hn]
  have h' := h.take 12
  clear hn h
  unfold manyL
  generalize zs.take 12 = l at h' Hok hlen ⊢
  obtain ⟨m, hm⟩ : ∃ m, m = min 12 n := ⟨_, rfl⟩
  rw [← hm] at hlen
  have hL1 : l.length ≤ m := by omega
  have hL2 : m ≤ l.length := by omega
  have hL3 : l.length ≤ 12 := by omega
  have hm3 : (m = n ∧ n ≤ 12) ∨ (m = 12 ∧ 12 < n) := by omega
  have HL := Lib.hid hlen
  clear hm hlen
  rcases hm3 with ⟨rfl, hm3⟩ | ⟨rfl, hm3⟩
  all_goals
    go_enter Try.func34, Try.ntmps34
    go_wp2
    go_loopw [7] (fun q wr => ∃ k : Nat, 2 ≤ k ∧ k ≤ l.length + 2 ∧ q = .int .i64 k ∧ Hid (firstK (mf x l tol) k = none) ∧ (k = 2 ∨ k ≤ l.length + 1) ∧ Below w.heap.size w wr ∧ Blk wr w.heap.size 50 #[.int .i64 x.r.e, .int .i64 x.r.l, .int .i64 x.a]) (fun q _ => l.length + 2 - (intOf q).toNat)
    case atStart => exact ⟨2, by omega, by omega, rfl, rfl, .inl rfl, (Below.refl _ _).alloc (Nat.le_refl _) _, Blk.new _ _ _⟩
    case round =>
      obtain ⟨k, hk2, hkl, rfl, HN, hk3, hB, hX⟩ := hrel
      have xc2 := hX.cell 2
      have hsz := hX.lt
      by_cases hlt : k ≤ l.length
      · have hmf : mf x l tol k = ch tol (l.drop 0) k 0 x.a := by rw [mf, if_neg (by omega), List.drop_zero]
        have HM := Lib.hid hmf; clear hmf
        go_wp2_with fail
        refine (choose_any l A _ c tol HL.out (by omega) Hok.out k 0 x.a _ _ wr (by omega) (by omega) (by omega) (by omega) (by omega) (by omega) ((h'.below hB).mono hB.size)).mono ?_
        rintro e w1 ⟨A1, m1, c1, rfl, hm1, hO1, hb1⟩
        have HM1 := Lib.hid hm1; clear hm1
        have hsz1 := hb1.size
        have hB1 := hB.trans (hb1.mono hB.size)
        have hX1 := hX.below hb1 hX.lt
        have hRd := (h'.below hB1).mono hB1.size
        cases hr : ch tol (l.drop 0) k 0 x.a with
        | none =>
          have hk' : firstK (mf x l tol) (k + 1) = none := by rw [firstK, HN.out, HM.out, hr]
          have HN' := Lib.hid hk'; clear hk' hr HM HM1 hO1
          go_wp2
          go_roundw
          case rel => exact ⟨k + 1, by omega, by omega, by go_num, HN', by omega, hB1, hX1⟩
          case measure => simp [intOf]; omega
        | some ps =>
          have hfin : firstK (mf x l tol) (l.length + 1) = some ps := firstK_hit HN.out (by rw [HM.out, hr]) (by omega)
          have hps := ch_bd hr
          rw [Nat.zero_add, List.drop_zero] at hps
          have hpl := ch_len hr
          rw [hr] at HM1 hO1
          have hml := HM1.out
          rw [Option.getD_some] at hO1 hml
          have hpk : m1 ≤ ps.length := by omega
          have hpk2 : ps.length ≤ m1 := by omega
          have hm1b : m1 ≤ 12 := by omega
          rw [map_ntC] at hO1
          have hRp : Rd ntC 1 w1.heap.size w1 A1 ps := Rd.of_own (fun _ => rfl) hO1 hml.symm
          have HF := Lib.hid hfin
          have HP := Lib.hid hps
          have HML := Lib.hid hml
          clear hfin hps hml hr HM HM1 HN hpl
          go_wp2
          go_loopw [10, 11] (fun o q wr' => ∃ (j : Nat) (A2 : Option Addr) (c2 : Nat), j ≤ m1 ∧ q = .int .i64 j ∧ o = .slice A2 j c2 ∧ wr'.ownsRow w1.heap.size 41 2 o j (((ps.take j).map (rfAt l)).flatMap rfC) ∧ Below w1.heap.size w1 wr') (fun _ q _ => m1 - (intOf q).toNat)
          case atStart => exact ⟨0, none, 0, by omega, rfl, rfl, World.ownsRow_nil _ _ _ _, Below.refl _ _⟩
          case round =>
            obtain ⟨j, A2, c2, hj, rfl, rfl, hO2, hb2⟩ := hrel
            by_cases hjl : j < m1
            · have hj' : j < ps.length := by omega
              obtain ⟨b3, off3, rfl, hb3, p1⟩ := rd_nt (hRp.below hb2) hj'
              have hpl := HP.out ps[j] (List.getElem_mem hj')
              have htk : (ps.take (j + 1)).map (rfAt l) = (ps.take j).map (rfAt l) ++ [rfAt l ps[j]] := by rw [List.take_succ_eq_append_getElem hj', List.map_append]; rfl
              have HTK := Lib.hid htk; clear htk
              generalize ps[j] = p at p1 hpl HTK
              obtain ⟨b4, off4, rfl, hb4, q1, q2, q3⟩ := rd_on (hRd.below hb2) hpl
              have hrf := rfAt_at hpl
              generalize l[p] = z at q1 q2 q3 hrf
              rw [hrf] at HTK
              clear hrf
              have hsz2 := hb2.size
              go_wp2_with (at_builtin; refine wpList_append_new rfl (.tmp 40) (.tmp 49) 37 rfl w1.heap.size 41 i0 _ 2 16 Try.underlying37 hi0 hz0 hz1 hz2 rfl (by decide) _ j _ rfl hO2 wr.heap.size 1 1 rfl rfl (rfC z.r) rfl rfl (by simp [rfC, Value.oneCell']) (by omega) (by omega) hsz2 ?_; intro A3 c3 w3 hO3 hg3 _)
              go_roundw
              case rel => exact ⟨j + 1, A3, c3, by omega, by go_num, rfl, by rw [HTK.out, List.flatMap_append]; simpa only [List.flatMap_cons, List.flatMap_nil, List.append_nil] using hO3, hb2.grown hg3 hsz2 (own_ge hO2 (Nat.le_refl _))⟩
              case measure => simp [intOf]; omega
            · obtain rfl : j = m1 := by omega
              rw [List.take_of_length_le (by omega)] at hO2
              have hBB := hB1.trans (hb2.mono hB1.size)
              go_wp2
              go_ret
              refine ⟨A2, j, c2, rfl, ?_, ?_, hBB⟩
              · rw [manyT_some HF.out]; simpa using HML.out
              · rw [manyT_some HF.out]; exact own_base hO2 hB1.size
      · have hk : k = l.length + 1 ∨ l.length < 2 := by omega
        have hfin : firstK (mf x l tol) (l.length + 1) = none := by
          rcases hk with rfl | hk
          · exact HN.out
          · have h2 : ∀ q, q ≤ 2 → firstK (mf x l tol) q = none := by
              intro q hq
              match q, hq with
              | 0, _ => rfl
              | 1, _ => simp [firstK, mf]
              | 2, _ => simp [firstK, mf]
            exact h2 _ (by omega)
        have HF := Lib.hid hfin; clear hfin HN
        go_wp2
        go_ret
        refine ⟨none, 0, 0, rfl, ?_, ?_, hB⟩
        · rw [manyT_none HF.out]; rfl
        · rw [manyT_none HF.out]; exact World.ownsRow_nil _ _ _ _
end Go.Proofs.Ytccgleiildgckaa
