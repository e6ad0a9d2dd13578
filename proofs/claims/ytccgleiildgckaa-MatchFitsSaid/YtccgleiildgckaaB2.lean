/- Contract of the program's function lines. Conditions: at most 1000 lines on each side; the references' numbers fit into int. -/
import Derived.Test.YtccgleiildgckaaB1
import Derived.Test.YtccgleiildgckaaA6
import Derived.Test.YtccgleiildgckaaM
namespace Go.Proofs.Ytccgleiildgckaa
open Go.RowKit

def RfWf (r : Rf) : Prop := (Lit.int .i64 r.e).wf = true ∧ (Lit.int .i64 r.l).wf = true
theorem Try.laid41 : laidOutB Try.prog = true := by kernel_rfl
theorem Try.wide41 : (match Try.prog.underlying 41 with | some (.array _ _) | some (.struct _) => true | _ => false) = true := by kernel_rfl
theorem Try.row41 : (41 : TypeId) < Try.prog.types.size := of_decide_eq_true (by kernel_rfl)
set_option maxRecDepth 100000 in
theorem Try.klaw41 : WideMaps.KeyLaw Try.prog 41 := deep_law_laid Try.laid41 (m := 2) (by omega) Try.row41 (by kernel_rfl) Try.wide41
theorem Try.law41 : Maps.Keyed Try.prog 41 := Maps.Keyed.of_law Try.klaw41
theorem Try.zero4 (w : World) : (zeroValue 4).run Try.prog w = .ok (.bool false) w := by kernel_rfl
theorem Try.key41 {r : Rf} (h : RfWf r) : ∃ l, keyOf Try.prog 41 (rfV r) = some l := by
  have hk : Try.prog.keyType 41 = true := by kernel_rfl
  have hs : Try.prog.cellsOf 41 = 2 := by kernel_rfl
  have h3 : Try.prog.cellsOf 3 = 1 := by kernel_rfl
  have hf : ∀ x y : Value, (Value.agg #[x, y]).formed Try.prog 41 = true := fun x y => by simp [Value.formed, Try.underlying41, hs]
  obtain ⟨n, hn⟩ : ∃ n, Try.prog.types.size + 1 = n + 1 + 1 := by
    have h := Try.row41
    have h : 41 < Try.prog.types.size := h
    exact ⟨Try.prog.types.size - 1, by omega⟩
  unfold keyOf
  rw [Try.underlying41]
  simp only [hk, hf, Bool.and_self, if_true]
  rw [hn]
  simp [Program.keyLits, Try.underlying41, Value.cells, hs, h3, Try.underlying3, h.1, h.2]

open Classical in
noncomputable def seenF (l : List On) : Value → Option Value := fun v => if ∃ x ∈ l, v = rfV x.r then some (.bool true) else none
theorem rfV_inj {x y : Rf} (h : rfV x = rfV y) : x = y := by
  cases x; cases y; simpa using h
theorem seen_nil : seenF [] = fun _ => none := by funext v; simp [seenF]
theorem seen_add (l : List On) (x : On) : Mp.upd (seenF l) (rfV x.r) (some (.bool true)) = seenF (l ++ [x]) := by
  funext v
  unfold Mp.upd seenF
  by_cases h : v = rfV x.r
  · rw [if_pos h, if_pos ⟨x, by simp, h⟩]
  · rw [if_neg h]
    have : (∃ y ∈ l, v = rfV y.r) ↔ ∃ y ∈ l ++ [x], v = rfV y.r := by
      constructor
      · rintro ⟨y, hy, e⟩; exact ⟨y, by simp [hy], e⟩
      · rintro ⟨y, hy, e⟩
        rcases List.mem_append.1 hy with hy | hy
        · exact ⟨y, hy, e⟩
        · simp at hy; subst hy; exact absurd e h
    by_cases h2 : ∃ y ∈ l, v = rfV y.r
    · rw [if_pos h2, if_pos (this.1 h2)]
    · rw [if_neg h2, if_neg (fun h3 => h2 (this.2 h3))]
theorem seen_get (l : List On) (r : Rf) : (seenF l (rfV r)).getD (.bool false) = .bool (decide (r ∈ l.map On.r)) := by
  unfold seenF
  by_cases h : ∃ x ∈ l, rfV r = rfV x.r
  · have : r ∈ l.map On.r := by obtain ⟨x, hx, e⟩ := h; exact List.mem_map.2 ⟨x, hx, (rfV_inj e).symm⟩
    rw [if_pos h]; simpa using this
  · have : ¬ r ∈ l.map On.r := fun h2 => h (by obtain ⟨x, hx, e⟩ := List.mem_map.1 h2; exact ⟨x, hx, by rw [e]⟩)
    rw [if_neg h]; simpa using this

theorem RdP.of_ownB {α : Type} {enc : α → List Value} {k : Nat} {w : World} {A : Option Addr} {zs : List α} {base : Nat} {e : TypeId} {n c : Nat} (hk : ∀ x, (enc x).length = k) (h : w.ownsRow base e k (.slice A n c) n (zs.flatMap enc)) (hn : zs.length = n) : RdP enc k (fun b => base ≤ b ∧ b < w.heap.size) w A zs := by
  intro i x hx
  obtain ⟨b, off, e, hb, hc⟩ := Rd.of_own hk h hn i x hx
  subst e
  exact ⟨b, off, rfl, ⟨own_ge h (Nat.le_refl _) b rfl, hb⟩, hc⟩

/-- The first lines of a list are valid. -/
def Okay (l : List On) : Prop := (∀ x ∈ l, OnGood x) ∧ (l.map On.r).Nodup
theorem okay_snoc {l : List On} {x : On} : Okay (l ++ [x]) ↔ Okay l ∧ OnGood x ∧ x.r ∉ l.map On.r := by
  unfold Okay
  rw [List.map_append, List.nodup_append]
  constructor
  · rintro ⟨h1, h2, h3, h4⟩
    refine ⟨⟨fun y hy => h1 y (by simp [hy]), h2⟩, h1 x (by simp), fun hm => h4 _ hm _ (by simp) rfl⟩
  · rintro ⟨⟨h1, h2⟩, h3, h4⟩
    refine ⟨fun y hy => ?_, h2, by simp, ?_⟩
    · rcases List.mem_append.1 hy with hy | hy
      · exact h1 y hy
      · simp at hy; subst hy; exact h3
    · intro a ha b hb e
      simp at hb; subst hb; subst e; exact h4 ha
theorem okay_take {l : List On} {k : Nat} (h : Okay l) : Okay (l.take k) :=
  ⟨fun x hx => h.1 x (List.mem_of_mem_take hx), by rw [List.map_take]; exact h.2.sublist (List.take_sublist _ _)⟩

set_option maxRecDepth 20000 in
set_option maxHeartbeats 800000 in
theorem lines_any (A A' : Option Addr) (n c n' c' : Nat) (L R : List On) (w : World) (hn : L.length = n) (hn' : R.length = n') (hl : n ≤ 1000) (hl' : n' ≤ 1000) (h : Rd onC 3 w.heap.size w A L) (h' : Rd onC 3 w.heap.size w A' R) (hwf : ∀ x ∈ L ++ R, RfWf x.r) :
    Calls Try.prog 25 #[.slice A n c, .slice A' n' c'] w fun e w' => e = .returned (.bool (linesB L R)) ∧ Below w.heap.size w w' := by
  have hmm := @run_makeMap Try.prog
  by_cases hbig : 60 < n ∨ 60 < n'
  · have hres : linesB L R = false := linesB_false.2 (fun ⟨_, _, h1, h2⟩ => by omega)
    rw [hres]
    clear hn hn'
    go_enter Try.func25, Try.ntmps25
    rcases hbig with hb | hb
    · have g0 : decide ((60 : Int) < n) = true := decide_eq_true (by omega)
      go_wp2
      go_ret
      exact ⟨rfl, Below.refl _ _⟩
    · have g0 : decide ((60 : Int) < n') = true := decide_eq_true (by omega)
      go_wp2
      all_goals (go_ret; exact ⟨rfl, Below.refl _ _⟩)
  · have g0 : decide ((60 : Int) < n) = false := decide_eq_false (by omega)
    have g1 : decide ((60 : Int) < n') = false := decide_eq_false (by omega)
    have hall : (L ++ R).length = n + n' := by simp [hn, hn']
    have Hn := Lib.hid hn; clear hn
    have Hn' := Lib.hid hn'; clear hn'
    have HA := Lib.hid hall; clear hall
    go_enter Try.func25, Try.ntmps25
    go_wp2_with fail
    have hgb : Blk ((w.alloc (.map #[] 0)).alloc (.cells #[Value.slice A n c, Value.slice A' n' c'] 28)) (w.heap.size + 1) 28 #[Value.slice A n c, Value.slice A' n' c'] := by
      have := Blk.new (w.alloc (.map #[] 0)) 28 #[Value.slice A n c, Value.slice A' n' c']
      simpa using this
    have hb0 : Below w.heap.size w ((w.alloc (.map #[] 0)).alloc (.cells #[Value.slice A n c, Value.slice A' n' c'] 28)) := ((Below.refl _ _).alloc (Nat.le_refl _) _).alloc (by simp) _
    have hs0 : w.heap.size ≤ ((w.alloc (.map #[] 0)).alloc (.cells #[Value.slice A n c, Value.slice A' n' c'] 28)).heap.size := hb0.size
    have hmap0 : Mp.Is Try.prog 41 ((w.alloc (.map #[] 0)).alloc (.cells #[Value.slice A n c, Value.slice A' n' c'] 28)) w.heap.size (seenF []) 0 := by
      rw [seen_nil]
      refine (Mp.Is.made Try.prog 41 w).same ?_
      exact Below.heap_alloc _ _ _ (by simp)
    refine (concatOn_any (w.heap.size + 1) 2 A A' n c n' c' L R _ hgb Hn.out Hn'.out hl hl' ((h.below hb0).mono hs0) ((h'.below hb0).mono hs0)).mono ?_
    rintro e w1 ⟨A2, c2, rfl, hO, hb1⟩
    have hmap1 : Mp.Is Try.prog 41 w1 w.heap.size (seenF []) 0 := hmap0.same (hb1.block _ (by simp; omega))
    have hbw : Below w.heap.size w w1 := hb0.trans (hb1.mono hs0)
    have hall := RdP.of_ownB (enc := onC) (fun _ => rfl) hO HA.out
    have hB1 : w.heap.size + 1 < w1.heap.size := by
      have := hb1.size
      simp at this
      omega
    simp only [World.size_alloc] at hall
    have hres : linesB L R = true ↔ Okay (L ++ R) := by
      rw [linesB_true]
      have := Hn.out
      have := Hn'.out
      exact ⟨fun h => ⟨h.1, h.2.1⟩, fun h => ⟨h.1, h.2, by omega, by omega⟩⟩
    have HR := Lib.hid hres; clear hres
    clear hb0 hs0 hmap0 hgb h h' hb1 hO
    have hlen := HA.out
    go_wp2
    go_loopw [22] (fun i wr => ∃ (q : Nat) (m : Nat), q ≤ n + n' ∧ m ≤ q ∧ i = .int .i64 q ∧ Okay ((L ++ R).take q) ∧ Mp.Is Try.prog 41 wr w.heap.size (seenF ((L ++ R).take q)) m ∧ RdP onC 3 (fun b => w.heap.size + 1 + 1 ≤ b ∧ b < w1.heap.size) wr A2 (L ++ R) ∧ w1.heap.size ≤ wr.heap.size ∧ Below w.heap.size w wr) (fun i _ => n + n' - (intOf i).toNat)
    case atStart => exact ⟨0, 0, Nat.zero_le _, Nat.le_refl _, rfl, ⟨by simp, by simp⟩, hmap1, hall, Nat.le_refl _, hbw⟩
    case round =>
      clear hall hmap1 hbw
      obtain ⟨q, m, hq, hm, rfl, hok, hmap, hrd, hsz, hb⟩ := hrel
      have Hok := Lib.hid hok; clear hok
      by_cases hlt : q < n + n'
      · obtain ⟨b, off, rfl, hbb, f0, f1, f2⟩ := rd_on (hrd.toRd (B := wr.heap.size) (fun b h => by omega)) (i := q) (by omega)
        have htake := Lib.hid (List.take_succ_eq_append_getElem (i := q) (l := L ++ R) (by omega))
        have hx : RfWf (L ++ R)[q].r := hwf _ (List.getElem_mem _)
        have HM := Lib.hid (fun h : Okay (L ++ R) => okay_take (k := q + 1) h)
        generalize (L ++ R)[q] = x at f0 f1 f2 htake hx
        clear hlen
        obtain ⟨kl, hkey⟩ := Try.key41 hx
        have hget := seen_get (List.take q (L ++ R)) x.r
        have hsw := hmap.lt
        have HI := Lib.hid hmap; clear hmap
        have HD := Lib.hid hrd; clear hrd
        by_cases hs : x.r ∈ ((L ++ R).take q).map On.r
        · rw [decide_eq_true hs] at hget
          have hf : linesB L R = false := by
            cases hB : linesB L R with
            | false => rfl
            | true =>
              have h1 := HM.out (HR.out.1 hB)
              rw [htake.out, okay_snoc] at h1
              exact absurd hs h1.2.2
          have H0 := Lib.hid hf; clear hf
          go_wp2_with (at_lookup; refine Mp.wpList_look1 _ rfl _ _ 96 rfl 41 4 Try.law41 Try.underlying96 (Try.zero4 _) w.heap.size m _ rfl (HI.out.alloc _) (rfV x.r) kl rfl hkey _ hget ?_)
          go_ret
          exact ⟨by rw [H0.out]; rfl, hb.alloc hb.size _⟩
        · rw [decide_eq_false hs] at hget
          by_cases ha : x.a = 0
          · have k0 : (x.a == 0) = true := by simp [ha]
            have hf : linesB L R = false := by
              cases hB : linesB L R with
              | false => rfl
              | true =>
                have h1 := HM.out (HR.out.1 hB)
                rw [htake.out, okay_snoc] at h1
                exact absurd ha h1.2.1.1
            have H0 := Lib.hid hf; clear hf
            go_wp2_with (at_lookup; refine Mp.wpList_look1 _ rfl _ _ 96 rfl 41 4 Try.law41 Try.underlying96 (Try.zero4 _) w.heap.size m _ rfl (HI.out.alloc _) (rfV x.r) kl rfl hkey _ hget ?_)
            go_ret
            exact ⟨by rw [H0.out]; rfl, hb.alloc hb.size _⟩
          · have k0 : (x.a == 0) = false := by simp [ha]
            by_cases hgt : (1000000000000 : Int) < x.a
            · have k1 : decide ((1000000000000 : Int) < x.a) = true := decide_eq_true hgt
              have hf : linesB L R = false := by
                cases hB : linesB L R with
                | false => rfl
                | true =>
                  have h1 := HM.out (HR.out.1 hB)
                  rw [htake.out, okay_snoc] at h1
                  exact absurd (amtB_iff.1 h1.2.1.2).2 (by omega)
              have H0 := Lib.hid hf; clear hf
              go_wp2_with (at_lookup; refine Mp.wpList_look1 _ rfl _ _ 96 rfl 41 4 Try.law41 Try.underlying96 (Try.zero4 _) w.heap.size m _ rfl (HI.out.alloc _) (rfV x.r) kl rfl hkey _ hget ?_)
              go_ret
              exact ⟨by rw [H0.out]; rfl, hb.alloc hb.size _⟩
            · have k1 : decide ((1000000000000 : Int) < x.a) = false := decide_eq_false hgt
              by_cases hlo : x.a < -1000000000000
              · have k2 : decide (x.a < -1000000000000) = true := decide_eq_true hlo
                have hf : linesB L R = false := by
                  cases hB : linesB L R with
                  | false => rfl
                  | true =>
                    have h1 := HM.out (HR.out.1 hB)
                    rw [htake.out, okay_snoc] at h1
                    exact absurd (amtB_iff.1 h1.2.1.2).1 (by omega)
                have H0 := Lib.hid hf; clear hf
                go_wp2_with (at_lookup; refine Mp.wpList_look1 _ rfl _ _ 96 rfl 41 4 Try.law41 Try.underlying96 (Try.zero4 _) w.heap.size m _ rfl (HI.out.alloc _) (rfV x.r) kl rfl hkey _ hget ?_)
                go_ret
                exact ⟨by rw [H0.out]; rfl, hb.alloc hb.size _⟩
              · have k2 : decide (x.a < -1000000000000) = false := decide_eq_false hlo
                have hok' : Okay ((L ++ R).take (q + 1)) := by
                  rw [htake.out, okay_snoc]
                  exact ⟨Hok.out, ⟨ha, amtB_iff.2 ⟨by omega, by omega⟩⟩, hs⟩
                have HK := Lib.hid hok'; clear hok'
                go_wp2_with (first | (at_lookup; refine Mp.wpList_look1 _ rfl _ _ 96 rfl 41 4 Try.law41 Try.underlying96 (Try.zero4 _) w.heap.size m _ rfl (HI.out.alloc _) (rfV x.r) kl rfl hkey _ hget ?_) | (at_mapUpdate; refine Mp.wpList_store _ rfl _ _ _ 96 rfl 41 4 Try.law41 Try.underlying96 w.heap.size m _ rfl (HI.out.alloc _) (by unfold maxLen; omega) (rfV x.r) (.bool true) kl rfl rfl hkey ?_; intro w3 m3 hm3 hle3 hg3))
                go_roundw
                case rel =>
                  rw [seen_add, ← htake.out] at hm3
                  refine ⟨q + 1, m3, by omega, by omega, by go_num, HK.out, hm3, HD.out.kept (fun b' hb' => ?_), ?_, (hb.alloc hb.size _).grown hg3 (Nat.le_trans hb.size (by simp)) (fun k hk => by cases hk; exact Nat.le_refl _)⟩
                  · refine (hg3.block b' (by simp; omega) (fun e => ?_)).trans (Below.heap_alloc _ _ _ (by omega))
                    have e1 : b' = w.heap.size := Option.some.inj e
                    omega
                  · have := hg3.size
                    simp at this
                    omega
                case measure => simp [intOf]; omega
      · have hqq : q = n + n' := by omega
        subst hqq
        rw [List.take_of_length_le (by omega)] at Hok
        have hf : linesB L R = true := HR.out.2 Hok.out
        have H0 := Lib.hid hf; clear hf
        clear hmap hrd hlen
        go_wp2
        go_ret
        exact ⟨by rw [H0.out]; rfl, hb⟩

end Go.Proofs.Ytccgleiildgckaa
