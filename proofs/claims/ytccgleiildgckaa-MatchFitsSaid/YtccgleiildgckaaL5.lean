/- The law MatchFits returns true. No conditions beside the reading of the arguments. -/
import Derived.Test.YtccgleiildgckaaL4
import Derived.Test.YtccgleiildgckaaP6
namespace Go.Proofs.Ytccgleiildgckaa
open Go.RowKit Go.Rf
attribute [local go_sem ↓] Go.wp_at_zero Go.wp_at_succ

/-- append(s, src...) of a source that reads as a list of cells, at a step of a region that draws its order. -/
theorem step_append_src {P : Program} {w : World} {ops : Array Oper} {o : Oper} {a : Act} {K : Act → World → Prop} {Q : Exit → Act → World → Prop} {E : Prop} (hgd : o.guard = none) (s x : Operand) (t : TypeId)
    (ho : o.op = .call { callee := .builtin .append, args := #[s, x], argTypes := #[t, t] })
    (base : Nat) (e : TypeId) (i : TypeInfo) (z : Value) (size bytes : Nat) (ht : P.underlying t = some (.slice e)) (hi : P.info? e = some i) (hz : i.zero = some z)
    (hsize : i.size = size) (hby : i.bytes = bytes) (hzs : z.cells.size = size) (hsz : 0 < size)
    (v : Value) (n : Nat) (xs : List Value) (hs : a.eval s = v) (hown : w.ownsRow base e size v n xs)
    (A : Option Addr) (m c : Nat) (news : List Value) (hx : a.eval x = .slice A m c) (hl : news.length = m * size) (hsrc : ∀ j u, news[j]? = some u → ∃ b off, A = some ⟨b, off, none⟩ ∧ w.cell? ⟨b, off + j, none⟩ = some u) (h1 : ∀ u ∈ news, u.oneCell' = true)
    (h63 : n + m ≤ 1099511627776) (hbytes : bytes ≤ 64) (hbase : base ≤ w.heap.size)
    (h : ∀ A' c' w', w'.ownsRow base e size (.slice A' (n + m) c') (n + m) (xs ++ news) → w.grownBy w' v.ownBlock → ((Value.slice A' (n + m) c').ownBlock = v.ownBlock ∨ ∀ b, (Value.slice A' (n + m) c').ownBlock = some b → w.heap.size ≤ b) →
      K (a.put o.dst (.slice A' (n + m) c')) w') :
    if Region.wanted o (yielded ops a.tmps) = true then Oper.wp P o a w K Q else E := by
  have hw : Region.wanted o (yielded ops a.tmps) = true := by simp [Region.wanted, hgd]
  rw [if_pos hw]
  have h0 := wpList_append_src (P := P) (w := w) (ops := #[]) (rest := []) (o := o) (a := a) (Q := Then K) hgd s x t ho base e i z size bytes ht hi hz hsize hby hzs hsz v n xs hs hown A m c news hx hl hsrc h1 h63 hbytes hbase (fun A' c' w' q1 q2 q3 => h A' c' w' q1 q2 q3)
  simp only [wpList, Region.wanted, hgd, if_true] at h0
  rcases h0 with h0 | ⟨_, h0⟩
  · unfold Oper.wp at h0 ⊢
    generalize (execOp a.eval o).run P w = r at h0 ⊢
    cases r with
    | ok x w' =>
      cases x <;> simp only [Oper.upon] at h0 ⊢ <;> first
        | exact h0
        | exact Calls.mono h0 (fun e w'' he => by cases e <;> first | exact he | exact he.elim | exact absurd he (then_out _))
    | halt x w' => cases x <;> simp only [Oper.upon] at h0 ⊢ <;> first | exact h0 | exact h0.elim
  · exact absurd h0 (then_out _)

theorem cell_gr {w w' : World} {row : Option Nat} (hg : w.grownBy w' row) {b i : Nat} (hb : b < w.heap.size) (hne : some b ≠ row) : w'.cell? ⟨b, i, none⟩ = w.cell? ⟨b, i, none⟩ := World.cell?_of_block (hg.block b hb hne)
theorem own_at {W : World} {o : Obj} {v : Value} (h : v.ownBlock = (Value.slice (some ⟨W.heap.size, 0, none⟩) 0 0).ownBlock ∨ ∀ b, v.ownBlock = some b → (W.alloc o).drew.heap.size ≤ b) : ∀ g, v.ownBlock = some g → W.heap.size ≤ g := fun g e => by
  rcases h with h | h
  · rw [h] at e
    simp [Value.ownBlock] at e
    omega
  · have h2 : (W.alloc o).heap.size ≤ g := h g e
    simp at h2
    omega
theorem below_two {B : Nat} {W w7 : World} {o : Obj} {g : Nat} (hg : (W.alloc o).drew.grownBy w7 (Value.slice (some ⟨W.heap.size, 0, none⟩) 0 g).ownBlock) (hB : B ≤ W.heap.size) : Below B W w7 :=
  (((Below.refl _ _).alloc hB o).drew).grown hg (by show B ≤ (W.alloc o).heap.size; simp; omega) (fun k e => by simp [Value.ownBlock] at e; omega)
theorem own_gr {w w' : World} {base : Nat} {e : TypeId} {size : Nat} {v : Value} {n : Nat} {xs : List Value} {row : Option Nat} (h : w.ownsRow base e size v n xs) (hg : w.grownBy w' row) (hne : ∀ b, v.ownBlock = some b → some b ≠ row) : w'.ownsRow base e size v n xs := by
  refine ⟨h.1, h.2.imp id ?_⟩
  rintro ⟨g, cap, cur, hv, hg', hh, r⟩
  exact ⟨g, cap, cur, hv, hg', (hg.block g (lt_of_block hh) (hne g (by rw [hv]; rfl))).trans hh, r⟩
theorem amF_zero (L R : List On) (p : Pr) (h : 0 < p.x.length) : amountOf L p.x[0] = amF L R p 0 := by
  have h1 : (refsP p)[0]? = some p.x[0] := by unfold refsP; rw [List.getElem?_append_left h, List.getElem?_eq_getElem h]
  unfold amF
  rw [h1]
  simp only []
  rw [if_pos h]
theorem in_no (A : Option Addr) (n c : Nat) (zs : List Rf) (r : Rf) (w : World) (hn : zs.length = n) (hl : n ≤ maxLen) (h : Rd rfC 2 w.heap.size w A zs) (hno : r ∉ zs) :
    Calls Try.prog 16 #[.slice A n c, rfV r] w fun e w' => e = .returned (.bool false) ∧ Below w.heap.size w w' :=
  (in_any A n c zs r w hn hl h).mono fun e w' ⟨h1, h2⟩ => ⟨by rw [h1, decide_eq_false hno], h2⟩

/-- What the inner loop keeps: the used references, the proposal's references in a row of their own, and the proposal's box. -/
structure FitIn (W : World) (B : Nat) (us zs : List Rf) (N : Nat) (R9 : Value) (bp : Nat) (xA : Option Addr) (xn xc : Nat) (yA : Option Addr) (yn yc : Nat) (Au : Option Addr) (m cu : Nat) : Prop where
  um : us.length = m
  used : W.ownsRow B 41 2 (.slice Au m cu) m (us.flatMap rfC)
  zl : zs.length = N
  row : W.ownsRow B 41 2 R9 N (zs.flatMap rfC)
  dis : ∀ g, (Value.slice Au m cu).ownBlock = some g → R9.ownBlock ≠ some g
  box : Blk W bp 39 #[.slice xA xn xc, .slice yA yn yc]
theorem FitIn.below {W W' : World} {B N : Nat} {us zs : List Rf} {R9 : Value} {bp : Nat} {xA yA Au : Option Addr} {xn xc yn yc m cu : Nat} (h : FitIn W B us zs N R9 bp xA xn xc yA yn yc Au m cu) (hb : Below W.heap.size W W') : FitIn W' B us zs N R9 bp xA xn xc yA yn yc Au m cu :=
  ⟨h.um, own_below h.used hb, h.zl, own_below h.row hb, h.dis, h.box.below hb h.box.lt⟩
theorem FitIn.snoc {W W' : World} {B N : Nat} {us zs : List Rf} {R9 : Value} {bp : Nat} {xA yA Au A' : Option Addr} {xn xc yn yc m cu c' : Nat} (h : FitIn W B us zs N R9 bp xA xn xc yA yn yc Au m cu) {r : Rf} (hg : W.grownBy W' (Value.slice Au m cu).ownBlock)
    (hO : W'.ownsRow B 41 2 (.slice A' (m + 1) c') (m + 1) (us.flatMap rfC ++ rfC r)) (hloc : (Value.slice A' (m + 1) c').ownBlock = (Value.slice Au m cu).ownBlock ∨ ∀ b, (Value.slice A' (m + 1) c').ownBlock = some b → W.heap.size < b) :
    FitIn W' B (us ++ [r]) zs N R9 bp xA xn xc yA yn yc A' (m + 1) c' := by
  refine ⟨by simp [h.um], ?_, h.zl, ?_, ?_, h.box.grown hg (own_type h.used h.box (by decide))⟩
  · rw [List.flatMap_append]; simpa using hO
  · refine ⟨h.row.1, h.row.2.imp id ?_⟩
    rintro ⟨g, cap, cur, hv, hg', hh, r⟩
    exact ⟨g, cap, cur, hv, hg', (hg.block g (lt_of_block hh) (fun e => h.dis g e.symm (by rw [hv]; rfl))).trans hh, r⟩
  · intro g e e2
    rcases hloc with h1 | h1
    · rw [h1] at e; exact h.dis g e e2
    · have := h1 g e
      have := (h.row.lt g e2).2
      omega

set_option maxRecDepth 20000 in
set_option maxHeartbeats 1600000 in
theorem mfits_many (A A' : Option Addr) (n c n' c' : Nat) (tol : Int) (w : World) (hm : n ≤ maxLen) (hm' : n' ≤ maxLen) (h : 30 < n ∨ 30 < n') :
    Calls Try.prog 4 #[.slice A n c, .slice A' n' c', .int .u16 tol] w (lawPost w) := by
  unfold maxLen at hm hm'
  by_cases h0 : 30 < n
  · have g0 : decide ((30 : Int) < n) = true := decide_eq_true (by omega)
    go_enter Try.func4, Try.ntmps4
    go_wp2_with fail
    refine (awake_any _).mono ?_
    rintro e w1 ⟨rfl, hb1⟩
    go_wp2_with fail
    refine (awake_any _).mono ?_
    rintro e w2 ⟨rfl, hb2⟩
    go_wp2
    go_ret
    exact ⟨rfl, hb1.trans (hb2.mono hb1.size)⟩
  · have g0 : decide ((30 : Int) < n) = false := decide_eq_false (by omega)
    have g1 : decide ((30 : Int) < n') = true := decide_eq_true (by omega)
    go_enter Try.func4, Try.ntmps4
    go_wp2_with fail
    refine (awake_any _).mono ?_
    rintro e w1 ⟨rfl, hb1⟩
    go_wp2_with fail
    refine (awake_any _).mono ?_
    rintro e w2 ⟨rfl, hb2⟩
    go_wp2
    go_ret
    exact ⟨rfl, hb1.trans (hb2.mono hb1.size)⟩

set_option maxRecDepth 100000 in
set_option maxHeartbeats 3200000 in
theorem mfits_few (A A' : Option Addr) (n c n' c' : Nat) (L R : List On) (tol : Int) (w : World) (hn : L.length = n) (hn' : R.length = n') (hl : n ≤ 30) (hl' : n' ≤ 30)
    (h : Rd onC 3 w.heap.size w A L) (h' : Rd onC 3 w.heap.size w A' R) (hwf : ∀ x ∈ L ++ R, RfWf x.r) (ht0 : 0 ≤ tol) (ht1 : tol ≤ 65535) :
    Calls Try.prog 4 #[.slice A n c, .slice A' n' c', .int .u16 tol] w (lawPost w) := by
  obtain ⟨i41, hi41, hz41, hy41, hb41⟩ := info_parts Try.info41
  have Hn := Lib.hid hn; clear hn
  have Hn' := Lib.hid hn'; clear hn'
  have HW := Lib.hid hwf; clear hwf
  have g0 : decide ((30 : Int) < n) = false := decide_eq_false (by omega)
  have g1 : decide ((30 : Int) < n') = false := decide_eq_false (by omega)
  go_enter Try.func4, Try.ntmps4
  go_wp2_with fail
  refine (awake_any _).mono ?_
  rintro e w1 ⟨rfl, hb1⟩
  have R0 := (h.below hb1).mono hb1.size
  have R1 := (h'.below hb1).mono hb1.size
  clear h h'
  go_wp2_with fail
  refine (to_any A n c L w1 Hn.out (by omega) R0).mono ?_
  rintro e w2 ⟨A1, c1, rfl, hO1, hb2⟩
  have R2 := (R0.below hb2).mono hb2.size
  have R3 := (R1.below hb2).mono hb2.size
  have T1 := Rd.of_own (enc := onC) (k := 3) (zs := L) (fun _ => rfl) hO1 Hn.out
  have hw2 := hb1.trans (hb2.mono hb1.size)
  clear R0 R1 hO1 hb1 hb2
  go_wp2_with fail
  refine (to_any A' n' c' R w2 Hn'.out (by omega) R3).mono ?_
  rintro e w3 ⟨A2, c2, rfl, hO2, hb3⟩
  have R4 := (R2.below hb3).mono hb3.size
  have R5 := (R3.below hb3).mono hb3.size
  have T1' := (T1.below hb3).mono hb3.size
  have T2 := Rd.of_own (enc := onC) (k := 3) (zs := R) (fun _ => rfl) hO2 Hn'.out
  have hw3 := hw2.trans (hb3.mono hw2.size)
  clear R2 R3 T1 hO2 hb3 hw2
  by_cases hok : LinesOk L R
  · go_wp2_with fail
    refine (propose_any A1 A2 n c1 n' c2 L R tol w3 Hn.out Hn'.out T1' T2 HW.out hok ht0 (by omega)).mono ?_
    rintro e w4 ⟨A3, n3, c3, qs, rfl, hn3, hO3, hpv, hb4⟩
    have hl3 := p3_len L R tol
    change (progOut L R tol).length ≤ _ at hl3
    rw [← hn3, Hn.out, Hn'.out] at hl3
    have hql : qs.length = n3 := by rw [hpv.1, hn3]
    have Q1 := Rd.of_own (enc := pvC) (k := 2) (zs := qs) (fun _ => rfl) hO3 hql
    have R6 := (R4.below hb4).mono hb4.size
    have R7 := (R5.below hb4).mono hb4.size
    have hw4 := hw3.trans (hb4.mono hw3.size)
    have hfit := fun k hk => fits_law (k := k) tol (dist_of hok.2.1) hok.1 hk
    have HFit := Lib.hid hfit; clear hfit
    generalize progOut L R tol = ps at hn3 hpv HFit
    have HN3 := Lib.hid hn3; clear hn3
    have HQL := Lib.hid hql; clear hql
    have HPV := Lib.hid hpv; clear hpv
    clear R4 R5 T1' T2 hO3 hb4 hw3 hok
    go_wp2
    go_loopw [9, 46] (fun u i wr => ∃ k : Nat, k ≤ n3 ∧ i = .int .i64 k ∧ UsedIn wr w4.heap.size (usedP (ps.take k)) u ∧ (usedP (ps.take k)).length ≤ 2000 * k ∧ Below w4.heap.size w4 wr) (fun _ i _ => n3 - (intOf i).toNat)
    case atStart => exact ⟨0, Nat.zero_le _, rfl, UsedIn.start _ _, by simp [usedP], Below.refl _ _⟩
    case round =>
      obtain ⟨k, hk, rfl, ⟨Au, cu, rfl, hOu⟩, hul, hb5⟩ := hrel
      obtain ⟨w5, rfl⟩ : ∃ u, u = wr := ⟨wr, rfl⟩
      have hs5 := hb5.size
      by_cases hlt : k < n3
      · have hk1 : k < ps.length := by rw [← HN3.out]; exact hlt
        have hk2 : k < qs.length := by rw [HQL.out]; exact hlt
        obtain ⟨b, off, hA3, hb, k1, k2⟩ := rd_pv (Q1.below hb5) hk2
        obtain ⟨p1, p2, p3, p4, p5, p6⟩ := HPV.out.2 k qs[k] ps[k] (List.getElem?_eq_getElem hk2) (List.getElem?_eq_getElem hk1)
        have htk := usedP_take_succ hk1
        have HFK := Lib.hid (HFit.out k hk1)
        generalize qs[k] = q at k1 k2 p1 p2 p3 p4 p5 p6
        generalize ps[k] = pp at p1 p2 p3 p4 htk HFK
        generalize hus : usedP (ps.take k) = us at hOu hul htk ⊢
        obtain ⟨m, hm⟩ : ∃ m, us.length = m := ⟨_, rfl⟩
        rw [hm] at hOu hul ⊢
        have HUS := Lib.hid hus; clear hus
        have HM := Lib.hid hm; clear hm
        have HTK := Lib.hid htk; clear htk
        subst hA3
        obtain ⟨⟨xA, xn, xc⟩, ⟨yA, yn, yc⟩⟩ := q
        simp only [] at k1 k2 p1 p2 p3 p4 p5 p6
        have hx0 : 0 < xn := by rw [← p1]; exact List.length_pos_iff.2 HFK.out.nx
        have hy0 : 0 < yn := by rw [← p2]; exact List.length_pos_iff.2 HFK.out.ny
        have hone : xn = 1 ∨ yn = 1 := by rw [← p1, ← p2]; exact HFK.out.one
        have P1 := Lib.hid p1; clear p1
        have P2 := Lib.hid p2; clear p2
        have hbs : b < w5.heap.size := by omega
        have hik : (0 : Int) ≤ (k : Int) := by omega
        have hik2 : (k : Int) < (n3 : Int) := by omega
        have hxe : ((xn : Int) == 0) = false := by rw [beq_eq_false_iff_ne]; omega
        have hye : ((yn : Int) == 0) = false := by rw [beq_eq_false_iff_ne]; omega
        have htest : (decide ((1 : Int) < xn) = false) ∨ (decide ((1 : Int) < xn) = true ∧ decide ((1 : Int) < yn) = false) := by
          rcases hone with h1 | h1
          · exact .inl (decide_eq_false (by omega))
          · by_cases h2 : 1 < xn
            · exact .inr ⟨decide_eq_true (by omega), decide_eq_false (by omega)⟩
            · exact .inl (decide_eq_false (by omega))
        clear hone
        rcases htest with ht | ⟨ht, ht2⟩
        all_goals
          go_wp2
          obtain ⟨W6, hW6⟩ : ∃ u, w5.alloc (.cells #[.slice xA xn xc, .slice yA yn yc] 39) = u := ⟨_, rfl⟩
          have hX6 : Blk W6 w5.heap.size 39 #[.slice xA xn xc, .slice yA yn yc] := by rw [← hW6]; exact Blk.new _ _ _
          have hO6 : W6.ownsRow w4.heap.size 41 2 (.slice Au m cu) m (us.flatMap rfC) := by rw [← hW6]; exact hOu.alloc _
          have hb6 : Below w4.heap.size w4 W6 := by rw [← hW6]; exact hb5.alloc hs5 _
          have hs6 : W6.heap.size = w5.heap.size + 1 := by rw [← hW6]; simp
          rw [hW6]
          have e0 : W6.cell? ⟨w5.heap.size, 0, none⟩ = some (.slice xA xn xc) := hX6.cell 0
          have e1 : W6.cell? ⟨w5.heap.size, 1, none⟩ = some (.slice yA yn yc) := hX6.cell 1
          have hlx := hX6.lt
          have p3' := (p3.toRd (B := w4.heap.size) (fun b h => h)).below hb6
          have p4' := (p4.toRd (B := w4.heap.size) (fun b h => h)).below hb6
          have HP3 := Lib.hid p3'; clear p3 p3'
          have HP4 := Lib.hid p4'; clear p4 p4'
          have HO6 := Lib.hid hO6; clear hO6 hOu
          have HX6 := Lib.hid hX6
          clear hW6 hX6 k1 k2
          have hbase : w4.heap.size ≤ W6.heap.size := by omega
          have hn7 : some w5.heap.size ≠ (Value.slice (some ⟨W6.heap.size, 0, none⟩) 0 0).ownBlock := by simp [Value.ownBlock]; omega
          have HOne := Lib.hid (one_rfC pp.x)
          have HOne2 := Lib.hid (one_rfC pp.y)
          have HLx : Hid ((pp.x.flatMap rfC).length = xn * 2) := by rw [len_flat (enc := rfC) (k := 2) (fun _ => rfl), P1.out]; exact (rfl : _ = _)
          have HLy : Hid ((pp.y.flatMap rfC).length = yn * 2) := by rw [len_flat (enc := rfC) (k := 2) (fun _ => rfl), P2.out]; exact (rfl : _ = _)
          go_region_held3 (fun w' => w'.cell? ⟨w5.heap.size, 0, none⟩ = some (.slice xA xn xc) ∧ w'.cell? ⟨w5.heap.size, 1, none⟩ = some (.slice yA yn yc))
            (first | (go_keep; done) | (exact ⟨(cell_al1 hlx).trans e0, (cell_al1 hlx).trans e1⟩) | (exact ⟨(cell_ap1 hg7 hlx hn7).trans e0, (cell_ap1 hg7 hlx hn7).trans e1⟩) | (exact ⟨(cell_gr hg8 hlx7 hn8).trans ((cell_ap1 hg7 hlx hn7).trans e0), (cell_gr hg8 hlx7 hn8).trans ((cell_ap1 hg7 hlx hn7).trans e1)⟩))
            (first
              | (refine step_append_src (by rfl) (.tmp 72) (.tmp 74) 37 (by rfl) w4.heap.size 41 i41 _ 2 16 Try.underlying37 hi41 hz41 hy41 hb41 rfl (by decide) (.slice (some ⟨W6.heap.size, 0, none⟩) 0 0) 0 [] (by simp [Act.eval]) (own_drew (World.ownsRow_lit W6 #[] 0 hbase (by decide) rfl)) xA xn xc (pp.x.flatMap rfC) (by simp [Act.eval]) HLx.out (rd_src (fun _ => rfl) (HP3.out.below (((Below.refl _ _).alloc hbase _).drew))) HOne.out (by omega) (by omega) (by show w4.heap.size ≤ (W6.alloc _).heap.size; simp; omega) ?_; intro A7 c7 w7 hO7 hg7 hloc7; simp only [Nat.zero_add, List.nil_append] at hO7 hloc7; have hlx7 : w5.heap.size < w7.heap.size := Nat.lt_of_lt_of_le (by show w5.heap.size < (W6.alloc _).heap.size; simp; omega) hg7.size; have hge7 : ∀ g, (Value.slice A7 xn c7).ownBlock = some g → W6.heap.size ≤ g := (own_at hloc7))
              | (refine step_append_src (by rfl) (.tmp 75) (.tmp 77) 37 (by rfl) w4.heap.size 41 i41 _ 2 16 Try.underlying37 hi41 hz41 hy41 hb41 rfl (by decide) (.slice A7 xn c7) xn (pp.x.flatMap rfC) (by simp [Act.eval]) hO7 yA yn yc (pp.y.flatMap rfC) (by simp [Act.eval]) HLy.out (rd_src (fun _ => rfl) (HP4.out.below (below_two hg7 hbase))) HOne2.out (by omega) (by omega) (by have := hO7.1; omega) ?_; intro A8 c8 w8 hO8 hg8 hloc8; have hn8 : some w5.heap.size ≠ (Value.slice A7 xn c7).ownBlock := fun e => by have := hge7 _ e.symm; omega))
          have hb7 := below_two hg7 hbase
          have hb7' : Below W6.heap.size W6 w7 := below_two hg7 (Nat.le_refl _)
          have hs7 := hb7.size
          have hb8 : Below w4.heap.size w4 w8 := (hb6.trans hb7).grown hg8 (by omega) (fun g e => own_ge hO7 (Nat.le_refl _) g e)
          have hs8 := hg8.size
          have hFI : FitIn w8 w4.heap.size (us ++ (refsP pp).take 0) (refsP pp) (xn + yn) (.slice A8 (xn + yn) c8) w5.heap.size xA xn xc yA yn yc Au m cu := by
            refine ⟨by simp [HM.out], ?_, by unfold refsP; rw [List.length_append, P1.out, P2.out], ?_, ?_, ?_⟩
            · simp only [List.take_zero, List.append_nil]
              have hl6 := fun g e => (HO6.out.lt g e).2
              refine own_gr (own_gr ((HO6.out.alloc _) : (W6.alloc (.cells #[] 41)).ownsRow _ _ _ _ _ _) (⟨hg7.os, hg7.tape, hg7.output, hg7.size, hg7.block⟩ : (W6.alloc (.cells #[] 41)).grownBy w7 _) (fun g e => ?_)) hg8 (fun g e e2 => ?_)
              · have := hl6 g e
                simp [Value.ownBlock]
                omega
              · have := hl6 g e
                have := hge7 g e2.symm
                omega
            · unfold refsP
              rw [List.flatMap_append]
              exact hO8
            · intro g e e2
              have := (HO6.out.lt g e).2
              rcases hloc8 with h8 | h8
              · rw [h8] at e2
                have := hge7 g e2
                omega
              · have := h8 g e2
                have : w7.heap.size ≤ g := this
                omega
            · have h7 : Blk w7 w5.heap.size 39 _ := HX6.out.below hb7' HX6.out.lt
              exact h7.grown hg8 hn8
          have HZL : Hid ((refsP pp).length = xn + yn) := hFI.zl
          have hxyn : xn + yn ≤ 2000 := by omega
          clear hO7 hO8 hg7 hg8 hloc7 hloc8 hge7 hn8 hlx7 hn7 e0 e1 hb7 hb7' HO6 HX6
          simp only [Nat.zero_add]
          go_wp2
          go_loopw [9, 12, 80] (fun u sm i wr => ∃ (j m' : Nat) (Au' : Option Addr) (cu' : Nat), j ≤ xn + yn ∧ i = .int .i64 j ∧ sm = .int .i64 (sumF L R pp j) ∧ u = .slice Au' m' cu' ∧ FitIn wr w4.heap.size (us ++ (refsP pp).take j) (refsP pp) (xn + yn) (.slice A8 (xn + yn) c8) w5.heap.size xA xn xc yA yn yc Au' m' cu' ∧ (-(1000000000000 * (j : Int)) ≤ sumF L R pp j ∧ sumF L R pp j ≤ 1000000000000 * (j : Int)) ∧ Below w4.heap.size w4 wr) (fun _ _ i _ => xn + yn - (intOf i).toNat)
          case atStart => exact ⟨0, m, Au, cu, Nat.zero_le _, rfl, by simp [sumF], rfl, hFI, by simp [sumF], hb8⟩
          case round =>
            clear hFI
            obtain ⟨j, m2, Au2, cu2, hj, rfl, rfl, rfl, hF, ⟨hsb1, hsb2⟩, hbj⟩ := hrel
            obtain ⟨w9, rfl⟩ : ∃ u, u = wr := ⟨wr, rfl⟩
            have hs9 := hbj.size
            by_cases hjlt : j < xn + yn
            · have hjz : j < (refsP pp).length := by rw [HZL.out]; exact hjlt
              obtain ⟨bb, oo, hA8, hbb, r0, r1⟩ := rd_rf (Rd.of_own (enc := rfC) (k := 2) (zs := refsP pp) (fun _ => rfl) hF.row hF.zl) hjz
              obtain ⟨t1, ⟨t2, t3⟩, t4, t5, t6⟩ := HFK.out.at_ j hjz
              have hss := sumF_succ L R pp j
              have htk := List.take_succ_eq_append_getElem hjz
              have hamL : j < xn → amountOf L (refsP pp)[j] = amF L R pp j := fun h => by unfold amF; rw [List.getElem?_eq_getElem hjz]; simp only []; rw [if_pos (by rw [P1.out]; exact h)]
              have hamR : xn ≤ j → amountOf R (refsP pp)[j] = amF L R pp j := fun h => by unfold amF; rw [List.getElem?_eq_getElem hjz]; simp only []; rw [if_neg (by rw [P1.out]; omega)]
              have h0z : 0 < (refsP pp).length := by omega
              have h0x : 0 < pp.x.length := by rw [P1.out]; exact hx0
              have ham0 := amF_zero L R pp h0x
              rw [P1.out] at t5 t6
              rw [HUS.out] at t4
              have hum2 : m2 ≤ 400000 := by
                have := hF.um
                rw [List.length_append, HM.out, List.length_take] at this
                omega
              obtain ⟨bx, ox, hxA, hbx0, f0, f1⟩ := rd_rf (HP3.out) (i := 0) h0x
              generalize (refsP pp)[j] = r at r0 r1 t4 hamL hamR htk
              generalize pp.x[0] = rx at f0 f1 ham0
              obtain ⟨nj, hnj⟩ : ∃ x, amF L R pp j = x := ⟨_, rfl⟩
              rw [hnj] at t1 t2 t3 t5 t6 hss hamL hamR
              obtain ⟨n0, hn0⟩ : ∃ x, amF L R pp 0 = x := ⟨_, rfl⟩
              rw [hn0] at t5 t6 ham0
              obtain ⟨sj, hsj⟩ : ∃ x, sumF L R pp j = x := ⟨_, rfl⟩
              rw [hsj] at hss hsb1 hsb2 ⊢
              clear hnj hn0 hsj
              have HSS := Lib.hid hss; clear hss
              have HTK2 := Lib.hid htk; clear htk
              have HAL := Lib.hid hamL; clear hamL
              have HAR := Lib.hid hamR; clear hamR
              have HA0 := Lib.hid ham0; clear ham0
              have HNO2 := Lib.hid t4; clear t4
              have HT5 := Lib.hid t5; clear t5
              have HT6 := Lib.hid t6; clear t6
              subst hA8
              subst hxA
              have hF0 := Lib.hid hF; clear hF
              have hjk : (0 : Int) ≤ (j : Int) := by omega
              have hjk2 : (j : Int) < ((xn + yn : Nat) : Int) := by omega
              have hje : ((nj == 0) = false) := by simpa using t1
              have hmxn : n ≤ maxLen := by unfold maxLen; omega
              have hmxn' : n' ≤ maxLen := by unfold maxLen; omega
              go_wp2_with fail
              obtain ⟨W1, hW1⟩ : ∃ u, w9.alloc (.cells #[.int .i64 r.e, .int .i64 r.l] 41) = u := ⟨_, rfl⟩
              have hR1 : Blk W1 w9.heap.size 41 #[.int .i64 r.e, .int .i64 r.l] := by rw [← hW1]; exact Blk.new _ _ _
              have hB1 : Below w9.heap.size w9 W1 := by rw [← hW1]; exact (Below.refl _ _).alloc (Nat.le_refl _) _
              rw [hW1]
              clear hW1 r0 r1
              have hB41 : Below w4.heap.size w4 W1 := hbj.trans (hB1.mono (by omega))
              by_cases hge : xn ≤ j
              · have dge : decide ((xn : Int) ≤ j) = true := decide_eq_true (by omega)
                refine (amount_any A n c L r W1 Hn.out hmxn ((R6.below hB41).mono hB41.size)).mono ?_
                rintro e V0 ⟨rfl, hbV0⟩
                have hB2 : Below w9.heap.size w9 V0 := hB1.trans (hbV0.mono hB1.size)
                have hVr0 := hR1.below hbV0 hR1.lt
                have hFV0 := hF0.out.below hB2
                have u2 : V0.cell? ⟨w5.heap.size, 0, none⟩ = some (.slice (some ⟨bx, ox, none⟩) xn xc) := hFV0.box.cell 0
                have u3 := hFV0.box.lt
                have u4 : V0.cell? ⟨w9.heap.size, 0, none⟩ = some (.int .i64 r.e) := hVr0.cell 0
                have u5 : V0.cell? ⟨w9.heap.size, 1, none⟩ = some (.int .i64 r.l) := hVr0.cell 1
                have u6 := hVr0.lt
                go_wp2_with fail
                have hB42 : Below w4.heap.size w4 V0 := hbj.trans (hB2.mono (by omega))
                refine (amount_any A' n' c' R r V0 Hn'.out hmxn' ((R7.below hB42).mono hB42.size)).mono ?_
                rw [HAR.out hge]
                rintro e V ⟨rfl, hbV⟩
                have hVw : Below w9.heap.size w9 V := hB2.trans (hbV.mono hB2.size)
                have hVb : Below w4.heap.size w4 V := hB42.trans (hbV.mono hB42.size)
                have hFV := hF0.out.below hVw
                have hVr := hVr0.below hbV hVr0.lt
                have hsign : (decide (nj < 0) = true ∧ decide (n0 < 0) = false) ∨ (decide (nj < 0) = false ∧ decide (n0 < 0) = true) := by
                  have := HT6.out hge
                  by_cases h0 : n0 < 0
                  · exact .inr ⟨decide_eq_false (by omega), decide_eq_true h0⟩
                  · exact .inl ⟨decide_eq_true (by omega), decide_eq_false h0⟩
                clear u2 u3 u4 u5 u6 hVr0 hFV0 hB1 hB2 hbV hbV0 hB41 hB42 hR1
                have HFV := Lib.hid hFV
                have z0 : V.cell? ⟨w9.heap.size, 0, none⟩ = some (.int .i64 r.e) := hVr.cell 0
                have z1 : V.cell? ⟨w9.heap.size, 1, none⟩ = some (.int .i64 r.l) := hVr.cell 1
                have z2 : V.cell? ⟨w5.heap.size, 0, none⟩ = some (.slice (some ⟨bx, ox, none⟩) xn xc) := hFV.box.cell 0
                have z3 := (hVb.cell (p := ⟨bx, ox, none⟩) hbx0).trans ((hb6.cell (p := ⟨bx, ox, none⟩) hbx0).symm.trans f0)
                have z4 := (hVb.cell (p := ⟨bx, ox + 1, none⟩) hbx0).trans ((hb6.cell (p := ⟨bx, ox + 1, none⟩) hbx0).symm.trans f1)
                have hbV : bx < V.heap.size := by have := hVb.size; omega
                have hw9V : w9.heap.size < V.heap.size := hVr.lt
                have hw5V : w5.heap.size < V.heap.size := hFV.box.lt
                have hRu : Rd rfC 2 V.heap.size V Au2 (us ++ (refsP pp).take j) := Rd.of_own (fun _ => rfl) hFV.used hFV.um
                have hRl : Rd onC 3 V.heap.size V A L := (R6.below hVb).mono hVb.size
                have HRU := Lib.hid hRu
                have HRL := Lib.hid hRl
                clear hFV hVr hRu hRl
                have hnn : (0 : Int) < xn := by omega
                clear HM HTK
                rcases hsign with ⟨dn, d0⟩ | ⟨dn, d0⟩
                all_goals
                  go_wp2
                  go_region_held3 (fun w' => w'.cell? ⟨w9.heap.size, 0, none⟩ = some (.int .i64 r.e) ∧ w'.cell? ⟨w9.heap.size, 1, none⟩ = some (.int .i64 r.l) ∧ w'.cell? ⟨w5.heap.size, 0, none⟩ = some (.slice (some ⟨bx, ox, none⟩) xn xc) ∧ w'.cell? ⟨bx, ox, none⟩ = some (.int .i64 rx.e) ∧ w'.cell? ⟨bx, ox + 1, none⟩ = some (.int .i64 rx.l))
                    (first | (go_keep; done) | (exact ⟨(hbI.cell (p := ⟨w9.heap.size, 0, none⟩) hw9V).trans z0, (hbI.cell (p := ⟨w9.heap.size, 1, none⟩) hw9V).trans z1, (hbI.cell (p := ⟨w5.heap.size, 0, none⟩) hw5V).trans z2, (hbI.cell (p := ⟨bx, ox, none⟩) hbV).trans z3, (hbI.cell (p := ⟨bx, ox + 1, none⟩) hbV).trans z4⟩) | (exact ⟨(hbJ.cell (p := ⟨w9.heap.size, 0, none⟩) hw9V).trans z0, (hbJ.cell (p := ⟨w9.heap.size, 1, none⟩) hw9V).trans z1, (hbJ.cell (p := ⟨w5.heap.size, 0, none⟩) hw5V).trans z2, (hbJ.cell (p := ⟨bx, ox, none⟩) hbV).trans z3, (hbJ.cell (p := ⟨bx, ox + 1, none⟩) hbV).trans z4⟩))
                    (first
                      | (go_at_call 16; refine (in_no Au2 m2 cu2 (us ++ (refsP pp).take j) r _ HFV.out.um (by unfold maxLen; omega) (by first | exact HRU.out | exact HRU.out.below ((Below.refl _ V).drew)) HNO2.out).mono ?_; rintro e wI ⟨rfl, hbI'⟩; have hbI : Below V.heap.size V wI := by first | exact hbI' | exact below_un hbI')
                      | (go_at_call 15; refine (amount_any A n c L rx wI Hn.out hmxn ((HRL.out.below hbI).mono hbI.size)).mono ?_; rw [HA0.out]; rintro e wJ ⟨rfl, hbJ'⟩; have hbJ : Below V.heap.size V wJ := hbI.trans (hbJ'.mono hbI.size)))
                  have hFJ := HFV.out.below hbJ
                  have y0 := (hbJ.cell (p := ⟨w9.heap.size, 0, none⟩) hw9V).trans z0
                  have y1 := (hbJ.cell (p := ⟨w9.heap.size, 1, none⟩) hw9V).trans z1
                  have hsJ := hbJ.size
                  have hsV := hVb.size
                  have hw9J : w9.heap.size < wJ.heap.size := by omega
                  have hVJ : Below w4.heap.size w4 wJ := hVb.trans (hbJ.mono hVb.size)
                  have HFJ := Lib.hid hFJ
                  clear hFJ HRU HRL HFV z0 z1 z2 z3 z4 hbI hbJ
                  go_wp2_with (at_builtin; refine wpList_append_new rfl (.tmp 121) (.tmp 123) 37 rfl w4.heap.size 41 i41 _ 2 16 Try.underlying37 hi41 hz41 hy41 hb41 rfl (by decide) (.slice Au2 m2 cu2) m2 _ rfl HFJ.out.used wJ.heap.size 1 1 rfl rfl (rfC r) rfl rfl (by simp [rfC, Value.oneCell']) (by omega) (by omega) (by omega) ?_; intro Aq cq wq hOq hgq hlocq)
                  have hFq := HFJ.out.snoc hgq hOq hlocq
                  have hbq : Below w4.heap.size w4 wq := hVJ.grown hgq (by omega) (fun g e => own_ge HFJ.out.used (Nat.le_refl _) g e)
                  go_roundw
                  case rel => exact ⟨j + 1, m2 + 1, Aq, cq, by omega, by go_num, by rw [HSS.out], rfl, by rw [HTK2.out, ← List.append_assoc]; exact hFq, by rw [HSS.out]; constructor <;> omega, hbq⟩
                  case measure => simp [intOf]; omega
              · have dge : decide ((xn : Int) ≤ j) = false := decide_eq_false (by omega)
                refine (amount_any A n c L r W1 Hn.out hmxn ((R6.below hB41).mono hB41.size)).mono ?_
                rw [HAL.out (by omega)]
                rintro e V ⟨rfl, hbV⟩
                have hVw : Below w9.heap.size w9 V := hB1.trans (hbV.mono hB1.size)
                have hVb : Below w4.heap.size w4 V := hB41.trans (hbV.mono hB41.size)
                have hFV := hF0.out.below hVw
                have hVr := hR1.below hbV hR1.lt
                have u2 : V.cell? ⟨w5.heap.size, 0, none⟩ = some (.slice (some ⟨bx, ox, none⟩) xn xc) := hFV.box.cell 0
                have u3 := hFV.box.lt
                have hsign : (decide (nj < 0) = true ∧ decide (n0 < 0) = true) ∨ (decide (nj < 0) = false ∧ decide (n0 < 0) = false) := by
                  have := HT5.out (by omega)
                  by_cases h0 : n0 < 0
                  · exact .inl ⟨decide_eq_true (by omega), decide_eq_true h0⟩
                  · exact .inr ⟨decide_eq_false (by omega), decide_eq_false h0⟩
                clear hB1 hbV hB41 hR1
                have HFV := Lib.hid hFV
                have z0 : V.cell? ⟨w9.heap.size, 0, none⟩ = some (.int .i64 r.e) := hVr.cell 0
                have z1 : V.cell? ⟨w9.heap.size, 1, none⟩ = some (.int .i64 r.l) := hVr.cell 1
                have z2 : V.cell? ⟨w5.heap.size, 0, none⟩ = some (.slice (some ⟨bx, ox, none⟩) xn xc) := hFV.box.cell 0
                have z3 := (hVb.cell (p := ⟨bx, ox, none⟩) hbx0).trans ((hb6.cell (p := ⟨bx, ox, none⟩) hbx0).symm.trans f0)
                have z4 := (hVb.cell (p := ⟨bx, ox + 1, none⟩) hbx0).trans ((hb6.cell (p := ⟨bx, ox + 1, none⟩) hbx0).symm.trans f1)
                have hbV : bx < V.heap.size := by have := hVb.size; omega
                have hw9V : w9.heap.size < V.heap.size := hVr.lt
                have hw5V : w5.heap.size < V.heap.size := hFV.box.lt
                have hRu : Rd rfC 2 V.heap.size V Au2 (us ++ (refsP pp).take j) := Rd.of_own (fun _ => rfl) hFV.used hFV.um
                have hRl : Rd onC 3 V.heap.size V A L := (R6.below hVb).mono hVb.size
                have HRU := Lib.hid hRu
                have HRL := Lib.hid hRl
                clear hFV hVr hRu hRl
                have hnn : (0 : Int) < xn := by omega
                clear HM HTK
                rcases hsign with ⟨dn, d0⟩ | ⟨dn, d0⟩
                all_goals
                  go_wp2
                  go_region_held3 (fun w' => w'.cell? ⟨w9.heap.size, 0, none⟩ = some (.int .i64 r.e) ∧ w'.cell? ⟨w9.heap.size, 1, none⟩ = some (.int .i64 r.l) ∧ w'.cell? ⟨w5.heap.size, 0, none⟩ = some (.slice (some ⟨bx, ox, none⟩) xn xc) ∧ w'.cell? ⟨bx, ox, none⟩ = some (.int .i64 rx.e) ∧ w'.cell? ⟨bx, ox + 1, none⟩ = some (.int .i64 rx.l))
                    (first | (go_keep; done) | (exact ⟨(hbI.cell (p := ⟨w9.heap.size, 0, none⟩) hw9V).trans z0, (hbI.cell (p := ⟨w9.heap.size, 1, none⟩) hw9V).trans z1, (hbI.cell (p := ⟨w5.heap.size, 0, none⟩) hw5V).trans z2, (hbI.cell (p := ⟨bx, ox, none⟩) hbV).trans z3, (hbI.cell (p := ⟨bx, ox + 1, none⟩) hbV).trans z4⟩) | (exact ⟨(hbJ.cell (p := ⟨w9.heap.size, 0, none⟩) hw9V).trans z0, (hbJ.cell (p := ⟨w9.heap.size, 1, none⟩) hw9V).trans z1, (hbJ.cell (p := ⟨w5.heap.size, 0, none⟩) hw5V).trans z2, (hbJ.cell (p := ⟨bx, ox, none⟩) hbV).trans z3, (hbJ.cell (p := ⟨bx, ox + 1, none⟩) hbV).trans z4⟩))
                    (first
                      | (go_at_call 16; refine (in_no Au2 m2 cu2 (us ++ (refsP pp).take j) r _ HFV.out.um (by unfold maxLen; omega) (by first | exact HRU.out | exact HRU.out.below ((Below.refl _ V).drew)) HNO2.out).mono ?_; rintro e wI ⟨rfl, hbI'⟩; have hbI : Below V.heap.size V wI := by first | exact hbI' | exact below_un hbI')
                      | (go_at_call 15; refine (amount_any A n c L rx wI Hn.out hmxn ((HRL.out.below hbI).mono hbI.size)).mono ?_; rw [HA0.out]; rintro e wJ ⟨rfl, hbJ'⟩; have hbJ : Below V.heap.size V wJ := hbI.trans (hbJ'.mono hbI.size)))
                  have hFJ := HFV.out.below hbJ
                  have y0 := (hbJ.cell (p := ⟨w9.heap.size, 0, none⟩) hw9V).trans z0
                  have y1 := (hbJ.cell (p := ⟨w9.heap.size, 1, none⟩) hw9V).trans z1
                  have hsJ := hbJ.size
                  have hsV := hVb.size
                  have hw9J : w9.heap.size < wJ.heap.size := by omega
                  have hVJ : Below w4.heap.size w4 wJ := hVb.trans (hbJ.mono hVb.size)
                  have HFJ := Lib.hid hFJ
                  clear hFJ HRU HRL HFV z0 z1 z2 z3 z4 hbI hbJ
                  go_wp2_with (at_builtin; refine wpList_append_new rfl (.tmp 121) (.tmp 123) 37 rfl w4.heap.size 41 i41 _ 2 16 Try.underlying37 hi41 hz41 hy41 hb41 rfl (by decide) (.slice Au2 m2 cu2) m2 _ rfl HFJ.out.used wJ.heap.size 1 1 rfl rfl (rfC r) rfl rfl (by simp [rfC, Value.oneCell']) (by omega) (by omega) (by omega) ?_; intro Aq cq wq hOq hgq hlocq)
                  have hFq := HFJ.out.snoc hgq hOq hlocq
                  have hbq : Below w4.heap.size w4 wq := hVJ.grown hgq (by omega) (fun g e => own_ge HFJ.out.used (Nat.le_refl _) g e)
                  go_roundw
                  case rel => exact ⟨j + 1, m2 + 1, Aq, cq, by omega, by go_num, by rw [HSS.out], rfl, by rw [HTK2.out, ← List.append_assoc]; exact hFq, by rw [HSS.out]; constructor <;> omega, hbq⟩
                  case measure => simp [intOf]; omega
            · obtain rfl : j = xn + yn := by omega
              have hsum := HFK.out.sum
              rw [HZL.out] at hsum
              generalize sumF L R pp (xn + yn) = sj at hsum hsb1 hsb2 ⊢
              rw [absZ_le] at hsum
              have hd1 : decide (tol < sj) = false := decide_eq_false (by omega)
              have hd2 : decide (tol < -sj) = false := decide_eq_false (by omega)
              have hU : Hid (UsedIn w9 w4.heap.size (usedP (ps.take (k + 1))) (.slice Au2 m2 cu2)) := by
                rw [HTK.out]
                have h1 := hF.um
                have h2 := hF.used
                rw [List.take_of_length_le (by rw [HZL.out]; exact Nat.le_refl _)] at h1 h2
                unfold refsP at h1 h2
                exact ⟨⟨Au2, cu2, by rw [h1], by rw [h1]; exact h2⟩⟩
              have hUl : (usedP (ps.take (k + 1))).length ≤ 2000 * (k + 1) := by
                rw [HTK.out, List.length_append, List.length_append, HM.out, P1.out, P2.out]
                omega
              have HUl := Lib.hid hUl
              clear hUl hF
              go_wp2
              go_roundw
              case rel => exact ⟨k + 1, by omega, by go_num, hU, HUl, hbj⟩
              case measure => simp [intOf]; omega
      · obtain rfl : k = n3 := by omega
        go_wp2
        go_ret
        exact ⟨rfl, hw4.trans (hb5.mono hw4.size)⟩
  · go_wp2_with fail
    refine (propose_arg A1 A2 n c1 n' c2 L R tol w3 Hn.out Hn'.out (by omega) (by omega) T1' T2 HW.out hok).mono ?_
    rintro e w4 ⟨rfl, hb4⟩
    have hw4 := hw3.trans (hb4.mono hw3.size)
    clear R4 R5 T1' T2 hb4 hw3
    go_wp2
    go_ret
    exact ⟨rfl, hw4⟩
end Go.Proofs.Ytccgleiildgckaa
