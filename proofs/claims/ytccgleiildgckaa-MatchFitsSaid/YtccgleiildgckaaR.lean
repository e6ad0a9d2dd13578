/- Regions that draw their order and end in a store: readings may be taken first where the memory they read is kept until that store. -/
import Derived.OrdersHeld
import Derived.Test.YtccgleiildgckaaB6
namespace Go.Rg
open Go.Rf

variable {P : Program} {ops : Array Oper} {Q : Exit → Act → World → Prop} {md : Region.Mode} {d : Nat} {F : World → Prop}

/-- Whatever order is picked; and F holds behind every operation until number d has come up. -/
def anyS (P : Program) (md : Region.Mode) (ops : Array Oper) (Q : Exit → Act → World → Prop) (d : Nat) (F : World → Prop) : Nat → Array Bool → Act → World → Prop
  | 0, listed, a, w => Region.ready md ops listed = [] ∧ Q .normal a w
  | fuel + 1, listed, a, w => (Region.ready md ops listed = [] → Q .normal a w) ∧
    ∀ i ∈ Region.ready md ops listed, wpOp P ops Q i (fun a' w' => (i ≠ d → F w') ∧ anyS P md ops Q d F fuel (listed.setIfInBounds i true) a' w') a w

theorem anyS_any : ∀ (fuel : Nat) (listed : Array Bool) (a : Act) (w : World), anyS P md ops Q d F fuel listed a w → wpAny P md ops Q fuel listed a w
  | 0, _, _, _, h => h
  | fuel + 1, _, _, _, h => ⟨h.1, fun i hi => wpOp_mono (fun a' w' h' => anyS_any fuel _ a' w' h'.2) (h.2 i hi)⟩

theorem region {id : Nat} {a : Act} {w : World} (hm : P.follows .mixedOrders = true) (h : anyS P .any ops Q d F ops.size (Array.replicate ops.size false) a w.drew) : (Code.region id ops true).wp P Q a w :=
  wp_region_any hm (anyS_any _ _ _ _ h)
theorem region_in {G : Fence} (O : Free G) {n id : Nat} {a : Act} {w : World} (hm : P.follows .mixedOrders = true) (hQ : ¬ LetsOut Q) (hd : ops.all noDefer = true) (h : anyS P .any ops Q d F ops.size (Array.replicate ops.size false) a w.drew) : (Code.region id ops true).wpIn G n P Q a w :=
  lift_region O hm hQ hd (anyS_any _ _ _ _ h)
/-- Every old block is as it was, but for one. -/
def Kept (v : Value) (W w : World) : Prop := W.heap.size ≤ w.heap.size ∧ ∀ b, b < W.heap.size → some b ≠ v.ownBlock → w.heap[b]? = W.heap[b]?
theorem Kept.refl (v : Value) (W : World) : Kept v W W := ⟨Nat.le_refl _, fun _ _ _ => rfl⟩
theorem Kept.alloc {v : Value} {W w : World} (h : Kept v W w) (o : Obj) : Kept v W (w.alloc o) := ⟨by have := h.1; simp; omega, fun b hb hn => (RowKit.Below.heap_alloc w o b (Nat.lt_of_lt_of_le hb h.1)).trans (h.2 b hb hn)⟩
theorem Kept.drew {v : Value} {W w : World} (h : Kept v W w) : Kept v W w.drew := h
theorem Kept.grown {v : Value} {W w w' : World} (h : Kept v W w) (hg : w.grownBy w' v.ownBlock) : Kept v W w' := ⟨Nat.le_trans h.1 hg.size, fun b hb hn => (hg.block b (Nat.lt_of_lt_of_le hb h.1) hn).trans (h.2 b hb hn)⟩
theorem Kept.below {v : Value} {W w w' : World} (h : Kept v W w) (hb : RowKit.Below w.heap.size w w') : Kept v W w' := ⟨Nat.le_trans h.1 hb.size, fun b hlt hn => (hb.block b (Nat.lt_of_lt_of_le hlt h.1)).trans (h.2 b hlt hn)⟩
theorem Kept.cell {v : Value} {W w : World} (h : Kept v W w) {b i : Nat} {u : Value} (hc : W.cell? ⟨b, i, none⟩ = some u) (hb : b < W.heap.size) (hn : some b ≠ v.ownBlock) : w.cell? ⟨b, i, none⟩ = some u := (World.cell?_of_block (a := ⟨b, i, none⟩) (h.2 b hb hn)).trans hc

/-- Number d waits for number i. -/
def waits (md : Region.Mode) (ops : Array Oper) (d i : Nat) : Bool := match ops[d]? with
  | none => false
  | some o => o.after.any fun e => Region.binds md e && e.on == i

theorem waits_ready {i : Nat} {listed : Array Bool} (hw : waits md ops d i = true) (hi : listed.getD i true = false) : d ∉ Region.ready md ops listed := by
  intro hd
  obtain ⟨_, o, ho, hall⟩ := mem_ready.1 hd
  unfold waits at hw
  rw [ho] at hw
  obtain ⟨e, he, hb⟩ := Array.any_eq_true'.1 hw
  simp only [Bool.and_eq_true, beq_iff_eq] at hb
  have h1 := hall e he hb.1
  rw [hb.2] at h1
  rcases Nat.lt_or_ge i listed.size with h' | h'
  · simp [h'] at hi h1; rw [hi] at h1; cases h1
  · simp [Array.getElem?_eq_none h'] at h1

theorem anyS_first {i : Nat} {oi : Oper} {v : Value} (hi : ops[i]? = some oi) (hsel : ∀ (j : Nat) (o : Oper) cs b, ops[j]? = some o → o.op ≠ .select cs b) (hw : waits md ops d i = true) (hid : i ≠ d)
    (hQ : ∀ c a w, Q (.panic c) (a.put oi.dst v) w → Q (.panic c) a w) :
    ∀ (fuel : Nat) (listed : Array Bool) (a : Act) (w : World),
      (∀ j oj, ops[j]? = some oj → j ≠ i → listed.getD j true = false → (∀ e ∈ oj.after, Region.binds md e = true → e.on ≠ i) → oi.apart ops oj = true) →
      i ∈ Region.ready md ops listed → YieldsIf P ops F oi v a → F w →
      anyS P md ops Q d F fuel (listed.setIfInBounds i true) (a.put oi.dst v) w → anyS P md ops Q d F (fuel + 1) listed a w := by
  intro fuel
  induction fuel with
  | zero =>
    intro listed a w _ hr hy hF H
    refine ⟨fun h => (by rw [h] at hr; cases hr), fun j hj => ?_⟩
    by_cases hji : j = i
    · subst hji
      exact hy.wpOp hi hF ⟨fun _ => hF, H⟩
    · have h1 := ready_mono hj hji
      rw [H.1] at h1
      cases h1
  | succ fuel ih =>
    intro listed a w hfree hr hy hF H
    refine ⟨fun h => (by rw [h] at hr; cases hr), fun j hj => ?_⟩
    have hun := (mem_ready.1 hr).1
    by_cases hji : j = i
    · subst hji
      exact hy.wpOp hi hF ⟨fun _ => hF, H⟩
    · have hjd : j ≠ d := fun e => waits_ready hw hun (e ▸ hj)
      have h1 := H.2 j (ready_mono hj hji)
      obtain ⟨hjun, oj, hoj, hall⟩ := mem_ready.1 hj
      have hnot : ∀ e ∈ oj.after, Region.binds md e = true → e.on ≠ i := fun e he hb heq => by
        have h2 := hall e he hb
        rw [heq] at h2
        rcases Nat.lt_or_ge i listed.size with h' | h'
        · simp [h'] at hun h2; rw [hun] at h2; cases h2
        · simp [Array.getElem?_eq_none h'] at h2
      have h2 := wpOp_putIf hoj (hfree j oj hoj hji hjun hnot) (fun cs b => hsel i oi cs b hi) (fun cs b => hsel j oj cs b hoj) hQ hy h1
      refine wpOp_mono (fun a' w' h3 => ⟨fun _ => h3.2.1 hjd, ih (listed.setIfInBounds j true) a' w' ?_ (ready_mono hr (Ne.symm hji)) h3.1 (h3.2.1 hjd) ?_⟩) h2
      · intro k ok hok hki hk1 hno
        refine hfree k ok hok hki ?_ hno
        by_cases hjk : j = k
        · subst hjk; exact hjun
        · rw [getD_set_ne true hjk] at hk1; exact hk1
      · rw [Array.setIfInBounds_comm _ _ hji]
        exact h3.2.2

/-- Take number i first. -/
theorem take {i : Nat} {oi : Oper} {v : Value} {fuel : Nat} {listed : Array Bool} {a : Act} {w : World} (hi : ops[i]? = some oi)
    (hs : (Region.noSelect ops && Region.free md ops listed i && (Region.ready md ops listed).contains i && waits md ops d i && i != d) = true)
    (hQ : ∀ c a w, Q (.panic c) (a.put oi.dst v) w → Q (.panic c) a w) (hw : Region.wanted oi (yielded ops a.tmps) = true) (hy : ∀ w, F w → (execOp a.eval oi).run P w = .ok (.value v) w) (hF : F w)
    (h : anyS P md ops Q d F fuel (listed.setIfInBounds i true) (a.put oi.dst v) w) : anyS P md ops Q d F (fuel + 1) listed a w := by
  simp only [Bool.and_eq_true, bne_iff_ne, ne_eq] at hs
  obtain ⟨⟨⟨⟨h1, h2⟩, h3⟩, h4⟩, h5⟩ := hs
  exact anyS_first hi (Region.noSelect_spec h1) h4 h5 hQ fuel listed a w (Region.free_spec hi h2) (by simpa using h3) (.inl ⟨hw, hy⟩) hF h

/-- Readings, one by one. -/
def quiets (P : Program) : List Oper → List Value → Act → World → Prop
  | [], [], _, _ => True
  | o :: L, v :: vs, a, w => (execOp a.eval o).run P w = .ok (.value v) w ∧ quiets P L vs (a.put o.dst v) w
  | _, _, _, _ => False
theorem quiets_nil {a : Act} {w : World} : quiets P [] [] a w := trivial
theorem quiets_cons {o : Oper} {L : List Oper} {v : Value} {vs : List Value} {a : Act} {w : World} (h : (execOp a.eval o).run P w = .ok (.value v) w) (h' : quiets P L vs (a.put o.dst v) w) : quiets P (o :: L) (v :: vs) a w := ⟨h, h'⟩
def putAll : List Oper → List Value → Act → Act
  | o :: L, v :: vs, a => putAll L vs (a.put o.dst v)
  | _, _, a => a
def pick (ops : Array Oper) (is : List Nat) : List Oper := is.filterMap (fun i => ops[i]?)
def tick (listed : Array Bool) : List Nat → Array Bool
  | [] => listed
  | i :: is => tick (listed.setIfInBounds i true) is
def takeOk (md : Region.Mode) (ops : Array Oper) (d : Nat) : Array Bool → List Nat → Bool
  | _, [] => true
  | listed, i :: is => decide (i < ops.size) && (ops[i]?).all (fun o => o.guard.isNone) && (Region.noSelect ops && Region.free md ops listed i && (Region.ready md ops listed).contains i && waits md ops d i && i != d) && takeOk md ops d (listed.setIfInBounds i true) is
theorem takes (hQ : ∀ c (a : Act) (t : Option Tmp) (v : Value) w, Q (.panic c) (a.put t v) w → Q (.panic c) a w) : ∀ (is : List Nat) (vs : List Value) (fuel : Nat) (listed : Array Bool) (a : Act) (w : World), takeOk md ops d listed is = true → (∀ w, F w → quiets P (pick ops is) vs a w) → F w →
    anyS P md ops Q d F fuel (tick listed is) (putAll (pick ops is) vs a) w → anyS P md ops Q d F (fuel + is.length) listed a w
  | [], vs, fuel, listed, a, w, _, _, _, h => by simpa [pick, putAll, tick] using h
  | i :: is, vs, fuel, listed, a, w, hok, hq, hF, h => by
    simp only [takeOk, Bool.and_eq_true, decide_eq_true_eq] at hok
    obtain ⟨⟨⟨hlt, hg⟩, hs⟩, hrest⟩ := hok
    have ho : ops[i]? = some ops[i] := Array.getElem?_eq_getElem hlt
    have hp : pick ops (i :: is) = ops[i] :: pick ops is := by simp [pick, hlt]
    rw [hp] at hq h
    rw [ho] at hg
    have hg : ops[i].guard = none := by simpa using hg
    cases vs with
    | nil => exact absurd (hq w hF) (by simp [quiets])
    | cons v vs =>
      have := take (i := i) (oi := ops[i]) (v := v) (fuel := fuel + is.length) (listed := listed) (a := a) (w := w) (Q := Q) (P := P) (md := md) (d := d) (F := F) ho (by simpa only [Bool.and_eq_true] using hs) (fun c a w h => hQ c a _ v w h) (by simp [Region.wanted, hg]) (fun w hw => (hq w hw).1) hF
        (takes hQ is vs fuel _ _ w hrest (fun w hw => (hq w hw).2) hF (by simpa [tick, putAll] using h))
      exact this

/-- The order is forced. -/
def forced (md : Region.Mode) (ops : Array Oper) : Array Bool → List Nat → Bool
  | listed, [] => Region.ready md ops listed == []
  | listed, i :: is => Region.ready md ops listed == [i] && (ops[i]?).all (fun o => o.guard.isNone) && decide (i < ops.size) && forced md ops (listed.setIfInBounds i true) is
/-- Operations, one by one; F is kept till the last one. -/
def runS (P : Program) (Q : Exit → Act → World → Prop) (F : World → Prop) : List Oper → Act → World → Prop
  | [], a, w => Q .normal a w
  | o :: L, a, w => wpList P #[] (Then fun a' w' => (L ≠ [] → F w') ∧ runS P Q F L a' w') [o] a w
theorem runS_cons {o : Oper} {L : List Oper} {a : Act} {w : World} (h : wpList P #[] (Then fun a' w' => (L ≠ [] → F w') ∧ runS P Q F L a' w') [o] a w) : runS P Q F (o :: L) a w := h
theorem then_kept {L : List Oper} {a : Act} {w : World} (h1 : F w) (h2 : runS P Q F L a w) : Then (fun a' w' => (L ≠ [] → F w') ∧ runS P Q F L a' w') .normal a w := ⟨fun _ => h1, h2⟩
theorem then_last {a : Act} {w : World} (h : Q .normal a w) : Then (fun a' w' => (([] : List Oper) ≠ [] → F w') ∧ runS P Q F [] a' w') .normal a w := ⟨fun h => absurd rfl h, h⟩
theorem nil_kept {L : List Oper} {a : Act} {w : World} (h1 : F w) (h2 : runS P Q F L a w) : wpList P #[] (Then (fun a' w' => (L ≠ [] → F w') ∧ runS P Q F L a' w')) [] a w := ⟨fun _ => h1, h2⟩
theorem one {ops' : Array Oper} {i : Nat} {o : Oper} {K : Act → World → Prop} {a : Act} {w : World} (hi : ops[i]? = some o) (hg : o.guard = none) (h : wpList P ops' (Then K) [o] a w) : wpOp P ops Q i K a w := by
  unfold wpOp
  rw [hi]
  simp only [wpList, Region.wanted, hg, if_true] at h ⊢
  rcases h with h | ⟨_, h⟩
  · refine .inl ?_
    unfold Oper.wp at h ⊢
    generalize (execOp a.eval o).run P w = r at h ⊢
    cases r with
    | ok x w' =>
      cases x <;> simp only [Oper.upon] at h ⊢ <;> first
        | exact h
        | exact Calls.mono h (fun e w'' he => by cases e <;> first | exact he | exact he.elim | exact absurd he (then_out _))
    | halt x w' => cases x <;> simp only [Oper.upon] at h ⊢ <;> first | exact h | exact h.elim
  · exact absurd h (then_out _)
theorem then_mono {K K' : Act → World → Prop} (h : ∀ a w, K a w → K' a w) {o : Oper} {a : Act} {w : World} (hw : wpList P ops (Then K) [o] a w) : wpList P ops (Then K') [o] a w := by
  have hT : ∀ e a w, Then K e a w → Then K' e a w := by
    intro e a w h1
    cases e <;> first | exact h _ _ h1 | exact h1
  simp only [wpList] at hw ⊢
  split at hw
  · rename_i hx
    rw [if_pos hx]
    rcases hw with hw | ⟨_, hw⟩
    · refine .inl ?_
      have h2 := Oper.wp_mono (K' := wpList P ops (Then K') []) (fun a w h1 => h a w h1) hw
      unfold Oper.wp at h2 ⊢
      generalize (execOp a.eval o).run P w = r at h2 ⊢
      cases r with
      | ok x w' =>
        cases x <;> simp only [Oper.upon] at h2 ⊢ <;> first
          | exact h2
          | exact Calls.mono h2 (fun e w'' he => by cases e <;> first | exact he | exact hT _ _ _ he | exact absurd he (then_out _))
      | halt x w' => cases x <;> simp only [Oper.upon] at h2 ⊢ <;> first | exact h2 | exact hT _ _ _ h2
    · exact absurd hw (then_out _)
  · rename_i hx
    rw [if_neg hx]
    exact hT _ _ _ hw
theorem run_forced : ∀ (is : List Nat) (fuel : Nat) (listed : Array Bool) (a : Act) (w : World), is.length ≤ fuel → forced md ops listed is = true → is.getLast? = some d → is.Nodup → runS P Q F (pick ops is) a w → anyS P md ops Q d F fuel listed a w
  | [], _, _, _, _, _, _, hd, _, _ => by simp at hd
  | i :: is, 0, _, _, _, hl, _, _, _, _ => by simp at hl
  | i :: is, fuel + 1, listed, a, w, hl, hf, hd, hn, h => by
    simp only [forced, Bool.and_eq_true, beq_iff_eq, decide_eq_true_eq] at hf
    obtain ⟨⟨⟨hr, hg⟩, hlt⟩, hf⟩ := hf
    have ho : ops[i]? = some ops[i] := Array.getElem?_eq_getElem hlt
    have hp : pick ops (i :: is) = ops[i] :: pick ops is := by simp [pick, hlt]
    rw [ho] at hg
    have hg : ops[i].guard = none := by simpa using hg
    rw [hp] at h
    refine ⟨fun h0 => (by rw [hr] at h0; cases h0), fun j hj => ?_⟩
    rw [hr] at hj
    simp only [List.mem_singleton] at hj
    subst hj
    refine one ho hg (then_mono (ops := #[]) (fun a' w' h' => ?_) h)
    cases is with
    | nil =>
      have hid : j = d := by simpa using hd
      subst hid
      refine ⟨fun hne => absurd rfl hne, ?_⟩
      have hq : Q .normal a' w' := h'.2
      have hrd : Region.ready md ops (listed.setIfInBounds j true) = [] := by simpa [forced] using hf
      cases fuel with
      | zero => exact ⟨hrd, hq⟩
      | succ fuel => exact ⟨fun _ => hq, by rw [hrd]; simp⟩
    | cons k is =>
      have hf2 := hf
      simp only [forced, Bool.and_eq_true, decide_eq_true_eq] at hf2
      have hklt : k < ops.size := hf2.1.2
      exact ⟨fun _ => h'.1 (by simp [pick, hklt]), run_forced (k :: is) fuel _ a' w' (by simpa using hl) hf (by simpa using hd) (List.nodup_cons.1 hn).2 h'.2⟩
/-- Two operations may come up. -/
theorem anyS_two {i j fuel : Nat} {listed : Array Bool} {a : Act} {w : World} (hr : (Region.ready md ops listed == [i, j]) = true)
    (h1 : wpOp P ops Q i (fun a' w' => (i ≠ d → F w') ∧ anyS P md ops Q d F fuel (listed.setIfInBounds i true) a' w') a w)
    (h2 : wpOp P ops Q j (fun a' w' => (j ≠ d → F w') ∧ anyS P md ops Q d F fuel (listed.setIfInBounds j true) a' w') a w) : anyS P md ops Q d F (fuel + 1) listed a w := by
  have hr : Region.ready md ops listed = [i, j] := by simpa using hr
  refine ⟨fun h0 => (by rw [hr] at h0; cases h0), fun k hk => ?_⟩
  rw [hr] at hk
  simp only [List.mem_cons, List.not_mem_nil, or_false] at hk
  rcases hk with rfl | rfl
  · exact h1
  · exact h2
/-- Two operations may come up; behind each the order is forced. -/
theorem run_two {i j fuel : Nat} {is1 is2 : List Nat} {listed : Array Bool} {a : Act} {w : World} (hok : (Region.ready md ops listed == [i, j] && decide (i < ops.size) && decide (j < ops.size) && (ops[i]?).all (fun o => o.guard.isNone) && (ops[j]?).all (fun o => o.guard.isNone) && i != d && j != d && forced md ops (listed.setIfInBounds i true) is1 && forced md ops (listed.setIfInBounds j true) is2 && is1.getLast? == some d && is2.getLast? == some d && decide is1.Nodup && decide is2.Nodup && decide (is1.length ≤ fuel) && decide (is2.length ≤ fuel)) = true)
    (h1 : runS P Q F (pick ops (i :: is1)) a w) (h2 : runS P Q F (pick ops (j :: is2)) a w) : anyS P md ops Q d F (fuel + 1) listed a w := by
  simp only [Bool.and_eq_true, decide_eq_true_eq, bne_iff_ne, ne_eq, beq_iff_eq] at hok
  obtain ⟨⟨⟨⟨⟨⟨⟨⟨⟨⟨⟨⟨⟨⟨hr, hi⟩, hj⟩, hgi⟩, hgj⟩, hid⟩, hjd⟩, hf1⟩, hf2⟩, hd1⟩, hd2⟩, hn1⟩, hn2⟩, hl1⟩, hl2⟩ := hok
  have hoi : ops[i]? = some ops[i] := Array.getElem?_eq_getElem hi
  have hoj : ops[j]? = some ops[j] := Array.getElem?_eq_getElem hj
  have hpi : pick ops (i :: is1) = ops[i] :: pick ops is1 := by simp [pick, hi]
  have hpj : pick ops (j :: is2) = ops[j] :: pick ops is2 := by simp [pick, hj]
  rw [hoi] at hgi
  rw [hoj] at hgj
  have hgi : ops[i].guard = none := by simpa using hgi
  have hgj : ops[j].guard = none := by simpa using hgj
  rw [hpi] at h1
  rw [hpj] at h2
  have hne : ∀ (is : List Nat) (l : Array Bool), is.getLast? = some d → forced md ops l is = true → pick ops is ≠ [] := by
    intro is l hd hf
    cases is with
    | nil => simp at hd
    | cons k is =>
      simp only [forced, Bool.and_eq_true, decide_eq_true_eq] at hf
      have hk : k < ops.size := hf.1.2
      simp [pick, hk]
  refine anyS_two (by simpa using hr) ?_ ?_
  · exact one hoi hgi (then_mono (ops := #[]) (fun a' w' h' => ⟨fun _ => h'.1 (hne _ _ hd1 hf1), run_forced is1 fuel _ a' w' hl1 hf1 hd1 hn1 h'.2⟩) h1)
  · exact one hoj hgj (then_mono (ops := #[]) (fun a' w' h' => ⟨fun _ => h'.1 (hne _ _ hd2 hf2), run_forced is2 fuel _ a' w' hl2 hf2 hd2 hn2 h'.2⟩) h2)
end Go.Rg
