/- Maps as partial functions on keys. -/
import Derived.Maps.OwnOps
import Derived.Maps.OwnSet
import Derived.DeepKeys4
import Derived.WalkKit
namespace Go.Mp
open Go.MapKept Go.Maps
open Go.ChangeMaps (setBlock heap_setBlock_same heap_setBlock_other modify_eq_set)

/-- Block b of w is a map with keys of type k whose entries are f's; it has n of them. -/
def Is (P : Program) (k : TypeId) (w : World) (b : Nat) (f : Value → Option Value) (n : Nat) : Prop :=
  ∃ es clock, w.heap[b]? = some (.map es clock) ∧ Stamped es clock ∧ (∀ x ∈ es.toList, ∃ l, keyOf P k x.key = some l) ∧ (∀ v x, f v = some x ↔ ∃ e ∈ es.toList, e.key = v ∧ e.val = x) ∧ es.size = n

open Classical in
noncomputable def upd (f : Value → Option Value) (v : Value) (x : Option Value) : Value → Option Value := fun u => if u = v then x else f u

variable {P : Program} {k t e : TypeId} {w w' : World} {b n : Nat} {f : Value → Option Value}

theorem Is.made (P : Program) (k : TypeId) (w : World) : Is P k (w.alloc (.map #[] 0)) w.heap.size (fun _ => none) 0 :=
  ⟨#[], 0, (MapKept.heap_alloc w _).1, stamped_empty 0, by simp, by simp, rfl⟩

theorem Is.lt (h : Is P k w b f n) : b < w.heap.size := by
  obtain ⟨es, clock, hb, _⟩ := h
  exact (Array.getElem?_eq_some_iff.1 hb).1

theorem Is.same (h : Is P k w b f n) (hb : w'.heap[b]? = w.heap[b]?) : Is P k w' b f n := by
  obtain ⟨es, clock, h0, h⟩ := h
  exact ⟨es, clock, hb.trans h0, h⟩

theorem Is.alloc (h : Is P k w b f n) (o : Obj) : Is P k (w.alloc o) b f n := h.same (RowKit.Below.heap_alloc w o b h.lt)

theorem Is.look {z : Value} (c : Bool) (h : Is P k w b f n) (K : Keyed P k) (ht : P.underlying t = some (.map k e)) (hz : (zeroValue e).run P w = .ok z w) {key : Value} {kl : Lit} (hkey : keyOf P k key = some kl) :
    (Instr.lookup t (.map (some b)) key c).run P w = .ok (if c then .tuple #[(f key).getD z, .bool (f key).isSome] else (f key).getD z) w := by
  obtain ⟨es, clock, hb, hs, hk, hf, _⟩ := h
  rcases K.find w hkey es.toList hk with ⟨h1, h2⟩ | ⟨j, e0, h1, h2, h3⟩
  · have h0 : f key = none := by
      cases h : f key with
      | none => rfl
      | some x =>
        obtain ⟨e, he, hek, _⟩ := (hf key x).1 h
        exact absurd hek (h2 e he)
    simp [Instr.lookup, run_underlying ht, MapKept.run_getObj_map hb, K.check w _ hkey, h1, hz, Result.andThen, h0]
  · have h0 : f key = some e0.val := (hf key e0.val).2 ⟨e0, List.mem_of_getElem? h2, h3, rfl⟩
    simp [Instr.lookup, run_underlying ht, MapKept.run_getObj_map hb, K.check w _ hkey, h1, Result.andThen, h0]

theorem look_nil {z : Value} (c : Bool) (K : Keyed P k) (ht : P.underlying t = some (.map k e)) (hz : (zeroValue e).run P w = .ok z w) {key : Value} {kl : Lit} (hkey : keyOf P k key = some kl) :
    (Instr.lookup t (.map none) key c).run P w = .ok (if c then .tuple #[z, .bool false] else z) w := by
  rcases K.find w hkey [] (by simp) with ⟨h1, _⟩ | ⟨j, e0, _, h2, _⟩
  · simp [Instr.lookup, run_underlying ht, K.check w _ hkey, h1, hz, Result.andThen]
  · simp at h2

theorem other_key {es : Array MapEntry} {clock : Nat} (hs : Stamped es clock) {i j : Nat} {x y : MapEntry} (hi : es.toList[i]? = some x) (hj : es.toList[j]? = some y) (hxy : x.key = y.key) : i = j := by
  obtain ⟨_, _, h3⟩ := hs
  have h1 : (es.toList.map (·.key))[i]? = some x.key := by simp [List.getElem?_map, hi]
  have h2 : (es.toList.map (·.key))[j]? = some x.key := by simp [List.getElem?_map, hj, hxy]
  obtain ⟨a1, b1⟩ := List.getElem?_eq_some_iff.1 h1
  obtain ⟨a2, b2⟩ := List.getElem?_eq_some_iff.1 h2
  exact (List.getElem_inj h3).1 (b1.trans b2.symm)

theorem Is.store (h : Is P k w b f n) (K : Keyed P k) (ht : P.underlying t = some (.map k e)) (_hn : n < maxLen) {key val : Value} {kl : Lit} (hkey : keyOf P k key = some kl) :
    ∃ w' n', (Instr.mapUpdate t (.map (some b)) key val).run P w = .ok () w' ∧ Is P k w' b (upd f key (some val)) n' ∧ n' ≤ n + 1 ∧ w.grownBy w' (some b) := by
  obtain ⟨es, clock, hb, hs, hk, hf, hsz⟩ := h
  have hgrow : ∀ o, w.grownBy (setBlock w b o) (some b) := fun o => ⟨rfl, rfl, rfl, by simp [setBlock], fun i _ hi => heap_setBlock_other hb _ (fun e => hi (by rw [e]))⟩
  rcases K.find w hkey es.toList hk with ⟨h1, h2⟩ | ⟨j, e0, h1, h2, h3⟩
  · refine ⟨_, n + 1, by simp [Instr.mapUpdate, run_underlying ht, MapKept.run_getObj_map hb, K.check w false hkey, h1, MapKept.run_setObj_map _ hb, Result.andThen, setBlock], ⟨es.push ⟨key, val, clock⟩, clock + 1, heap_setBlock_same hb _, stamped_push hs h2, ?_, ?_, by simp [hsz]⟩, Nat.le_refl _, hgrow _⟩
    · intro x hx
      simp only [Array.toList_push, List.mem_append, List.mem_singleton] at hx
      rcases hx with hx | rfl
      · exact hk x hx
      · exact ⟨kl, hkey⟩
    · intro v x
      unfold upd
      simp only [Array.toList_push, List.mem_append, List.mem_singleton]
      split
      · rename_i hv
        subst hv
        constructor
        · intro h; cases h; exact ⟨_, .inr rfl, rfl, rfl⟩
        · rintro ⟨e, he | rfl, h4, h5⟩
          · exact absurd h4 (h2 e he)
          · rw [← h5]
      · rename_i hv
        rw [hf]
        constructor
        · rintro ⟨e, he, h⟩; exact ⟨e, .inl he, h⟩
        · rintro ⟨e, he | rfl, h4, h5⟩
          · exact ⟨e, he, h4, h5⟩
          · exact absurd h4.symm hv
  · have hj : es[j]? = some e0 := by simpa using h2
    have hkeyf : ∀ e', es[j]? = some e' → ({ e' with key := key, val := val } : MapEntry).key = e'.key := fun e' he' => by rw [hj] at he'; cases he'; exact h3.symm
    have hlist : (es.modify j (fun e' => { e' with key := key, val := val })).toList = es.toList.set j { e0 with key := key, val := val } := by rw [Array.toList_modify, modify_eq_set _ _ _ _ h2]
    have hjl : j < es.toList.length := (List.getElem?_eq_some_iff.1 h2).1
    have who : ∀ x, x ∈ es.toList.set j { e0 with key := key, val := val } ↔ x = { e0 with key := key, val := val } ∨ (x ∈ es.toList ∧ x.key ≠ key) := by
      intro x
      constructor
      · intro hx
        obtain ⟨i, hi, ex⟩ := List.getElem_of_mem hx
        rw [List.getElem_set] at ex
        split at ex
        · exact Or.inl ex.symm
        · rename_i hne
          have hi' : i < es.toList.length := by simpa using hi
          refine Or.inr ⟨ex ▸ List.getElem_mem hi', fun hk1 => hne ?_⟩
          exact other_key hs h2 (by rw [List.getElem?_eq_getElem hi', ex]) (h3.trans hk1.symm)
      · rintro (rfl | ⟨hx, hne⟩)
        · exact List.mem_iff_getElem.2 ⟨j, by simpa using hjl, by simp⟩
        · obtain ⟨i, hi, ex⟩ := List.getElem_of_mem hx
          refine List.mem_iff_getElem.2 ⟨i, by simpa using hi, ?_⟩
          rw [List.getElem_set, if_neg, ex]
          rintro rfl
          rw [List.getElem?_eq_getElem hi, ex] at h2
          cases h2
          exact hne h3
    refine ⟨_, n, by simp [Instr.mapUpdate, run_underlying ht, MapKept.run_getObj_map hb, K.check w false hkey, h1, hj, h3, K.stays w hkey, MapKept.run_setObj_map _ hb, Result.andThen, setBlock], ⟨es.modify j (fun e' => { e' with key := key, val := val }), clock, heap_setBlock_same hb _, stamped_modify hs _ _ (fun _ _ => rfl) (fun e' _ he' => hkeyf e' he'), ?_, ?_, by simpa using hsz⟩, by omega, hgrow _⟩
    · intro x hx
      rw [hlist, who] at hx
      rcases hx with rfl | ⟨hx, _⟩
      · exact ⟨kl, hkey⟩
      · exact hk x hx
    · intro v x
      unfold upd
      rw [hlist]
      split
      · rename_i hv
        subst hv
        constructor
        · intro h; cases h; exact ⟨_, (who _).2 (.inl rfl), rfl, rfl⟩
        · rintro ⟨e, he, h4, h5⟩
          rcases (who e).1 he with rfl | ⟨_, hne⟩
          · rw [← h5]
          · exact absurd h4 hne
      · rename_i hv
        rw [hf]
        constructor
        · rintro ⟨e, he, h4, h5⟩; exact ⟨e, (who e).2 (.inr ⟨he, by rw [h4]; exact hv⟩), h4, h5⟩
        · rintro ⟨e, he, h4, h5⟩
          rcases (who e).1 he with rfl | ⟨he, _⟩
          · exact absurd h4.symm hv
          · exact ⟨e, he, h4, h5⟩

theorem Is.drop {ty : TypeId} (h : Is P k w b f n) (K : Keyed P k) (ht : P.underlying t = some (.map k e)) {key : Value} {kl : Lit} (hkey : keyOf P k key = some kl) :
    ∃ w' n', (Builtin.delete_ #[t, k] ty #[.map (some b), key]).run P w = .ok (.tuple #[]) w' ∧ Is P k w' b (upd f key none) n' ∧ n' ≤ n ∧ w.grownBy w' (some b) := by
  obtain ⟨es, clock, hb, hs, hk, hf, hsz⟩ := h
  have hgrow : ∀ o, w.grownBy (setBlock w b o) (some b) := fun o => ⟨rfl, rfl, rfl, by simp [setBlock], fun i _ hi => heap_setBlock_other hb _ (fun e => hi (by rw [e]))⟩
  rcases K.find w hkey es.toList hk with ⟨h1, h2⟩ | ⟨j, e0, h1, h2, h3⟩
  · refine ⟨_, n, by simp [Builtin.delete_, run_underlying ht, MapKept.run_getObj_map hb, K.check w _ hkey, h1, MapKept.run_setObj_map _ hb, Result.andThen, setBlock], ⟨es, clock, heap_setBlock_same hb _, hs, hk, ?_, hsz⟩, Nat.le_refl _, hgrow _⟩
    intro v x
    unfold upd
    split
    · rename_i hv
      subst hv
      constructor
      · intro h; cases h
      · rintro ⟨e, he, h4, h5⟩; exact absurd h4 (h2 e he)
    · exact hf v x
  · have hjl : j < es.toList.length := (List.getElem?_eq_some_iff.1 h2).1
    have hjs : j < es.size := by simpa using hjl
    have hsub : (es.eraseIdxIfInBounds j).toList = es.toList.eraseIdx j := by
      unfold Array.eraseIdxIfInBounds
      rw [dif_pos hjs]
      simp
    have who : ∀ x, x ∈ es.toList.eraseIdx j ↔ x ∈ es.toList ∧ x.key ≠ key := by
      intro x
      rw [List.mem_eraseIdx_iff_getElem?]
      constructor
      · rintro ⟨i, hne, hi⟩
        exact ⟨List.mem_of_getElem? hi, fun hk1 => hne (other_key hs hi h2 (hk1.trans h3.symm))⟩
      · rintro ⟨hx, hne⟩
        obtain ⟨i, hi⟩ := List.mem_iff_getElem?.1 hx
        refine ⟨i, ?_, hi⟩
        rintro rfl
        rw [hi] at h2
        cases h2
        exact hne h3
    refine ⟨_, (es.eraseIdxIfInBounds j).size, by simp [Builtin.delete_, run_underlying ht, MapKept.run_getObj_map hb, K.check w _ hkey, h1, MapKept.run_setObj_map _ hb, Result.andThen, setBlock], ⟨es.eraseIdxIfInBounds j, clock, heap_setBlock_same hb _, stamped_erase hs j, ?_, ?_, rfl⟩, Nat.le_trans (MapFrom.size_erase es j) (by omega), hgrow _⟩
    · intro x hx
      rw [hsub, who] at hx
      exact hk x hx.1
    · intro v x
      unfold upd
      rw [hsub]
      split
      · rename_i hv
        subst hv
        constructor
        · intro h; cases h
        · rintro ⟨e, he, h4, h5⟩; exact absurd h4 ((who e).1 he).2
      · rename_i hv
        rw [hf]
        constructor
        · rintro ⟨e, he, h4, h5⟩; exact ⟨e, (who e).2 ⟨he, by rw [h4]; exact hv⟩, h4, h5⟩
        · rintro ⟨e, he, h4, h5⟩; exact ⟨e, ((who e).1 he).1, h4, h5⟩

/-- A map has no entries exactly if its function is nowhere defined. -/
theorem Is.empty (h : Is P k w b f n) : n = 0 ↔ ∀ v, f v = none := by
  obtain ⟨es, clock, hb, hs, hk, hf, rfl⟩ := h
  constructor
  · intro h v
    cases hv : f v with
    | none => rfl
    | some x =>
      obtain ⟨e, he, _⟩ := (hf v x).1 hv
      have : es.toList = [] := by rw [← List.length_eq_zero_iff]; simpa using h
      rw [this] at he
      cases he
  · intro h
    have : es.toList = [] := by
      rcases hl : es.toList with _ | ⟨e, r⟩
      · rfl
      · have := (hf e.key e.val).2 ⟨e, by rw [hl]; simp, rfl, rfl⟩
        rw [h] at this
        cases this
    simpa using congrArg List.length this

section
variable {ops : Array Oper} {rest : List Oper} {o : Oper} {a : Act} {Q : Exit → Act → World → Prop}

theorem wpList_look (w : World) (hg : o.guard = none) (m x : Operand) (t : TypeId) (c : Bool) (hop : o.op = Op.lookup t m x c) (k e : TypeId) (K : Keyed P k) (ht : P.underlying t = some (.map k e)) {z : Value} (hz : (zeroValue e).run P w = .ok z w)
    (b n : Nat) (f : Value → Option Value) (hm : a.eval m = .map (some b)) (h : Is P k w b f n) (key : Value) (kl : Lit) (hx : a.eval x = key) (hkey : keyOf P k key = some kl)
    (hK : wpList P ops Q rest (a.put o.dst (if c then .tuple #[(f key).getD z, .bool (f key).isSome] else (f key).getD z)) w) : wpList P ops Q (o :: rest) a w := by
  refine wpList_plain hg fun K' hK' => ?_
  have hrun := h.look c K ht hz hkey
  unfold Oper.wp
  simp [execOp, hop, hm, hx, hrun, Result.andThen]
  exact hK' _ _ (by simpa using hK)

theorem wpList_look1 (w : World) (hg : o.guard = none) (m x : Operand) (t : TypeId) (hop : o.op = Op.lookup t m x false) (k e : TypeId) (K : Keyed P k) (ht : P.underlying t = some (.map k e)) {z : Value} (hz : (zeroValue e).run P w = .ok z w)
    (b n : Nat) (f : Value → Option Value) (hm : a.eval m = .map (some b)) (h : Is P k w b f n) (key : Value) (kl : Lit) (hx : a.eval x = key) (hkey : keyOf P k key = some kl) (v : Value) (hv : (f key).getD z = v)
    (hK : wpList P ops Q rest (a.put o.dst v) w) : wpList P ops Q (o :: rest) a w :=
  wpList_look w hg m x t false hop k e K ht hz b n f hm h key kl hx hkey (by simpa [hv] using hK)

theorem wpList_store (w : World) (hg : o.guard = none) (m x v : Operand) (t : TypeId) (hop : o.op = Op.mapUpdate t m x v) (k e : TypeId) (K : Keyed P k) (ht : P.underlying t = some (.map k e))
    (b n : Nat) (f : Value → Option Value) (hm : a.eval m = .map (some b)) (h : Is P k w b f n) (hn : n < maxLen) (key val : Value) (kl : Lit) (hx : a.eval x = key) (hv : a.eval v = val) (hkey : keyOf P k key = some kl)
    (hK : ∀ w' n', Is P k w' b (upd f key (some val)) n' → n' ≤ n + 1 → w.grownBy w' (some b) → wpList P ops Q rest (a.put o.dst undef) w') : wpList P ops Q (o :: rest) a w := by
  refine wpList_plain hg fun K' hK' => ?_
  obtain ⟨w', n', hrun, r1, r2, r3⟩ := h.store (val := val) K ht hn hkey
  unfold Oper.wp
  simp [execOp, hop, hm, hx, hv, hrun, Result.andThen]
  exact hK' _ _ (hK w' n' r1 r2 r3)

end
end Go.Mp
