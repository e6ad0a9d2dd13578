/- The vocabulary of these proofs: plain data of the program, how a slice in memory reads as a list, and how the model builds and compares the program's small structs. No conditions. -/
import Derived.Test.YtccgleiildgckaaProg
import Derived.WalkKit
import Derived.WalkSpells
import Derived.WalkLawsBesides
import Derived.BigQuiet
import Derived.Deep.QuietTactic
import Derived.Deep.Draws
import Derived.Maps.AppendAt
import Derived.Lib.Hide
import Derived.Deep.RegionHeld3
import Derived.Deep.AppendLies
import Derived.Deep.DrawnRows
namespace Go.Proofs.Ytccgleiildgckaa
open Go.RowKit

/-! ### plain data -/
/-- A reference to a line. -/
structure Rf where
  e : Int
  l : Int
deriving DecidableEq
/-- An open line. -/
structure On where
  r : Rf
  a : Int
deriving DecidableEq
/-- A proposal. -/
structure Pr where
  x : List Rf
  y : List Rf
deriving DecidableEq

def rfC (r : Rf) : List Value := [.int .i64 r.e, .int .i64 r.l]
def onC (x : On) : List Value := [.int .i64 x.r.e, .int .i64 x.r.l, .int .i64 x.a]
abbrev rfV (r : Rf) : Value := .agg #[.int .i64 r.e, .int .i64 r.l]
abbrev onV (x : On) : Value := .agg #[.int .i64 x.r.e, .int .i64 x.r.l, .int .i64 x.a]
def inC (n : Int) : List Value := [.int .i64 n]

/-! ### a slice that reads as a list (nil too) -/
/-- The slice with address A reads as zs; an element x has the k cells enc x. Each place lies below block B. -/
def Rd {α : Type} (enc : α → List Value) (k : Nat) (B : Nat) (w : World) (A : Option Addr) (zs : List α) : Prop :=
  ∀ i x, zs[i]? = some x → ∃ b off, A = some ⟨b, off, none⟩ ∧ b < B ∧ ∀ j u, (enc x)[j]? = some u → w.cell? ⟨b, off + i * k + j, none⟩ = some u

section
variable {α : Type} {enc : α → List Value} {k B : Nat} {w w' : World} {A : Option Addr} {zs : List α}
theorem Rd.nil : Rd enc k B w A [] := fun i x h => by simp at h
theorem Rd.below (h : Rd enc k B w A zs) (hb : Below B w w') : Rd enc k B w' A zs := fun i x hx => by
  obtain ⟨b, off, e, hlt, hc⟩ := h i x hx
  exact ⟨b, off, e, hlt, fun j u hu => (hb.cell (p := ⟨b, off + i * k + j, none⟩) hlt).trans (hc j u hu)⟩
theorem Rd.mono (h : Rd enc k B w A zs) {B' : Nat} (hB : B ≤ B') : Rd enc k B' w A zs := fun i x hx => by
  obtain ⟨b, off, e, hlt, hc⟩ := h i x hx
  exact ⟨b, off, e, by omega, hc⟩
theorem Rd.at_ (h : Rd enc k B w A zs) {i : Nat} (hi : i < zs.length) : ∃ b off, A = some ⟨b, off, none⟩ ∧ b < B ∧ ∀ j u, (enc zs[i])[j]? = some u → w.cell? ⟨b, off + i * k + j, none⟩ = some u :=
  h i _ (List.getElem?_eq_getElem hi)
/-- A prefix reads as a prefix. -/
theorem Rd.take (h : Rd enc k B w A zs) (n : Nat) : Rd enc k B w A (zs.take n) := fun i x hx => h i x (by
  rw [List.getElem?_take] at hx; split at hx
  · exact hx
  · cases hx)
/-- A row of the call's own, of the cells of zs. -/
theorem Rd.of_own {base : Nat} {e : TypeId} {n c : Nat} (hk : ∀ x, (enc x).length = k) (h : w.ownsRow base e k (.slice A n c) n (zs.flatMap enc)) (hn : zs.length = n) : Rd enc k w.heap.size w A zs := by
  intro i x hx
  have hi : i < zs.length := (List.getElem?_eq_some_iff.1 hx).1
  rcases h.2 with ⟨e1, e2⟩ | ⟨g, cap, cur, hv, _, hg, _⟩
  · subst hn; omega
  · have hA : A = some ⟨g, 0, none⟩ := by injection hv
    subst hA
    refine ⟨g, 0, rfl, (Array.getElem?_eq_some_iff.1 hg).1, fun j u hu => ?_⟩
    have hjk : j < k := by rw [← hk x]; exact (List.getElem?_eq_some_iff.1 hu).1
    have key : ∀ (l : List α) (i : Nat), l[i]? = some x → (l.flatMap enc)[i * k + j]? = some u := by
      intro l
      induction l with
      | nil => intro i h; simp at h
      | cons y l ih =>
        intro i h
        rw [List.flatMap_cons]
        cases i with
        | zero =>
          simp at h; subst h
          rw [List.getElem?_append_left (by simp [hk]; omega)]
          simpa using hu
        | succ i =>
          rw [List.getElem?_append_right (by rw [hk, Nat.succ_mul]; omega), hk]
          have : (i + 1) * k + j - k = i * k + j := by rw [Nat.succ_mul]; omega
          rw [this]
          exact ih i (by simpa using h)
    have := h.cells (g := g) rfl _ _ (key zs i hx)
    simpa [Addr.add_lit] using this
end

theorem rd_rf {B w A zs} {i : Nat} (h : Rd rfC 2 B w A zs) (hi : i < zs.length) : ∃ b off, A = some ⟨b, off, none⟩ ∧ b < B ∧
    w.cell? ⟨b, off + i * 2, none⟩ = some (.int .i64 zs[i].e) ∧ w.cell? ⟨b, off + i * 2 + 1, none⟩ = some (.int .i64 zs[i].l) := by
  obtain ⟨b, off, e, hb, hc⟩ := h.at_ hi
  exact ⟨b, off, e, hb, hc 0 _ rfl, hc 1 _ rfl⟩
theorem rd_on {B w A zs} {i : Nat} (h : Rd onC 3 B w A zs) (hi : i < zs.length) : ∃ b off, A = some ⟨b, off, none⟩ ∧ b < B ∧
    w.cell? ⟨b, off + i * 3, none⟩ = some (.int .i64 zs[i].r.e) ∧ w.cell? ⟨b, off + i * 3 + 1, none⟩ = some (.int .i64 zs[i].r.l) ∧ w.cell? ⟨b, off + i * 3 + 2, none⟩ = some (.int .i64 zs[i].a) := by
  obtain ⟨b, off, e, hb, hc⟩ := h.at_ hi
  exact ⟨b, off, e, hb, hc 0 _ rfl, hc 1 _ rfl, hc 2 _ rfl⟩
theorem rd_in {B w A zs} {i : Nat} (h : Rd inC 1 B w A zs) (hi : i < zs.length) : ∃ b off, A = some ⟨b, off, none⟩ ∧ b < B ∧
    w.cell? ⟨b, off + i, none⟩ = some (.int .i64 zs[i]) := by
  obtain ⟨b, off, e, hb, hc⟩ := h.at_ hi
  exact ⟨b, off, e, hb, by simpa using hc 0 _ rfl⟩

/-! ### a block of the call's own, known whole -/
def Blk (w : World) (g : Nat) (t : TypeId) (cs : Array Value) : Prop := w.heap[g]? = some (.cells cs t (0, 0))
section
variable {w w' : World} {g : Nat} {t : TypeId} {cs : Array Value}
theorem Blk.lt (h : Blk w g t cs) : g < w.heap.size := lt_of_block h
theorem Blk.cell (h : Blk w g t cs) (i : Nat) : w.cell? ⟨g, i, none⟩ = cs[i]? := cell_of_row w g i cs t (0, 0) h
theorem Blk.frozen (h : Blk w g t cs) (i : Nat) : w.frozen? ⟨g, i, none⟩ = false := by
  unfold Blk at h
  simp [World.frozen?, h]
theorem Blk.new (w : World) (t : TypeId) (cs : Array Value) : Blk (w.alloc (.cells cs t)) w.heap.size t cs := heap_alloc_new w _
theorem Blk.alloc (h : Blk w g t cs) (o : Obj) : Blk (w.alloc o) g t cs := (Below.heap_alloc w o g h.lt).trans h
theorem Blk.set_ (h : Blk w g t cs) (i : Nat) (u : Value) : Blk (w.setCell ⟨g, i, none⟩ u) g t (cs.setIfInBounds i u) := by
  unfold Blk at h ⊢
  simp [World.setCell, Array.getElem?_modify, h]
theorem Blk.far (h : Blk w g t cs) {p : Addr} (hp : g ≠ p.block) (u : Value) : Blk (w.setCell p u) g t cs := (Below.heap_setCell w p u g hp).trans h
theorem Blk.below {B : Nat} (h : Blk w g t cs) (hb : Below B w w') (hg : g < B) : Blk w' g t cs := (hb.block g hg).trans h
theorem Blk.grown {row : Option Nat} (h : Blk w g t cs) (hb : w.grownBy w' row) (hg : some g ≠ row) : Blk w' g t cs := (hb.block g h.lt hg).trans h
end

/-! ### how the model builds and compares -/
@[go_sem ↓] theorem eqRf (a b c d : Int) (w : World) : (binOp .eql 41 (.agg #[.int .i64 a, .int .i64 b]) (.agg #[.int .i64 c, .int .i64 d])).run Try.prog w = .ok (.bool (a == c && b == d)) w := by
  have u3 := Try.underlying3
  have a3 := Try.isAgg3
  have z3 := Try.sizeOf3
  have hS : Try.prog.underlying 41 = some (.struct (Try.prog.fieldsOf 41)) := by kernel_rfl
  have hp : Try.prog.stoodInHeld 41 = false := by kernel_rfl
  rw [run_eql_struct, show (10000 : Nat) = 9999 + 1 from rfl, run_equalIn_agg w 9999 41 _ _ hS hp]
  simp only [Program.fieldsOf, Try.underlying41]
  go_simp
  by_cases h1 : a = c <;> by_cases h2 : b = d <;> simp [h1, h2]
@[go_sem ↓] theorem eqGuardRf (op : BinOp) (x y : Operand) (xs ys : Array Value) (w : World) : (eqGuard op 41 x y (.agg xs) (.agg ys)).run Try.prog w = .ok () w :=
  run_eqGuard_agg w op 41 x y xs ys (by kernel_rfl)

/-- Two references are one. -/
def rfEq (x y : Rf) : Bool := decide (x = y)
theorem rfEq_true {x y : Rf} : rfEq x y = true ↔ x = y := by simp [rfEq]
theorem rfEq_false {x y : Rf} : rfEq x y = false ↔ x ≠ y := by simp [rfEq]
theorem rfEq_self (x : Rf) : rfEq x x = true := by simp [rfEq]
@[go_sem ↓ high] theorem eqRfs (x y : Rf) (w : World) : (binOp .eql 41 (.agg #[.int .i64 x.e, .int .i64 x.l]) (.agg #[.int .i64 y.e, .int .i64 y.l])).run Try.prog w = .ok (.bool (rfEq x y)) w := by
  rw [eqRf]
  congr 2
  cases x; cases y; rw [rfEq, Bool.eq_iff_iff]; simp [Rf.mk.injEq]

@[go_sem ↓ high] theorem neqRfs (x y : Rf) (w : World) : (binOp .neq 41 (.agg #[.int .i64 x.e, .int .i64 x.l]) (.agg #[.int .i64 y.e, .int .i64 y.l])).run Try.prog w = .ok (.bool (!rfEq x y)) w := by
  have h := eqRfs x y w
  have u3 := Try.underlying3
  simp only [binOp] at h ⊢
  simp only [Sem.run_bind] at h ⊢
  revert h
  generalize (Op.equal 41 _ _).run Try.prog w = r
  intro h
  cases r with
  | ok b w' => simp [Result.andThen] at h ⊢; exact ⟨h.1, h.2⟩
  | halt e w' => simp [Result.andThen] at h

theorem below_drewNs {B : Nat} {a w : World} (h : Below B a w) (n : Nat) : Below B a (w.drewN n) := ⟨h.os, h.tape, h.output, h.size, h.block⟩
theorem quiet_add_same {P : Program} {f : FuncId} {args : Array Value} {w : World} {a n : Nat} {v : Value}
    (h : Calls P f args (w.drewN (a + n)) fun e w' => e = .returned v ∧ w' = w.drewN (a + n)) :
    Calls P f args (w.drewN (a + n)) fun e w'' => e = .returned v ∧ ∃ m, w'' = w.drewN (a + m) :=
  h.mono fun _ _ ⟨he, hm⟩ => ⟨he, n, hm⟩
theorem quiet_add {P : Program} {f : FuncId} {args : Array Value} {w : World} {a n : Nat} {v : Value}
    (h : Calls P f args (w.drewN (a + n)) fun e w' => e = .returned v ∧ ∃ m, w' = (w.drewN (a + n)).drewN m) :
    Calls P f args (w.drewN (a + n)) fun e w'' => e = .returned v ∧ ∃ m, w'' = w.drewN (a + m) :=
  h.mono fun _ _ ⟨he, m, hm⟩ => ⟨he, n + m, by rw [hm, World.drewN_drewN, Nat.add_assoc]⟩
theorem drew_two (w : World) (a b : Nat) : ∃ m, (w.drewN a).drewN b = w.drewN m := ⟨a + b, by rw [World.drewN_drewN]⟩
theorem own_drewN {w : World} {base : Nat} {e : TypeId} {size : Nat} {v : Value} {n : Nat} {xs : List Value} (h : w.ownsRow base e size v n xs) (q : Nat) : (w.drewN q).ownsRow base e size v n xs := h
theorem blk_drewN {w : World} {g : Nat} {t : TypeId} {cs : Array Value} (h : Blk w g t cs) (q : Nat) : Blk (w.drewN q) g t cs := h
theorem grown_drewN {w w' : World} {row : Option Nat} {q : Nat} (h : (w.drewN q).grownBy w' row) : w.grownBy w' row := ⟨h.os, h.tape, h.output, h.size, h.block⟩
theorem own_base {w : World} {base base' : Nat} {e : TypeId} {size : Nat} {v : Value} {n : Nat} {xs : List Value} (h : w.ownsRow base e size v n xs) (hb : base' ≤ base) : w.ownsRow base' e size v n xs := by
  refine ⟨h.1, h.2.imp id ?_⟩
  rintro ⟨g, cap, cur, hv, hg, r⟩
  exact ⟨g, cap, cur, hv, by omega, r⟩
theorem own_below {w w' : World} {base : Nat} {e : TypeId} {size : Nat} {v : Value} {n : Nat} {xs : List Value} (h : w.ownsRow base e size v n xs) (hb : Below w.heap.size w w') : w'.ownsRow base e size v n xs := by
  refine ⟨h.1, h.2.imp id ?_⟩
  rintro ⟨g, cap, cur, hv, hg, hh, r⟩
  exact ⟨g, cap, cur, hv, hg, (hb.block g (lt_of_block hh)).trans hh, r⟩
theorem own_ne {w : World} {base : Nat} {e : TypeId} {size : Nat} {v : Value} {n : Nat} {xs : List Value} (h : w.ownsRow base e size v n xs) {g : Nat} (hg : g < base) : some g ≠ v.ownBlock := fun e => by
  have := (h.lt _ e.symm).1; omega
theorem own_ge {w : World} {base : Nat} {e : TypeId} {size : Nat} {v : Value} {n : Nat} {xs : List Value} (h : w.ownsRow base e size v n xs) {B : Nat} (hB : B ≤ base) : ∀ k, v.ownBlock = some k → B ≤ k := fun k e => by
  have := (h.lt _ e).1; omega
theorem mem_take_succ {α : Type} [DecidableEq α] {zs : List α} {k : Nat} (hk : k < zs.length) {r : α} (h : r ∉ zs.take k) (hne : zs[k] ≠ r) : r ∉ zs.take (k + 1) := by
  rw [List.take_succ_eq_append_getElem hk]
  simp only [List.mem_append, List.mem_singleton, not_or]
  exact ⟨h, fun e => hne e.symm⟩

theorem ret_bool {a b : Bool} (h : a = b) : Ending.returned (.bool a) = .returned (.bool b) := by rw [h]
theorem ret_int {a b : Int} (h : a = b) : Ending.returned (.int .i64 a) = .returned (.int .i64 b) := by rw [h]
theorem cells_new (w : World) (cs : Array Value) (t : TypeId) (l : List Value) (h : cs.toList = l) : ∀ j u, l[j]? = some u → (w.alloc (.cells cs t)).cell? ((⟨w.heap.size, 0, none⟩ : Addr).add j) = some u := by
  intro j u hu
  have := (Blk.new w t cs).cell j
  subst h
  rw [Addr.add_lit, Nat.zero_add, this]
  simpa using hu
theorem Try.info48 : (Try.prog.info? 48).map (fun i => (i.zero, i.size, i.bytes)) = some (some (.agg #[.int .i64 0, .int .i64 0, .int .i64 0]), 3, 24) := by kernel_rfl
theorem Try.info50 : (Try.prog.info? 50).map (fun i => (i.zero, i.size, i.bytes)) = some (some (.agg #[.int .i64 0, .int .i64 0, .int .i64 0]), 3, 24) := by kernel_rfl
theorem Try.info41 : (Try.prog.info? 41).map (fun i => (i.zero, i.size, i.bytes)) = some (some (.agg #[.int .i64 0, .int .i64 0]), 2, 16) := by kernel_rfl
theorem Try.info3 : (Try.prog.info? 3).map (fun i => (i.zero, i.size, i.bytes)) = some (some (.int .i64 0), 1, 8) := by kernel_rfl
theorem Rd.step {α : Type} {enc : α → List Value} {k B : Nat} {w w' : World} {A : Option Addr} {zs : List α} (h : Rd enc k B w A zs) {B' : Nat} (hb : Below B' w w') (hB : B ≤ B') : Rd enc k B w' A zs := h.below (hb.mono hB)
theorem flat_take_succ {α : Type} (enc : α → List Value) {zs : List α} {k : Nat} (hk : k < zs.length) : (zs.take (k + 1)).flatMap enc = (zs.take k).flatMap enc ++ enc zs[k] := by
  rw [List.take_succ_eq_append_getElem hk, List.flatMap_append]; simp only [List.flatMap_cons, List.flatMap_nil, List.append_nil]
/-- A row owned whole behind a step that only makes new blocks or writes its own. -/
theorem own_ne_new {w : World} {base : Nat} {e : TypeId} {size : Nat} {v : Value} {n : Nat} {xs : List Value} (h : w.ownsRow base e size v n xs) : v.ownBlock ≠ some w.heap.size := by
  intro hv
  have := (h.lt _ hv).2
  omega

theorem own_form {w : World} {base : Nat} {e : TypeId} {size : Nat} {v : Value} {n : Nat} {xs : List Value} (h : w.ownsRow base e size v n xs) : ∃ A c, v = .slice A n c := by
  rcases h.2 with ⟨rfl, rfl⟩ | ⟨g, cap, cur, rfl, _⟩
  · exact ⟨_, _, rfl⟩
  · exact ⟨_, _, rfl⟩

/-- append(s, ..) of a block of new elements that has just been laid: 'W' is the world ahead of that block. -/
theorem wpList_append_new {P : Program} {W : World} {ops : Array Oper} {rest : List Oper} {o : Oper} {a : Act} {Q : Exit → Act → World → Prop} {cs : Array Value} {e' : TypeId} (hgd : o.guard = none) (s x : Operand) (t : TypeId)
    (ho : o.op = .call { callee := .builtin .append, args := #[s, x], argTypes := #[t, t] })
    (base : Nat) (e : TypeId) (i : TypeInfo) (z : Value) (size bytes : Nat) (ht : P.underlying t = some (.slice e)) (hi : P.info? e = some i) (hz : i.zero = some z)
    (hsize : i.size = size) (hby : i.bytes = bytes) (hzs : z.cells.size = size) (hsz : 0 < size)
    (v : Value) (n : Nat) (xs : List Value) (hs : a.eval s = v) (hown : W.ownsRow base e size v n xs)
    (g m c : Nat) (hx : a.eval x = .slice (some ⟨g, 0, none⟩) m c) (hg : W.heap.size = g) (news : List Value) (hnews : cs.toList = news) (hl : news.length = m * size) (h1 : ∀ u ∈ news, u.oneCell' = true)
    (h63 : n + m ≤ 1099511627776) (hbytes : bytes ≤ 64) (hbase : base ≤ W.heap.size)
    (h : ∀ A' c' w', w'.ownsRow base e size (.slice A' (n + m) c') (n + m) (xs ++ news) → W.grownBy w' v.ownBlock → ((Value.slice A' (n + m) c').ownBlock = v.ownBlock ∨ ∀ b, (Value.slice A' (n + m) c').ownBlock = some b → W.heap.size < b) →
      wpList P ops Q rest (a.put o.dst (.slice A' (n + m) c')) w') :
    wpList P ops Q (o :: rest) a (W.alloc (.cells cs e')) := by
  subst hg
  refine wpList_append_own_at _ hgd s x t ho base e i z size bytes ht hi hz hsize hby hzs hsz v n xs hs (hown.alloc _) ⟨W.heap.size, 0, none⟩ m c news hx hl (cells_new W cs e' news hnews) h1 (by unfold maxLen; omega) ?_ (by simp; omega) ?_
  · calc (n + m) * bytes ≤ 1099511627776 * 64 := Nat.mul_le_mul h63 hbytes
      _ ≤ _ := by decide
  · intro v' w' hown' hgrow _ hloc
    obtain ⟨A', c', rfl⟩ := own_form hown'
    refine h A' c' w' hown' ((World.grownBy_alloc W _ _).trans hgrow) (hloc.imp id fun e b hb => ?_)
    rw [e] at hb
    simp at hb
    omega

/-- append(s, src...) of a source that reads as a list of cells, nil too. -/
theorem wpList_append_src {P : Program} {w : World} {ops : Array Oper} {rest : List Oper} {o : Oper} {a : Act} {Q : Exit → Act → World → Prop} (hgd : o.guard = none) (s x : Operand) (t : TypeId)
    (ho : o.op = .call { callee := .builtin .append, args := #[s, x], argTypes := #[t, t] })
    (base : Nat) (e : TypeId) (i : TypeInfo) (z : Value) (size bytes : Nat) (ht : P.underlying t = some (.slice e)) (hi : P.info? e = some i) (hz : i.zero = some z)
    (hsize : i.size = size) (hby : i.bytes = bytes) (hzs : z.cells.size = size) (hsz : 0 < size)
    (v : Value) (n : Nat) (xs : List Value) (hs : a.eval s = v) (hown : w.ownsRow base e size v n xs)
    (A : Option Addr) (m c : Nat) (news : List Value) (hx : a.eval x = .slice A m c) (hl : news.length = m * size) (hsrc : ∀ j u, news[j]? = some u → ∃ b off, A = some ⟨b, off, none⟩ ∧ w.cell? ⟨b, off + j, none⟩ = some u) (h1 : ∀ u ∈ news, u.oneCell' = true)
    (h63 : n + m ≤ 1099511627776) (hbytes : bytes ≤ 64) (hbase : base ≤ w.heap.size)
    (h : ∀ A' c' w', w'.ownsRow base e size (.slice A' (n + m) c') (n + m) (xs ++ news) → w.grownBy w' v.ownBlock → ((Value.slice A' (n + m) c').ownBlock = v.ownBlock ∨ ∀ b, (Value.slice A' (n + m) c').ownBlock = some b → w.heap.size ≤ b) →
      wpList P ops Q rest (a.put o.dst (.slice A' (n + m) c')) w') :
    wpList P ops Q (o :: rest) a w := by
  cases A with
  | none =>
    have hn : news = [] := by
      cases news with
      | nil => rfl
      | cons u l => obtain ⟨_, _, h, _⟩ := hsrc 0 u rfl; cases h
    subst hn
    have hm : m = 0 := by
      rcases Nat.eq_zero_or_pos m with h0 | h0
      · exact h0
      · have := Nat.mul_pos h0 hsz
        rw [← hl] at this
        simp at this
    subst hm
    have hrun : (Builtin.append_ #[t, t] o.type #[v, .slice none 0 c]).run P w = .ok v w := by
      rcases hown.2 with ⟨rfl, rfl⟩ | ⟨g, cap, cur, rfl, _, _, hnc, _⟩
      · simp [Builtin.append_, run_underlying ht, sizeOf, typeInfo, hi, Builtin.lenOf, Builtin.firstCells]
      · simp [Builtin.append_, run_underlying ht, sizeOf, typeInfo, hi, Builtin.lenOf, Builtin.firstCells, hnc, storeCells]
    obtain ⟨A', c', rfl⟩ := own_form hown
    refine wpList_plain hgd fun K hK => ?_
    unfold Oper.wp execOp
    simp only [ho, resolve, invoke, builtin, Sem.run_bind, Sem.run_pure, Result.andThen_ok, List.map_toArray, List.map_cons, List.map_nil, hs, hx, hrun]
    exact hK _ _ (h A' c' w (by simpa using hown) ⟨rfl, rfl, rfl, Nat.le_refl _, fun _ _ _ => rfl⟩ (.inl rfl))
  | some ad =>
    refine wpList_append_own_at _ hgd s x t ho base e i z size bytes ht hi hz hsize hby hzs hsz v n xs hs hown ad m c news hx hl (fun j u hu => ?_) h1 (by unfold maxLen; omega) ?_ hbase ?_
    · obtain ⟨b, off, e1, hc⟩ := hsrc j u hu
      injection e1 with e1
      subst e1
      rw [Addr.add_lit]; exact hc
    · calc (n + m) * bytes ≤ 1099511627776 * 64 := Nat.mul_le_mul h63 hbytes
        _ ≤ _ := by decide
    · intro v' w' hown' hgrow _ hloc
      obtain ⟨A', c', rfl⟩ := own_form hown'
      refine h A' c' w' hown' hgrow (hloc.imp id fun e b hb => ?_)
      rw [e] at hb
      simp at hb
      omega
/-- A row of the call's own as such a source. -/
theorem own_src {w : World} {base : Nat} {e : TypeId} {size : Nat} {A : Option Addr} {c n m : Nat} {xs : List Value} (h : w.ownsRow base e size (.slice A n c) m xs) : ∀ j u, xs[j]? = some u → ∃ b off, A = some ⟨b, off, none⟩ ∧ w.cell? ⟨b, off + j, none⟩ = some u := by
  intro j u hu
  rcases h.2 with ⟨e1, e2⟩ | ⟨g, cap, cur, hv, _⟩
  · have := h.1
    rw [e2] at this
    simp at this
    subst this
    simp at hu
  · have hA : A = some ⟨g, 0, none⟩ := by injection hv
    subst hA
    exact ⟨g, 0, rfl, by simpa [Addr.add_lit] using h.cells (g := g) rfl j u hu⟩

/-- append(s, ..) of a block that is known whole, in whatever world, at a step of a region that draws its order. -/
theorem step_append_blk {P : Program} {w : World} {ops : Array Oper} {o : Oper} {a : Act} {K : Act → World → Prop} {Q : Exit → Act → World → Prop} {E : Prop} (hgd : o.guard = none) (s x : Operand) (t : TypeId)
    (ho : o.op = .call { callee := .builtin .append, args := #[s, x], argTypes := #[t, t] })
    (base : Nat) (e : TypeId) (i : TypeInfo) (z : Value) (size bytes : Nat) (ht : P.underlying t = some (.slice e)) (hi : P.info? e = some i) (hz : i.zero = some z)
    (hsize : i.size = size) (hby : i.bytes = bytes) (hzs : z.cells.size = size) (hsz : 0 < size)
    (v : Value) (n : Nat) (xs : List Value) (hs : a.eval s = v) (hown : w.ownsRow base e size v n xs)
    (g m c : Nat) (hx : a.eval x = .slice (some ⟨g, 0, none⟩) m c) (e' : TypeId) (cs : Array Value) (hblk : Blk w g e' cs) (news : List Value) (hnews : cs.toList = news) (hl : news.length = m * size) (h1 : ∀ u ∈ news, u.oneCell' = true)
    (h63 : n + m ≤ 1099511627776) (hbytes : bytes ≤ 64) (hbase : base ≤ w.heap.size)
    (h : ∀ A' c' w', w'.ownsRow base e size (.slice A' (n + m) c') (n + m) (xs ++ news) → w.grownBy w' v.ownBlock → ((Value.slice A' (n + m) c').ownBlock = v.ownBlock ∨ ∀ b, (Value.slice A' (n + m) c').ownBlock = some b → w.heap.size ≤ b) →
      K (a.put o.dst (.slice A' (n + m) c')) w') :
    if Region.wanted o (yielded ops a.tmps) = true then Oper.wp P o a w K Q else E := by
  have hw : Region.wanted o (yielded ops a.tmps) = true := by simp [Region.wanted, hgd]
  rw [if_pos hw]
  have hcell : ∀ j u, news[j]? = some u → w.cell? ((⟨g, 0, none⟩ : Addr).add j) = some u := by
    intro j u hu
    subst hnews
    rw [Addr.add_lit, Nat.zero_add, hblk.cell]
    simpa using hu
  obtain ⟨v', w', hr, h2, h3, h4, h5⟩ := run_append_own_at (P := P) w base t o.type e i z size bytes ht hi hz hsize hby hzs hsz v n xs hown ⟨g, 0, none⟩ m c news hl hcell h1 (by unfold maxLen; omega)
    (by calc (n + m) * bytes ≤ 1099511627776 * 64 := Nat.mul_le_mul h63 hbytes
          _ ≤ _ := by decide) hbase
  unfold Oper.wp execOp
  simp only [ho, resolve, invoke, builtin, Sem.run_bind, Sem.run_pure, Result.andThen_ok, List.map_toArray, List.map_cons, List.map_nil, hs, hx, hr]
  obtain ⟨A', c', rfl⟩ := own_form h2
  exact h A' c' w' h2 h3 (h5.imp id fun e b hb => by rw [e] at hb; simp at hb; omega)
theorem blk_drew {w : World} {g : Nat} {t : TypeId} {cs : Array Value} (h : Blk w g t cs) : Blk w.drew g t cs := h
theorem own_drew {w : World} {base : Nat} {e : TypeId} {size : Nat} {v : Value} {n : Nat} {xs : List Value} (h : w.ownsRow base e size v n xs) : w.drew.ownsRow base e size v n xs := h
theorem below_drew {B : Nat} {a w : World} (h : Below B a w) : Below B a w.drew := h.drew

end Go.Proofs.Ytccgleiildgckaa
