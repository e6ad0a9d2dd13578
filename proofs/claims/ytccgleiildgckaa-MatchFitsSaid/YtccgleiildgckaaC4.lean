/- The finder seen from one side (many takes one side's lines and the other's), and what many does. -/
import Derived.Test.YtccgleiildgckaaC3
namespace Go.Proofs.Ytccgleiildgckaa
open Go.RowKit

/-- The finder seen from one side: fl: from the right one. -/
structure Fv where
  f : Fc
  fl : Bool
def Fv.X (v : Fv) : List On := if v.fl then v.f.R else v.f.L
def Fv.Y (v : Fv) : List On := if v.fl then v.f.L else v.f.R
def Fv.AX (v : Fv) : Option Addr := if v.fl then v.f.A2 else v.f.A1
def Fv.AY (v : Fv) : Option Addr := if v.fl then v.f.A1 else v.f.A2
def Fv.cX (v : Fv) : Nat := if v.fl then v.f.c2 else v.f.c1
def Fv.cY (v : Fv) : Nat := if v.fl then v.f.c1 else v.f.c2
def Fv.UX (v : Fv) : Nat := if v.fl then v.f.U2 else v.f.U1
def Fv.UY (v : Fv) : Nat := if v.fl then v.f.U1 else v.f.U2
def Fv.oX (v : Fv) : Nat := if v.fl then 2 else 0
def Fv.oY (v : Fv) : Nat := if v.fl then 0 else 2
/-- What has been found, from one side. -/
structure Gs where
  ux : List Bool
  uy : List Bool
  ps : List Pr
def Fv.st (v : Fv) (s : Gs) : Fs := if v.fl then ⟨s.uy, s.ux, s.ps⟩ else ⟨s.ux, s.uy, s.ps⟩
theorem Fv.st_ps (v : Fv) (s : Gs) : (v.st s).ps = s.ps := by unfold Fv.st; split <;> rfl
structure FinV (v : Fv) (w : World) (s : Gs) (qs : List Pv) (A : Option Addr) (c : Nat) : Prop where
  fin : FinIn v.f w (v.st s) qs A c

section
variable {v : Fv} {w w' : World} {s : Gs} {qs : List Pv} {A : Option Addr} {c : Nat}
theorem FinV.kept (h : FinV v w s qs A c) (O : v.f.Ok) (hb : Below w.heap.size w w') : FinV v w' s qs A c := ⟨h.fin.kept O hb⟩
theorem FinV.drew (h : FinV v w s qs A c) : FinV v w.drew s qs A c := ⟨h.fin.drew⟩
theorem FinV.setX (h : FinV v w s qs A c) (O : v.f.Ok) (i : Nat) : FinV v (w.setCell ⟨v.UX, i, none⟩ (.bool true)) { s with ux := s.ux.set i true } qs A c := by
  obtain ⟨f, fl⟩ := v
  cases fl
  · exact ⟨h.fin.used1 O i⟩
  · exact ⟨h.fin.used2 O i⟩
theorem FinV.setY (h : FinV v w s qs A c) (O : v.f.Ok) (i : Nat) : FinV v (w.setCell ⟨v.UY, i, none⟩ (.bool true)) { s with uy := s.uy.set i true } qs A c := by
  obtain ⟨f, fl⟩ := v
  cases fl
  · exact ⟨h.fin.used2 O i⟩
  · exact ⟨h.fin.used1 O i⟩
theorem FinV.cX (h : FinV v w s qs A c) : w.cell? ⟨v.f.Fk, v.oX, none⟩ = some (.slice v.AX v.X.length v.cX) ∧ w.cell? ⟨v.f.Fk, v.oX + 1, none⟩ = some (.slice (some ⟨v.UX, 0, none⟩) v.X.length v.X.length) := by
  obtain ⟨f, fl⟩ := v
  cases fl
  · exact ⟨h.fin.fk.cell 0, h.fin.fk.cell 1⟩
  · exact ⟨h.fin.fk.cell 2, h.fin.fk.cell 3⟩
theorem FinV.cY (h : FinV v w s qs A c) : w.cell? ⟨v.f.Fk, v.oY, none⟩ = some (.slice v.AY v.Y.length v.cY) ∧ w.cell? ⟨v.f.Fk, v.oY + 1, none⟩ = some (.slice (some ⟨v.UY, 0, none⟩) v.Y.length v.Y.length) := by
  obtain ⟨f, fl⟩ := v
  cases fl
  · exact ⟨h.fin.fk.cell 2, h.fin.fk.cell 3⟩
  · exact ⟨h.fin.fk.cell 0, h.fin.fk.cell 1⟩
theorem FinV.tol (h : FinV v w s qs A c) : w.cell? ⟨v.f.Fk, 4, none⟩ = some (.int .i64 v.f.tol) := h.fin.fk.cell 4
theorem FinV.out5 (h : FinV v w s qs A c) : w.cell? ⟨v.f.Fk, 5, none⟩ = some (.slice A s.ps.length c) := by rw [← v.st_ps s]; exact h.fin.fk.cell 5
theorem FinV.own (h : FinV v w s qs A c) : w.ownsRow v.f.base 39 2 (.slice A s.ps.length c) s.ps.length (qs.flatMap pvC) := by rw [← v.st_ps s]; exact h.fin.own
theorem FinV.rX (h : FinV v w s qs A c) : Rd onC 3 v.f.B w v.AX v.X := by
  obtain ⟨f, fl⟩ := v
  cases fl
  · exact h.fin.rl
  · exact h.fin.rr
theorem FinV.rY (h : FinV v w s qs A c) : Rd onC 3 v.f.B w v.AY v.Y := by
  obtain ⟨f, fl⟩ := v
  cases fl
  · exact h.fin.rr
  · exact h.fin.rl
theorem FinV.uX (h : FinV v w s qs A c) {i : Nat} (hi : i < v.X.length) : w.cell? ⟨v.UX, i, none⟩ = some (.bool (s.ux.getD i true)) := by
  obtain ⟨f, fl⟩ := v
  cases fl
  · exact h.fin.u1c hi
  · exact h.fin.u2c hi
theorem FinV.uY (h : FinV v w s qs A c) {i : Nat} (hi : i < v.Y.length) : w.cell? ⟨v.UY, i, none⟩ = some (.bool (s.uy.getD i true)) := by
  obtain ⟨f, fl⟩ := v
  cases fl
  · exact h.fin.u2c hi
  · exact h.fin.u1c hi
theorem FinV.frX (h : FinV v w s qs A c) (i : Nat) : w.frozen? ⟨v.UX, i, none⟩ = false := by
  obtain ⟨f, fl⟩ := v
  cases fl
  · exact h.fin.x1.frozen i
  · exact h.fin.x2.frozen i
theorem FinV.frY (h : FinV v w s qs A c) (i : Nat) : w.frozen? ⟨v.UY, i, none⟩ = false := by
  obtain ⟨f, fl⟩ := v
  cases fl
  · exact h.fin.x2.frozen i
  · exact h.fin.x1.frozen i
theorem FinV.frF (h : FinV v w s qs A c) (i : Nat) : w.frozen? ⟨v.f.Fk, i, none⟩ = false := h.fin.fk.frozen i
theorem FinV.ltF (h : FinV v w s qs A c) : v.f.Fk < w.heap.size := h.fin.fk.lt
theorem FinV.ltX (h : FinV v w s qs A c) : v.UX < w.heap.size := by
  obtain ⟨f, fl⟩ := v
  cases fl
  · exact h.fin.x1.lt
  · exact h.fin.x2.lt
theorem FinV.ltY (h : FinV v w s qs A c) : v.UY < w.heap.size := by
  obtain ⟨f, fl⟩ := v
  cases fl
  · exact h.fin.x2.lt
  · exact h.fin.x1.lt
theorem FinV.size (h : FinV v w s qs A c) : v.f.base ≤ w.heap.size := h.fin.size
theorem Fv.okX (O : v.f.Ok) : v.f.B ≤ v.UX ∧ v.UX < v.f.base ∧ v.f.Fk ≠ v.UX := by
  obtain ⟨f, fl⟩ := v
  cases fl
  · exact ⟨O.b1, O.t1, O.k1⟩
  · exact ⟨O.b2, O.t2, O.k2⟩
theorem Fv.okY (O : v.f.Ok) : v.f.B ≤ v.UY ∧ v.UY < v.f.base ∧ v.f.Fk ≠ v.UY ∧ v.UX ≠ v.UY := by
  obtain ⟨f, fl⟩ := v
  cases fl
  · exact ⟨O.b2, O.t2, O.k2, O.u12⟩
  · exact ⟨O.b1, O.t1, O.k1, Ne.symm O.u12⟩
theorem FinV.out (h : FinV v w s qs A c) (O : v.f.Ok) {q : Pv} {p : Pr} {A' : Option Addr} {c' : Nat} (hq : PvOk (Fre v.f w (.slice A s.ps.length c)) w q p)
    (hg : w.grownBy w' (Value.slice A s.ps.length c).ownBlock) (hO : w'.ownsRow v.f.base 39 2 (.slice A' (s.ps.length + 1) c') (s.ps.length + 1) (qs.flatMap pvC ++ pvC q))
    (hloc : (Value.slice A' (s.ps.length + 1) c').ownBlock = (Value.slice A s.ps.length c).ownBlock ∨ ∀ b, (Value.slice A' (s.ps.length + 1) c').ownBlock = some b → w.heap.size ≤ b) :
    FinV v (w'.setCell ⟨v.f.Fk, 5, none⟩ (.slice A' (s.ps.length + 1) c')) { s with ps := s.ps ++ [p] } (qs ++ [q]) A' c' := by
  obtain ⟨f, fl⟩ := v
  cases fl
  · exact ⟨h.fin.out O hq hg hO hloc⟩
  · exact ⟨h.fin.out O hq hg hO hloc⟩
end

/-! ### what many does -/
/-- The places of the other side that may be taken, at most 12. -/
def candT (x : On) (Y : List On) (u : List Bool) : Nat → List Nat
  | 0 => []
  | k + 1 => if !(u.getD k true) && oppB x.a (amt Y k) && decide ((candT x Y u k).length < 12) then candT x Y u k ++ [k] else candT x Y u k
theorem candT_len (x : On) (Y : List On) (u : List Bool) : ∀ k, (candT x Y u k).length ≤ 12
  | 0 => by simp [candT]
  | k + 1 => by
    have := candT_len x Y u k
    simp only [candT]
    split
    · rename_i h
      simp at h
      simp
      omega
    · exact this
theorem candT_lt (x : On) (Y : List On) (u : List Bool) : ∀ k, ∀ j ∈ candT x Y u k, j < k
  | 0 => by simp [candT]
  | k + 1 => by
    intro j hj
    simp only [candT] at hj
    split at hj
    · rcases List.mem_append.1 hj with hj | hj
      · have := candT_lt x Y u k j hj; omega
      · simp at hj; omega
    · have := candT_lt x Y u k j hj; omega
/-- Place b of the candidates is in the mask. -/
def inM (m : Mk) (b : Nat) : Bool := m.val / 2 ^ b % 2 == 1
/-- The chosen ones among the first b candidates. -/
def selT (m : Mk) (cs : List Nat) : Nat → List Nat
  | 0 => []
  | b + 1 => match cs[b]? with
    | none => selT m cs b
    | some k => if inM m b then selT m cs b ++ [k] else selT m cs b
def sumT (x : On) (Y : List On) (l : List Nat) : Int := x.a + (l.map (amt Y)).sum
def fitM (x : On) (Y : List On) (tol : Int) (cs : List Nat) (m : Mk) : Bool := decide (absZ (sumT x Y (selT m cs cs.length)) ≤ tol)
def setAll (u : List Bool) (l : List Nat) : List Bool := l.foldl (fun u k => u.set k true) u
def manySt (v : Fv) (s : Gs) (i : Nat) : Gs := match v.X[i]? with
  | none => s
  | some x => if s.ux.getD i true then s else
    match (mAll (candT x v.Y s.uy v.Y.length).length).find? (fitM x v.Y v.f.tol (candT x v.Y s.uy v.Y.length)) with
    | none => s
    | some m =>
      let l := selT m (candT x v.Y s.uy v.Y.length) (candT x v.Y s.uy v.Y.length).length
      ⟨s.ux.set i true, setAll s.uy l, s.ps ++ [if v.fl then ⟨l.map (rfAt v.Y), [x.r]⟩ else ⟨[x.r], l.map (rfAt v.Y)⟩]⟩
def manyAll (v : Fv) (s : Gs) (k : Nat) : Gs := (List.range k).foldl (manySt v) s
theorem manyAll_succ (v : Fv) (s : Gs) (k : Nat) : manyAll v s (k + 1) = manySt v (manyAll v s k) k := by
  simp [manyAll, List.range_succ]
theorem manyAll_len (v : Fv) (s : Gs) : ∀ k, (manyAll v s k).ps.length ≤ s.ps.length + k
  | 0 => Nat.le_refl _
  | k + 1 => by
    have h := manyAll_len v s k
    rw [manyAll_succ]
    unfold manySt
    split
    · omega
    · split
      · omega
      · split
        · omega
        · simp; omega
end Go.Proofs.Ytccgleiildgckaa
