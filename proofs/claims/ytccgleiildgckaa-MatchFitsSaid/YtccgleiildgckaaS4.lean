/- The statement MatchFitsSaid, proved: for every input the law MatchFits returns true and leaves its arguments as they were. No conditions. -/
import Derived.Test.YtccgleiildgckaaL0
import Derived.Test.YtccgleiildgckaaL5
namespace Go.Proofs.Ytccgleiildgckaa
open Go.ChangeShapes Go.WideShapes Go.ChangeAt Go.RowKit Go.Deep

theorem matchFits_any (A A' : Option Addr) (n c n' c' : Nat) (L R : List On) (tol : Int) (w : World) (hn : L.length = n) (hn' : R.length = n') (hc : n ≤ c) (hc' : n' ≤ c') (hm : c ≤ maxLen) (hm' : c' ≤ maxLen)
    (h : Rd onC 3 w.heap.size w A L) (h' : Rd onC 3 w.heap.size w A' R) (hwf : ∀ x ∈ L ++ R, RfWf x.r) (wt : (Lit.int .u16 tol).wf = true) :
    Calls Try.prog 4 #[.slice A n c, .slice A' n' c', .int .u16 tol] w (lawPost w) := by
  by_cases hb : 30 < n ∨ 30 < n'
  · exact mfits_many A A' n c n' c' tol w (by omega) (by omega) hb
  · exact mfits_few A A' n c n' c' L R tol w hn hn' (by omega) (by omega) h h' hwf (wf_u16 wt).1 (wf_u16 wt).2

set_option maxRecDepth 100000 in
theorem matchFits_lifted (os : Os) (started : os.Started) (H : Type) (enc : TypeId × Value → H) :
    ReturnsInHanded {} Try.checked os 4 .any (Rows.matchFitsSpec.pre6 enc Try.prog Try.f4 Rows.matchFitsRow.domain false) (Rows.matchFitsSpec.post enc Try.prog Try.f4 false true false false) := by
  refine returnsInHanded_of_change (C := Try.checked) Try.own started (by kernel_rfl) Try.func4
    (ChangeSpec.witness6 (enc := enc) (C := Try.checked) false ⟨#[], #[.slice none 0 0, .slice none 0 0, .int .u16 0], []⟩ 8 (by kernel_rfl) (by kernel_rfl) (by kernel_rfl) (by kernel_rfl)) ?_
  intro W base args ds gs before hval0 hW hcnd _
  have hval : ∀ (j : Nat) t v, Try.f4.params[j]? = some t → args[j]? = some v → Value.okWide Try.prog W .any base t v := hval0
  have hW' := hW
  obtain ⟨p, q, hA0, hV, rfl, hfz, hnd⟩ := hW
  have hA : DataW.TrodAll enc Try.prog W 0 (fun _ => true) true Try.f4.params.toList args.toList ds p := hA0
  rw [Try.params4] at hA hval
  obtain ⟨v0, v1, v2, d0, d1, d2, q0, q1, q2, rfl, rfl, rfl, h0, h1, h2⟩ := trodAll_three hA
  obtain ⟨rfl, rfl⟩ := trodVars_none hV
  obtain ⟨A, n, c, zs, rfl, hn, hc, hm, hr, hw⟩ := open_rd (k := 3) Try.underlying22 cells50 (fun _ => rfl) (by decide) (fun _ _ _ => open_on) (hval 0 22 v0 rfl rfl) h0
  obtain ⟨A', n', c', zs', rfl, hn', hc', hm', hr', hw'⟩ := open_rd (k := 3) Try.underlying22 cells50 (fun _ => rfl) (by decide) (fun _ _ _ => open_on) (hval 1 22 v1 rfl rfl) h1
  obtain ⟨tol, rfl, rfl, rfl, wt⟩ := open_int Try.underlying36 (hval 2 36 v2 rfl rfl) h2
  clear hA0 hval0
  simp only [List.append_nil] at hW'
  refine (matchFits_any A A' n c n' c' zs zs' tol W hn hn' hc hc' hm hm' hr hr' (fun x hx => ?_) wt).mono fun e W' ⟨he, hb⟩ => ?_
  · rcases List.mem_append.1 hx with hx | hx
    · exact (hw x hx).1
    · exact (hw' x hx).1
  subst he
  have hlt : ∀ x ∈ q0 ++ (q1 ++ []), x.block < W.heap.size := fun x hx => by
    have := hW'.lt x (by simpa using hx)
    exact this
  exact ⟨_, rfl, post_of_below (pa := q0 ++ (q1 ++ [])) (pv := []) hW' (fun _ _ _ => trodAll_mk1 (shut_bool Try.underlying4 true))
    (fun sp hs => trodAll_mk3 (WideElems.Trod_stays Try.laidOut (by kernel_rfl) (of_decide_eq_true (by kernel_rfl)) h0 (fun x hx => hb.same (hlt x (by simp [hx]))) (fun x hx => hs x (by simp [hx])))
      (WideElems.Trod_stays Try.laidOut (by kernel_rfl) (of_decide_eq_true (by kernel_rfl)) h1 (fun x hx => hb.same (hlt x (by simp [hx]))) (fun x hx => hs x (by simp [hx]))) (shut_int Try.underlying36 wt))
    (fun _ _ => rfl) (by simp) hb (ok_one (by kernel_rfl) rfl (okWide_bool_mk Try.underlying4 true))⟩

theorem matchFits_holds : Rows.MatchFitsSaid :=
  OpenClaim.holds_of_wide 4 Try.f4 rfl rfl rfl rfl rfl rfl rfl ⟨rfl, rfl, rfl, rfl, rfl⟩ rfl rfl rfl rfl rfl (by kernel_rfl) Try.func4 (by kernel_rfl)
    (of_decide_eq_true (by kernel_rfl)) (by unfold Func.isWrapper; first | (rw [if_pos (by decide +kernel)]; kernel_rfl) | (rw [if_neg (by decide +kernel)]; exact ⟨rfl, rfl⟩))
    (fun os started H enc _ => matchFits_lifted os started H enc)
end Go.Proofs.Ytccgleiildgckaa
