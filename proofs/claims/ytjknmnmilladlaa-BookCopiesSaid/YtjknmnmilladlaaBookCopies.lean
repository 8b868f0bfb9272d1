/-
  It is proved that BookCopies, called with whatever arguments, returns true and leaves its arguments as they were. No condition.
-/
import Derived.Test.YtjknmnmilladlaaW40
import Derived.WalkKit
import Derived.ProofKit
import Derived.OpenShut
namespace Go.Proofs.Ytjknmnmilladlaa.bookCopies
open Go.ChangeShapes Go.WideShapes Go.ChangeAt Go.RowKit
set_option linter.unusedVariables false

theorem own : ownKnob Try.prog.godebug = none := by kernel_rfl
theorem laidB : laidOutB Try.prog = true := by kernel_rfl
theorem rd41 : Try.prog.readableRec 41 = true := by kernel_rfl
theorem sz41 : 41 < Try.prog.types.size := of_decide_eq_true (by kernel_rfl)
theorem rd42 : Try.prog.readableRec 42 = true := by kernel_rfl
theorem sz42 : 42 < Try.prog.types.size := of_decide_eq_true (by kernel_rfl)

set_option maxRecDepth 100000 in
theorem lifted (os : Os) (started : os.Started) (H : Type) (enc : TypeId × Value → H) :
    ReturnsInHanded {} Try.checked os 9 .any (Rows.bookCopiesSpec.pre6 enc Try.prog Try.f9 Rows.bookCopiesRow.domain false) (Rows.bookCopiesSpec.post enc Try.prog Try.f9 false true false false) := by
  refine returnsInHanded_of_change (C := Try.checked) own started (by kernel_rfl) Try.func9
    (ChangeSpec.witness6 (enc := enc) (C := Try.checked) false ⟨#[], #[.int .u8 0, .slice none 0 0, .slice none 0 0, .slice none 0 0], []⟩ 8 (by kernel_rfl) (by kernel_rfl) (by kernel_rfl) (by kernel_rfl)) ?_
  intro W base args ds gs before hval0 hW hcnd _
  have hval : ∀ (j : Nat) t v, Try.f9.params[j]? = some t → args[j]? = some v → Value.okWide Try.prog W .any base t v := hval0
  have hW' := hW
  obtain ⟨p, q, hA0, hV, rfl, hfz, hnd⟩ := hW
  have hA : DataW.TrodAll enc Try.prog W 0 (fun _ => true) true Try.f9.params.toList args.toList ds p := hA0
  rw [Try.params9] at hA hval
  obtain ⟨v0, vs0, d0, ds0, p0, q0, hargs, rfl, rfl, h0, r0⟩ := trodAll_cons hA
  obtain ⟨v1, vs1, d1, ds1, p1, q1, rfl, rfl, rfl, h1, r1⟩ := trodAll_cons r0
  obtain ⟨v2, vs2, d2, ds2, p2, q2, rfl, rfl, rfl, h2, r2⟩ := trodAll_cons r1
  obtain ⟨v3, vs3, d3, ds3, p3, q3, rfl, rfl, rfl, h3, r3⟩ := trodAll_cons r2
  obtain ⟨rfl, rfl, rfl⟩ := trodAll_nil r3
  obtain rfl : args = #[v0, v1, v2, v3] := by cases args; simp_all
  obtain ⟨rfl, rfl⟩ := trodVars_none hV
  obtain ⟨a0, rfl, rfl, rfl, w0⟩ := open_int Try.underlying5 (hval 0 5 v0 rfl rfl) h0
  have b0 := bounds_u8 w0
  obtain ⟨l1, hl1, hd1⟩ := open_dos (hval 1 41 v1 rfl rfl) h1
  obtain ⟨l2, hl2, hd2⟩ := open_dos (hval 2 41 v2 rfl rfl) h2
  obtain ⟨l3, hl3⟩ := open_intsA (hval 3 42 v3 rfl rfl) h3
  clear hA0 hval0
  refine Calls.mono (if hx : l1.length ≤ 40 ∧ l2.length ≤ 40 ∧ l3.length ≤ 20 then copiesMain a0 hl1 hl2 hl3 hd1 b0.1 b0.2 hx.1 hx.2.1 hx.2.2 else copiesKnown a0 hl1 hl2 hl3 (by omega)) fun e W' ⟨he, hg⟩ => ?_
  subst he
  exact ⟨_, rfl, postBelow hW' (fun _ _ _ => (trodAll_cons_mk (shut_bool Try.underlying4 _) trodAll_mk0)) (fun sp hsp => (trodAll_cons_mk (shut_int Try.underlying5 w0) (trodAll_cons_mk (WideElems.Trod_stays laidB rd41 sz41 h1 (fun p hp => hg.same (hW'.lt p (by simp [hp]))) (fun p hp => hsp p (by simp [hp]))) (trodAll_cons_mk (WideElems.Trod_stays laidB rd41 sz41 h2 (fun p hp => hg.same (hW'.lt p (by simp [hp]))) (fun p hp => hsp p (by simp [hp]))) (trodAll_cons_mk (WideElems.Trod_stays laidB rd42 sz42 h3 (fun p hp => hg.same (hW'.lt p (by simp [hp]))) (fun p hp => hsp p (by simp [hp]))) trodAll_mk0))))) (fun _ _ => rfl) rfl hg (ok_one (by kernel_rfl) rfl (okWide_bool_mk Try.underlying4 _))⟩

theorem over : Rows.bookCopiesRow.holds Try.pinned (OpenSpec.ofChange Rows.bookCopiesSpec) :=
  OpenClaim.holds_of_wide 9 Try.f9 rfl rfl rfl rfl rfl rfl rfl ⟨rfl, rfl, rfl, rfl, rfl⟩ rfl rfl rfl rfl rfl (by kernel_rfl) Try.func9 (by kernel_rfl)
    (of_decide_eq_true (by kernel_rfl)) (by unfold Func.isWrapper; first | (rw [if_pos (by decide +kernel)]; kernel_rfl) | (rw [if_neg (by decide +kernel)]; exact ⟨rfl, rfl⟩))
    (fun os started H enc _ => lifted os started H enc)

end Go.Proofs.Ytjknmnmilladlaa.bookCopies
namespace Go.Proofs.Ytjknmnmilladlaa

/-- The statement. -/
theorem book_copies_holds : Rows.BookCopiesSaid := bookCopies.over
#print axioms book_copies_holds

end Go.Proofs.Ytjknmnmilladlaa
