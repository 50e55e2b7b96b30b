/- YtlpkklcjdolaiaaQCoderKnown: the law CoderKnown, and what it rests on: part of our own texts, merged. Conditions: none. -/
import Derived.Test.YtlpkklcjdolaiaaRows
import Derived.Test.YtlpkklcjdolaiaaQCoderKnown6
import Derived.WalkKit
import Derived.ProofKit
import Derived.OpenShut
import Derived.ShutString
import Derived.ChangeOld
import Derived.Below
import Derived.SizedLaws
/- The law CoderKnown: for every input it returns true. Conditions: none beyond those of the given row. -/
namespace Go.Proofs.Ytlpkklcjdolaiaa.coderKnown
open Go.ChangeShapes Go.WideShapes Go.ChangeAt Go.RowKit Go.Corb
open Go.ChangeMaps (open_string shut_string)
set_option linter.unusedVariables false
set_option linter.unusedSimpArgs false
theorem own : ownKnob Try.prog.godebug = none := by kernel_rfl
theorem laidOut : laidOutB Try.prog = true := by kernel_rfl
theorem mixed : Try.prog.follows .mixedOrders = true := by kernel_rfl
/-- The call, out of what the law does over the abstract memory. -/
theorem walk (W : World)  :
    Calls Try.prog 9 #[] W fun e w' => e = .returned (.bool true) ∧ Below W.heap.size W w' := by
  have hC0 : CProp Go.Corb.A.PartsBase := Go.Corb.A.parts_prop
  have hS0 : CSound Try.prog Go.Corb.A.PartsBase := Go.Corb.A.parts_sound
  have hC := acall_prop mixed hC0 hS0
  have hL : ∀ (r : Nat) (p : List Value × RI), ([] : Imp)[r]?.join = some p → EntOK W (impMap []) p := by
    intro r p hp
    simp at hp
  have ok := imp_ok []
  obtain ⟨v, σ', hcall, rfl, _⟩ := Go.Corb.A.coderKnown   ok (Q := fun v σ' => v = .bool true ∧ True) (fun σ' _ => ⟨rfl, trivial⟩)
  refine law_callsB mixed hC0 hS0 hcall ok.wf (imp_rel hL) (imp_high []) rfl ?_ Try.func9 (by kernel_rfl) (by kernel_rfl)
  intro j
  match j with
  | j + 0 => simp only [List.getD_eq_getElem?_getD, Array.getD_eq_getD_getElem?]; exact .und

set_option maxRecDepth 100000 in
theorem lifted (os : Os) (started : os.Started) (H : Type) (enc : TypeId × Value → H) :
    ReturnsInHanded {} Try.checked os 9 .any (Rows.coderKnownSpec.pre6 enc Try.prog Try.f9 Rows.coderKnownRow.domain false) (Rows.coderKnownSpec.post enc Try.prog Try.f9 false true false false) := by
  refine returnsInHanded_of_change_sized (C := Try.checked) own started (by kernel_rfl) Try.func9
    (ChangeSpec.witness6 (enc := enc) (C := Try.checked) false ⟨#[], #[], []⟩ 8 (by kernel_rfl) (by kernel_rfl) (by kernel_rfl) (by kernel_rfl)) ?_
  intro W base args ds gs before hval0 hW hcnd hsz0 _
  have hsz : (DataW.weightsEach Try.prog (Try.f9.params.toList ++ Rows.coderKnownSpec.plain.varTypes Try.prog) (ds ++ gs)).all (· ≤ reachBytes) = true := hsz0
  have hval : ∀ (j : Nat) t v, Try.f9.params[j]? = some t → args[j]? = some v → Value.okWide Try.prog W .any base t v := hval0
  have hW' := hW
  obtain ⟨p, q, hA0, hV, rfl, hfz, hnd⟩ := hW
  have hA : DataW.TrodAll enc Try.prog W 0 (fun _ => true) true Try.f9.params.toList args.toList ds p := hA0
  rw [Try.params9] at hA hval hsz
  obtain ⟨rfl, rfl, rfl⟩ := trodAll_none hA
  obtain ⟨rfl, rfl⟩ := trodVars_none hV
  clear hA0 hval0 hsz0 hsz
  refine (walk W ).mono fun e W' ⟨he, bel⟩ => ?_
  subst he
  exact ⟨_, rfl, _, _, _, [], _, [], hW', trodAll_mk1 (shut_bool Try.underlying4 _), trodAll_mk0, rfl, bel.frame _, fun h => by cases h⟩
theorem over : Rows.coderKnownRow.holds Try.pinned (OpenSpec.ofChange Rows.coderKnownSpec) :=
  OpenClaim.holds_of_wide 9 Try.f9 rfl rfl rfl rfl rfl rfl rfl ⟨rfl, rfl, rfl, rfl, rfl⟩ rfl rfl rfl rfl rfl (by kernel_rfl) Try.func9 (by kernel_rfl)
    (of_decide_eq_true (by kernel_rfl)) (by unfold Func.isWrapper; first | (rw [if_pos (by decide +kernel)]; kernel_rfl) | (rw [if_neg (by decide +kernel)]; exact ⟨rfl, rfl⟩))
    (fun os started H enc _ => lifted os started H enc)
theorem proved : Rows.CoderKnownSaid := over
end Go.Proofs.Ytlpkklcjdolaiaa.coderKnown
namespace Go.Proofs.Ytlpkklcjdolaiaa
/-- The statement. -/
theorem coderKnown_holds : Rows.CoderKnownSaid := coderKnown.proved
#print axioms coderKnown_holds
end Go.Proofs.Ytlpkklcjdolaiaa
