/- YtlpkklcjdolaiaaQCoderChecks: the law CoderChecks, and what it rests on: part of our own texts, merged. Conditions: none. -/
import Derived.Test.YtlpkklcjdolaiaaRows
import Derived.Test.YtlpkklcjdolaiaaQCoderChecks6
import Derived.WalkKit
import Derived.ProofKit
import Derived.OpenShut
import Derived.ShutString
import Derived.ChangeOld
import Derived.Below
import Derived.SizedLaws
/- The law CoderChecks: for every input it returns true. Conditions: none beyond those of the given row. -/
namespace Go.Proofs.Ytlpkklcjdolaiaa.coderChecks
open Go.ChangeShapes Go.WideShapes Go.ChangeAt Go.RowKit Go.Corb
open Go.ChangeMaps (open_string shut_string)
set_option linter.unusedVariables false
set_option linter.unusedSimpArgs false
theorem own : ownKnob Try.prog.godebug = none := by kernel_rfl
theorem laidOut : laidOutB Try.prog = true := by kernel_rfl
theorem mixed : Try.prog.follows .mixedOrders = true := by kernel_rfl
/-- The call, out of what the law does over the abstract memory. -/
theorem walk (W : World) (a0 : Int) (a1 : Int) (a2 : Int) (a3 : Int) (w3 : (Lit.int .u8 a3).wf = true) :
    Calls Try.prog 8 #[.int .i64 a0, .int .i64 a1, .int .i64 a2, .int .u8 a3] W fun e w' => e = .returned (.bool true) ∧ Below W.heap.size W w' := by
  have hC0 : CProp Go.Corb.A.PartsBase := Go.Corb.A.parts_prop
  have hS0 : CSound Try.prog Go.Corb.A.PartsBase := Go.Corb.A.parts_sound
  have hC := acall_prop mixed hC0 hS0
  have hL : ∀ (r : Nat) (p : List Value × RI), ([] : Imp)[r]?.join = some p → EntOK W (impMap []) p := by
    intro r p hp
    simp at hp
  have ok := imp_ok []
  obtain ⟨v, σ', hcall, rfl, _⟩ := Go.Corb.A.coderChecks a0 a1 a2 a3 w3 ok (Q := fun v σ' => v = .bool true ∧ True) (fun σ' _ => ⟨rfl, trivial⟩)
  refine law_callsB mixed hC0 hS0 hcall ok.wf (imp_rel hL) (imp_high []) rfl ?_ Try.func8 (by kernel_rfl) (by kernel_rfl)
  intro j
  match j with
  | 0 => exact .sc _ rfl
  | 1 => exact .sc _ rfl
  | 2 => exact .sc _ rfl
  | 3 => exact .sc _ rfl
  | j + 4 => simp only [List.getD_eq_getElem?_getD, Array.getD_eq_getD_getElem?]; exact .und

set_option maxRecDepth 100000 in
theorem lifted (os : Os) (started : os.Started) (H : Type) (enc : TypeId × Value → H) :
    ReturnsInHanded {} Try.checked os 8 .any (Rows.coderChecksSpec.pre6 enc Try.prog Try.f8 Rows.coderChecksRow.domain false) (Rows.coderChecksSpec.post enc Try.prog Try.f8 false true false false) := by
  refine returnsInHanded_of_change_sized (C := Try.checked) own started (by kernel_rfl) Try.func8
    (ChangeSpec.witness6 (enc := enc) (C := Try.checked) false ⟨#[], #[.int .i64 0, .int .i64 0, .int .i64 0, .int .u8 0], []⟩ 8 (by kernel_rfl) (by kernel_rfl) (by kernel_rfl) (by kernel_rfl)) ?_
  intro W base args ds gs before hval0 hW hcnd hsz0 _
  have hsz : (DataW.weightsEach Try.prog (Try.f8.params.toList ++ Rows.coderChecksSpec.plain.varTypes Try.prog) (ds ++ gs)).all (· ≤ reachBytes) = true := hsz0
  have hval : ∀ (j : Nat) t v, Try.f8.params[j]? = some t → args[j]? = some v → Value.okWide Try.prog W .any base t v := hval0
  have hW' := hW
  obtain ⟨p, q, hA0, hV, rfl, hfz, hnd⟩ := hW
  have hA : DataW.TrodAll enc Try.prog W 0 (fun _ => true) true Try.f8.params.toList args.toList ds p := hA0
  rw [Try.params8] at hA hval hsz
  obtain ⟨v0, vs0, d0, ds0, p0, q0, hargs, rfl, rfl, h0, r0⟩ := trodAll_cons hA
  obtain ⟨v1, vs1, d1, ds1, p1, q1, rfl, rfl, rfl, h1, r1⟩ := trodAll_cons r0
  obtain ⟨v2, vs2, d2, ds2, p2, q2, rfl, rfl, rfl, h2, r2⟩ := trodAll_cons r1
  obtain ⟨v3, vs3, d3, ds3, p3, q3, rfl, rfl, rfl, h3, r3⟩ := trodAll_cons r2
  obtain ⟨rfl, rfl, rfl⟩ := trodAll_nil r3
  obtain rfl : args = #[v0, v1, v2, v3] := by cases args; simp_all
  obtain ⟨rfl, rfl⟩ := trodVars_none hV
  obtain ⟨a0, rfl, rfl, rfl, w0⟩ := open_int Try.underlying3 (hval 0 3 v0 rfl rfl) h0
  obtain ⟨a1, rfl, rfl, rfl, w1⟩ := open_int Try.underlying3 (hval 1 3 v1 rfl rfl) h1
  obtain ⟨a2, rfl, rfl, rfl, w2⟩ := open_int Try.underlying3 (hval 2 3 v2 rfl rfl) h2
  obtain ⟨a3, rfl, rfl, rfl, w3⟩ := open_int Try.underlying5 (hval 3 5 v3 rfl rfl) h3
  clear hA0 hval0 hsz0 hsz
  refine (walk W a0 a1 a2 a3 w3).mono fun e W' ⟨he, bel⟩ => ?_
  subst he
  exact ⟨_, rfl, _, _, _, [], _, [], hW', trodAll_mk1 (shut_bool Try.underlying4 _), (trodAll_cons_mk (shut_int Try.underlying3 w0) (trodAll_cons_mk (shut_int Try.underlying3 w1) (trodAll_cons_mk (shut_int Try.underlying3 w2) (trodAll_cons_mk (shut_int Try.underlying5 w3) trodAll_mk0)))), rfl, bel.frame _, fun h => by cases h⟩
theorem over : Rows.coderChecksRow.holds Try.pinned (OpenSpec.ofChange Rows.coderChecksSpec) :=
  OpenClaim.holds_of_wide 8 Try.f8 rfl rfl rfl rfl rfl rfl rfl ⟨rfl, rfl, rfl, rfl, rfl⟩ rfl rfl rfl rfl rfl (by kernel_rfl) Try.func8 (by kernel_rfl)
    (of_decide_eq_true (by kernel_rfl)) (by unfold Func.isWrapper; first | (rw [if_pos (by decide +kernel)]; kernel_rfl) | (rw [if_neg (by decide +kernel)]; exact ⟨rfl, rfl⟩))
    (fun os started H enc _ => lifted os started H enc)
theorem proved : Rows.CoderChecksSaid := over
end Go.Proofs.Ytlpkklcjdolaiaa.coderChecks
namespace Go.Proofs.Ytlpkklcjdolaiaa
/-- The statement. -/
theorem coderChecks_holds : Rows.CoderChecksSaid := coderChecks.proved
#print axioms coderChecks_holds
end Go.Proofs.Ytlpkklcjdolaiaa
