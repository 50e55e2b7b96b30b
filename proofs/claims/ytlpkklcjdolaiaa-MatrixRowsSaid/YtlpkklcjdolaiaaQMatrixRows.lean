/- YtlpkklcjdolaiaaQMatrixRows: the law MatrixRows, and what it rests on: part of our own texts, merged. Conditions: none. -/
import Derived.Test.YtlpkklcjdolaiaaRows
import Derived.Test.YtlpkklcjdolaiaaQMatrixRows5
import Derived.WalkKit
import Derived.ProofKit
import Derived.OpenShut
import Derived.ShutString
import Derived.ChangeOld
import Derived.Below
import Derived.SizedLaws
/- The law MatrixRows: for every input it returns true. Conditions: none beyond those of the given row. -/
namespace Go.Proofs.Ytlpkklcjdolaiaa.matrixRows
open Go.ChangeShapes Go.WideShapes Go.ChangeAt Go.RowKit Go.Corb
open Go.ChangeMaps (open_string shut_string)
set_option linter.unusedVariables false
set_option linter.unusedSimpArgs false
theorem own : ownKnob Try.prog.godebug = none := by kernel_rfl
theorem laidOut : laidOutB Try.prog = true := by kernel_rfl
theorem mixed : Try.prog.follows .mixedOrders = true := by kernel_rfl
/-- The call, out of what the law does over the abstract memory. -/
theorem walk (W : World) (a0 : Int) {v1 : Value} {zs1 : List Int} {n1 : Nat} (w1 : (v1 = .slice none 0 0 ∧ n1 = 0 ∧ zs1 = []) ∨ ∃ a cap, v1 = .slice (some a) n1 cap ∧ n1 ≤ cap ∧ zs1.length = cap ∧ (∀ i, i < zs1.length → W.cell? (a.add i) = some (.int .i64 (zs1.getD i 0))) ∧ ∀ x ∈ zs1, (Lit.int .i64 x).wf = true) (y1 : n1 ≤ 140737488351232) (a2 : Int) (a3 : Int) :
    Calls Try.prog 3 #[.int .i64 a0, v1, .int .i64 a2, .int .i64 a3] W fun e w' => e = .returned (.bool true) ∧ Below W.heap.size W w' := by
  have hC0 : CProp (fun _ _ _ _ _ => False : CallRel) := ⟨fun h _ => h.elim, fun h _ _ _ _ => h.elim⟩
  have hS0 : CSound Try.prog (fun _ _ _ _ _ => False : CallRel) := fun h => h.elim
  have hC := acall_prop mixed hC0 hS0
  obtain ⟨x1, e1, hx1, he1, hs1⟩ := arg_row (W := W) 0 (v' := v1) (s := 1) (n := n1) (zs := zs1.map fun z => Value.int .i64 z) (by omega) (by
    rcases w1 with ⟨h1, h2, h3⟩ | ⟨a, cap, h1, h2, h3, h4, _⟩
    · exact .inl ⟨h1, h2, by rw [h3]; rfl⟩
    · refine .inr ⟨a, cap, h1, h2, by rw [List.length_map, h3]; omega, fun i hi => ?_⟩
      rw [List.length_map] at hi
      rw [h4 i hi, List.getD_eq_getElem?_getD, List.getD_eq_getElem?_getD, List.getElem?_map, List.getElem?_eq_getElem hi]; rfl) (fun z hz => by obtain ⟨q, _, rfl⟩ := List.mem_map.1 hz; rfl)
  have hL : ∀ (r : Nat) (p : List Value × RI), ([e1] : Imp)[r]?.join = some p → EntOK W (impMap [e1]) p := by
    intro r p hp
    match r with
    | 0 => exact he1 _ _ hp
    | r + 1 => simp at hp
  have ok := imp_ok [e1]
  have r1 := hs1 (impHeap [e1]) (fun p hp => by subst hp; rfl)
  have s1 : SlAt (impHeap [e1]) x1 ((zs1.take n1).map fun z => Value.int .i64 z) := by
    rw [Nat.mul_one, ← List.map_take] at r1
    refine r1.sl ?_
    rw [List.length_map, List.length_take]
    rcases w1 with ⟨_, h2, h3⟩ | ⟨_, cap, _, h2, h3, _⟩
    · rw [h2, h3]; rfl
    · omega
  obtain ⟨v, σ', hcall, rfl, _⟩ := Go.Corb.A.matrixRows (Base := fun _ _ _ _ _ => False) hC ok s1 (Q := fun v σ' => v = .bool true ∧ True) (fun σ' _ => ⟨rfl, trivial⟩)
  refine law_calls mixed hcall ok.wf (imp_rel hL) (imp_high [e1]) rfl ?_ Try.func3 (by kernel_rfl) (by kernel_rfl)
  intro j
  match j with
  | 0 => exact .sc _ rfl
  | 1 => exact hx1 _ (fun p hp => by subst hp; rfl)
  | 2 => exact .sc _ rfl
  | 3 => exact .sc _ rfl
  | j + 4 => simp only [List.getD_eq_getElem?_getD, Array.getD_eq_getD_getElem?]; exact .und

set_option maxRecDepth 100000 in
theorem lifted (os : Os) (started : os.Started) (H : Type) (enc : TypeId × Value → H) :
    ReturnsInHanded {} Try.checked os 3 .any (Rows.matrixRowsSpec.pre6 enc Try.prog Try.f3 Rows.matrixRowsRow.domain false) (Rows.matrixRowsSpec.post enc Try.prog Try.f3 false true false false) := by
  refine returnsInHanded_of_change_sized (C := Try.checked) own started (by kernel_rfl) Try.func3
    (ChangeSpec.witness6 (enc := enc) (C := Try.checked) false ⟨#[], #[.int .i64 0, .slice none 0 0, .int .i64 0, .int .i64 0], []⟩ 8 (by kernel_rfl) (by kernel_rfl) (by kernel_rfl) (by kernel_rfl)) ?_
  intro W base args ds gs before hval0 hW hcnd hsz0 _
  have hsz : (DataW.weightsEach Try.prog (Try.f3.params.toList ++ Rows.matrixRowsSpec.plain.varTypes Try.prog) (ds ++ gs)).all (· ≤ reachBytes) = true := hsz0
  have hval : ∀ (j : Nat) t v, Try.f3.params[j]? = some t → args[j]? = some v → Value.okWide Try.prog W .any base t v := hval0
  have hW' := hW
  obtain ⟨p, q, hA0, hV, rfl, hfz, hnd⟩ := hW
  have hA : DataW.TrodAll enc Try.prog W 0 (fun _ => true) true Try.f3.params.toList args.toList ds p := hA0
  rw [Try.params3] at hA hval hsz
  obtain ⟨v0, vs0, d0, ds0, p0, q0, hargs, rfl, rfl, h0, r0⟩ := trodAll_cons hA
  obtain ⟨v1, vs1, d1, ds1, p1, q1, rfl, rfl, rfl, h1, r1⟩ := trodAll_cons r0
  obtain ⟨v2, vs2, d2, ds2, p2, q2, rfl, rfl, rfl, h2, r2⟩ := trodAll_cons r1
  obtain ⟨v3, vs3, d3, ds3, p3, q3, rfl, rfl, rfl, h3, r3⟩ := trodAll_cons r2
  obtain ⟨rfl, rfl, rfl⟩ := trodAll_nil r3
  obtain rfl : args = #[v0, v1, v2, v3] := by cases args; simp_all
  obtain ⟨rfl, rfl⟩ := trodVars_none hV
  obtain ⟨a0, rfl, rfl, rfl, w0⟩ := open_int Try.underlying3 (hval 0 3 v0 rfl rfl) h0
  obtain ⟨a1, len1, cap1, rfl⟩ := okWide_slice Try.underlying22 (hval 1 22 v1 rfl rfl)
  have k1 := h1
  have lt1 : ∀ x ∈ p1, x.block < W.heap.size := by obtain ⟨m, hm⟩ := k1; exact DataW.trod_lt m _ _ _ hm
  obtain ⟨zs1, w1, y1⟩ := slice_ints (k := .i64) hsz (j := 1) (t := 22) rfl rfl Try.underlying22 Try.underlying3 (by kernel_rfl) (by kernel_rfl) (show 0 < 8 by omega) h1
  obtain ⟨a2, rfl, rfl, rfl, w2⟩ := open_int Try.underlying3 (hval 2 3 v2 rfl rfl) h2
  obtain ⟨a3, rfl, rfl, rfl, w3⟩ := open_int Try.underlying3 (hval 3 3 v3 rfl rfl) h3
  clear hA0 hval0 hsz0 hsz
  refine (walk W a0 w1 y1 a2 a3).mono fun e W' ⟨he, bel⟩ => ?_
  subst he
  exact ⟨_, rfl, _, _, _, [], _, [], hW', trodAll_mk1 (shut_bool Try.underlying4 _), (trodAll_cons_mk (shut_int Try.underlying3 w0) (trodAll_cons_mk (Below.trod laidOut (by kernel_rfl) (of_decide_eq_true (by kernel_rfl)) k1 bel lt1) (trodAll_cons_mk (shut_int Try.underlying3 w2) (trodAll_cons_mk (shut_int Try.underlying3 w3) trodAll_mk0)))), rfl, bel.frame _, fun h => by cases h⟩
theorem over : Rows.matrixRowsRow.holds Try.pinned (OpenSpec.ofChange Rows.matrixRowsSpec) :=
  OpenClaim.holds_of_wide 3 Try.f3 rfl rfl rfl rfl rfl rfl rfl ⟨rfl, rfl, rfl, rfl, rfl⟩ rfl rfl rfl rfl rfl (by kernel_rfl) Try.func3 (by kernel_rfl)
    (of_decide_eq_true (by kernel_rfl)) (by unfold Func.isWrapper; first | (rw [if_pos (by decide +kernel)]; kernel_rfl) | (rw [if_neg (by decide +kernel)]; exact ⟨rfl, rfl⟩))
    (fun os started H enc _ => lifted os started H enc)
theorem proved : Rows.MatrixRowsSaid := over
end Go.Proofs.Ytlpkklcjdolaiaa.matrixRows
namespace Go.Proofs.Ytlpkklcjdolaiaa
/-- The statement. -/
theorem matrixRows_holds : Rows.MatrixRowsSaid := matrixRows.proved
#print axioms matrixRows_holds
end Go.Proofs.Ytlpkklcjdolaiaa
