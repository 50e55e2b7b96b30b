/- YtlpkklcjdolaiaaQCoderKnown4: the law CoderKnown, and what it rests on: part of our own texts, merged. Conditions: none. -/
import Derived.Test.YtlpkklcjdolaiaaQCoderKnown2
import Derived.Test.YtlpkklcjdolaiaaQCoderKnown3
import Derived.IntWalk
/- Contracts of small functions. Conditions: none. -/
set_option linter.unusedVariables false
set_option linter.unusedSimpArgs false
namespace Go.Corb.A
open Go Go.RowKit Go.Proofs Go.Corb Go.IntWalk

section
variable {Base : CallRel}

theorem tmod_emod {n m : Int} (hm : 0 < m) : n % m = if n.tmod m < 0 then n.tmod m + m else n.tmod m := by
  have h2 := Int.tmod_lt_of_pos n hm
  have h3 : -m < n.tmod m := by
    have := Int.tmod_lt_of_pos (-n) hm
    rw [Int.neg_tmod] at this; omega
  have h4 := Int.tmod_add_mul_tdiv n m
  have h5 : n % m = n.tmod m % m := by
    conv => lhs; rw [← h4]
    exact Int.add_mul_emod_self_left _ _ _
  rw [h5]
  split
  · rw [← Int.add_emod_right, Int.emod_eq_of_lt (by omega) (by omega)]
  · rw [Int.emod_eq_of_lt (by omega) (by omega)]

theorem pick (hC : CProp (ACall Try.prog Base)) {n m : Int} (hm : 0 < m) (hm' : m < 2 ^ 63) {σ : AS} (hσ : Ok σ) {Q : Value → AS → Prop} (k : ∀ σ', Mem σ σ' → Q (.int .i64 (n % m)) σ') :
    ∃ v σ', ACall Try.prog Base 11 [.int .i64 n, .int .i64 m] σ v σ' ∧ Q v σ' := by
  refine call_rwp hC cf11 rfl hσ.wf ?_
  conv => whnf
  refine br_false (by simp; omega) ?_
  conv => whnf
  have h2 := Int.tmod_lt_of_pos n hm
  have h3 : -m < n.tmod m := by
    have := Int.tmod_lt_of_pos (-n) hm
    rw [Int.neg_tmod] at this; omega
  rw [lock_eq]
  refine br_intro ?_ ?_ <;> intro h1 <;> simp only [blt_dec, ble_dec, beq_dec, ltB_eq, leB_eq, decide_eq_true_eq, decide_eq_false_iff_not, beq_iff_eq, bne_iff_ne, beq_eq_false_iff_ne, bne_eq_false_iff_eq] at h1
  · conv => whnf
    (refine br_true (inR_intro (by simp only [loI, hiI]; omega)) ?_; conv => whnf)
    have := tmod_emod (n := n) hm
    rw [if_pos h1] at this
    rw [← this]
    exact k _ (by repeat first | exact Mem.refl hσ | apply Mem.bump)
  · conv => whnf
    have := tmod_emod (n := n) hm
    rw [if_neg h1] at this
    rw [← this]
    exact k _ (by repeat first | exact Mem.refl hσ | apply Mem.bump)

/-! ### the field's tables -/
def vb (n : Nat) : Value := .int .u8 n
def vi (n : Nat) : Value := .int .i64 n

/-- One turn: the number, the powers, the logarithms. -/
def turn : Nat → Nat × List Nat × List Nat
  | 0 => (1, List.replicate 255 0, List.replicate 256 0)
  | n + 1 => match turn n with
    | (x, e, l) => (if 2 * x > 255 then (2 * x) ^^^ 285 else 2 * x, e.set n x, l.set x n)

@[irreducible] def tabE : List Nat := (turn 255).2.1
@[irreducible] def tabL : List Nat := (turn 255).2.2
def cellsOf (t : Nat × List Nat × List Nat) : List Value := t.2.1.map vb ++ t.2.2.map vi
@[irreducible] def fieldCells : List Value := tabE.map vb ++ tabL.map vi

theorem turn_lt : ∀ n, n ≤ 255 → (turn n).1 < 256 := by
  have : (List.range 256).all (fun n => decide ((turn n).1 < 256)) = true := by kernel_rfl
  intro n hn
  have := List.all_eq_true.1 this n (by simp; omega)
  simpa using this

theorem turn_lens : ∀ n, (turn n).2.1.length = 255 ∧ (turn n).2.2.length = 256
  | 0 => ⟨List.length_replicate .., List.length_replicate ..⟩
  | n + 1 => by
    have := turn_lens n
    simp only [turn, List.length_set]
    exact this
theorem turn_len (n : Nat) : (cellsOf (turn n)).length = 511 := by
  have := turn_lens n
  simp only [cellsOf, List.length_append, List.length_map, this.1, this.2]

theorem two1 : (2 : Int) ^ (min (Int.toNat 1) IntKind.i64.bits) = 2 := rfl

theorem xor64 (a b : Nat) (ha : a < 2 ^ 63) (hb : b < 2 ^ 63) : IntKind.i64.wrap (BitVec.ofInt IntKind.i64.bits (a : Int) ^^^ BitVec.ofInt IntKind.i64.bits (b : Int)).toNat = ((a ^^^ b : Nat) : Int) := by
  have h := Nat.xor_lt_two_pow ha hb
  have h1 : (BitVec.ofInt IntKind.i64.bits (a : Int) ^^^ BitVec.ofInt IntKind.i64.bits (b : Int)).toNat = a ^^^ b := by
    show (BitVec.ofInt 64 (a : Int) ^^^ BitVec.ofInt 64 (b : Int)).toNat = _
    rw [BitVec.ofInt_natCast, BitVec.ofInt_natCast, BitVec.toNat_xor, BitVec.toNat_ofNat, BitVec.toNat_ofNat, Nat.mod_eq_of_lt (by omega), Nat.mod_eq_of_lt (by omega)]
  rw [h1, i64_in _ (by omega)]
theorem xor8 (a b : Nat) (ha : a < 256) (hb : b < 256) : IntKind.u8.wrap (BitVec.ofInt IntKind.u8.bits (a : Int) ^^^ BitVec.ofInt IntKind.u8.bits (b : Int)).toNat = ((a ^^^ b : Nat) : Int) := by
  have h := Nat.xor_lt_two_pow (n := 8) ha hb
  have h1 : (BitVec.ofInt IntKind.u8.bits (a : Int) ^^^ BitVec.ofInt IntKind.u8.bits (b : Int)).toNat = a ^^^ b := by
    show (BitVec.ofInt 8 (a : Int) ^^^ BitVec.ofInt 8 (b : Int)).toNat = _
    rw [BitVec.ofInt_natCast, BitVec.ofInt_natCast, BitVec.toNat_xor, BitVec.toNat_ofNat, BitVec.toNat_ofNat, Nat.mod_eq_of_lt (by omega), Nat.mod_eq_of_lt (by omega)]
  rw [h1, u8_in _ (by omega)]
theorem cellsOf_turn (n : Nat) (h : n < 255) : cellsOf (turn (n + 1)) = ((cellsOf (turn n)).set n (vb (turn n).1)).set (255 + (turn n).1) (vi n) := by
  have := turn_lens n
  simp only [cellsOf, turn, List.map_set]
  rw [List.set_append_left _ _ (by rw [List.length_map]; omega), List.set_append_right _ _ (by rw [List.length_set, List.length_map]; omega), List.length_set, List.length_map, this.1, Nat.add_sub_cancel_left]

set_option pp.deepTerms.threshold 4
theorem new (hC : CProp (ACall Try.prog Base)) {σ : AS} (hσ : Ok σ) {Q : Value → AS → Prop} (k : ∀ σ' r, Mem σ σ' → σ.next ≤ r → σ'.heap r = some (.cells fieldCells false) → Q (.pointer (some ⟨r, 0, none⟩)) σ') :
    ∃ v σ', ACall Try.prog Base 10 [] σ v σ' ∧ Q v σ' := by
  refine call_rwp hC cf10 rfl hσ.wf ?_
  conv => whnf
  refine loop_intro (n := 30) (fun m vs τ => ∃ n, n ≤ 255 ∧ m = 255 - n ∧ vs = [.pointer (some ⟨σ.next + 1 + 1, 0, none⟩), vi (turn n).1, vi n] ∧ Mem σ τ ∧ τ.heap (σ.next + 1 + 1) = some (.cells (cellsOf (turn n)) false)) 255 rfl ?_ ?_
  · conv => whnf
    refine ⟨0, by omega, rfl, rfl, ?_, ?_⟩
    · repeat first | exact Mem.refl hσ | apply Mem.bump | refine Mem.put ?_ (by (try simp only [bump_next, put_next]); omega) (by (try simp only [bump_next, put_next]); omega)
    · refine (put_heap_eq _ _ _).trans ?_
      kernel_rfl
  · rintro m vs τ ⟨n, hn, rfl, rfl, g, hh⟩
    conv => whnf
    refine br_intro ?_ ?_ <;> intro h1 <;> simp only [blt_dec, ble_dec, beq_dec, ltB_eq, leB_eq, decide_eq_true_eq, decide_eq_false_iff_not, beq_iff_eq, bne_iff_ne, beq_eq_false_iff_ne, bne_eq_false_iff_eq] at h1
    · conv => whnf
      have hx := turn_lt n hn
      have hl : (cellsOf (turn n)).length = 511 := turn_len n
      have hr := g.ok.lt hh
      repeat (first | (refine br_true (inR_intro (by simp only [loI, hiI]; omega)) ?_; conv => whnf) | (refine br_true (by simp only [blt_dec, ble_dec, beq_dec, ltB_eq, leB_eq, decide_eq_true_eq, decide_eq_false_iff_not, Bool.and_eq_true, Bool.or_eq_true, beq_iff_eq, bne_iff_ne, beq_eq_false_iff_ne, bne_eq_false_iff_eq]; first | done | omega) ?_; conv => whnf))
      refine wr_intro hh (g.noprot hσ (by omega)) ?_
      conv => whnf
      repeat (first | (refine br_true (inR_intro (by simp only [loI, hiI]; omega)) ?_; conv => whnf) | (refine br_true (by simp only [blt_dec, ble_dec, beq_dec, ltB_eq, leB_eq, decide_eq_true_eq, decide_eq_false_iff_not, Bool.and_eq_true, Bool.or_eq_true, beq_iff_eq, bne_iff_ne, beq_eq_false_iff_ne, bne_eq_false_iff_eq, hl]; first | done | omega) ?_; conv => whnf))
      refine wr_intro (put_heap_eq _ _ _) (g.noprot hσ (by omega)) ?_
      conv => whnf
      rw [show (0 + 0 + n * 1) = n by omega, wr_one _ _ _ (by omega)]
      repeat (first | (refine br_true (inR_intro (by simp only [loI, hiI]; omega)) ?_; conv => whnf) | (refine br_true (by simp only [blt_dec, ble_dec, beq_dec, ltB_eq, leB_eq, decide_eq_true_eq, decide_eq_false_iff_not, Bool.and_eq_true, Bool.or_eq_true, beq_iff_eq, bne_iff_ne, beq_eq_false_iff_ne, bne_eq_false_iff_eq, List.length_set, hl]; first | done | omega) ?_; conv => whnf))
      rw [two1, show ((turn n).1 : Int) * 2 = ((2 * (turn n).1 : Nat) : Int) by omega]
      repeat (first | (refine br_true (inR_intro (by simp only [loI, hiI]; omega)) ?_; conv => whnf) | (refine br_true (by simp only [blt_dec, ble_dec, beq_dec, ltB_eq, leB_eq, decide_eq_true_eq, decide_eq_false_iff_not, Bool.and_eq_true, Bool.or_eq_true, beq_iff_eq, bne_iff_ne, beq_eq_false_iff_ne, bne_eq_false_iff_eq]; first | done | omega) ?_; conv => whnf))
      refine br_intro ?_ ?_ <;> intro h2 <;> simp only [blt_dec, ble_dec, beq_dec, ltB_eq, leB_eq, decide_eq_true_eq, decide_eq_false_iff_not, beq_iff_eq, bne_iff_ne, beq_eq_false_iff_ne, bne_eq_false_iff_eq] at h2
      · conv => whnf
        repeat (first | (refine br_true (inR_intro (by simp only [loI, hiI]; omega)) ?_; conv => whnf) | (refine br_true (by simp only [blt_dec, ble_dec, beq_dec, ltB_eq, leB_eq, decide_eq_true_eq, decide_eq_false_iff_not, Bool.and_eq_true, Bool.or_eq_true, beq_iff_eq, bne_iff_ne, beq_eq_false_iff_ne, bne_eq_false_iff_eq]; first | done | omega) ?_; conv => whnf))
        rw [lock_eq, show (285 : Int) = ((285 : Nat) : Int) from rfl, xor64 _ 285 (by omega) (by omega)]
        refine ⟨rfl, 255 - (n + 1), by omega, n + 1, by omega, rfl, ?_, ?_, ?_⟩
        · simp only [turn, vi]
          rw [if_pos (by omega)]
          rfl
        · repeat first | exact g | apply Mem.bump | refine Mem.put ?_ (by (try simp only [bump_next, put_next]); omega) (by (try simp only [bump_next, put_next]); omega)
        · refine (put_heap_eq _ _ _).trans ?_
          rw [lock_eq, u8_in _ (by omega), cellsOf_turn n (by omega), show 0 + 255 + (turn n).1 * 1 = 255 + (turn n).1 by omega, wr_one _ _ _ (by rw [List.length_set]; omega)]
          rfl
      · conv => whnf
        repeat (first | (refine br_true (inR_intro (by simp only [loI, hiI]; omega)) ?_; conv => whnf) | (refine br_true (by simp only [blt_dec, ble_dec, beq_dec, ltB_eq, leB_eq, decide_eq_true_eq, decide_eq_false_iff_not, Bool.and_eq_true, Bool.or_eq_true, beq_iff_eq, bne_iff_ne, beq_eq_false_iff_ne, bne_eq_false_iff_eq]; first | done | omega) ?_; conv => whnf))
        refine ⟨rfl, 255 - (n + 1), by omega, n + 1, by omega, rfl, ?_, ?_, ?_⟩
        · simp only [turn, vi]
          rw [if_neg (by omega)]
          rfl
        · repeat first | exact g | apply Mem.bump | refine Mem.put ?_ (by (try simp only [bump_next, put_next]); omega) (by (try simp only [bump_next, put_next]); omega)
        · refine (put_heap_eq _ _ _).trans ?_
          rw [lock_eq, u8_in _ (by omega), cellsOf_turn n (by omega), show 0 + 255 + (turn n).1 * 1 = 255 + (turn n).1 by omega, wr_one _ _ _ (by rw [List.length_set]; omega)]
          rfl
    · conv => whnf
      obtain rfl : n = 255 := by omega
      exact k _ _ (by repeat first | exact g | apply Mem.bump) (by omega) (by unfold fieldCells tabE tabL; exact hh)
end
end Go.Corb.A

/- Contracts of the field's functions. Conditions: none. -/
set_option linter.unusedVariables false
set_option linter.unusedSimpArgs false
namespace Go.Corb.A
open Go Go.RowKit Go.Proofs Go.Corb Go.IntWalk

def gmul (a b : Nat) : Nat := if a = 0 ∨ b = 0 then 0 else tabE.getD ((tabL.getD a 0 + tabL.getD b 0) % 255) 0
def ginv (a : Nat) : Nat := if a = 0 then 0 else tabE.getD ((255 - tabL.getD a 0) % 255) 0

theorem tabL_lt : ∀ a, tabL.getD a 0 < 255 := by
  have h : tabL.all (fun x => decide (x < 255)) = true := by kernel_rfl
  intro a
  rw [List.getD_eq_getElem?_getD]
  cases e : tabL[a]? with
  | none => decide
  | some x =>
    have := List.all_eq_true.1 h x (List.mem_of_getElem? e)
    simpa using this
theorem tabE_lt : ∀ a, tabE.getD a 0 < 256 := by
  have h : tabE.all (fun x => decide (x < 256)) = true := by kernel_rfl
  intro a
  rw [List.getD_eq_getElem?_getD]
  cases e : tabE[a]? with
  | none => decide
  | some x =>
    have := List.all_eq_true.1 h x (List.mem_of_getElem? e)
    simpa using this
theorem tabE_len : tabE.length = 255 := by unfold tabE; exact (turn_lens 255).1
theorem tabL_len : tabL.length = 256 := by unfold tabL; exact (turn_lens 255).2
theorem gmul_lt (a b : Nat) : gmul a b < 256 := by
  unfold gmul; split
  · omega
  · exact tabE_lt _
theorem ginv_lt (a : Nat) : ginv a < 256 := by
  unfold ginv; split
  · omega
  · exact tabE_lt _
theorem fc_len : fieldCells.length = 511 := by simp only [fieldCells, List.length_append, List.length_map, tabE_len, tabL_len]
theorem getD_of_lt {l : List Nat} {a : Nat} (h : a < l.length) : l[a]? = some (l.getD a 0) := by
  rw [List.getD_eq_getElem?_getD, List.getElem?_eq_getElem h]; rfl
theorem fc_log {a o : Nat} (h : a < 256) (ho : o = 255 + a) : fieldCells[o]? = some (vi (tabL.getD a 0)) := by
  subst ho
  rw [fieldCells, List.getElem?_append_right (by rw [List.length_map, tabE_len]; omega), List.length_map, tabE_len, Nat.add_sub_cancel_left, List.getElem?_map, getD_of_lt (by rw [tabL_len]; exact h)]
  rfl
theorem fc_exp {a o : Nat} (h : a < 255) (ho : o = a) : fieldCells[o]? = some (vb (tabE.getD a 0)) := by
  subst ho
  rw [fieldCells, List.getElem?_append_left (by rw [List.length_map, tabE_len]; omega), List.getElem?_map, getD_of_lt (by rw [tabE_len]; exact h)]
  rfl

section
variable {Base : CallRel}
set_option pp.deepTerms.threshold 4

theorem add (hC : CProp (ACall Try.prog Base)) {f : Value} {a b : Nat} (ha : a < 256) (hb : b < 256) {σ : AS} (hσ : Ok σ) {Q : Value → AS → Prop} (hf : forceV f fun _ => True) (k : ∀ σ', Mem σ σ' → Q (vb (a ^^^ b)) σ') :
    ∃ v σ', ACall Try.prog Base 36 [f, vb a, vb b] σ v σ' ∧ Q v σ' := by
  refine call_rwp hC cf36 rfl hσ.wf ?_
  conv => whnf
  rw [lock_eq, xor8 a b ha hb]
  exact k _ (by repeat first | exact Mem.refl hσ | apply Mem.bump)

theorem mul (hC : CProp (ACall Try.prog Base)) {r : Nat} {ro : Bool} {a b : Nat} (ha : a < 256) (hb : b < 256) {σ : AS} (hσ : Ok σ) (hf : σ.heap r = some (.cells fieldCells ro)) {Q : Value → AS → Prop} (k : ∀ σ', Mem σ σ' → Q (vb (gmul a b)) σ') :
    ∃ v σ', ACall Try.prog Base 35 [.pointer (some ⟨r, 0, none⟩), vb a, vb b] σ v σ' ∧ Q v σ' := by
  refine call_rwp hC cf35 rfl hσ.wf ?_
  conv => whnf
  have la := tabL_lt a
  have lb := tabL_lt b
  have hlen := fc_len
  refine br_intro ?_ ?_ <;> intro h1 <;> simp only [blt_dec, ble_dec, beq_dec, ltB_eq, leB_eq, decide_eq_true_eq, decide_eq_false_iff_not, beq_iff_eq, bne_iff_ne, beq_eq_false_iff_ne, bne_eq_false_iff_eq] at h1
  · conv => whnf
    conv => whnf
    have e : gmul a b = 0 := by unfold gmul; rw [if_pos (by omega)]
    rw [e] at k
    exact k _ (by repeat first | exact Mem.refl hσ | apply Mem.bump)
  · conv => whnf
    refine br_intro ?_ ?_ <;> intro h2 <;> simp only [blt_dec, ble_dec, beq_dec, ltB_eq, leB_eq, decide_eq_true_eq, decide_eq_false_iff_not, beq_iff_eq, bne_iff_ne, beq_eq_false_iff_ne, bne_eq_false_iff_eq] at h2
    · conv => whnf
      have e : gmul a b = 0 := by unfold gmul; rw [if_pos (by omega)]
      rw [e] at k
      exact k _ (by repeat first | exact Mem.refl hσ | apply Mem.bump)
    · conv => whnf
      repeat (first | (refine br_true (inR_intro (by simp only [loI, hiI]; omega)) ?_; conv => whnf) | (refine br_true (by simp only [blt_dec, ble_dec, beq_dec, ltB_eq, leB_eq, decide_eq_true_eq, decide_eq_false_iff_not, Bool.and_eq_true, Bool.or_eq_true, beq_iff_eq, bne_iff_ne, beq_eq_false_iff_ne, bne_eq_false_iff_eq]; first | done | omega) ?_; conv => whnf))
      refine ld_intro hf ?_
      conv => whnf
      refine at_intro (fc_log ha (by omega)) ?_
      conv => whnf
      repeat (first | (refine br_true (inR_intro (by simp only [loI, hiI]; omega)) ?_; conv => whnf) | (refine br_true (by simp only [blt_dec, ble_dec, beq_dec, ltB_eq, leB_eq, decide_eq_true_eq, decide_eq_false_iff_not, Bool.and_eq_true, Bool.or_eq_true, beq_iff_eq, bne_iff_ne, beq_eq_false_iff_ne, bne_eq_false_iff_eq]; first | done | omega) ?_; conv => whnf))
      refine ld_intro hf ?_
      conv => whnf
      refine at_intro (fc_log hb (by omega)) ?_
      conv => whnf
      repeat (first | (refine br_true (inR_intro (by simp only [loI, hiI]; omega)) ?_; conv => whnf) | (refine br_true (by simp only [blt_dec, ble_dec, beq_dec, ltB_eq, leB_eq, decide_eq_true_eq, decide_eq_false_iff_not, Bool.and_eq_true, Bool.or_eq_true, beq_iff_eq, bne_iff_ne, beq_eq_false_iff_ne, bne_eq_false_iff_eq]; first | done | omega) ?_; conv => whnf))
      rw [lock_eq, show ((tabL.getD a 0 : Nat) : Int) + ((tabL.getD b 0 : Nat) : Int) = ((tabL.getD a 0 + tabL.getD b 0 : Nat) : Int) by omega, show (255 : Int) = ((255 : Nat) : Int) from rfl, ← Int.ofNat_tmod]
      conv => whnf
      repeat (first | (refine br_true (inR_intro (by simp only [loI, hiI]; omega)) ?_; conv => whnf) | (refine br_true (by simp only [blt_dec, ble_dec, beq_dec, ltB_eq, leB_eq, decide_eq_true_eq, decide_eq_false_iff_not, Bool.and_eq_true, Bool.or_eq_true, beq_iff_eq, bne_iff_ne, beq_eq_false_iff_ne, bne_eq_false_iff_eq]; first | done | omega) ?_; conv => whnf))
      refine ld_intro hf ?_
      conv => whnf
      refine at_intro (fc_exp (a := (tabL.getD a 0 + tabL.getD b 0) % 255) (by omega) (by omega)) ?_
      conv => whnf
      have e : gmul a b = tabE.getD ((tabL.getD a 0 + tabL.getD b 0) % 255) 0 := by unfold gmul; rw [if_neg (by omega)]
      rw [e] at k
      exact k _ (by repeat first | exact Mem.refl hσ | apply Mem.bump)

theorem inv (hC : CProp (ACall Try.prog Base)) {r : Nat} {ro : Bool} {a : Nat} (ha : a < 256) {σ : AS} (hσ : Ok σ) (hf : σ.heap r = some (.cells fieldCells ro)) {Q : Value → AS → Prop} (k : ∀ σ', Mem σ σ' → Q (.tuple [vb (ginv a), .bool (decide (a ≠ 0))].toArray) σ') :
    ∃ v σ', ACall Try.prog Base 51 [.pointer (some ⟨r, 0, none⟩), vb a] σ v σ' ∧ Q v σ' := by
  refine call_rwp hC cf51 rfl hσ.wf ?_
  conv => whnf
  have la := tabL_lt a
  refine br_intro ?_ ?_ <;> intro h1 <;> simp only [blt_dec, ble_dec, beq_dec, ltB_eq, leB_eq, decide_eq_true_eq, decide_eq_false_iff_not, beq_iff_eq, bne_iff_ne, beq_eq_false_iff_ne, bne_eq_false_iff_eq] at h1
  · conv => whnf
    obtain rfl : a = 0 := by omega
    exact k _ (by repeat first | exact Mem.refl hσ | apply Mem.bump)
  · conv => whnf
    repeat (first | (refine br_true (inR_intro (by simp only [loI, hiI]; omega)) ?_; conv => whnf) | (refine br_true (by simp only [blt_dec, ble_dec, beq_dec, ltB_eq, leB_eq, decide_eq_true_eq, decide_eq_false_iff_not, Bool.and_eq_true, Bool.or_eq_true, beq_iff_eq, bne_iff_ne, beq_eq_false_iff_ne, bne_eq_false_iff_eq]; first | done | omega) ?_; conv => whnf))
    refine ld_intro hf ?_
    conv => whnf
    refine at_intro (fc_log ha (by omega)) ?_
    conv => whnf
    repeat (first | (refine br_true (inR_intro (by simp only [loI, hiI]; omega)) ?_; conv => whnf) | (refine br_true (by simp only [blt_dec, ble_dec, beq_dec, ltB_eq, leB_eq, decide_eq_true_eq, decide_eq_false_iff_not, Bool.and_eq_true, Bool.or_eq_true, beq_iff_eq, bne_iff_ne, beq_eq_false_iff_ne, bne_eq_false_iff_eq]; first | done | omega) ?_; conv => whnf))
    rw [lock_eq, show (255 : Int) - ((tabL.getD a 0 : Nat) : Int) = ((255 - tabL.getD a 0 : Nat) : Int) by omega, show (255 : Int) = ((255 : Nat) : Int) from rfl, ← Int.ofNat_tmod]
    conv => whnf
    repeat (first | (refine br_true (inR_intro (by simp only [loI, hiI]; omega)) ?_; conv => whnf) | (refine br_true (by simp only [blt_dec, ble_dec, beq_dec, ltB_eq, leB_eq, decide_eq_true_eq, decide_eq_false_iff_not, Bool.and_eq_true, Bool.or_eq_true, beq_iff_eq, bne_iff_ne, beq_eq_false_iff_ne, bne_eq_false_iff_eq]; first | done | omega) ?_; conv => whnf))
    refine ld_intro hf ?_
    conv => whnf
    refine at_intro (fc_exp (a := (255 - tabL.getD a 0) % 255) (by omega) (by omega)) ?_
    conv => whnf
    have e : ginv a = tabE.getD ((255 - tabL.getD a 0) % 255) 0 := by unfold ginv; rw [if_neg (by omega)]
    have e2 : decide (a ≠ 0) = true := by simp; omega
    rw [e, e2] at k
    exact k _ (by repeat first | exact Mem.refl hσ | apply Mem.bump)
end
end Go.Corb.A

/- The field: plain laws of its multiplication. Conditions: none. -/
set_option linter.unusedVariables false
set_option linter.unusedSimpArgs false
namespace Go.Corb.A
open Go Go.RowKit Go.Corb

def xt (x : Nat) : Nat := if 2 * x > 255 then (2 * x) ^^^ 285 else 2 * x
theorem xor_lt8' {a b : Nat} (ha : a < 256) (hb : b < 256) : a ^^^ b < 256 := Nat.xor_lt_two_pow (n := 8) ha hb
theorem all_lt {p : Nat → Bool} {n : Nat} (h : (List.range n).all p = true) {i : Nat} (hi : i < n) : p i = true := List.all_eq_true.1 h i (List.mem_range.2 hi)
theorem xt_form0 : (List.range 256).all (fun x => Nat.beq (xt x) ((x <<< 1) ^^^ (285 * (x >>> 7)))) = true := by kernel_rfl
theorem xt_form {x : Nat} (hx : x < 256) : xt x = (x <<< 1) ^^^ (285 * (x >>> 7)) := Nat.eq_of_beq_eq_true (all_lt xt_form0 hx)
theorem xlc (a b c : Nat) : a ^^^ (b ^^^ c) = b ^^^ (a ^^^ c) := by rw [← Nat.xor_assoc, ← Nat.xor_assoc, Nat.xor_comm a b]
theorem bit_lin {a b : Nat} (ha : a < 2) (hb : b < 2) : 285 * (a ^^^ b) = (285 * a) ^^^ (285 * b) := by
  rcases (show a = 0 ∨ a = 1 by omega) with rfl | rfl <;> rcases (show b = 0 ∨ b = 1 by omega) with rfl | rfl <;> rfl
theorem xt_lin {x y : Nat} (hx : x < 256) (hy : y < 256) : xt (x ^^^ y) = xt x ^^^ xt y := by
  have h1 : x >>> 7 < 2 := by rw [Nat.shiftRight_eq_div_pow]; omega
  have h2 : y >>> 7 < 2 := by rw [Nat.shiftRight_eq_div_pow]; omega
  rw [xt_form hx, xt_form hy, xt_form (xor_lt8' hx hy), Nat.shiftLeft_xor_distrib, Nat.shiftRight_xor_distrib, bit_lin h1 h2]
  simp only [Nat.xor_assoc]
  congr 1
  exact xlc _ _ _
theorem xt_lt0 : (List.range 256).all (fun x => Nat.blt (xt x) 256) = true := by kernel_rfl
theorem xt_lt {x : Nat} (hx : x < 256) : xt x < 256 := by have := all_lt xt_lt0 hx; rwa [Nat.blt_eq] at this

/-- The product without carry, of so many digits. -/
def cl : Nat → Nat → Nat → Nat
  | 0, _, _ => 0
  | k + 1, a, b => (if b % 2 = 1 then a else 0) ^^^ cl k (xt a) (b / 2)
theorem cl_lt : ∀ (k : Nat) {a b : Nat}, a < 256 → cl k a b < 256
  | 0, _, _, _ => Nat.zero_lt_succ _
  | k + 1, a, b, ha => by
    unfold cl
    refine xor_lt8' ?_ (cl_lt k (xt_lt ha))
    split
    · exact ha
    · omega
theorem cl_add : ∀ (k : Nat) {a a' b : Nat}, a < 256 → a' < 256 → cl k (a ^^^ a') b = cl k a b ^^^ cl k a' b
  | 0, _, _, _, _, _ => by simp only [cl]; rfl
  | k + 1, a, a', b, ha, ha' => by
    unfold cl
    rw [xt_lin ha ha', cl_add k (xt_lt ha) (xt_lt ha')]
    split
    · simp only [Nat.xor_assoc]; congr 1; exact xlc _ _ _
    · simp only [Nat.zero_xor]
theorem xt_zero : xt 0 = 0 := rfl
theorem cl_xt : ∀ (k : Nat) {a b : Nat}, a < 256 → cl k (xt a) b = xt (cl k a b)
  | 0, _, _, _ => rfl
  | k + 1, a, b, ha => by
    unfold cl
    rw [xt_lin (by split; exact ha; omega) (cl_lt k (xt_lt ha)), cl_xt k (xt_lt ha)]
    split
    · rfl
    · rw [xt_zero]
theorem cl_zero : ∀ (k b : Nat), cl k 0 b = 0
  | 0, _ => rfl
  | k + 1, b => by unfold cl; rw [xt_zero, cl_zero k]; split <;> rfl
theorem cl_zero' : ∀ (k a : Nat), cl k a 0 = 0
  | 0, _ => rfl
  | k + 1, a => by unfold cl; rw [show 0 / 2 = 0 from rfl, cl_zero' k, if_neg (by omega)]; rfl
theorem cl_one0 : (List.range 256).all (fun b => Nat.beq (cl 8 1 b) b) = true := by kernel_rfl
theorem cl_one {b : Nat} (h : b < 256) : cl 8 1 b = b := Nat.eq_of_beq_eq_true (all_lt cl_one0 h)

theorem tabE_lit : tabE = [1, 2, 4, 8, 16, 32, 64, 128, 29, 58, 116, 232, 205, 135, 19, 38, 76, 152, 45, 90, 180, 117, 234, 201, 143, 3, 6, 12, 24, 48, 96, 192, 157, 39, 78, 156, 37, 74, 148, 53, 106, 212, 181, 119, 238, 193, 159, 35, 70, 140, 5, 10, 20, 40, 80, 160, 93, 186, 105, 210, 185, 111, 222, 161, 95, 190, 97, 194, 153, 47, 94, 188, 101, 202, 137, 15, 30, 60, 120, 240, 253, 231, 211, 187, 107, 214, 177, 127, 254, 225, 223, 163, 91, 182, 113, 226, 217, 175, 67, 134, 17, 34, 68, 136, 13, 26, 52, 104, 208, 189, 103, 206, 129, 31, 62, 124, 248, 237, 199, 147, 59, 118, 236, 197, 151, 51, 102, 204, 133, 23, 46, 92, 184, 109, 218, 169, 79, 158, 33, 66, 132, 21, 42, 84, 168, 77, 154, 41, 82, 164, 85, 170, 73, 146, 57, 114, 228, 213, 183, 115, 230, 209, 191, 99, 198, 145, 63, 126, 252, 229, 215, 179, 123, 246, 241, 255, 227, 219, 171, 75, 150, 49, 98, 196, 149, 55, 110, 220, 165, 87, 174, 65, 130, 25, 50, 100, 200, 141, 7, 14, 28, 56, 112, 224, 221, 167, 83, 166, 81, 162, 89, 178, 121, 242, 249, 239, 195, 155, 43, 86, 172, 69, 138, 9, 18, 36, 72, 144, 61, 122, 244, 245, 247, 243, 251, 235, 203, 139, 11, 22, 44, 88, 176, 125, 250, 233, 207, 131, 27, 54, 108, 216, 173, 71, 142] := by kernel_rfl
theorem tabL_lit : tabL = [0, 0, 1, 25, 2, 50, 26, 198, 3, 223, 51, 238, 27, 104, 199, 75, 4, 100, 224, 14, 52, 141, 239, 129, 28, 193, 105, 248, 200, 8, 76, 113, 5, 138, 101, 47, 225, 36, 15, 33, 53, 147, 142, 218, 240, 18, 130, 69, 29, 181, 194, 125, 106, 39, 249, 185, 201, 154, 9, 120, 77, 228, 114, 166, 6, 191, 139, 98, 102, 221, 48, 253, 226, 152, 37, 179, 16, 145, 34, 136, 54, 208, 148, 206, 143, 150, 219, 189, 241, 210, 19, 92, 131, 56, 70, 64, 30, 66, 182, 163, 195, 72, 126, 110, 107, 58, 40, 84, 250, 133, 186, 61, 202, 94, 155, 159, 10, 21, 121, 43, 78, 212, 229, 172, 115, 243, 167, 87, 7, 112, 192, 247, 140, 128, 99, 13, 103, 74, 222, 237, 49, 197, 254, 24, 227, 165, 153, 119, 38, 184, 180, 124, 17, 68, 146, 217, 35, 32, 137, 46, 55, 63, 209, 91, 149, 188, 207, 205, 144, 135, 151, 178, 220, 252, 190, 97, 242, 86, 211, 171, 20, 42, 93, 158, 132, 60, 57, 83, 71, 109, 65, 162, 31, 45, 67, 216, 183, 123, 164, 118, 196, 23, 73, 236, 127, 12, 111, 246, 108, 161, 59, 82, 41, 157, 85, 170, 251, 96, 134, 177, 187, 204, 62, 90, 203, 89, 95, 176, 156, 169, 160, 81, 11, 245, 22, 235, 122, 117, 44, 215, 79, 174, 213, 233, 230, 231, 173, 232, 116, 214, 244, 234, 168, 80, 88, 175] := by kernel_rfl
def ex (i : Nat) : Nat := tabE.getD i 0
def lg (a : Nat) : Nat := tabL.getD a 0
theorem ex_step0 : ((List.range 255).all fun i => Nat.beq (tabE.getD ((i + 1) % 255) 0) (xt (tabE.getD i 0))) = true := by rw [tabE_lit]; kernel_rfl
theorem ex_step {i : Nat} (h : i < 255) : ex ((i + 1) % 255) = xt (ex i) := Nat.eq_of_beq_eq_true (all_lt ex_step0 h)
theorem ex_lg0 : ((List.range 256).all fun a => Nat.beq a 0 || Nat.beq (tabE.getD (tabL.getD a 0) 0) a) = true := by rw [tabE_lit, tabL_lit]; kernel_rfl
theorem ex_lg {a : Nat} (h : a < 256) (h0 : a ≠ 0) : ex (lg a) = a := by
  have := all_lt ex_lg0 h
  simp only [Bool.or_eq_true, Nat.beq_eq] at this
  exact this.resolve_left h0
theorem lg_ex0 : ((List.range 255).all fun i => Nat.beq (tabL.getD (tabE.getD i 0) 0) i && !Nat.beq (tabE.getD i 0) 0) = true := by rw [tabE_lit, tabL_lit]; kernel_rfl
theorem lg_ex {i : Nat} (h : i < 255) : lg (ex i) = i ∧ ex i ≠ 0 := by
  have := all_lt lg_ex0 h
  simp only [Bool.and_eq_true, Nat.beq_eq, Bool.not_eq_true'] at this
  refine ⟨this.1, fun e => ?_⟩
  have h2 := this.2
  rw [show tabE.getD i 0 = 0 from e] at h2
  cases h2
theorem ex_zero : ex 0 = 1 := by have h : tabE.getD 0 0 = 1 := by rw [tabE_lit]; kernel_rfl
                                 exact h
theorem lg_lt (a : Nat) : lg a < 255 := tabL_lt a
theorem ex_lt (a : Nat) : ex a < 256 := tabE_lt a
theorem gmul_eq {a b : Nat} (ha : a ≠ 0) (hb : b ≠ 0) : gmul a b = ex ((lg a + lg b) % 255) := by
  unfold gmul; rw [if_neg (by omega)]; rfl

theorem cl_ex : ∀ (i : Nat) {j : Nat}, i < 255 → j < 255 → cl 8 (ex i) (ex j) = ex ((i + j) % 255)
  | 0, j, _, hj => by rw [ex_zero, cl_one (ex_lt j), Nat.zero_add, Nat.mod_eq_of_lt hj]
  | i + 1, j, hi, hj => by
    have e1 : ex (i + 1) = xt (ex i) := by have := ex_step (i := i) (by omega); rwa [Nat.mod_eq_of_lt hi] at this
    rw [e1, cl_xt 8 (ex_lt i), cl_ex i (by omega) hj]
    have := ex_step (i := (i + j) % 255) (by omega)
    rw [← this]
    congr 1
    omega
theorem gmul_cl {a b : Nat} (ha : a < 256) (hb : b < 256) : gmul a b = cl 8 a b := by
  by_cases h1 : a = 0
  · subst h1; rw [cl_zero]; unfold gmul; rw [if_pos (by omega)]
  by_cases h2 : b = 0
  · subst h2; rw [cl_zero']; unfold gmul; rw [if_pos (by omega)]
  rw [gmul_eq h1 h2, ← cl_ex _ (lg_lt a) (lg_lt b), ex_lg ha h1, ex_lg hb h2]

theorem gmul_comm (a b : Nat) : gmul a b = gmul b a := by
  unfold gmul
  rw [Nat.add_comm]
  by_cases h : a = 0 ∨ b = 0
  · rw [if_pos h, if_pos h.symm]
  · rw [if_neg h, if_neg fun e => h e.symm]
theorem gmul_zero (a : Nat) : gmul a 0 = 0 := by unfold gmul; rw [if_pos (by omega)]
theorem zero_gmul (a : Nat) : gmul 0 a = 0 := by unfold gmul; rw [if_pos (by omega)]
theorem add_gmul {a a' b : Nat} (ha : a < 256) (ha' : a' < 256) (hb : b < 256) : gmul (a ^^^ a') b = gmul a b ^^^ gmul a' b := by
  rw [gmul_cl (xor_lt8' ha ha') hb, cl_add 8 ha ha', gmul_cl ha hb, gmul_cl ha' hb]
theorem gmul_add {a b b' : Nat} (ha : a < 256) (hb : b < 256) (hb' : b' < 256) : gmul a (b ^^^ b') = gmul a b ^^^ gmul a b' := by
  rw [gmul_comm, add_gmul hb hb' ha, gmul_comm b, gmul_comm b']
theorem gmul_ne {a b : Nat} (ha : a ≠ 0) (hb : b ≠ 0) : gmul a b ≠ 0 := by
  rw [gmul_eq ha hb]; exact (lg_ex (by omega)).2
theorem gmul_assoc (a b c : Nat) : gmul (gmul a b) c = gmul a (gmul b c) := by
  by_cases h1 : a = 0
  · subst h1; simp only [zero_gmul]
  by_cases h2 : b = 0
  · subst h2; simp only [zero_gmul, gmul_zero]
  by_cases h3 : c = 0
  · subst h3; simp only [gmul_zero]
  rw [gmul_eq (gmul_ne h1 h2) h3, gmul_eq h1 (gmul_ne h2 h3), gmul_eq h1 h2, gmul_eq h2 h3, (lg_ex (i := (lg a + lg b) % 255) (by omega)).1, (lg_ex (i := (lg b + lg c) % 255) (by omega)).1]
  congr 1
  omega
def gmulL (E L : List Nat) (a b : Nat) : Nat := if a = 0 ∨ b = 0 then 0 else E.getD ((L.getD a 0 + L.getD b 0) % 255) 0
def ginvL (E L : List Nat) (a : Nat) : Nat := if a = 0 then 0 else E.getD ((255 - L.getD a 0) % 255) 0
theorem gmul_one0 : ((List.range 256).all fun a => Nat.beq (gmul a 1) a) = true := by
  show ((List.range 256).all fun a => Nat.beq (gmulL tabE tabL a 1) a) = true
  rw [tabE_lit, tabL_lit]; kernel_rfl
theorem gmul_one {a : Nat} (h : a < 256) : gmul a 1 = a := Nat.eq_of_beq_eq_true (all_lt gmul_one0 h)
theorem one_gmul {a : Nat} (h : a < 256) : gmul 1 a = a := by rw [gmul_comm, gmul_one h]
theorem gmul_inv0 : ((List.range 256).all fun a => Nat.beq a 0 || Nat.beq (gmul a (ginv a)) 1) = true := by
  show ((List.range 256).all fun a => Nat.beq a 0 || Nat.beq (gmulL tabE tabL a (ginvL tabE tabL a)) 1) = true
  rw [tabE_lit, tabL_lit]; kernel_rfl
theorem gmul_inv {a : Nat} (h : a < 256) (h0 : a ≠ 0) : gmul a (ginv a) = 1 := by
  have := all_lt gmul_inv0 h
  simp only [Bool.or_eq_true, Nat.beq_eq] at this
  exact this.resolve_left h0
theorem ginv_ne {a : Nat} (h : a < 256) (h0 : a ≠ 0) : ginv a ≠ 0 := by
  intro e
  have := gmul_inv h h0
  rw [e, gmul_zero] at this
  cases this
theorem gmul_cancel {a b : Nat} (h : gmul a b = 0) (h0 : b ≠ 0) : a = 0 := by
  by_cases e : a = 0
  · exact e
  · exact absurd h (gmul_ne e h0)

/-! ### products of rows and vectors -/
def dot : List Nat → (Nat → Nat) → Nat
  | [], _ => 0
  | x :: l, z => gmul x (z 0) ^^^ dot l (fun j => z (j + 1))

theorem dot_lt : ∀ (l : List Nat) (z : Nat → Nat), dot l z < 256
  | [], _ => Nat.zero_lt_succ _
  | x :: l, z => xor_lt8' (gmul_lt _ _) (dot_lt l _)
theorem dot_scale (c : Nat) (hc : c < 256) : ∀ (l : List Nat) (z : Nat → Nat), dot (l.map fun x => gmul x c) z = gmul (dot l z) c
  | [], _ => (zero_gmul c).symm
  | x :: l, z => by
    simp only [List.map_cons, dot]
    rw [dot_scale c hc l, add_gmul (gmul_lt _ _) (dot_lt _ _) hc, gmul_assoc, gmul_assoc, gmul_comm c]
theorem dot_addR (t : Nat) (ht : t < 256) : ∀ (l p : List Nat) (z : Nat → Nat), (∀ x ∈ l, x < 256) → (∀ j, z j < 256) → p.length = l.length →
    dot (List.zipWith (fun x y => x ^^^ gmul t y) l p) z = dot l z ^^^ gmul t (dot p z)
  | [], [], z, _, _, _ => by simp [dot, gmul_zero]
  | x :: l, y :: p, z, hl, hz, he => by
    simp only [List.zipWith_cons_cons, dot]
    rw [dot_addR t ht l p _ (fun x hx => hl x (by simp [hx])) (fun j => hz _) (by simpa using he), gmul_add ht (gmul_lt _ _) (dot_lt _ _), add_gmul (hl x (by simp)) (gmul_lt _ _) (hz 0), gmul_assoc]
    simp only [Nat.xor_assoc]
    congr 1
    exact xlc _ _ _
  | [], _ :: _, _, _, _, h => by cases h
  | _ :: _, [], _, _, _, h => by cases h
theorem dot_append : ∀ (l l' : List Nat) (z : Nat → Nat), dot (l ++ l') z = dot l z ^^^ dot l' (fun j => z (l.length + j))
  | [], l', z => by simp [dot]
  | x :: l, l', z => by
    simp only [List.cons_append, dot, dot_append l l', Nat.xor_assoc, List.length_cons]
    congr 2
    congr 1
    funext j
    rw [show l.length + 1 + j = l.length + j + 1 by omega]
theorem dot_zero : ∀ (l : List Nat) (z : Nat → Nat), (∀ j, j < l.length → gmul (l.getD j 0) (z j) = 0) → dot l z = 0
  | [], _, _ => rfl
  | x :: l, z, h => by
    simp only [dot]
    rw [show gmul x (z 0) = 0 from h 0 (by simp), dot_zero l _ fun j hj => by simpa using h (j + 1) (by simpa using hj)]
    rfl
/-- One place alone. -/
theorem dot_one : ∀ (l : List Nat) (z : Nat → Nat) (i : Nat), i < l.length → (∀ j, j < l.length → j ≠ i → gmul (l.getD j 0) (z j) = 0) → dot l z = gmul (l.getD i 0) (z i)
  | [], _, _, h, _ => by simp at h
  | x :: l, z, 0, _, h => by
    simp only [dot]
    rw [dot_zero l _ fun j hj => by simpa using h (j + 1) (by simpa using hj) (by omega)]
    simp
  | x :: l, z, i + 1, hi, h => by
    simp only [dot]
    rw [show gmul x (z 0) = 0 from h 0 (by simp) (by omega), dot_one l _ i (by simpa using hi) fun j hj hji => by simpa using h (j + 1) (by simpa using hj) (by omega)]
    simp
/-- Two places alone. -/
theorem dot_two (l : List Nat) (z : Nat → Nat) (i k : Nat) (hi : i < l.length) (hk : k < l.length) (hik : i < k) (h : ∀ j, j < l.length → j ≠ i → j ≠ k → gmul (l.getD j 0) (z j) = 0) : dot l z = gmul (l.getD i 0) (z i) ^^^ gmul (l.getD k 0) (z k) := by
  have e : l = l.take k ++ l.drop k := (List.take_append_drop k l).symm
  have hlen : (l.take k).length = k := by simp; omega
  have gt : ∀ j, j < k → (l.take k).getD j 0 = l.getD j 0 := by
    intro j hj
    simp only [List.getD_eq_getElem?_getD, List.getElem?_take, if_pos hj]
  have gd : ∀ j, (l.drop k).getD j 0 = l.getD (k + j) 0 := by
    intro j
    simp only [List.getD_eq_getElem?_getD, List.getElem?_drop]
  rw [e, dot_append, hlen, ← e]
  congr 1
  · rw [dot_one _ _ i (by omega) fun j hj hji => by rw [hlen] at hj; rw [gt j hj]; exact h j (by omega) hji (by omega), gt i hik]
  · rw [dot_one _ _ 0 (by simp; omega) fun j hj hj0 => by rw [gd j]; exact h (k + j) (by simp at hj; omega) (by omega) (by omega), gd 0]
    rfl
end Go.Corb.A

/- The abstract machine, part 31: slices of one-cell values. Conditions: none. -/
set_option linter.unusedVariables false
set_option linter.unusedSimpArgs false
namespace Go.Corb
open Go Go.RowKit

/-- v is a slice of the values vs. -/
def SlAt (σ : AS) (v : Value) (vs : List Value) : Prop :=
  ∃ a cap, v = .slice a vs.length cap ∧ (a = none → cap = 0 ∧ vs = []) ∧ (∀ p, a = some p → vs ≠ [] → ∃ c ro, σ.heap p.block = some (.cells c ro) ∧ (c.drop p.off).take vs.length = vs)

theorem SlAt.nil (σ : AS) : SlAt σ (.slice none 0 0) [] := ⟨none, 0, rfl, fun _ => ⟨rfl, rfl⟩, fun p h => (nomatch h)⟩
theorem SlAt.mk {σ : AS} {r o cap : Nat} {sp : Option Nat} {c vs : List Value} {ro : Bool} {n : Nat} (hr : σ.heap r = some (.cells c ro)) (hn : n = vs.length) (h : (c.drop o).take vs.length = vs) : SlAt σ (.slice (some ⟨r, o, sp⟩) n cap) vs := by
  subst hn
  exact ⟨some ⟨r, o, sp⟩, cap, rfl, fun h => (nomatch h), fun p hp _ => (by injection hp with hp; subst hp; exact ⟨c, ro, hr, h⟩)⟩
theorem SlAt.empty {σ : AS} {p : Addr} {n cap : Nat} (hn : n = 0) : SlAt σ (.slice (some p) n cap) [] := by
  subst hn
  exact ⟨some p, cap, rfl, fun h => (nomatch h), fun p hp h => absurd rfl h⟩
theorem SlAt.mono {σ τ : AS} (hσ : Ok σ) (m : Mem σ τ) {v : Value} {vs : List Value} (h : SlAt σ v vs) : SlAt τ v vs := by
  obtain ⟨a, cap, rfl, h1, h2⟩ := h
  refine ⟨a, cap, rfl, h1, fun p hp hv => ?_⟩
  obtain ⟨c, ro, hr, hc⟩ := h2 p hp hv
  exact ⟨c, ro, m.old hσ hr, hc⟩
theorem SlAt.same {σ τ : AS} (e : ∀ r o, σ.heap r = some o → τ.heap r = some o) {v : Value} {vs : List Value} (h : SlAt σ v vs) : SlAt τ v vs := by
  obtain ⟨a, cap, rfl, h1, h2⟩ := h
  refine ⟨a, cap, rfl, h1, fun p hp hv => ?_⟩
  obtain ⟨c, ro, hr, hc⟩ := h2 p hp hv
  exact ⟨c, ro, e _ _ hr, hc⟩
theorem SlAt.shape {σ : AS} {v : Value} {vs : List Value} (h : SlAt σ v vs) : ∃ a cap, v = .slice a vs.length cap := by
  obtain ⟨a, cap, rfl, _⟩ := h; exact ⟨a, cap, rfl⟩
theorem SlAt.index {σ : AS} {v : Value} {vs : List Value} (h : SlAt σ v vs) {i : Nat} (hi : i < vs.length) :
    ∃ r o sp cap c ro, v = .slice (some ⟨r, o, sp⟩) vs.length cap ∧ σ.heap r = some (.cells c ro) ∧ c[o + i * 1]? = some vs[i] ∧ (c.drop o).take vs.length = vs := by
  obtain ⟨a, cap, rfl, h1, h2⟩ := h
  have hne : vs ≠ [] := by intro e; subst e; simp at hi
  cases a with
  | none => exact absurd (h1 rfl).2 hne
  | some p =>
    obtain ⟨c, ro, hr, hc⟩ := h2 p rfl hne
    obtain ⟨r, o, sp⟩ := p
    refine ⟨r, o, sp, cap, c, ro, rfl, hr, ?_, hc⟩
    have : ((c.drop o).take vs.length)[i]? = some vs[i] := by rw [hc]; exact List.getElem?_eq_getElem hi
    rw [List.getElem?_take, if_pos hi, List.getElem?_drop] at this
    rw [Nat.mul_one]; exact this
theorem SlAt.idx {σ : AS} {a : Option Addr} {n cap : Nat} {vs : List Value} (h : SlAt σ (.slice a n cap) vs) {i : Nat} (hi : i < vs.length) :
    ∃ r o sp c ro, a = some ⟨r, o, sp⟩ ∧ σ.heap r = some (.cells c ro) ∧ c[o + i * 1]? = some vs[i] ∧ (c.drop o).take vs.length = vs := by
  obtain ⟨r, o, sp, cap', c, ro, e, h1, h2, h3⟩ := h.index hi
  simp only [Value.slice.injEq] at e
  exact ⟨r, o, sp, c, ro, e.1, h1, h2, h3⟩
theorem SlAt.len {σ : AS} {a : Option Addr} {n cap : Nat} {vs : List Value} (h : SlAt σ (.slice a n cap) vs) : n = vs.length := by
  obtain ⟨a, cap, e, _⟩ := h
  simp only [Value.slice.injEq] at e
  exact e.2.1
theorem take_len {c vs : List Value} {o : Nat} (hne : vs ≠ []) (h : (c.drop o).take vs.length = vs) : o + vs.length ≤ c.length := by
  have := congrArg List.length h
  simp only [List.length_take, List.length_drop] at this
  have : 0 < vs.length := List.length_pos_iff.2 hne
  omega
theorem SlAt.src {σ : AS} {v : Value} {vs : List Value} (h : SlAt σ v vs) (h1 : vs.all (·.oneCell') = true) : lenVal v = some vs.length ∧ srcCells σ 1 vs.length v = some vs := by
  obtain ⟨a, cap, rfl, ha, hb⟩ := h
  refine ⟨rfl, ?_⟩
  cases a with
  | none =>
    obtain ⟨rfl, rfl⟩ := ha rfl
    rfl
  | some p =>
    obtain ⟨r, o, sp⟩ := p
    simp only [srcCells]
    by_cases hv : vs = []
    · subst hv; rfl
    · obtain ⟨c, ro, hr, hc⟩ := hb _ rfl hv
      have hlen := take_len hv hc
      have hp : 0 < vs.length := List.length_pos_iff.2 hv
      simp only at hr hc
      rw [if_neg (by omega), if_neg (by omega)]
      simp only [hr, Nat.mul_one, hc]
      rw [if_pos ⟨hlen, h1⟩]

/-- One object told anew. -/
structure Upd (σ σ' : AS) (r : Nat) (o : AObj) : Prop where
  here : σ'.heap r = some o
  else' : ∀ q, q ≠ r → σ'.heap q = σ.heap q
  next : σ'.next = σ.next
  prot : σ'.prot = σ.prot
theorem upd_put (σ : AS) (r : Nat) (o : AObj) : Upd σ (σ.put r o) r o := ⟨put_heap_eq .., fun q h => put_heap_ne h, rfl, rfl⟩
theorem upd_same {σ : AS} {r : Nat} {o : AObj} (h : σ.heap r = some o) : Upd σ σ r o := ⟨h, fun _ _ => rfl, rfl, rfl⟩
theorem Mem.upd {σ τ τ' : AS} (m : Mem σ τ) {r : Nat} {o : AObj} (h : σ.next ≤ r) (hr : r < τ.next) (u : Upd τ τ' r o) : Mem σ τ' where
  grow := ⟨by rw [u.next]; exact m.grow.next, by rw [u.prot]; exact m.grow.prot, fun q hq => by rw [u.else' q (by omega)]; exact m.grow.heap q hq⟩
  ok := ⟨fun q hq => by rw [u.next] at hq; rw [u.else' q (by omega)]; exact m.ok.wf q hq, fun q hq => by rw [u.next] at hq; rw [u.prot]; exact m.ok.prot q hq⟩

theorem wr_zero (c : List Value) (o : Nat) : wr c o [] = c := by simp [wr]

/-- Appending within what is known to be there. -/
theorem app_in {σ : AS} {N bytes r len cap : Nat} {c vs : List Value} {x : Value} (hr : σ.heap r = some (.cells c false)) (hp : σ.prot r = false) (hx : SlAt σ x vs) (h1 : vs.all (·.oneCell') = true) (hcap : len + vs.length ≤ cap) (hlen : cap ≤ c.length) :
    ∃ σ', rAppend σ N 1 bytes (.slice (some ⟨r, 0, some 1⟩) len cap) x = some (.slice (some ⟨r, 0, some 1⟩) (len + vs.length) cap, σ') ∧ Upd σ σ' r (.cells (wr c len vs) false) := by
  obtain ⟨hl, hs⟩ := hx.src h1
  by_cases hv : vs = []
  · subst hv
    refine ⟨σ, ?_, by rw [wr_zero]; exact upd_same hr⟩
    simp only [rAppend, hl, Option.bind_some, hs, appCore]
    rw [if_neg (by simp), if_pos hcap]
    simp
  · have hn : 0 < vs.length := List.length_pos_iff.2 hv
    refine ⟨σ.put r (.cells (wr c len vs) false), ?_, upd_put ..⟩
    simp only [rAppend, hl, Option.bind_some, hs, appCore]
    rw [if_neg (by simp), if_pos hcap]
    simp only [Bool.false_eq_true, if_false]
    rw [if_neg (by omega)]
    simp only [aPutAt, hr, Nat.zero_add, Nat.mul_one]
    rw [if_pos ⟨hp, by omega⟩]
    rfl

/-- Appending to nothing, or to what is known to be full up: new memory. -/
theorem app_new {σ : AS} {N bytes : Nat} {olds vs : List Value} {s x : Value} (hs : SlAt σ s olds) (he : ∀ r o sp len cap, s = .slice (some ⟨r, o, sp⟩) len cap → sp = none ∧ cap < olds.length + vs.length) (ho : olds.all (·.oneCell') = true) (hx : SlAt σ x vs) (h1 : vs.all (·.oneCell') = true) (hv : vs ≠ [])
    (hb : (olds.length + vs.length) * bytes ≤ 140737488355328) :
    rAppend σ N 1 bytes s x = some (.slice (some ⟨N, 0, some 1⟩) (olds.length + vs.length) (olds.length + vs.length), σ.put N (.cells (olds ++ vs) false)) := by
  obtain ⟨hl, hsrc⟩ := hx.src h1
  obtain ⟨_, hsrc2⟩ := hs.src ho
  obtain ⟨a, cap, rfl, ha, hb'⟩ := hs
  have hn : 0 < vs.length := List.length_pos_iff.2 hv
  simp only [rAppend, hl, Option.bind_some, hsrc]
  cases a with
  | none =>
    obtain ⟨rfl, rfl⟩ := ha rfl
    simp only [appCore, List.length_nil, Nat.zero_add] at hb ⊢
    rw [if_neg (by omega), if_pos hb]
    rfl
  | some p =>
    obtain ⟨r, o, sp⟩ := p
    obtain ⟨rfl, hcap⟩ := he _ _ _ _ _ rfl
    simp only [appCore]
    rw [if_neg (by simp), if_neg (by omega), if_pos hb, hsrc2]
    rfl

/-- Appending to what is known to be full and whose room is not known: the old is taken over. -/
theorem app_over {σ : AS} {N bytes r len cap : Nat} {c vs : List Value} {x : Value} (hr : σ.heap r = some (.cells c false)) (hp : σ.prot r = false) (hl0 : len ≤ c.length) (hone : (c.take len).all (·.oneCell') = true) (hx : SlAt σ x vs) (h1 : vs.all (·.oneCell') = true) (hcap : cap < len + vs.length)
    (hb : (len + vs.length) * bytes ≤ 140737488355328) :
    rAppend σ N 1 bytes (.slice (some ⟨r, 0, some 1⟩) len cap) x = some (.slice (some ⟨N, 0, some 1⟩) (len + vs.length) (len + vs.length), (σ.del r).put N (.cells (c.take len ++ vs) false)) := by
  obtain ⟨hl, hs⟩ := hx.src h1
  simp only [rAppend, hl, Option.bind_some, hs, appCore]
  rw [if_neg (by simp), if_neg (by omega), if_pos hb]
  simp only [Bool.false_eq_true, if_false, hr, Nat.zero_add, Nat.mul_one, List.drop_zero]
  rw [if_pos ⟨hp, hl0, hone⟩]

theorem wr_done {done vs rest : List Value} (h : vs.length ≤ rest.length) : wr (done ++ rest) done.length vs = (done ++ vs) ++ rest.drop vs.length := by
  simp [wr, List.drop_append, List.drop_eq_nil_of_le]

theorem Mem.del {σ τ : AS} (m : Mem σ τ) {r : Nat} (h : σ.next ≤ r) : Mem σ (τ.del r) where
  grow := ⟨m.grow.next, m.grow.prot, fun q hq => by
    show (if q = r then none else τ.heap q) = σ.heap q
    rw [if_neg (by omega)]; exact m.grow.heap q hq⟩
  ok := ⟨fun q hq => by
    show (if q = r then none else τ.heap q) = none
    split
    · rfl
    · exact m.ok.wf q hq, m.ok.prot⟩

/-- A slice that is being appended to. -/
def Growing (σ τ : AS) (v : Value) (vals : List Value) : Prop :=
  (vals = [] ∧ v = .slice none 0 0) ∨ ∃ h, σ.next ≤ h ∧ v = .slice (some ⟨h, 0, some 1⟩) vals.length vals.length ∧ τ.heap h = some (.cells vals false)

/-- Where a slice lies. -/
def headOf : Value → Option Nat
  | .slice (some p) _ _ => some p.block
  | _ => none

theorem Growing.at {σ τ : AS} {v : Value} {vals : List Value} (h : Growing σ τ v vals) : SlAt τ v vals := by
  rcases h with ⟨rfl, rfl⟩ | ⟨h, _, rfl, hh⟩
  · exact SlAt.nil _
  · exact SlAt.mk hh rfl (by rw [List.drop_zero, List.take_length])

theorem Growing.mono {σ τ τ' : AS} (hτ : Ok τ) (g : Mem τ τ') {v : Value} {vals : List Value} (h : Growing σ τ v vals) : Growing σ τ' v vals := by
  rcases h with ⟨rfl, rfl⟩ | ⟨h, h1, h2, hh⟩
  · exact .inl ⟨rfl, rfl⟩
  · exact .inr ⟨h, h1, h2, g.old hτ hh⟩

theorem app_growing {σ τ : AS} (hσ : Ok σ) (g : Mem σ τ) {N bytes : Nat} {v x : Value} {vals news : List Value} (hG : Growing σ τ v vals) (hN : σ.next ≤ N) (hN' : N < τ.next) (hx : SlAt τ x news) (h1 : news.all (·.oneCell') = true) (h2 : vals.all (·.oneCell') = true) (hv : news ≠ [])
    (hb : (vals.length + news.length) * bytes ≤ 140737488355328) :
    ∃ τ', rAppend τ N 1 bytes v x = some (.slice (some ⟨N, 0, some 1⟩) (vals.length + news.length) (vals.length + news.length), τ') ∧ Mem σ τ' ∧ τ'.heap N = some (.cells (vals ++ news) false) ∧ τ'.next = τ.next ∧ (∀ q, q ≠ N → headOf v ≠ some q → τ'.heap q = τ.heap q) := by
  rcases hG with ⟨rfl, rfl⟩ | ⟨h, hh, rfl, hc⟩
  · refine ⟨τ.put N (.cells ([] ++ news) false), ?_, g.put hN hN', put_heap_eq _ _ _, rfl, fun q hq _ => put_heap_ne hq⟩
    exact app_new (olds := []) (SlAt.nil _) (fun _ _ _ _ _ e => by simp at e) rfl hx h1 hv hb
  · refine ⟨(τ.del h).put N (.cells (vals ++ news) false), ?_, (g.del hh).put hN hN', put_heap_eq _ _ _, rfl, fun q hq hq' => ?_⟩
    · have := app_over (N := N) (bytes := bytes) (len := vals.length) (cap := vals.length) hc (g.noprot hσ hh) (Nat.le_refl _) (by rw [List.take_length]; exact h2) hx h1 (by have := List.length_pos_iff.2 hv; omega) hb
      rw [List.take_length] at this
      exact this
    · rw [put_heap_ne hq]
      show (if q = h then none else τ.heap q) = τ.heap q
      rw [if_neg]
      intro e; subst e; exact hq' rfl
end Go.Corb

/- Contracts of the library's functions over bytes. Conditions: none. -/
set_option linter.unusedVariables false
set_option linter.unusedSimpArgs false
namespace Go.Corb.A
open Go Go.RowKit Go.Proofs Go.Corb Go.IntWalk

theorem vb_one (l : List Nat) : (l.map vb).all (·.oneCell') = true := by
  rw [List.all_eq_true]; intro x hx
  obtain ⟨n, _, rfl⟩ := List.mem_map.1 hx
  rfl

theorem zrow_rep (z : Value) (n : Nat) : zrow (.agg [z].toArray) (n * [z].length) = List.replicate n z := by
  apply List.ext_getElem?
  intro i
  simp only [zrow, List.getElem?_map, List.length_cons, List.length_nil, Nat.zero_add, Nat.mul_one, List.getElem?_replicate]
  by_cases h : i < n
  · rw [if_pos h, List.getElem?_range h]
    simp [Value.cells, Nat.mod_one]
  · rw [if_neg h, List.getElem?_eq_none (by simp; omega)]
    rfl

/-- New memory with a row in it. -/
def FreshRow (σ σ' : AS) (v : Value) (l : List Nat) : Prop :=
  (l = [] ∧ v = .slice none 0 0) ∨ ∃ r, σ.next ≤ r ∧ v = .slice (some ⟨r, 0, some 1⟩) l.length l.length ∧ σ'.heap r = some (.cells (l.map vb) false)

theorem FreshRow.at {σ σ' : AS} {v : Value} {l : List Nat} (h : FreshRow σ σ' v l) : SlAt σ' v (l.map vb) := by
  rcases h with ⟨rfl, rfl⟩ | ⟨r, _, rfl, hr⟩
  · exact SlAt.nil _
  · exact SlAt.mk hr (by simp) (by rw [List.drop_zero, List.take_length])

/-- v is a slice of slices of bytes. -/
def MatAt (σ : AS) (v : Value) (m : List (List Nat)) : Prop :=
  ∃ vs, SlAt σ v vs ∧ vs.length = m.length ∧ ∀ i (h : i < vs.length) (h' : i < m.length), SlAt σ vs[i] (m[i].map vb)

theorem MatAt.mono {σ τ : AS} (hσ : Ok σ) (g : Mem σ τ) {v : Value} {m : List (List Nat)} (h : MatAt σ v m) : MatAt τ v m := by
  obtain ⟨vs, h1, h2, h3⟩ := h
  exact ⟨vs, h1.mono hσ g, h2, fun i a b => (h3 i a b).mono hσ g⟩

section
variable {Base : CallRel}
set_option pp.deepTerms.threshold 4

theorem grow (hC : CProp (ACall Try.prog Base)) {n : Nat} (hn : n < 2 ^ 40) {σ : AS} (hσ : Ok σ) {Q : Value → AS → Prop}
    (k : ∀ σ' v, Mem σ σ' → (n = 0 ∧ v = .slice none 0 0 ∨ 0 < n ∧ ∃ r, σ.next ≤ r ∧ v = .slice (some ⟨r, 0, some 1⟩) 0 n ∧ σ'.heap r = some (.cells (List.replicate n (vb 0)) false)) → Q v σ') :
    ∃ v σ', ACall Try.prog Base 53 [.slice none 0 0, .int .i64 n] σ v σ' ∧ Q v σ' := by
  refine call_rwp hC cf53 rfl hσ.wf ?_
  conv => whnf
  rw [show (n : Int) - (((0 : Nat) : Int) - ((0 : Nat) : Int)) = (n : Int) by omega]
  repeat (first | (refine br_true (inR_intro (by simp only [loI, hiI]; omega)) ?_; conv => whnf) | (refine br_true (by simp only [blt_dec, ble_dec, beq_dec, ltB_eq, leB_eq, decide_eq_true_eq, decide_eq_false_iff_not, Bool.and_eq_true, Bool.or_eq_true, beq_iff_eq, bne_iff_ne, beq_eq_false_iff_ne, bne_eq_false_iff_eq]; first | done | omega) ?_; conv => whnf))
  refine br_intro ?_ ?_ <;> intro h1 <;> simp only [blt_dec, ble_dec, beq_dec, ltB_eq, leB_eq, decide_eq_true_eq, decide_eq_false_iff_not, beq_iff_eq, bne_iff_ne, beq_eq_false_iff_ne, bne_eq_false_iff_eq] at h1
  · conv => whnf
    refine ⟨.slice (some ⟨σ.next + 1 + 2 + 8 + 2 + 5, 0, some 1⟩) n n, ((((σ.bump 1).bump 2).bump 8).bump 2).bump 10 |>.put (σ.next + 1 + 2 + 8 + 2 + 5) (.cells (List.replicate n (vb 0)) false), ?_, ?_⟩
    · simp only [rAppz]
      rw [if_pos (by omega), zrow_rep]
      simp only [appCore, Int.toNat_natCast]
      rw [if_neg (by omega), if_pos (by omega)]
      rfl
    · conv => whnf
      refine ⟨⟨by omega, rfl, by omega⟩, ?_⟩
      conv => whnf
      refine k _ _ ?_ (.inr ⟨by omega, σ.next + 1 + 2 + 8 + 2 + 5, by omega, rfl, put_heap_eq _ _ _⟩)
      repeat first | exact Mem.refl hσ | apply Mem.bump | refine Mem.put ?_ (by (try simp only [bump_next, put_next]); omega) (by (try simp only [bump_next, put_next]); omega)
  · conv => whnf
    refine k _ _ ?_ (.inl ⟨by omega, rfl⟩)
    repeat first | exact Mem.refl hσ | apply Mem.bump | refine Mem.put ?_ (by (try simp only [bump_next, put_next]); omega) (by (try simp only [bump_next, put_next]); omega)

/-- The row that is being filled. -/
def Filling (σ τ : AS) (v : Value) (done : List Nat) (total : Nat) : Prop :=
  (total = 0 ∧ done = [] ∧ v = .slice none 0 0) ∨ ∃ r, σ.next ≤ r ∧ v = .slice (some ⟨r, 0, some 1⟩) done.length total ∧ τ.heap r = some (.cells (done.map vb ++ List.replicate (total - done.length) (vb 0)) false)

theorem flat_take (m : List (List Nat)) (i : Nat) (h : i < m.length) : (m.take (i + 1)).flatten = (m.take i).flatten ++ m[i] := by
  rw [List.take_succ_eq_append_getElem h, List.flatten_append]; simp
theorem flat_le (m : List (List Nat)) (i : Nat) : (m.take i).flatten.length ≤ m.flatten.length := by
  conv => rhs; rw [← List.take_append_drop i m, List.flatten_append, List.length_append]
  omega

theorem Filling.bump {σ τ : AS} {v : Value} {done : List Nat} {total : Nat} (h : Filling σ τ v done total) (n : Nat) : Filling σ (τ.bump n) v done total := h

theorem app_fill {σ τ : AS} (hσ : Ok σ) (g : Mem σ τ) {N total : Nat} {dv x : Value} {done l : List Nat} (hF : Filling σ τ dv done total) (hx : SlAt τ x (l.map vb)) (hle : done.length + l.length ≤ total) :
    ∃ dv' τ', rAppend τ N 1 1 dv x = some (dv', τ') ∧ Mem σ τ' ∧ Filling σ τ' dv' (done ++ l) total := by
  rcases hF with ⟨rfl, rfl, rfl⟩ | ⟨r, hr, rfl, hh⟩
  · have : l = [] := List.eq_nil_of_length_eq_zero (by have h0 : l.length ≤ 0 := (by simpa using hle); omega)
    subst this
    obtain ⟨h1, h2⟩ := hx.src rfl
    refine ⟨.slice none 0 0, τ, ?_, g, .inl ⟨rfl, rfl, rfl⟩⟩
    simp only [List.map_nil, List.length_nil] at h1 h2
    simp only [rAppend, h1, Option.bind_some, h2, appCore]
    simp
  · obtain ⟨τ', h1, u⟩ := app_in (N := N) (bytes := 1) (len := done.length) (cap := total) hh (g.noprot hσ hr) hx (vb_one l) (by rw [List.length_map]; exact hle) (by rw [List.length_append, List.length_map, List.length_replicate]; omega)
    rw [List.length_map] at h1
    refine ⟨_, τ', h1, g.upd hr (g.ok.lt hh) u, .inr ⟨r, hr, by rw [List.length_append], ?_⟩⟩
    rw [u.here]
    congr 2
    have := wr_done (done := done.map vb) (vs := l.map vb) (rest := List.replicate (total - done.length) (vb 0)) (by rw [List.length_map, List.length_replicate]; omega)
    rw [List.length_map, List.length_map] at this
    rw [this, List.map_append, List.drop_replicate, List.length_append]
    congr 2
    omega

theorem concat (hC : CProp (ACall Try.prog Base)) {v0 : Value} {m : List (List Nat)} (hn : m.flatten.length < 2 ^ 40) (hml : m.length < 2 ^ 40) {σ : AS} (hσ : Ok σ) (hv0 : MatAt σ v0 m) {Q : Value → AS → Prop}
    (k : ∀ σ' v, Mem σ σ' → FreshRow σ σ' v m.flatten → Q v σ') :
    ∃ v σ', ACall Try.prog Base 41 [v0] σ v σ' ∧ Q v σ' := by
  have hv := hv0
  obtain ⟨vs, hs, hl, hrows⟩ := hv0
  obtain ⟨a0, cap0, rfl⟩ := hs.shape
  refine call_rwp hC cf41 rfl hσ.wf ?_
  conv => whnf
  refine loop_intro (n := 36) (fun k ws τ => ∃ i, i ≤ m.length ∧ k = m.length - i ∧ ws = [.slice a0 vs.length cap0, vi (m.take i).flatten.length, .slice a0 vs.length cap0, vi vs.length, vi i] ∧ Mem σ τ) m.length rfl ?_ ?_
  · conv => whnf
    refine ⟨0, by omega, rfl, rfl, ?_⟩
    repeat first | exact Mem.refl hσ | apply Mem.bump | refine Mem.put ?_ (by (try simp only [bump_next, put_next]); omega) (by (try simp only [bump_next, put_next]); omega)
  · rintro mm ws τ ⟨i, hi, rfl, rfl, g⟩
    conv => whnf
    refine br_intro ?_ ?_ <;> intro h1 <;> simp only [blt_dec, ble_dec, beq_dec, ltB_eq, leB_eq, decide_eq_true_eq, decide_eq_false_iff_not, beq_iff_eq, bne_iff_ne, beq_eq_false_iff_ne, bne_eq_false_iff_eq] at h1
    · conv => whnf
      have hi' : i < m.length := by omega
      obtain ⟨r, o, sp, c, ro, rfl, hr, hci, _⟩ := hs.idx (i := i) (by omega)
      obtain ⟨a1, cap1, e1⟩ := (hrows i (by omega) hi').shape
      have f1 := flat_take m i hi'
      have f2 := flat_le m (i + 1)
      have f3 := congrArg List.length f1
      rw [List.length_append] at f3
      rw [e1, List.length_map] at hci
      conv => whnf
      repeat (first | (refine br_true (inR_intro (by simp only [loI, hiI]; omega)) ?_; conv => whnf) | (refine br_true (by simp only [blt_dec, ble_dec, beq_dec, ltB_eq, leB_eq, decide_eq_true_eq, decide_eq_false_iff_not, Bool.and_eq_true, Bool.or_eq_true, beq_iff_eq, bne_iff_ne, beq_eq_false_iff_ne, bne_eq_false_iff_eq]; first | done | omega) ?_; conv => whnf))
      refine ld_intro (g.old hσ hr) ?_
      conv => whnf
      refine at_intro hci ?_
      conv => whnf
      repeat (first | (refine br_true (inR_intro (by simp only [loI, hiI]; omega)) ?_; conv => whnf) | (refine br_true (by simp only [blt_dec, ble_dec, beq_dec, ltB_eq, leB_eq, decide_eq_true_eq, decide_eq_false_iff_not, Bool.and_eq_true, Bool.or_eq_true, beq_iff_eq, bne_iff_ne, beq_eq_false_iff_ne, bne_eq_false_iff_eq]; first | done | omega) ?_; conv => whnf))
      refine ⟨rfl, m.length - (i + 1), by omega, i + 1, by omega, rfl, ?_, ?_⟩
      · rw [f3]; rfl
      · repeat first | exact g | apply Mem.bump | refine Mem.put ?_ (by (try simp only [bump_next, put_next]); omega) (by (try simp only [bump_next, put_next]); omega)
    · conv => whnf
      obtain rfl : i = m.length := by omega
      rw [List.take_length]
      refine grow hC (n := m.flatten.length) (by omega) (Mem.ok (σ := σ) ?_) ?_
      · repeat first | exact g | apply Mem.bump | refine Mem.put ?_ (by (try simp only [bump_next, put_next]); omega) (by (try simp only [bump_next, put_next]); omega)
      intro τ2 dv g2 hd
      have g3 : Mem σ τ2 := Mem.trans (by repeat first | exact g | apply Mem.bump) g2
      have hn2 := g2.next
      simp only [bump_next] at hn2
      have hn3 := g.next
      have hF : Filling σ τ2 dv [] m.flatten.length := by
        rcases hd with ⟨h0, rfl⟩ | ⟨h0, r, hr, rfl, hh⟩
        · exact .inl ⟨h0, rfl, rfl⟩
        · exact .inr ⟨r, by simp only [bump_next] at hr; omega, rfl, hh⟩
      obtain ⟨da, dc, rfl⟩ : ∃ da dc, dv = .slice da 0 dc := by
        rcases hF with ⟨_, _, rfl⟩ | ⟨r, _, rfl, _⟩
        · exact ⟨_, _, rfl⟩
        · exact ⟨_, _, rfl⟩
      clear hd
      conv => whnf
      refine loop_intro (n := 36) (fun k ws τ => ∃ i dv, i ≤ m.length ∧ k = m.length - i ∧ ws = [dv, .slice a0 vs.length cap0, vi vs.length, vi i] ∧ Mem σ τ ∧ Filling σ τ dv (m.take i).flatten m.flatten.length) m.length rfl ?_ ?_
      · conv => whnf
        refine ⟨0, _, by omega, rfl, rfl, ?_, hF⟩
        repeat first | exact g3 | apply Mem.bump | refine Mem.put ?_ (by (try simp only [bump_next, put_next]); omega) (by (try simp only [bump_next, put_next]); omega)
      · rintro mm ws τ3 ⟨i, dv, hi, rfl, rfl, g4, hF⟩
        obtain ⟨da, dn, dc, rfl⟩ : ∃ da dn dc, dv = .slice da dn dc := by
          rcases hF with ⟨_, _, rfl⟩ | ⟨r, _, rfl, _⟩
          · exact ⟨_, _, _, rfl⟩
          · exact ⟨_, _, _, rfl⟩
        conv => whnf
        refine br_intro ?_ ?_ <;> intro h1 <;> simp only [blt_dec, ble_dec, beq_dec, ltB_eq, leB_eq, decide_eq_true_eq, decide_eq_false_iff_not, beq_iff_eq, bne_iff_ne, beq_eq_false_iff_ne, bne_eq_false_iff_eq] at h1
        · conv => whnf
          have hi' : i < m.length := by omega
          obtain ⟨r, o, sp, c, ro, rfl, hr, hci, _⟩ := hs.idx (i := i) (by omega)
          have hrow := hrows i (by omega) hi'
          obtain ⟨a1, cap1, e1⟩ := hrow.shape
          have f1 := flat_take m i hi'
          have f2 := flat_le m (i + 1)
          have f3 := congrArg List.length f1
          rw [List.length_append] at f3
          rw [e1] at hci hrow
          conv => whnf
          repeat (first | (refine br_true (inR_intro (by simp only [loI, hiI]; omega)) ?_; conv => whnf) | (refine br_true (by simp only [blt_dec, ble_dec, beq_dec, ltB_eq, leB_eq, decide_eq_true_eq, decide_eq_false_iff_not, Bool.and_eq_true, Bool.or_eq_true, beq_iff_eq, bne_iff_ne, beq_eq_false_iff_ne, bne_eq_false_iff_eq]; first | done | omega) ?_; conv => whnf))
          refine ld_intro (g4.old hσ hr) ?_
          conv => whnf
          refine at_intro hci ?_
          conv => whnf
          obtain ⟨dv', τ4, ha, g5, hF'⟩ := app_fill (N := τ3.next + 1 + 3 + 2) (x := .slice a1 (m[i].map vb).length cap1) (l := m[i]) hσ (τ := ((τ3.bump 1).bump 3).bump 4) (by repeat first | exact g4 | apply Mem.bump) hF (hrow.mono hσ (by repeat first | exact g4 | apply Mem.bump)) (by omega)
          refine ⟨dv', τ4, ha, ?_⟩
          rw [← f1] at hF'
          obtain ⟨da', dn', dc', rfl⟩ : ∃ da dn dc, dv' = .slice da dn dc := by
            rcases hF' with ⟨_, _, rfl⟩ | ⟨r, _, rfl, _⟩
            · exact ⟨_, _, _, rfl⟩
            · exact ⟨_, _, _, rfl⟩
          conv => whnf
          repeat (first | (refine br_true (inR_intro (by simp only [loI, hiI]; omega)) ?_; conv => whnf) | (refine br_true (by simp only [blt_dec, ble_dec, beq_dec, ltB_eq, leB_eq, decide_eq_true_eq, decide_eq_false_iff_not, Bool.and_eq_true, Bool.or_eq_true, beq_iff_eq, bne_iff_ne, beq_eq_false_iff_ne, bne_eq_false_iff_eq]; first | done | omega) ?_; conv => whnf))
          refine ⟨rfl, m.length - (i + 1), by omega, i + 1, _, by omega, rfl, rfl, ?_, hF'⟩
          repeat first | exact g5 | apply Mem.bump | refine Mem.put ?_ (by (try simp only [bump_next, put_next]); omega) (by (try simp only [bump_next, put_next]); omega)
        · conv => whnf
          obtain rfl : i = m.length := by omega
          rw [List.take_length] at hF
          refine k _ _ ?_ ?_
          · repeat first | exact g4 | apply Mem.bump | refine Mem.put ?_ (by (try simp only [bump_next, put_next]); omega) (by (try simp only [bump_next, put_next]); omega)
          · rcases hF with ⟨h0, h2, h3⟩ | ⟨r, h2, h3, h4⟩
            · exact .inl ⟨List.eq_nil_of_length_eq_zero h0, h3⟩
            · refine .inr ⟨r, h2, h3, ?_⟩
              rw [Nat.sub_self, List.replicate_zero, List.append_nil] at h4
              exact h4

theorem clone (hC : CProp (ACall Try.prog Base)) {v0 : Value} {l : List Nat} (hn : l.length < 2 ^ 40) {σ : AS} (hσ : Ok σ) (hv0 : SlAt σ v0 (l.map vb)) (hne : l ≠ []) {Q : Value → AS → Prop}
    (k : ∀ σ' v, Mem σ σ' → FreshRow σ σ' v l → Q v σ') :
    ∃ v σ', ACall Try.prog Base 31 [v0] σ v σ' ∧ Q v σ' := by
  have hl : 0 < l.length := List.length_pos_iff.2 hne
  obtain ⟨a0, cap0, rfl⟩ := hv0.shape
  obtain ⟨r, o, sp, c, ro, rfl, hr, hci, _⟩ := hv0.idx (i := 0) (by rw [List.length_map]; omega)
  refine call_rwp hC cf31 rfl hσ.wf ?_
  conv => whnf
  refine ⟨_, _, app_new (olds := []) (vs := l.map vb) (SlAt.mk (c := []) (ro := false) (put_heap_eq _ _ _) rfl rfl) ?_ rfl (hv0.mono hσ ?_) (vb_one l) (by simpa using hne) (by simp; omega), ?_⟩
  · intro r o sp len cap e
    simp only [Value.slice.injEq, Option.some.injEq, Addr.mk.injEq] at e
    obtain ⟨⟨_, _, rfl⟩, _, rfl⟩ := e
    exact ⟨rfl, by simp; omega⟩
  · repeat first | exact Mem.refl hσ | apply Mem.bump | refine Mem.put ?_ (by (try simp only [bump_next, put_next]); omega) (by (try simp only [bump_next, put_next]); omega)
  · conv => whnf
    refine k _ _ ?_ (.inr ⟨_, ?_, ?_, put_heap_eq _ _ _⟩)
    · repeat first | exact Mem.refl hσ | apply Mem.bump | refine Mem.put ?_ (by (try simp only [bump_next, put_next]); omega) (by (try simp only [bump_next, put_next]); omega)
    · simp only [bump_next, put_next]; omega
    · simp only [List.length_nil, List.length_map, Nat.zero_add]

theorem indexFunc (hC : CProp (ACall Try.prog Base)) {v0 : Value} {m : List (List Nat)} (hml : m.length < 2 ^ 40) {σ : AS} (hσ : Ok σ) (hv0 : MatAt σ v0 m) {f : FuncId} {cs : Array Value} (p : Nat → Bool)
    (hp : ∀ i x τ (h : i < m.length), Mem σ τ → SlAt τ x (m[i].map vb) → ∀ Q : Value → AS → Prop, (∀ τ', Mem τ τ' → Q (.bool (p i)) τ') → ∃ v σ', ACall Try.prog Base f (x :: cs.toList) τ v σ' ∧ Q v σ')
    {Q : Value → AS → Prop}
    (k : ∀ σ' i, Mem σ σ' → i < m.length → p i = true → (∀ j, j < i → p j = false) → Q (.int .i64 (i : Nat)) σ') (k2 : ∀ σ', Mem σ σ' → (∀ j, j < m.length → p j = false) → Q (.int .i64 (-1)) σ') :
    ∃ v σ', ACall Try.prog Base 49 [v0, .func (.func f) #[] cs] σ v σ' ∧ Q v σ' := by
  have hv := hv0
  obtain ⟨vs, hs, hl, hrows⟩ := hv0
  obtain ⟨a0, cap0, rfl⟩ := hs.shape
  refine call_rwp hC cf49 rfl hσ.wf ?_
  conv => whnf
  refine loop_intro (n := 19) (fun k ws τ => ∃ i, i ≤ m.length ∧ k = m.length - i ∧ ws = [.slice a0 vs.length cap0, .func (.func f) #[] cs, vi vs.length, vi i] ∧ Mem σ τ ∧ ∀ j, j < i → p j = false) m.length rfl ?_ ?_
  · conv => whnf
    refine ⟨0, by omega, rfl, rfl, ?_, fun j hj => absurd hj (by omega)⟩
    repeat first | exact Mem.refl hσ | apply Mem.bump | refine Mem.put ?_ (by (try simp only [bump_next, put_next]); omega) (by (try simp only [bump_next, put_next]); omega)
  · rintro mm ws τ ⟨i, hi, rfl, rfl, g, hbe⟩
    conv => whnf
    refine br_intro ?_ ?_ <;> intro h1 <;> simp only [blt_dec, ble_dec, beq_dec, ltB_eq, leB_eq, decide_eq_true_eq, decide_eq_false_iff_not, beq_iff_eq, bne_iff_ne, beq_eq_false_iff_ne, bne_eq_false_iff_eq] at h1
    · conv => whnf
      have hi' : i < m.length := by omega
      obtain ⟨r, o, sp, c, ro, rfl, hr, hci, _⟩ := hs.idx (i := i) (by omega)
      have hrow := hrows i (by omega) hi'
      obtain ⟨a1, cap1, e1⟩ := hrow.shape
      rw [e1] at hci hrow
      conv => whnf
      repeat (first | (refine br_true (inR_intro (by simp only [loI, hiI]; omega)) ?_; conv => whnf) | (refine br_true (by simp only [blt_dec, ble_dec, beq_dec, ltB_eq, leB_eq, decide_eq_true_eq, decide_eq_false_iff_not, Bool.and_eq_true, Bool.or_eq_true, beq_iff_eq, bne_iff_ne, beq_eq_false_iff_ne, bne_eq_false_iff_eq]; first | done | omega) ?_; conv => whnf))
      refine ld_intro (g.old hσ hr) ?_
      conv => whnf
      refine at_intro hci ?_
      conv => whnf
      refine hp i (.slice a1 (m[i].map vb).length cap1) _ hi' ?_ (hrow.mono hσ ?_) _ ?_
      · repeat first | exact g | apply Mem.bump | refine Mem.put ?_ (by (try simp only [bump_next, put_next]); omega) (by (try simp only [bump_next, put_next]); omega)
      · repeat first | exact g | apply Mem.bump | refine Mem.put ?_ (by (try simp only [bump_next, put_next]); omega) (by (try simp only [bump_next, put_next]); omega)
      intro τ2 g2
      cases hpi : p i with
      | true =>
        conv => whnf
        have g3 : Mem σ τ2 := Mem.trans (by repeat first | exact g | apply Mem.bump) g2
        refine k _ i ?_ hi' hpi hbe
        repeat first | exact g3 | apply Mem.bump | refine Mem.put ?_ (by (try simp only [bump_next, put_next]); omega) (by (try simp only [bump_next, put_next]); omega)
      | false =>
        conv => whnf
        repeat (first | (refine br_true (inR_intro (by simp only [loI, hiI]; omega)) ?_; conv => whnf) | (refine br_true (by simp only [blt_dec, ble_dec, beq_dec, ltB_eq, leB_eq, decide_eq_true_eq, decide_eq_false_iff_not, Bool.and_eq_true, Bool.or_eq_true, beq_iff_eq, bne_iff_ne, beq_eq_false_iff_ne, bne_eq_false_iff_eq]; first | done | omega) ?_; conv => whnf))
        refine ⟨rfl, m.length - (i + 1), by omega, i + 1, by omega, rfl, rfl, ?_, ?_⟩
        · have g3 : Mem σ τ2 := Mem.trans (by repeat first | exact g | apply Mem.bump) g2
          repeat first | exact g3 | apply Mem.bump | refine Mem.put ?_ (by (try simp only [bump_next, put_next]); omega) (by (try simp only [bump_next, put_next]); omega)
        · intro j hj
          by_cases e : j = i
          · subst e; exact hpi
          · exact hbe j (by omega)
    · conv => whnf
      refine k2 _ ?_ fun j hj => hbe j (by omega)
      repeat first | exact g | apply Mem.bump | refine Mem.put ?_ (by (try simp only [bump_next, put_next]); omega) (by (try simp only [bump_next, put_next]); omega)
end
end Go.Corb.A

/- Contracts of matrix functions that turn nothing. Conditions: none. -/
set_option linter.unusedVariables false
set_option linter.unusedSimpArgs false
namespace Go.Corb.A
open Go Go.RowKit Go.Proofs Go.Corb Go.IntWalk

/-- Is it right? As the program asks it. -/
def rightB (m : List (List Nat)) : Bool := decide (1 ≤ m.length ∧ m.length ≤ 64) && (decide (1 ≤ (m.getD 0 []).length ∧ (m.getD 0 []).length ≤ 64) && m.all fun r => r.length == (m.getD 0 []).length)

section
variable {Base : CallRel}
set_option pp.deepTerms.threshold 4

theorem containsFunc (hC : CProp (ACall Try.prog Base)) {v0 : Value} {m : List (List Nat)} (hml : m.length < 2 ^ 40) {σ : AS} (hσ : Ok σ) (hv0 : MatAt σ v0 m) {f : FuncId} {cs : Array Value} (p : Nat → Bool)
    (hp : ∀ i x τ (h : i < m.length), Mem σ τ → SlAt τ x (m[i].map vb) → ∀ Q : Value → AS → Prop, (∀ τ', Mem τ τ' → Q (.bool (p i)) τ') → ∃ v σ', ACall Try.prog Base f (x :: cs.toList) τ v σ' ∧ Q v σ')
    {Q : Value → AS → Prop}
    (k : ∀ σ', Mem σ σ' → Q (.bool ((List.range m.length).any p)) σ') :
    ∃ v σ', ACall Try.prog Base 39 [v0, .func (.func f) #[] cs] σ v σ' ∧ Q v σ' := by
  have hv := hv0
  obtain ⟨vs, hs, hl, hrows⟩ := hv0
  obtain ⟨a0, cap0, rfl⟩ := hs.shape
  refine call_rwp hC cf39 rfl hσ.wf ?_
  conv => whnf
  refine indexFunc hC hml (Mem.ok (σ := σ) ?_) (hv.mono hσ ?_) p (fun i x τ h g hx Q kk => hp i x τ h ?_ hx Q kk) ?_ ?_
  · repeat first | exact Mem.refl hσ | apply Mem.bump | refine Mem.put ?_ (by (try simp only [bump_next, put_next]); omega) (by (try simp only [bump_next, put_next]); omega)
  · repeat first | exact Mem.refl hσ | apply Mem.bump | refine Mem.put ?_ (by (try simp only [bump_next, put_next]); omega) (by (try simp only [bump_next, put_next]); omega)
  · exact Mem.trans (by repeat first | exact Mem.refl hσ | apply Mem.bump | refine Mem.put ?_ (by (try simp only [bump_next, put_next]); omega) (by (try simp only [bump_next, put_next]); omega)) g
  · intro σ' i g hi hpi _
    conv => whnf
    have e : (List.range m.length).any p = true := List.any_eq_true.2 ⟨i, by simpa using hi, hpi⟩
    rw [e] at k
    exact k _ (Mem.bump (Mem.trans (by repeat first | exact Mem.refl hσ | apply Mem.bump | refine Mem.put ?_ (by (try simp only [bump_next, put_next]); omega) (by (try simp only [bump_next, put_next]); omega)) g) 0)
  · intro σ' g hno
    conv => whnf
    have e : (List.range m.length).any p = false := by
      rw [List.any_eq_false]; intro x hx
      rw [hno x (by simpa using hx)]; simp
    rw [e] at k
    exact k _ (Mem.bump (Mem.trans (by repeat first | exact Mem.refl hσ | apply Mem.bump | refine Mem.put ?_ (by (try simp only [bump_next, put_next]); omega) (by (try simp only [bump_next, put_next]); omega)) g) 0)

theorem right1 (hC : CProp (ACall Try.prog Base)) {m : List (List Nat)} {σ τ : AS} (hσ : Ok σ) {v0 x : Value} (hv0 : MatAt σ v0 m) (hm : 0 < m.length) {r : Nat} {ro : Bool} (g : Mem σ τ) (hr : σ.heap r = some (.cells [v0] ro)) {l : List Nat} (hx : SlAt τ x (l.map vb)) (hl : l.length < 2 ^ 40)
    {Q : Value → AS → Prop} (k : ∀ τ', Mem τ τ' → Q (.bool (!(l.length == (m.getD 0 []).length))) τ') :
    ∃ v σ', ACall Try.prog Base 48 [x, .pointer (some ⟨r, 0, none⟩)] τ v σ' ∧ Q v σ' := by
  have hv := hv0
  obtain ⟨vs, hs, hl', hrows⟩ := hv0
  obtain ⟨a0, cap0, rfl⟩ := hs.shape
  obtain ⟨a1, cap1, rfl⟩ := hx.shape
  obtain ⟨r1, o, sp, c, ro1, rfl, hr1, hci, _⟩ := hs.idx (i := 0) (by omega)
  obtain ⟨a2, cap2, e1⟩ := (hrows 0 (by omega) hm).shape
  rw [e1, List.length_map] at hci
  rw [List.length_map] at hx ⊢
  have e0 : m.getD 0 [] = m[0] := by rw [List.getD_eq_getElem?_getD, List.getElem?_eq_getElem hm]; rfl
  rw [e0] at k
  refine call_rwp hC cf48 rfl g.ok.wf ?_
  conv => whnf
  refine ld_intro (g.old hσ hr) ?_
  conv => whnf
  repeat (first | (refine br_true (inR_intro (by simp only [loI, hiI]; omega)) ?_; conv => whnf) | (refine br_true (by simp only [blt_dec, ble_dec, beq_dec, ltB_eq, leB_eq, decide_eq_true_eq, decide_eq_false_iff_not, Bool.and_eq_true, Bool.or_eq_true, beq_iff_eq, bne_iff_ne, beq_eq_false_iff_ne, bne_eq_false_iff_eq]; first | done | omega) ?_; conv => whnf))
  refine ld_intro (g.old hσ hr1) ?_
  conv => whnf
  refine at_intro hci ?_
  conv => whnf
  refine br_intro ?_ ?_ <;> intro h1 <;> simp only [blt_dec, ble_dec, beq_dec, ltB_eq, leB_eq, decide_eq_true_eq, decide_eq_false_iff_not, beq_iff_eq, bne_iff_ne, beq_eq_false_iff_ne, bne_eq_false_iff_eq] at h1
  · conv => whnf
    have e : (!(l.length == m[0].length)) = true := by simp; omega
    rw [e] at k
    refine k _ ?_
    repeat first | exact Mem.refl g.ok | apply Mem.bump | refine Mem.put ?_ (by (try simp only [bump_next, put_next]); omega) (by (try simp only [bump_next, put_next]); omega)
  · conv => whnf
    have e : (!(l.length == m[0].length)) = false := by simp; omega
    rw [e] at k
    refine k _ ?_
    repeat first | exact Mem.refl g.ok | apply Mem.bump | refine Mem.put ?_ (by (try simp only [bump_next, put_next]); omega) (by (try simp only [bump_next, put_next]); omega)

theorem right (hC : CProp (ACall Try.prog Base)) {v0 : Value} {m : List (List Nat)} (hml : m.length < 2 ^ 40) (hrl : ∀ l ∈ m, l.length < 2 ^ 40) {σ : AS} (hσ : Ok σ) (hv0 : MatAt σ v0 m) {Q : Value → AS → Prop}
    (k : ∀ σ', Mem σ σ' → Q (.bool (rightB m)) σ') :
    ∃ v σ', ACall Try.prog Base 28 [v0] σ v σ' ∧ Q v σ' := by
  have hv := hv0
  obtain ⟨vs, hs, hl, hrows⟩ := hv0
  obtain ⟨a0, cap0, rfl⟩ := hs.shape
  refine call_rwp hC cf28 rfl hσ.wf ?_
  conv => whnf
  refine ld_intro (put_heap_eq _ _ _) ?_
  conv => whnf
  refine br_intro ?_ ?_ <;> intro h1 <;> simp only [blt_dec, ble_dec, beq_dec, ltB_eq, leB_eq, decide_eq_true_eq, decide_eq_false_iff_not, beq_iff_eq, bne_iff_ne, beq_eq_false_iff_ne, bne_eq_false_iff_eq] at h1
  · conv => whnf
    have e : rightB m = false := by
      unfold rightB; rw [decide_eq_false (by omega)]; rfl
    rw [e] at k
    refine k _ ?_
    repeat first | exact Mem.refl hσ | apply Mem.bump | refine Mem.put ?_ (by (try simp only [bump_next, put_next]); omega) (by (try simp only [bump_next, put_next]); omega)
  · conv => whnf
    refine ld_intro (put_heap_eq _ _ _) ?_
    conv => whnf
    refine br_intro ?_ ?_ <;> intro h2 <;> simp only [blt_dec, ble_dec, beq_dec, ltB_eq, leB_eq, decide_eq_true_eq, decide_eq_false_iff_not, beq_iff_eq, bne_iff_ne, beq_eq_false_iff_ne, bne_eq_false_iff_eq] at h2
    · conv => whnf
      have e : rightB m = false := by
        unfold rightB; rw [decide_eq_false (by omega)]; rfl
      rw [e] at k
      refine k _ ?_
      repeat first | exact Mem.refl hσ | apply Mem.bump | refine Mem.put ?_ (by (try simp only [bump_next, put_next]); omega) (by (try simp only [bump_next, put_next]); omega)
    · conv => whnf
      obtain ⟨r, o, sp, c, ro, rfl, hr, hci, _⟩ := hs.idx (i := 0) (by omega)
      obtain ⟨a1, cap1, e1⟩ := (hrows 0 (by omega) (by omega)).shape
      have hm0 : 0 < m.length := by omega
      have e0 : m.getD 0 [] = m[0] := by rw [List.getD_eq_getElem?_getD, List.getElem?_eq_getElem hm0]; rfl
      rw [e1, List.length_map] at hci
      have hrσ := hσ.lt hr
      refine ld_intro (put_heap_eq _ _ _) ?_
      conv => whnf
      repeat (first | (refine br_true (inR_intro (by simp only [loI, hiI]; omega)) ?_; conv => whnf) | (refine br_true (by simp only [blt_dec, ble_dec, beq_dec, ltB_eq, leB_eq, decide_eq_true_eq, decide_eq_false_iff_not, Bool.and_eq_true, Bool.or_eq_true, beq_iff_eq, bne_iff_ne, beq_eq_false_iff_ne, bne_eq_false_iff_eq]; first | done | omega) ?_; conv => whnf))
      refine ld_intro (r := r) (c := c) (ro := ro) ?_ ?_
      · exact Mem.old (σ := σ) hσ (by repeat first | exact Mem.refl hσ | apply Mem.bump | refine Mem.put ?_ (by (try simp only [bump_next, put_next]); omega) (by (try simp only [bump_next, put_next]); omega)) hr
      conv => whnf
      refine at_intro hci ?_
      conv => whnf
      refine br_intro ?_ ?_ <;> intro h3 <;> simp only [blt_dec, ble_dec, beq_dec, ltB_eq, leB_eq, decide_eq_true_eq, decide_eq_false_iff_not, beq_iff_eq, bne_iff_ne, beq_eq_false_iff_ne, bne_eq_false_iff_eq] at h3
      · conv => whnf
        have e : rightB m = false := by
          unfold rightB; rw [e0, decide_eq_false (p := 1 ≤ m[0].length ∧ m[0].length ≤ 64) (by omega)]; simp
        rw [e] at k
        refine k _ ?_
        repeat first | exact Mem.refl hσ | apply Mem.bump | refine Mem.put ?_ (by (try simp only [bump_next, put_next]); omega) (by (try simp only [bump_next, put_next]); omega)
      · conv => whnf
        refine ld_intro (put_heap_eq _ _ _) ?_
        conv => whnf
        repeat (first | (refine br_true (inR_intro (by simp only [loI, hiI]; omega)) ?_; conv => whnf) | (refine br_true (by simp only [blt_dec, ble_dec, beq_dec, ltB_eq, leB_eq, decide_eq_true_eq, decide_eq_false_iff_not, Bool.and_eq_true, Bool.or_eq_true, beq_iff_eq, bne_iff_ne, beq_eq_false_iff_ne, bne_eq_false_iff_eq]; first | done | omega) ?_; conv => whnf))
        refine ld_intro (r := r) (c := c) (ro := ro) ?_ ?_
        · exact Mem.old (σ := σ) hσ (by repeat first | exact Mem.refl hσ | apply Mem.bump | refine Mem.put ?_ (by (try simp only [bump_next, put_next]); omega) (by (try simp only [bump_next, put_next]); omega)) hr
        conv => whnf
        refine at_intro hci ?_
        conv => whnf
        refine br_intro ?_ ?_ <;> intro h4 <;> simp only [blt_dec, ble_dec, beq_dec, ltB_eq, leB_eq, decide_eq_true_eq, decide_eq_false_iff_not, beq_iff_eq, bne_iff_ne, beq_eq_false_iff_ne, bne_eq_false_iff_eq] at h4
        · conv => whnf
          have e : rightB m = false := by
            unfold rightB; rw [e0, decide_eq_false (p := 1 ≤ m[0].length ∧ m[0].length ≤ 64) (by omega)]; simp
          rw [e] at k
          refine k _ ?_
          repeat first | exact Mem.refl hσ | apply Mem.bump | refine Mem.put ?_ (by (try simp only [bump_next, put_next]); omega) (by (try simp only [bump_next, put_next]); omega)
        · conv => whnf
          refine ld_intro (put_heap_eq _ _ _) ?_
          conv => whnf
          refine containsFunc hC hml (Mem.ok (σ := σ) ?_) (hv.mono hσ ?_) (fun i => !((m.getD i []).length == (m.getD 0 []).length)) (fun i x τ h g hx Q kk => ?_) ?_
          · repeat first | exact Mem.refl hσ | apply Mem.bump | refine Mem.put ?_ (by (try simp only [bump_next, put_next]); omega) (by (try simp only [bump_next, put_next]); omega)
          · repeat first | exact Mem.refl hσ | apply Mem.bump | refine Mem.put ?_ (by (try simp only [bump_next, put_next]); omega) (by (try simp only [bump_next, put_next]); omega)
          · have ei : m.getD i [] = m[i] := by rw [List.getD_eq_getElem?_getD, List.getElem?_eq_getElem h]; rfl
            simp only [ei] at kk
            exact right1 hC (Mem.ok (σ := σ) (by repeat first | exact Mem.refl hσ | apply Mem.bump | refine Mem.put ?_ (by (try simp only [bump_next, put_next]); omega) (by (try simp only [bump_next, put_next]); omega))) (hv.mono hσ (by repeat first | exact Mem.refl hσ | apply Mem.bump | refine Mem.put ?_ (by (try simp only [bump_next, put_next]); omega) (by (try simp only [bump_next, put_next]); omega))) hm0 g (put_heap_eq _ _ _) hx (hrl _ (List.getElem_mem h)) kk
          · intro σ' g
            have hb : rightB m = !((List.range m.length).any fun i => !((m.getD i []).length == (m.getD 0 []).length)) := by
              unfold rightB
              rw [decide_eq_true (p := 1 ≤ m.length ∧ m.length ≤ 64) (by omega), e0, decide_eq_true (p := 1 ≤ m[0].length ∧ m[0].length ≤ 64) (by omega), Bool.true_and, Bool.true_and]
              rw [Bool.eq_iff_iff, List.all_eq_true, Bool.not_eq_true', List.any_eq_false]
              constructor
              · intro h x hx
                have hx' : x < m.length := by simpa using hx
                have := h _ (List.getElem_mem hx')
                rw [List.getD_eq_getElem?_getD, List.getElem?_eq_getElem hx', Option.getD_some]
                simp only [this]; simp
              · intro h x hx
                obtain ⟨i, hi, rfl⟩ := List.getElem_of_mem hx
                have := h i (by simpa using hi)
                rw [List.getD_eq_getElem?_getD, List.getElem?_eq_getElem hi, Option.getD_some] at this
                simpa using this
            rw [hb] at k
            cases hq : (List.range m.length).any fun i => !((m.getD i []).length == (m.getD 0 []).length) <;> rw [hq] at k
            · conv => whnf
              refine k _ ?_
              exact Mem.bump (Mem.trans (by repeat first | exact Mem.refl hσ | apply Mem.bump | refine Mem.put ?_ (by (try simp only [bump_next, put_next]); omega) (by (try simp only [bump_next, put_next]); omega)) g) 0
            · conv => whnf
              refine k _ ?_
              exact Mem.bump (Mem.trans (by repeat first | exact Mem.refl hσ | apply Mem.bump | refine Mem.put ?_ (by (try simp only [bump_next, put_next]); omega) (by (try simp only [bump_next, put_next]); omega)) g) 0
end
end Go.Corb.A

/- Contracts of matrix functions that make new ones. Conditions: none. -/
set_option linter.unusedVariables false
set_option linter.unusedSimpArgs false
namespace Go.Corb.A
open Go Go.RowKit Go.Proofs Go.Corb Go.IntWalk

theorem vb_inj {a b : Nat} (h : vb a = vb b) : a = b := by
  simp only [vb, Value.int.injEq, true_and] at h; omega

section
variable {Base : CallRel}
set_option pp.deepTerms.threshold 4

theorem equal (hC : CProp (ACall Try.prog Base)) {v0 v1 : Value} {l l' : List Nat} (hl : l.length < 2 ^ 40) (hl' : l'.length < 2 ^ 40) {σ : AS} (hσ : Ok σ) (hv0 : SlAt σ v0 (l.map vb)) (hv1 : SlAt σ v1 (l'.map vb)) {Q : Value → AS → Prop}
    (k : ∀ σ', Mem σ σ' → Q (.bool (l == l')) σ') :
    ∃ v σ', ACall Try.prog Base 46 [v0, v1] σ v σ' ∧ Q v σ' := by
  obtain ⟨a0, cap0, rfl⟩ := hv0.shape
  obtain ⟨a1, cap1, rfl⟩ := hv1.shape
  refine call_rwp hC cf46 rfl hσ.wf ?_
  conv => whnf
  simp only [List.length_map] at *
  refine br_intro ?_ ?_ <;> intro h1 <;> simp only [blt_dec, ble_dec, beq_dec, ltB_eq, leB_eq, decide_eq_true_eq, decide_eq_false_iff_not, beq_iff_eq, bne_iff_ne, beq_eq_false_iff_ne, bne_eq_false_iff_eq] at h1
  · conv => whnf
    have e : (l == l') = false := by
      rw [beq_eq_false_iff_ne]; intro e; subst e; exact h1 rfl
    rw [e] at k
    refine k _ ?_
    repeat first | exact Mem.refl hσ | apply Mem.bump | refine Mem.put ?_ (by (try simp only [bump_next, put_next]); omega) (by (try simp only [bump_next, put_next]); omega)
  · conv => whnf
    have hll : l.length = l'.length := by omega
    refine loop_intro (n := 26) (fun k ws τ => ∃ i, i ≤ l.length ∧ k = l.length - i ∧ ws = [.slice a0 l.length cap0, .slice a1 l'.length cap1, vi l.length, vi i] ∧ Mem σ τ ∧ l.take i = l'.take i) l.length rfl ?_ ?_
    · conv => whnf
      refine ⟨0, by omega, rfl, rfl, ?_, rfl⟩
      repeat first | exact Mem.refl hσ | apply Mem.bump | refine Mem.put ?_ (by (try simp only [bump_next, put_next]); omega) (by (try simp only [bump_next, put_next]); omega)
    · rintro mm ws τ ⟨i, hi, rfl, rfl, g, hbe⟩
      conv => whnf
      refine br_intro ?_ ?_ <;> intro h2 <;> simp only [blt_dec, ble_dec, beq_dec, ltB_eq, leB_eq, decide_eq_true_eq, decide_eq_false_iff_not, beq_iff_eq, bne_iff_ne, beq_eq_false_iff_ne, bne_eq_false_iff_eq] at h2
      · conv => whnf
        have hi0 : i < l.length := by omega
        have hi1 : i < l'.length := by omega
        obtain ⟨r, o, sp, c, ro, rfl, hr, hci, _⟩ := hv0.idx (i := i) (by rw [List.length_map]; exact hi0)
        obtain ⟨r2, o2, sp2, c2, ro2, rfl, hr2, hci2, _⟩ := hv1.idx (i := i) (by rw [List.length_map]; exact hi1)
        rw [List.getElem_map] at hci hci2
        conv => whnf
        repeat (first | (refine br_true (inR_intro (by simp only [loI, hiI]; omega)) ?_; conv => whnf) | (refine br_true (by simp only [blt_dec, ble_dec, beq_dec, ltB_eq, leB_eq, decide_eq_true_eq, decide_eq_false_iff_not, Bool.and_eq_true, Bool.or_eq_true, beq_iff_eq, bne_iff_ne, beq_eq_false_iff_ne, bne_eq_false_iff_eq]; first | done | omega) ?_; conv => whnf))
        refine ld_intro (g.old hσ hr) ?_
        conv => whnf
        refine at_intro hci ?_
        conv => whnf
        repeat (first | (refine br_true (inR_intro (by simp only [loI, hiI]; omega)) ?_; conv => whnf) | (refine br_true (by simp only [blt_dec, ble_dec, beq_dec, ltB_eq, leB_eq, decide_eq_true_eq, decide_eq_false_iff_not, Bool.and_eq_true, Bool.or_eq_true, beq_iff_eq, bne_iff_ne, beq_eq_false_iff_ne, bne_eq_false_iff_eq]; first | done | omega) ?_; conv => whnf))
        refine ld_intro (g.old hσ hr2) ?_
        conv => whnf
        refine at_intro hci2 ?_
        conv => whnf
        refine br_intro ?_ ?_ <;> intro h3 <;> simp only [blt_dec, ble_dec, beq_dec, ltB_eq, leB_eq, decide_eq_true_eq, decide_eq_false_iff_not, beq_iff_eq, bne_iff_ne, beq_eq_false_iff_ne, bne_eq_false_iff_eq] at h3
        · conv => whnf
          have e : (l == l') = false := by
            rw [beq_eq_false_iff_ne]; intro e; subst e; exact h3 rfl
          rw [e] at k
          refine k _ ?_
          repeat first | exact g | apply Mem.bump | refine Mem.put ?_ (by (try simp only [bump_next, put_next]); omega) (by (try simp only [bump_next, put_next]); omega)
        · conv => whnf
          repeat (first | (refine br_true (inR_intro (by simp only [loI, hiI]; omega)) ?_; conv => whnf) | (refine br_true (by simp only [blt_dec, ble_dec, beq_dec, ltB_eq, leB_eq, decide_eq_true_eq, decide_eq_false_iff_not, Bool.and_eq_true, Bool.or_eq_true, beq_iff_eq, bne_iff_ne, beq_eq_false_iff_ne, bne_eq_false_iff_eq]; first | done | omega) ?_; conv => whnf))
          refine ⟨rfl, l.length - (i + 1), by omega, i + 1, by omega, rfl, rfl, ?_, ?_⟩
          · repeat first | exact g | apply Mem.bump | refine Mem.put ?_ (by (try simp only [bump_next, put_next]); omega) (by (try simp only [bump_next, put_next]); omega)
          · rw [List.take_succ_eq_append_getElem hi0, List.take_succ_eq_append_getElem hi1, hbe]
            congr 2; omega
      · conv => whnf
        obtain rfl : i = l.length := by omega
        rw [List.take_length, hll, List.take_length] at hbe
        have e : (l == l') = true := by rw [hbe]; exact beq_self_eq_true _
        rw [e] at k
        refine k _ ?_
        repeat first | exact g | apply Mem.bump | refine Mem.put ?_ (by (try simp only [bump_next, put_next]); omega) (by (try simp only [bump_next, put_next]); omega)

theorem same1 (hC : CProp (ACall Try.prog Base)) {v0 v1 : Value} {l l' : List Nat} (hl : l.length < 2 ^ 40) (hl' : l'.length < 2 ^ 40) {σ : AS} (hσ : Ok σ) (hv0 : SlAt σ v0 (l.map vb)) (hv1 : SlAt σ v1 (l'.map vb)) {Q : Value → AS → Prop}
    (k : ∀ σ', Mem σ σ' → Q (.bool (l == l')) σ') :
    ∃ v σ', ACall Try.prog Base 45 [v0, v1] σ v σ' ∧ Q v σ' := by
  have h0 := hv0
  have h1 := hv1
  obtain ⟨a0, cap0, rfl⟩ := hv0.shape
  obtain ⟨a1, cap1, rfl⟩ := hv1.shape
  refine call_rwp hC cf45 rfl hσ.wf ?_
  conv => whnf
  refine equal hC hl hl' (Mem.ok (σ := σ) ?_) (h0.mono hσ ?_) (h1.mono hσ ?_) ?_
  · repeat first | exact Mem.refl hσ | apply Mem.bump | refine Mem.put ?_ (by (try simp only [bump_next, put_next]); omega) (by (try simp only [bump_next, put_next]); omega)
  · repeat first | exact Mem.refl hσ | apply Mem.bump | refine Mem.put ?_ (by (try simp only [bump_next, put_next]); omega) (by (try simp only [bump_next, put_next]); omega)
  · repeat first | exact Mem.refl hσ | apply Mem.bump | refine Mem.put ?_ (by (try simp only [bump_next, put_next]); omega) (by (try simp only [bump_next, put_next]); omega)
  · intro σ' g
    conv => whnf
    exact k _ (Mem.bump (Mem.trans (by repeat first | exact Mem.refl hσ | apply Mem.bump | refine Mem.put ?_ (by (try simp only [bump_next, put_next]); omega) (by (try simp only [bump_next, put_next]); omega)) g) 0)

/-- Row by row the same. -/
theorem equalFunc (hC : CProp (ACall Try.prog Base)) {v0 v1 : Value} {m m' : List (List Nat)} (hm : m.length < 2 ^ 40) (hm' : m'.length < 2 ^ 40) (hrl : ∀ l ∈ m, l.length < 2 ^ 40) (hrl' : ∀ l ∈ m', l.length < 2 ^ 40)
    {σ : AS} (hσ : Ok σ) (hv0 : MatAt σ v0 m) (hv1 : MatAt σ v1 m') {Q : Value → AS → Prop}
    (k : ∀ σ', Mem σ σ' → Q (.bool (m == m')) σ') :
    ∃ v σ', ACall Try.prog Base 44 [v0, v1, .func (.func 45) #[] #[]] σ v σ' ∧ Q v σ' := by
  have h0 := hv0
  have h1 := hv1
  obtain ⟨vs, hs, hl, hrows⟩ := hv0
  obtain ⟨vs', hs', hl', hrows'⟩ := hv1
  obtain ⟨a0, cap0, rfl⟩ := hs.shape
  obtain ⟨a1, cap1, rfl⟩ := hs'.shape
  refine call_rwp hC cf44 rfl hσ.wf ?_
  conv => whnf
  refine br_intro ?_ ?_ <;> intro hq <;> simp only [blt_dec, ble_dec, beq_dec, ltB_eq, leB_eq, decide_eq_true_eq, decide_eq_false_iff_not, beq_iff_eq, bne_iff_ne, beq_eq_false_iff_ne, bne_eq_false_iff_eq] at hq
  · conv => whnf
    have e : (m == m') = false := by
      rw [beq_eq_false_iff_ne]; intro e; subst e; exact hq (by rw [hl, hl'])
    rw [e] at k
    refine k _ ?_
    repeat first | exact Mem.refl hσ | apply Mem.bump | refine Mem.put ?_ (by (try simp only [bump_next, put_next]); omega) (by (try simp only [bump_next, put_next]); omega)
  · conv => whnf
    have hll : m.length = m'.length := by omega
    refine loop_intro (n := 32) (fun k ws τ => ∃ i, i ≤ m.length ∧ k = m.length - i ∧ ws = [.slice a1 vs'.length cap1, .func (.func 45) #[] #[], .slice a0 vs.length cap0, vi vs.length, vi i] ∧ Mem σ τ ∧ m.take i = m'.take i) m.length rfl ?_ ?_
    · conv => whnf
      refine ⟨0, by omega, rfl, rfl, ?_, rfl⟩
      repeat first | exact Mem.refl hσ | apply Mem.bump | refine Mem.put ?_ (by (try simp only [bump_next, put_next]); omega) (by (try simp only [bump_next, put_next]); omega)
    · rintro mm ws τ ⟨i, hi, rfl, rfl, g, hbe⟩
      conv => whnf
      refine br_intro ?_ ?_ <;> intro h2 <;> simp only [blt_dec, ble_dec, beq_dec, ltB_eq, leB_eq, decide_eq_true_eq, decide_eq_false_iff_not, beq_iff_eq, bne_iff_ne, beq_eq_false_iff_ne, bne_eq_false_iff_eq] at h2
      · conv => whnf
        have hi0 : i < m.length := by omega
        have hi1 : i < m'.length := by omega
        obtain ⟨r, o, sp, c, ro, rfl, hr, hci, _⟩ := hs.idx (i := i) (by omega)
        obtain ⟨r2, o2, sp2, c2, ro2, rfl, hr2, hci2, _⟩ := hs'.idx (i := i) (by omega)
        have hrow := hrows i (by omega) hi0
        have hrow' := hrows' i (by omega) hi1
        obtain ⟨b1, bc1, e1⟩ := hrow.shape
        obtain ⟨b2, bc2, e2⟩ := hrow'.shape
        rw [e1] at hci hrow
        rw [e2] at hci2 hrow'
        conv => whnf
        repeat (first | (refine br_true (inR_intro (by simp only [loI, hiI]; omega)) ?_; conv => whnf) | (refine br_true (by simp only [blt_dec, ble_dec, beq_dec, ltB_eq, leB_eq, decide_eq_true_eq, decide_eq_false_iff_not, Bool.and_eq_true, Bool.or_eq_true, beq_iff_eq, bne_iff_ne, beq_eq_false_iff_ne, bne_eq_false_iff_eq]; first | done | omega) ?_; conv => whnf))
        refine ld_intro (g.old hσ hr) ?_
        conv => whnf
        refine at_intro hci ?_
        conv => whnf
        repeat (first | (refine br_true (inR_intro (by simp only [loI, hiI]; omega)) ?_; conv => whnf) | (refine br_true (by simp only [blt_dec, ble_dec, beq_dec, ltB_eq, leB_eq, decide_eq_true_eq, decide_eq_false_iff_not, Bool.and_eq_true, Bool.or_eq_true, beq_iff_eq, bne_iff_ne, beq_eq_false_iff_ne, bne_eq_false_iff_eq]; first | done | omega) ?_; conv => whnf))
        refine ld_intro (g.old hσ hr2) ?_
        conv => whnf
        refine at_intro hci2 ?_
        conv => whnf
        refine same1 hC (hrl _ (List.getElem_mem hi0)) (hrl' _ (List.getElem_mem hi1)) (Mem.ok (σ := σ) ?_) (hrow.mono hσ ?_) (hrow'.mono hσ ?_) ?_
        · repeat first | exact g | apply Mem.bump | refine Mem.put ?_ (by (try simp only [bump_next, put_next]); omega) (by (try simp only [bump_next, put_next]); omega)
        · repeat first | exact g | apply Mem.bump | refine Mem.put ?_ (by (try simp only [bump_next, put_next]); omega) (by (try simp only [bump_next, put_next]); omega)
        · repeat first | exact g | apply Mem.bump | refine Mem.put ?_ (by (try simp only [bump_next, put_next]); omega) (by (try simp only [bump_next, put_next]); omega)
        intro τ2 g2
        have g3 : Mem σ τ2 := Mem.trans (by repeat first | exact g | apply Mem.bump | refine Mem.put ?_ (by (try simp only [bump_next, put_next]); omega) (by (try simp only [bump_next, put_next]); omega)) g2
        cases he : (m[i] == m'[i]) with
        | false =>
          conv => whnf
          have e : (m == m') = false := by
            rw [beq_eq_false_iff_ne] at he ⊢; intro e; subst e; exact he rfl
          rw [e] at k
          refine k _ ?_
          repeat first | exact g3 | apply Mem.bump | refine Mem.put ?_ (by (try simp only [bump_next, put_next]); omega) (by (try simp only [bump_next, put_next]); omega)
        | true =>
          conv => whnf
          repeat (first | (refine br_true (inR_intro (by simp only [loI, hiI]; omega)) ?_; conv => whnf) | (refine br_true (by simp only [blt_dec, ble_dec, beq_dec, ltB_eq, leB_eq, decide_eq_true_eq, decide_eq_false_iff_not, Bool.and_eq_true, Bool.or_eq_true, beq_iff_eq, bne_iff_ne, beq_eq_false_iff_ne, bne_eq_false_iff_eq]; first | done | omega) ?_; conv => whnf))
          refine ⟨rfl, m.length - (i + 1), by omega, i + 1, by omega, rfl, rfl, ?_, ?_⟩
          · repeat first | exact g3 | apply Mem.bump | refine Mem.put ?_ (by (try simp only [bump_next, put_next]); omega) (by (try simp only [bump_next, put_next]); omega)
          · rw [List.take_succ_eq_append_getElem hi0, List.take_succ_eq_append_getElem hi1, hbe, eq_of_beq he]
      · conv => whnf
        obtain rfl : i = m.length := by omega
        rw [List.take_length, hll, List.take_length] at hbe
        have e : (m == m') = true := by rw [hbe]; exact beq_self_eq_true _
        rw [e] at k
        refine k _ ?_
        repeat first | exact g | apply Mem.bump | refine Mem.put ?_ (by (try simp only [bump_next, put_next]); omega) (by (try simp only [bump_next, put_next]); omega)

theorem same (hC : CProp (ACall Try.prog Base)) {v0 v1 : Value} {m m' : List (List Nat)} (hm : m.length < 2 ^ 40) (hm' : m'.length < 2 ^ 40) (hrl : ∀ l ∈ m, l.length < 2 ^ 40) (hrl' : ∀ l ∈ m', l.length < 2 ^ 40)
    {σ : AS} (hσ : Ok σ) (hv0 : MatAt σ v0 m) (hv1 : MatAt σ v1 m') {Q : Value → AS → Prop}
    (k : ∀ σ', Mem σ σ' → Q (.bool (m == m')) σ') :
    ∃ v σ', ACall Try.prog Base 26 [v0, v1] σ v σ' ∧ Q v σ' := by
  have h0 := hv0
  have h1 := hv1
  obtain ⟨vs, hs, hl, hrows⟩ := hv0
  obtain ⟨vs', hs', hl', hrows'⟩ := hv1
  obtain ⟨a0, cap0, rfl⟩ := hs.shape
  obtain ⟨a1, cap1, rfl⟩ := hs'.shape
  refine call_rwp hC cf26 rfl hσ.wf ?_
  conv => whnf
  refine equalFunc hC hm hm' hrl hrl' (Mem.ok (σ := σ) ?_) (h0.mono hσ ?_) (h1.mono hσ ?_) ?_
  · repeat first | exact Mem.refl hσ | apply Mem.bump | refine Mem.put ?_ (by (try simp only [bump_next, put_next]); omega) (by (try simp only [bump_next, put_next]); omega)
  · repeat first | exact Mem.refl hσ | apply Mem.bump | refine Mem.put ?_ (by (try simp only [bump_next, put_next]); omega) (by (try simp only [bump_next, put_next]); omega)
  · repeat first | exact Mem.refl hσ | apply Mem.bump | refine Mem.put ?_ (by (try simp only [bump_next, put_next]); omega) (by (try simp only [bump_next, put_next]); omega)
  · intro σ' g
    conv => whnf
    exact k _ (Mem.bump (Mem.trans (by repeat first | exact Mem.refl hσ | apply Mem.bump | refine Mem.put ?_ (by (try simp only [bump_next, put_next]); omega) (by (try simp only [bump_next, put_next]); omega)) g) 0)
end
end Go.Corb.A

/- Contracts of matrix functions that make new ones. Conditions: none. -/
set_option linter.unusedVariables false
set_option linter.unusedSimpArgs false
namespace Go.Corb.A
open Go Go.RowKit Go.Proofs Go.Corb Go.IntWalk

def idRow (n k : Nat) : List Nat := (List.replicate n 0).set k 1
def idM (n : Nat) : List (List Nat) := (List.range n).map (idRow n)
theorem idRow_len (n k : Nat) : (idRow n k).length = n := by simp [idRow]
theorem idM_len (n : Nat) : (idM n).length = n := by simp [idM]

/-- A slice over a whole object. -/
def whole (r n : Nat) : Value := .slice (some ⟨r, 0, none⟩) n n

section
variable {Base : CallRel}
set_option pp.deepTerms.threshold 4

theorem identity (hC : CProp (ACall Try.prog Base)) {n : Nat} (hn : 1 ≤ n) (hn' : n ≤ 64) {σ : AS} (hσ : Ok σ) {Q : Value → AS → Prop}
    (k : ∀ σ' v, Mem σ σ' → MatAt σ' v (idM n) → (∃ h, v = whole h n) → Q v σ') :
    ∃ v σ', ACall Try.prog Base 32 [.int .i64 n] σ v σ' ∧ Q v σ' := by
  refine call_rwp hC cf32 rfl hσ.wf ?_
  conv => whnf
  refine br_intro ?_ ?_ <;> intro h1 <;> simp only [blt_dec, ble_dec, beq_dec, ltB_eq, leB_eq, decide_eq_true_eq, decide_eq_false_iff_not, beq_iff_eq, bne_iff_ne, beq_eq_false_iff_ne, bne_eq_false_iff_eq] at h1
  · omega
  · conv => whnf
    refine br_intro ?_ ?_ <;> intro h2 <;> simp only [blt_dec, ble_dec, beq_dec, ltB_eq, leB_eq, decide_eq_true_eq, decide_eq_false_iff_not, beq_iff_eq, bne_iff_ne, beq_eq_false_iff_ne, bne_eq_false_iff_eq] at h2
    · omega
    · conv => whnf
      repeat (first | (refine br_true (inR_intro (by simp only [loI, hiI]; omega)) ?_; conv => whnf) | (refine br_true (by simp only [blt_dec, ble_dec, beq_dec, ltB_eq, leB_eq, decide_eq_true_eq, decide_eq_false_iff_not, Bool.and_eq_true, Bool.or_eq_true, beq_iff_eq, bne_iff_ne, beq_eq_false_iff_ne, bne_eq_false_iff_eq]; first | done | omega) ?_; conv => whnf))
      refine loop_intro (n := 31) (fun k ws τ => ∃ (i : Nat) (rs : List Nat), i ≤ n ∧ k = n - i ∧ ws = [vi n, whole (σ.next + 1 + 6 + 1) n, vi n, vi i] ∧ Mem σ τ ∧ rs.length = i ∧ τ.heap (σ.next + 1 + 6 + 1) = some (.cells (rs.map (fun r => whole r n) ++ List.replicate (n - i) (.slice none 0 0)) false) ∧
        (∀ j (h : j < rs.length), rs[j] ≠ σ.next + 1 + 6 + 1 ∧ τ.heap rs[j] = some (.cells ((idRow n j).map vb) false))) n rfl ?_ ?_
      · conv => whnf
        refine ⟨0, [], by omega, rfl, rfl, ?_, rfl, ?_, fun j h => absurd h (by simp)⟩
        · repeat first | exact Mem.refl hσ | apply Mem.bump | refine Mem.put ?_ (by (try simp only [bump_next, put_next]); omega) (by (try simp only [bump_next, put_next]); omega)
        · refine (put_heap_eq _ _ _).trans ?_
          rw [zrow_rep]; rfl
      · rintro mm ws τ ⟨i, rs, hi, rfl, rfl, g, hrs, hh, hrows⟩
        have hlt := g.ok.lt hh
        have hnx := g.next
        conv => whnf
        refine br_intro ?_ ?_ <;> intro h3 <;> simp only [blt_dec, ble_dec, beq_dec, ltB_eq, leB_eq, decide_eq_true_eq, decide_eq_false_iff_not, beq_iff_eq, bne_iff_ne, beq_eq_false_iff_ne, bne_eq_false_iff_eq] at h3
        · conv => whnf
          have hi0 : i < n := by omega
          repeat (first | (refine br_true (inR_intro (by simp only [loI, hiI]; omega)) ?_; conv => whnf) | (refine br_true (by simp only [blt_dec, ble_dec, beq_dec, ltB_eq, leB_eq, decide_eq_true_eq, decide_eq_false_iff_not, Bool.and_eq_true, Bool.or_eq_true, beq_iff_eq, bne_iff_ne, beq_eq_false_iff_ne, bne_eq_false_iff_eq]; first | done | omega) ?_; conv => whnf))
          refine wr_intro (c := rs.map (fun r => whole r n) ++ List.replicate (n - i) (.slice none 0 0)) ?_ ?_ ?_
          · rw [put_heap_ne (by simp only [bump_next]; omega)]; exact hh
          · exact Mem.noprot (σ := σ) hσ (by repeat first | exact g | apply Mem.bump | refine Mem.put ?_ (by (try simp only [bump_next, put_next]); omega) (by (try simp only [bump_next, put_next]); omega)) (by omega)
          have hcl : (rs.map (fun r => whole r n) ++ List.replicate (n - i) (Value.slice none 0 0)).length = n := by simp [hrs]; omega
          conv => whnf
          repeat (first | (refine br_true (inR_intro (by simp only [loI, hiI]; omega)) ?_; conv => whnf) | (refine br_true (by simp only [blt_dec, ble_dec, beq_dec, ltB_eq, leB_eq, decide_eq_true_eq, decide_eq_false_iff_not, Bool.and_eq_true, Bool.or_eq_true, beq_iff_eq, bne_iff_ne, beq_eq_false_iff_ne, bne_eq_false_iff_eq, hcl]; first | done | omega) ?_; conv => whnf))
          refine ld_intro (put_heap_eq _ _ _) ?_
          conv => whnf
          rw [show 0 + i * 1 = i by omega, wr_one _ _ _ (by omega)]
          refine at_intro (List.getElem?_set_self (by omega)) ?_
          conv => whnf
          repeat (first | (refine br_true (inR_intro (by simp only [loI, hiI]; omega)) ?_; conv => whnf) | (refine br_true (by simp only [blt_dec, ble_dec, beq_dec, ltB_eq, leB_eq, decide_eq_true_eq, decide_eq_false_iff_not, Bool.and_eq_true, Bool.or_eq_true, beq_iff_eq, bne_iff_ne, beq_eq_false_iff_ne, bne_eq_false_iff_eq]; first | done | omega) ?_; conv => whnf))
          refine wr_intro (c := List.replicate n (vb 0)) ?_ ?_ ?_
          · rw [bump_heap, put_heap_ne (by simp only [bump_next]; omega), put_heap_eq, zrow_rep]
            rfl
          · exact Mem.noprot (σ := σ) hσ (by repeat first | exact g | apply Mem.bump | refine Mem.put ?_ (by (try simp only [bump_next, put_next]); omega) (by (try simp only [bump_next, put_next]); omega)) (by simp only [bump_next]; omega)
          conv => whnf
          repeat (first | (refine br_true (inR_intro (by simp only [loI, hiI]; omega)) ?_; conv => whnf) | (refine br_true (by simp only [blt_dec, ble_dec, beq_dec, ltB_eq, leB_eq, decide_eq_true_eq, decide_eq_false_iff_not, Bool.and_eq_true, Bool.or_eq_true, beq_iff_eq, bne_iff_ne, beq_eq_false_iff_ne, bne_eq_false_iff_eq, List.length_replicate]; first | done | omega) ?_; conv => whnf))
          repeat (first | (refine br_true (inR_intro (by simp only [loI, hiI]; omega)) ?_; conv => whnf) | (refine br_true (by simp only [blt_dec, ble_dec, beq_dec, ltB_eq, leB_eq, decide_eq_true_eq, decide_eq_false_iff_not, Bool.and_eq_true, Bool.or_eq_true, beq_iff_eq, bne_iff_ne, beq_eq_false_iff_ne, bne_eq_false_iff_eq]; first | done | omega) ?_; conv => whnf))
          have hcl2 : (rs.map (fun r => whole r n) ++ List.replicate (n - i) (Value.slice none 0 0)).set i (whole (τ.next + 1 + 2 + 3) n) = (rs ++ [τ.next + 1 + 2 + 3]).map (fun r => whole r n) ++ List.replicate (n - (i + 1)) (Value.slice none 0 0) := by
            rw [List.set_append_right _ _ (by rw [List.length_map]; omega), List.length_map, hrs, Nat.sub_self, show n - i = (n - (i + 1)) + 1 by omega, List.replicate_succ, List.set_cons_zero, List.map_append, List.append_assoc]
            rfl
          refine ⟨rfl, n - (i + 1), by omega, i + 1, rs ++ [τ.next + 1 + 2 + 3], by omega, rfl, rfl, ?_, by simp [hrs], ?_, ?_⟩
          · repeat first | exact g | apply Mem.bump | refine Mem.put ?_ (by (try simp only [bump_next, put_next]); omega) (by (try simp only [bump_next, put_next]); omega)
          · rw [bump_heap, put_heap_ne (by simp only [bump_next]; omega), bump_heap, put_heap_eq]
            exact congrArg (fun c => some (AObj.cells c false)) hcl2
          · intro j hj
            have hj' : j < rs.length + 1 := by simpa using hj
            by_cases hji : j < rs.length
            · rw [List.getElem_append_left hji]
              obtain ⟨q1, q2⟩ := hrows j hji
              have q3 := g.ok.lt q2
              refine ⟨q1, ?_⟩
              rw [bump_heap, put_heap_ne (by simp only [bump_next]; omega), bump_heap, put_heap_ne q1, put_heap_ne (by simp only [bump_next]; omega)]
              exact q2
            · obtain rfl : j = i := by omega
              subst hrs
              rw [List.getElem_append_right (by omega)]
              simp only [Nat.sub_self, List.getElem_cons_zero]
              refine ⟨by omega, (put_heap_eq _ _ _).trans ?_⟩
              rw [show 0 + rs.length * 1 = rs.length by omega, wr_one _ _ _ (by simp; omega)]
              simp only [idRow, List.map_set, List.map_replicate]
              rfl
        · conv => whnf
          obtain rfl : i = n := by omega
          refine k _ _ (by repeat first | exact g | apply Mem.bump | refine Mem.put ?_ (by (try simp only [bump_next, put_next]); omega) (by (try simp only [bump_next, put_next]); omega)) ?_ ⟨_, rfl⟩
          rw [Nat.sub_self, List.replicate_zero, List.append_nil] at hh
          refine ⟨rs.map fun r => whole r i, SlAt.mk (o := 0) hh (by simp [hrs]) (by rw [List.drop_zero, List.take_length]), by rw [List.length_map, idM_len, hrs], ?_⟩
          intro j h h'
          rw [List.length_map] at h
          obtain ⟨q1, q2⟩ := hrows j h
          rw [List.getElem_map]
          simp only [idM, List.getElem_map, List.getElem_range]
          exact SlAt.mk q2 (by rw [List.length_map, idRow_len]) (by rw [List.drop_zero, List.take_length])

/-- The slice that a row is: its room behind is not known. -/
def rowv (w r : Nat) : Value := .slice (some ⟨r, 0, some 1⟩) w w

theorem rowv_one (w : Nat) (rs : List Nat) : (rs.map (rowv w)).all (·.oneCell') = true := by
  rw [List.all_eq_true]; intro x hx
  obtain ⟨n, _, rfl⟩ := List.mem_map.1 hx
  rfl

/-- A matrix whose rows lie each in an object of its own. -/
structure Own (σ τ : AS) (h w : Nat) (rs : List Nat) (m : List (List Nat)) : Prop where
  head : τ.heap h = some (.cells (rs.map (rowv w)) false)
  hn : σ.next ≤ h
  len : rs.length = m.length
  rows : ∀ j (h1 : j < rs.length) (h2 : j < m.length), τ.heap rs[j] = some (.cells (m[j].map vb) false)
  rn : ∀ r ∈ rs, σ.next ≤ r ∧ r ≠ h
  nodup : rs.Nodup
  wid : ∀ l ∈ m, l.length = w

/-- The rows of a matrix, each with one of the identity behind. -/
def bothM (m : List (List Nat)) : List (List Nat) := (List.range m.length).map fun k => m.getD k [] ++ idRow m.length k

theorem both (hC : CProp (ACall Try.prog Base)) {v0 : Value} {m : List (List Nat)} {n : Nat} (hml : m.length = n) (hn : 1 ≤ n) (hn' : n ≤ 64) (hrl : ∀ l ∈ m, l.length = n) {σ : AS} (hσ : Ok σ) (hv0 : MatAt σ v0 m) {Q : Value → AS → Prop}
    (k : ∀ σ' h rs, Mem σ σ' → Own σ σ' h (2 * n) rs (bothM m) → Q (.slice (some ⟨h, 0, some 1⟩) n n) σ') :
    ∃ v σ', ACall Try.prog Base 29 [v0] σ v σ' ∧ Q v σ' := by
  have hv := hv0
  obtain ⟨vs, hs, hl, hrows⟩ := hv0
  obtain ⟨a0, cap0, rfl⟩ := hs.shape
  refine call_rwp hC cf29 rfl hσ.wf ?_
  conv => whnf
  refine identity hC (n := vs.length) (by omega) (by omega) (Mem.ok (σ := σ) ?_) ?_
  · repeat first | exact Mem.refl hσ | apply Mem.bump | refine Mem.put ?_ (by (try simp only [bump_next, put_next]); omega) (by (try simp only [bump_next, put_next]); omega)
  intro τ1 iv g1 hiv _
  have hiv' := hiv
  obtain ⟨is, his, hil, hirows⟩ := hiv
  obtain ⟨b0, bcap0, rfl⟩ := his.shape
  have g2 : Mem σ τ1 := Mem.trans (by repeat first | exact Mem.refl hσ | apply Mem.bump | refine Mem.put ?_ (by (try simp only [bump_next, put_next]); omega) (by (try simp only [bump_next, put_next]); omega)) g1
  have hil' : is.length = n := by rw [hil, idM_len]; omega
  conv => whnf
  refine loop_intro (n := 27) (fun k ws τ => ∃ (i : Nat) (rs : List Nat) (ov : Value), i ≤ n ∧ k = n - i ∧ ws = [.slice a0 vs.length cap0, ov, .slice b0 is.length bcap0, vi is.length, vi i] ∧ Mem τ1 τ ∧ rs.length = i ∧ Growing τ1 τ ov (rs.map (rowv (2 * n))) ∧
      (∀ j (h : j < rs.length), headOf ov ≠ some rs[j] ∧ τ1.next ≤ rs[j] ∧ τ.heap rs[j] = some (.cells ((m.getD j [] ++ idRow n j).map vb) false)) ∧ rs.Nodup) n rfl ?_ ?_
  · conv => whnf
    refine ⟨0, [], _, by omega, rfl, rfl, ?_, rfl, .inl ⟨rfl, rfl⟩, fun j h => absurd h (by simp), List.nodup_nil⟩
    exact Mem.refl g2.ok
  · rintro mm ws τ ⟨i, rs, ov, hi, rfl, rfl, g, hrs, hG, hrs2, hnd⟩
    obtain ⟨oa, on, oc, rfl⟩ : ∃ a b c, ov = .slice a b c := by
      rcases hG with ⟨_, rfl⟩ | ⟨h, _, rfl, _⟩
      · exact ⟨_, _, _, rfl⟩
      · exact ⟨_, _, _, rfl⟩
    have g3 : Mem σ τ := Mem.trans g2 g
    have hnx := g3.next
    have hnx1 := g.next
    have hnx0 := g2.next
    conv => whnf
    refine br_intro ?_ ?_ <;> intro h1 <;> simp only [blt_dec, ble_dec, beq_dec, ltB_eq, leB_eq, decide_eq_true_eq, decide_eq_false_iff_not, beq_iff_eq, bne_iff_ne, beq_eq_false_iff_ne, bne_eq_false_iff_eq] at h1
    · conv => whnf
      have hi0 : i < n := by omega
      have him : i < m.length := by omega
      obtain ⟨r, o, sp, c, ro, rfl, hr, hci, _⟩ := hs.idx (i := i) (by omega)
      obtain ⟨r2, o2, sp2, c2, ro2, rfl, hr2, hci2, _⟩ := his.idx (i := i) (by omega)
      have hrow := hrows i (by omega) him
      have hrow2 := hirows i (by omega) (by rw [idM_len]; omega)
      obtain ⟨d1, dc1, e1⟩ := hrow.shape
      obtain ⟨d2, dc2, e2⟩ := hrow2.shape
      rw [e1] at hci hrow
      rw [e2] at hci2 hrow2
      conv => whnf
      repeat (first | (refine br_true (inR_intro (by simp only [loI, hiI]; omega)) ?_; conv => whnf) | (refine br_true (by simp only [blt_dec, ble_dec, beq_dec, ltB_eq, leB_eq, decide_eq_true_eq, decide_eq_false_iff_not, Bool.and_eq_true, Bool.or_eq_true, beq_iff_eq, bne_iff_ne, beq_eq_false_iff_ne, bne_eq_false_iff_eq]; first | done | omega) ?_; conv => whnf))
      refine ld_intro (g.old g2.ok hr2) ?_
      conv => whnf
      refine at_intro hci2 ?_
      conv => whnf
      repeat (first | (refine br_true (inR_intro (by simp only [loI, hiI]; omega)) ?_; conv => whnf) | (refine br_true (by simp only [blt_dec, ble_dec, beq_dec, ltB_eq, leB_eq, decide_eq_true_eq, decide_eq_false_iff_not, Bool.and_eq_true, Bool.or_eq_true, beq_iff_eq, bne_iff_ne, beq_eq_false_iff_ne, bne_eq_false_iff_eq]; first | done | omega) ?_; conv => whnf))
      refine ld_intro (g3.old hσ hr) ?_
      conv => whnf
      refine at_intro hci ?_
      conv => whnf
      have hvn : vs.length = n := by omega
      have hid : (idM vs.length)[i]'(by rw [idM_len]; omega) = idRow n i := by simp only [idM, List.getElem_map, List.getElem_range, hvn]
      rw [hid] at hrow2 ⊢
      have hmi : m[i].length = n := hrl _ (List.getElem_mem him)
      refine concat hC (m := [m[i], idRow n i]) (by simp [hmi, idRow_len]; omega) (by simp) (Mem.ok (σ := σ) ?_) ?_ ?_
      · repeat first | exact g3 | apply Mem.bump | refine Mem.put ?_ (by (try simp only [bump_next, put_next]); omega) (by (try simp only [bump_next, put_next]); omega)
      · refine ⟨[.slice d1 (m[i].map vb).length dc1, .slice d2 ((idRow n i).map vb).length dc2], SlAt.mk (put_heap_eq _ _ _) rfl rfl, rfl, ?_⟩
        intro j hj hj'
        match j, hj with
        | 0, _ => exact hrow.mono hσ (by repeat first | exact g3 | apply Mem.bump | refine Mem.put ?_ (by (try simp only [bump_next, put_next]); omega) (by (try simp only [bump_next, put_next]); omega))
        | 1, _ => exact hrow2.mono g2.ok (by repeat first | exact g | apply Mem.bump | refine Mem.put ?_ (by (try simp only [bump_next, put_next]); omega) (by (try simp only [bump_next, put_next]); omega))
      intro τ2 rv g4 hfr
      have g5 : Mem τ τ2 := Mem.trans (by repeat first | exact Mem.refl g.ok | apply Mem.bump | refine Mem.put ?_ (by (try simp only [bump_next, put_next]); omega) (by (try simp only [bump_next, put_next]); omega)) g4
      have g6 : Mem σ τ2 := g3.trans g5
      have hnx2 := g4.next
      simp only [bump_next, put_next] at hnx2
      rcases hfr with ⟨h0, _⟩ | ⟨r', hr', rfl, hh'⟩
      · have := congrArg List.length h0
        simp [hmi] at this; omega
      have hfl : [m[i], idRow n i].flatten = m[i] ++ idRow n i := by simp
      rw [hfl] at hh'
      have hfl2 : (m[i] ++ idRow n i).length = 2 * n := by rw [List.length_append, hmi, idRow_len]; omega
      rw [hfl, hfl2]
      simp only [bump_next, put_next] at hr'
      have hrlt := g4.ok.lt hh'
      conv => whnf
      obtain ⟨τ3, ha, g7, hn3, hnx3, hfr3⟩ := app_growing (τ := τ2.put (τ.next + 1 + 5 + 8) (.cells [rowv (2 * n) r'] false)) (N := τ.next + 1 + 5 + 9) (bytes := 24) (x := .slice (some ⟨τ.next + 1 + 5 + 8, 0, none⟩) 1 1) (news := [rowv (2 * n) r']) g2.ok ((g.trans g5).put (by omega) (by omega)) (hG.mono g.ok (Mem.put g5 (by omega) (by omega))) (by omega) (by simp only [put_next]; omega) (SlAt.mk (put_heap_eq _ _ _) rfl rfl) rfl (rowv_one _ _) (by simp) (by simp [hrs]; omega)
      refine ⟨_, _, ha, ?_⟩
      simp only [put_next] at hnx3
      conv => whnf
      repeat (first | (refine br_true (inR_intro (by simp only [loI, hiI]; omega)) ?_; conv => whnf) | (refine br_true (by simp only [blt_dec, ble_dec, beq_dec, ltB_eq, leB_eq, decide_eq_true_eq, decide_eq_false_iff_not, Bool.and_eq_true, Bool.or_eq_true, beq_iff_eq, bne_iff_ne, beq_eq_false_iff_ne, bne_eq_false_iff_eq]; first | done | omega) ?_; conv => whnf))
      have hrsn : ∀ j (h : j < rs.length), rs[j] < τ.next := fun j h => g.ok.lt (hrs2 j h).2.2
      refine ⟨rfl, n - (i + 1), by omega, i + 1, rs ++ [r'], _, by omega, rfl, rfl, ?_, by simp [hrs], ?_, ?_, ?_⟩
      · exact Mem.bump g7 2
      · refine .inr ⟨τ.next + 1 + 5 + 9, by omega, ?_, ?_⟩
        · simp only [List.map_append, List.map_cons, List.map_nil, List.length_append, List.length_map, List.length_cons, List.length_nil]
        · rw [List.map_append]; exact hn3
      · intro j hj
        have hj' : j < rs.length + 1 := by simpa using hj
        by_cases hji : j < rs.length
        · rw [List.getElem_append_left hji]
          obtain ⟨q1, q2, q3⟩ := hrs2 j hji
          have q4 := hrsn j hji
          refine ⟨?_, q2, ?_⟩
          · intro e
            have e : τ.next + 1 + 5 + 9 = rs[j] := by injection e
            omega
          · rw [bump_heap, hfr3 _ (by omega) q1, put_heap_ne (by omega), g5.grow.heap _ q4]
            exact q3
        · obtain rfl : j = rs.length := by omega
          rw [List.getElem_append_right (by omega)]
          simp only [Nat.sub_self, List.getElem_cons_zero]
          refine ⟨?_, by omega, ?_⟩
          · intro e
            have e : τ.next + 1 + 5 + 9 = r' := by injection e
            omega
          · rw [bump_heap, hfr3 _ (by omega) ?_, put_heap_ne (by omega), hh']
            · subst hrs
              have : m.getD rs.length [] = m[rs.length] := by rw [List.getD_eq_getElem?_getD, List.getElem?_eq_getElem him]; rfl
              rw [this]
            · rcases hG with ⟨_, e⟩ | ⟨h, _, e, eh⟩
              · rw [e]; intro e; cases e
              · rw [e]; intro e
                have e : h = r' := by injection e
                have := g.ok.lt eh
                omega
      · rw [List.nodup_append]
        refine ⟨hnd, by simp, ?_⟩
        intro a hma b hmb e
        obtain rfl : b = r' := by simpa using hmb
        subst e
        obtain ⟨j, hj, rfl⟩ := List.getElem_of_mem hma
        have := hrsn j hj
        omega
    · conv => whnf
      obtain rfl : i = n := by omega
      rcases hG with ⟨e0, _⟩ | ⟨h, hh0, e, eh⟩
      · have h0 := congrArg List.length e0
        rw [List.length_map, hrs] at h0
        have h0 : i = 0 := h0
        omega
      · have hnx0 := g2.next
        simp only [Value.slice.injEq] at e
        obtain ⟨rfl, rfl, rfl⟩ := e
        simp only [List.length_map, hrs]
        refine k _ h rs ?_ ⟨eh, by omega, ?_, ?_, ?_, hnd, ?_⟩
        · repeat first | exact g3 | apply Mem.bump | refine Mem.put ?_ (by (try simp only [bump_next, put_next]); omega) (by (try simp only [bump_next, put_next]); omega)
        · simp [bothM, hml, hrs]
        · intro j h1 h2
          simp only [bothM, List.getElem_map, List.getElem_range, hml]
          exact (hrs2 j h1).2.2
        · intro r hr
          obtain ⟨j, hj, rfl⟩ := List.getElem_of_mem hr
          obtain ⟨q1, q2, _⟩ := hrs2 j hj
          exact ⟨by omega, fun e => q1 (by rw [← e]; rfl)⟩
        · intro l hl
          obtain ⟨j, hj, rfl⟩ := List.mem_map.1 hl
          have hj' : j < m.length := by simpa using hj
          rw [List.length_append, idRow_len, List.getD_eq_getElem?_getD, List.getElem?_eq_getElem hj', Option.getD_some, hrl _ (List.getElem_mem hj')]
          omega
end
end Go.Corb.A

/- The contract of clear. Conditions: none. -/
set_option linter.unusedVariables false
set_option linter.unusedSimpArgs false
namespace Go.Corb.A
open Go Go.RowKit Go.Proofs Go.Corb Go.IntWalk

def ent (m : List (List Nat)) (i j : Nat) : Nat := (m.getD i []).getD j 0
def swapM (m : List (List Nat)) (i j : Nat) : List (List Nat) := (m.set i (m.getD j [])).set j (m.getD i [])
def scaleR (c : Nat) (row : List Nat) : List Nat := row.map fun x => gmul x c
def addR (t : Nat) (piv row : List Nat) : List Nat := List.zipWith (fun x y => x ^^^ gmul t y) row piv
/-- One row of what is left by clear. -/
def clearR (a : Nat) (pr : List Nat) (k : Nat) (row : List Nat) : List Nat := if k = a ∨ row.getD a 0 = 0 then row else addR (row.getD a 0) pr row
def scaleM (a : Nat) (m : List (List Nat)) : List (List Nat) := m.set a (scaleR (ginv (ent m a a)) (m.getD a []))
def clearM (a : Nat) (m : List (List Nat)) : List (List Nat) := m.mapIdx fun k row => clearR a (m.getD a []) k row

def Bytes (m : List (List Nat)) : Prop := ∀ l ∈ m, ∀ x ∈ l, x < 256

section
variable {Base : CallRel}
set_option pp.deepTerms.threshold 4

theorem getD_map_vb {l : List Nat} {i : Nat} (h : i < l.length) : (l.map vb)[i]'(by rw [List.length_map]; exact h) = vb (l.getD i 0) := by
  rw [List.getElem_map, List.getD_eq_getElem?_getD, List.getElem?_eq_getElem h]; rfl

theorem clear1 (hC : CProp (ACall Try.prog Base)) {a : Nat} {σ τ : AS} (hσ : Ok σ) {x : Value} {r : Nat} {ro : Bool} (g : Mem σ τ) (hr : σ.heap r = some (.cells [vi a] ro)) {l : List Nat} (hx : SlAt τ x (l.map vb)) (hl : a < l.length)
    {Q : Value → AS → Prop} (k : ∀ τ', Mem τ τ' → Q (.bool (l.getD a 0 != 0)) τ') :
    ∃ v σ', ACall Try.prog Base 50 [x, .pointer (some ⟨r, 0, none⟩)] τ v σ' ∧ Q v σ' := by
  obtain ⟨a1, cap1, rfl⟩ := hx.shape
  obtain ⟨r1, o, sp, c, ro1, rfl, hr1, hci, _⟩ := hx.idx (i := a) (by rw [List.length_map]; exact hl)
  rw [getD_map_vb hl] at hci
  rw [List.length_map] at hx ⊢
  refine call_rwp hC cf50 rfl g.ok.wf ?_
  conv => whnf
  refine ld_intro (g.old hσ hr) ?_
  conv => whnf
  repeat (first | (refine br_true (inR_intro (by simp only [loI, hiI]; omega)) ?_; conv => whnf) | (refine br_true (by simp only [blt_dec, ble_dec, beq_dec, ltB_eq, leB_eq, decide_eq_true_eq, decide_eq_false_iff_not, Bool.and_eq_true, Bool.or_eq_true, beq_iff_eq, bne_iff_ne, beq_eq_false_iff_ne, bne_eq_false_iff_eq]; first | done | omega) ?_; conv => whnf))
  refine ld_intro hr1 ?_
  conv => whnf
  refine at_intro hci ?_
  conv => whnf
  refine br_intro ?_ ?_ <;> intro h1 <;> simp only [blt_dec, ble_dec, beq_dec, ltB_eq, leB_eq, decide_eq_true_eq, decide_eq_false_iff_not, beq_iff_eq, bne_iff_ne, beq_eq_false_iff_ne, bne_eq_false_iff_eq] at h1
  · conv => whnf
    have e : (l.getD a 0 != 0) = true := by rw [bne_iff_ne]; omega
    rw [e] at k
    refine k _ ?_
    repeat first | exact Mem.refl g.ok | apply Mem.bump | refine Mem.put ?_ (by (try simp only [bump_next, put_next]); omega) (by (try simp only [bump_next, put_next]); omega)
  · conv => whnf
    have e : (l.getD a 0 != 0) = false := by rw [bne_eq_false_iff_eq]; omega
    rw [e] at k
    refine k _ ?_
    repeat first | exact Mem.refl g.ok | apply Mem.bump | refine Mem.put ?_ (by (try simp only [bump_next, put_next]); omega) (by (try simp only [bump_next, put_next]); omega)

theorem own_get {σ τ : AS} {h w : Nat} {rs : List Nat} {m : List (List Nat)} (own : Own σ τ h w rs m) {i o : Nat} (hi : i < rs.length) (ho : o = i) : (rs.map (rowv w))[o]? = some (rowv w (rs.getD i 0)) := by
  subst ho
  rw [List.getElem?_map, List.getElem?_eq_getElem hi, List.getD_eq_getElem?_getD, List.getElem?_eq_getElem hi]
  rfl

theorem own_row {σ τ : AS} {h w : Nat} {rs : List Nat} {m : List (List Nat)} (own : Own σ τ h w rs m) {i : Nat} (hi : i < m.length) : τ.heap (rs.getD i 0) = some (.cells ((m.getD i []).map vb) false) ∧ (m.getD i []).length = w ∧ σ.next ≤ rs.getD i 0 ∧ rs.getD i 0 ≠ h := by
  have hi' : i < rs.length := by rw [own.len]; exact hi
  have e1 : rs.getD i 0 = rs[i] := by rw [List.getD_eq_getElem?_getD, List.getElem?_eq_getElem hi']; rfl
  have e2 : m.getD i [] = m[i] := by rw [List.getD_eq_getElem?_getD, List.getElem?_eq_getElem hi]; rfl
  rw [e1, e2]
  exact ⟨own.rows i hi' hi, own.wid _ (List.getElem_mem hi), own.rn _ (List.getElem_mem hi')⟩

def sw (a b i : Nat) : Nat := if i = b then a else if i = a then b else i
theorem sw_lt {a b i n : Nat} (ha : a < n) (hb : b < n) (hi : i < n) : sw a b i < n := by unfold sw; split; exact ha; split; exact hb; exact hi
theorem sw_inj {a b i j : Nat} (h : sw a b i = sw a b j) : i = j := by
  unfold sw at h
  split at h <;> split at h <;> (try split at h) <;> (try split at h) <;> omega
theorem sw_get {α : Type} (l : List α) (d : α) {a b : Nat} (ha : a < l.length) (hb : b < l.length) (i : Nat) : ((l.set a (l.getD b d)).set b (l.getD a d))[i]? = l[sw a b i]? := by
  have ea : l.getD a d = l[a] := by rw [List.getD_eq_getElem?_getD, List.getElem?_eq_getElem ha]; rfl
  have eb : l.getD b d = l[b] := by rw [List.getD_eq_getElem?_getD, List.getElem?_eq_getElem hb]; rfl
  rw [ea, eb]
  simp only [List.getElem?_set, List.length_set, sw]
  by_cases h1 : i = b
  · subst h1
    simp [hb, ha]
  · rw [if_neg (fun e => h1 e.symm), if_neg h1]
    by_cases h2 : i = a
    · subst h2
      simp [ha, hb]
    · rw [if_neg (fun e => h2 e.symm), if_neg h2]

theorem sw_getElem {α : Type} (l : List α) (d : α) {a b : Nat} (ha : a < l.length) (hb : b < l.length) {i : Nat} (hi : i < ((l.set a (l.getD b d)).set b (l.getD a d)).length) : ((l.set a (l.getD b d)).set b (l.getD a d))[i] = l[sw a b i]'(sw_lt ha hb (by simpa using hi)) := by
  have h := sw_get l d ha hb i
  rw [List.getElem?_eq_getElem hi, List.getElem?_eq_getElem (sw_lt ha hb (by simpa using hi))] at h
  injection h

theorem own_mono {σ τ τ' : AS} {h w : Nat} {rs : List Nat} {m : List (List Nat)} (own : Own σ τ h w rs m) (ok : Ok τ) (g : Mem τ τ') : Own σ τ' h w rs m :=
  { own with head := g.old ok own.head, rows := fun j h1 h2 => g.old ok (own.rows j h1 h2) }

theorem own_upd {σ τ τ' : AS} {h w a : Nat} {rs : List Nat} {m : List (List Nat)} (own : Own σ τ h w rs m) (ha : a < m.length) {l : List Nat} (hl : l.length = w) (u : Upd τ τ' (rs.getD a 0) (.cells (l.map vb) false)) : Own σ τ' h w rs (m.set a l) := by
  have hi' : a < rs.length := by rw [own.len]; exact ha
  have e1 : rs.getD a 0 = rs[a] := by rw [List.getD_eq_getElem?_getD, List.getElem?_eq_getElem hi']; rfl
  rw [e1] at u
  refine { own with head := ?_, len := ?_, rows := ?_, wid := ?_ }
  · rw [u.else' _ (fun e => (own.rn _ (List.getElem_mem hi')).2 e.symm)]; exact own.head
  · rw [List.length_set]; exact own.len
  · intro j h1 h2
    by_cases hj : a = j
    · subst hj
      rw [u.here, List.getElem_set_self]
    · have hnd := own.nodup
      rw [List.Nodup, List.pairwise_iff_getElem] at hnd
      have hne : rs[j] ≠ rs[a] := by
        rcases Nat.lt_or_gt_of_ne hj with h | h
        · exact fun e => hnd _ _ _ _ h e.symm
        · exact hnd _ _ _ _ h
      rw [u.else' _ hne, List.getElem_set_ne hj]
      exact own.rows j h1 (by simpa using h2)
  · intro l' hl'
    obtain ⟨j, hj, rfl⟩ := List.getElem_of_mem hl'
    rw [List.getElem_set]
    split
    · exact hl
    · exact own.wid _ (List.getElem_mem _)

/-- A row of which the first i are multiplied. -/
def scaleTo (c i : Nat) (row : List Nat) : List Nat := (row.take i).map (fun x => gmul x c) ++ row.drop i

theorem scaleTo_len (c i : Nat) (row : List Nat) : (scaleTo c i row).length = row.length := by simp [scaleTo]; omega
theorem scaleTo_zero (c : Nat) (row : List Nat) : scaleTo c 0 row = row := by simp [scaleTo]
theorem scaleTo_full (c : Nat) (row : List Nat) : scaleTo c row.length row = scaleR c row := by simp [scaleTo, scaleR]
theorem scaleTo_at (c i : Nat) (row : List Nat) : (scaleTo c i row).getD i 0 = row.getD i 0 := by
  simp only [scaleTo, List.getD_eq_getElem?_getD]
  congr 1
  by_cases h : i < row.length
  · rw [List.getElem?_append_right (by simp; omega), List.getElem?_drop]
    congr 1; simp; omega
  · rw [List.getElem?_eq_none (by simp; omega), List.getElem?_eq_none (by omega)]
theorem scaleTo_succ (c i : Nat) (row : List Nat) (h : i < row.length) : (scaleTo c i row).set i (gmul (row.getD i 0) c) = scaleTo c (i + 1) row := by
  have e1 : row.getD i 0 = row[i] := by rw [List.getD_eq_getElem?_getD, List.getElem?_eq_getElem h]; rfl
  rw [e1]
  unfold scaleTo
  rw [List.set_append_right _ _ (by simp; omega), List.take_succ_eq_append_getElem h, List.map_append, List.append_assoc]
  congr 1
  have : i - (List.map (fun x => gmul x c) (row.take i)).length = 0 := by simp; omega
  rw [this, List.drop_eq_getElem_cons h]
  rfl
theorem set_getD {m : List (List Nat)} {a : Nat} (h : a < m.length) (l : List Nat) : (m.set a l).getD a [] = l := by
  rw [List.getD_eq_getElem?_getD, List.getElem?_set_self h]; rfl
theorem set_same {m : List (List Nat)} {a : Nat} {l : List Nat} (h : m.getD a [] = l) : m.set a l = m := by
  subst h
  apply List.ext_getElem?
  intro j
  rw [List.getElem?_set]
  split
  · rename_i e; subst e
    split
    · rename_i hj; rw [List.getD_eq_getElem?_getD, List.getElem?_eq_getElem hj]; rfl
    · rename_i hj; rw [List.getElem?_eq_none (by omega)]
  · rfl

theorem own_bump {σ τ : AS} {h w : Nat} {rs : List Nat} {m : List (List Nat)} (own : Own σ τ h w rs m) (n : Nat) : Own σ (τ.bump n) h w rs m :=
  ⟨own.head, own.hn, own.len, own.rows, own.rn, own.nodup, own.wid⟩

/-- The rows below k are done. -/
def clearTo (a : Nat) (pr : List Nat) (k : Nat) (m : List (List Nat)) : List (List Nat) := m.mapIdx fun j r => if j < k then clearR a pr j r else r
theorem clearTo_len (a : Nat) (pr : List Nat) (k : Nat) (m : List (List Nat)) : (clearTo a pr k m).length = m.length := by simp [clearTo]
theorem clearTo_zero (a : Nat) (pr : List Nat) (m : List (List Nat)) : clearTo a pr 0 m = m := by
  apply List.ext_getElem?; intro j; simp [clearTo]
theorem clearTo_full (a : Nat) (m : List (List Nat)) : clearTo a (m.getD a []) m.length m = clearM a m := by
  apply List.ext_getElem?; intro j
  simp only [clearTo, clearM, List.getElem?_mapIdx]
  cases h : m[j]? with
  | none => rfl
  | some r =>
    have hj : j < m.length := (List.getElem?_eq_some_iff.1 h).1
    simp only [Option.map_some, if_pos hj]
theorem clearTo_get (a : Nat) (pr : List Nat) (k j : Nat) (m : List (List Nat)) (h : k ≤ j) : (clearTo a pr k m).getD j [] = m.getD j [] := by
  simp only [clearTo, List.getD_eq_getElem?_getD, List.getElem?_mapIdx]
  cases h2 : m[j]? with
  | none => rfl
  | some r => simp only [Option.map_some, if_neg (show ¬ j < k by omega)]
theorem clearTo_geta (a : Nat) (pr : List Nat) (k : Nat) (m : List (List Nat)) : (clearTo a pr k m).getD a [] = m.getD a [] := by
  simp only [clearTo, List.getD_eq_getElem?_getD, List.getElem?_mapIdx]
  cases h2 : m[a]? with
  | none => rfl
  | some r =>
    simp only [Option.map_some, Option.getD_some]
    split
    · simp [clearR]
    · rfl
theorem clearTo_succ (a : Nat) (pr : List Nat) (k : Nat) (m : List (List Nat)) (h : k < m.length) : clearTo a pr (k + 1) m = (clearTo a pr k m).set k (clearR a pr k (m.getD k [])) := by
  apply List.ext_getElem?; intro j
  rw [List.getElem?_set]
  simp only [clearTo, List.getElem?_mapIdx, List.length_mapIdx]
  by_cases hj : k = j
  · subst hj
    rw [if_pos rfl, if_pos h, List.getElem?_eq_getElem h, List.getD_eq_getElem?_getD, List.getElem?_eq_getElem h]
    simp
  · rw [if_neg hj]
    cases h2 : m[j]? with
    | none => rfl
    | some r =>
      simp only [Option.map_some]
      by_cases hjk : j < k
      · rw [if_pos hjk, if_pos (by omega)]
      · rw [if_neg hjk, if_neg (by omega)]
theorem clearTo_skip {a : Nat} {pr : List Nat} {k : Nat} {m : List (List Nat)} (h : k < m.length) (h2 : k = a ∨ (m.getD k []).getD a 0 = 0) : clearTo a pr (k + 1) m = clearTo a pr k m := by
  rw [clearTo_succ _ _ _ _ h, clearR, if_pos h2]
  exact set_same (clearTo_get _ _ _ _ _ (Nat.le_refl k))
/-- A row to which the first i are added. -/
def addTo (t : Nat) (pr : List Nat) (i : Nat) (row : List Nat) : List Nat := (addR t pr row).take i ++ row.drop i
theorem addTo_len (t : Nat) (pr : List Nat) (i : Nat) (row : List Nat) (h : pr.length = row.length) : (addTo t pr i row).length = row.length := by simp [addTo, addR]; omega
theorem addTo_zero (t : Nat) (pr row : List Nat) : addTo t pr 0 row = row := by simp [addTo]
theorem addTo_full (t : Nat) (pr row : List Nat) (h : pr.length = row.length) : addTo t pr row.length row = addR t pr row := by
  rw [addTo, List.drop_length, List.append_nil, List.take_of_length_le (by simp [addR]; omega)]
theorem addTo_at (t : Nat) (pr : List Nat) (i : Nat) (row : List Nat) (h : pr.length = row.length) : (addTo t pr i row).getD i 0 = row.getD i 0 := by
  simp only [addTo, List.getD_eq_getElem?_getD]
  congr 1
  by_cases hi : i < row.length
  · rw [List.getElem?_append_right (by simp [addR]; omega), List.getElem?_drop]
    congr 1; simp [addR]; omega
  · rw [List.getElem?_eq_none (by simp [addR]; omega), List.getElem?_eq_none (by omega)]
theorem addTo_succ (t : Nat) (pr : List Nat) (i : Nat) (row : List Nat) (h : pr.length = row.length) (hi : i < row.length) : (addTo t pr i row).set i (row.getD i 0 ^^^ gmul t (pr.getD i 0)) = addTo t pr (i + 1) row := by
  have e1 : row.getD i 0 = row[i] := by rw [List.getD_eq_getElem?_getD, List.getElem?_eq_getElem hi]; rfl
  have e2 : pr.getD i 0 = pr[i] := by rw [List.getD_eq_getElem?_getD, List.getElem?_eq_getElem (by omega)]; rfl
  have hl : (addR t pr row).length = row.length := by simp [addR]; omega
  rw [e1, e2]
  unfold addTo
  rw [List.set_append_right _ _ (by simp [hl]; omega), List.take_succ_eq_append_getElem (by omega), List.append_assoc]
  congr 1
  have : i - (List.take i (addR t pr row)).length = 0 := by simp [hl]; omega
  rw [this, List.drop_eq_getElem_cons hi, List.set_cons_zero]
  simp only [addR, List.getElem_zipWith]
  rfl

theorem own_swap {σ τ τ' : AS} {h w : Nat} {rs : List Nat} {m : List (List Nat)} (own : Own σ τ h w rs m) {a b : Nat} (ha : a < m.length) (hb : b < m.length)
    (hh : τ'.heap h = some (.cells (((rs.map (rowv w)).set a (rowv w (rs.getD b 0))).set b (rowv w (rs.getD a 0))) false)) (he : ∀ r ∈ rs, τ'.heap r = τ.heap r) :
    Own σ τ' h w ((rs.set a (rs.getD b 0)).set b (rs.getD a 0)) (swapM m a b) where
  head := by rw [hh, List.map_set, List.map_set]
  hn := own.hn
  len := by simp [swapM, own.len]
  rows := by
    intro j h1 h2
    have ha' : a < rs.length := by rw [own.len]; exact ha
    have hb' : b < rs.length := by rw [own.len]; exact hb
    rw [sw_getElem rs 0 ha' hb' h1]
    have e : (swapM m a b)[j] = m[sw a b j]'(sw_lt ha hb (by simpa [swapM] using h2)) := sw_getElem m [] ha hb h2
    rw [e, he _ (List.getElem_mem _)]
    exact own.rows _ _ _
  rn := by
    intro r hr
    obtain ⟨j, hj, rfl⟩ := List.getElem_of_mem hr
    rw [sw_getElem rs 0 (by rw [own.len]; exact ha) (by rw [own.len]; exact hb) hj]
    exact own.rn _ (List.getElem_mem _)
  nodup := by
    have hnd := own.nodup
    rw [List.Nodup, List.pairwise_iff_getElem] at hnd ⊢
    intro i j hi hj hij e
    rw [sw_getElem rs 0 (by rw [own.len]; exact ha) (by rw [own.len]; exact hb) hi, sw_getElem rs 0 (by rw [own.len]; exact ha) (by rw [own.len]; exact hb) hj] at e
    have hne : sw a b i ≠ sw a b j := fun e => by have := sw_inj e; omega
    rcases Nat.lt_or_gt_of_ne hne with h | h
    · exact hnd _ _ _ _ h e
    · exact hnd _ _ _ _ h e.symm
  wid := by
    intro l hl
    obtain ⟨j, hj, rfl⟩ := List.getElem_of_mem hl
    have e : (swapM m a b)[j] = m[sw a b j]'(sw_lt ha hb (by simpa [swapM] using hj)) := sw_getElem m [] ha hb hj
    rw [e]
    exact own.wid _ (List.getElem_mem _)

theorem row_at {l : List Nat} {i o : Nat} (hi : i < l.length) (ho : o = i) : (l.map vb)[o]? = some (vb (l.getD i 0)) := by
  subst ho
  rw [List.getElem?_map, List.getElem?_eq_getElem hi, List.getD_eq_getElem?_getD, List.getElem?_eq_getElem hi]; rfl
theorem bytes_ent {m : List (List Nat)} (hb : Bytes m) (i j : Nat) : ent m i j < 256 := by
  unfold ent
  rw [List.getD_eq_getElem?_getD, List.getD_eq_getElem?_getD]
  cases h1 : m[i]? with
  | none => simp
  | some l =>
    simp only [Option.getD_some]
    cases h2 : l[j]? with
    | none => simp
    | some x => exact hb l (List.mem_of_getElem? h1) x (List.mem_of_getElem? h2)

theorem clear (hC : CProp (ACall Try.prog Base)) {a n w rf h : Nat} {rof : Bool} {m : List (List Nat)} {rs : List Nat} {σ τ : AS} (hσ : Ok σ) (g : Mem σ τ) (hf : σ.heap rf = some (.cells fieldCells rof)) (own : Own σ τ h w rs m) (hmn : m.length = n) (ha : a < n) (hn : n ≤ 64) (haw : a < w) (hw : w ≤ 128) (hb : Bytes m)
    {Q : Value → AS → Prop}
    (k1 : ∀ τ', Mem σ τ' → (∀ i, a ≤ i → i < n → ent m i a = 0) → Own σ τ' h w rs m → Q (.bool false) τ')
    (k2 : ∀ τ' rs' p, Mem σ τ' → a ≤ p → p < n → ent m p a ≠ 0 → Own σ τ' h w rs' (clearM a (scaleM a (swapM m a p))) → Q (.bool true) τ') :
    ∃ v σ', ACall Try.prog Base 30 [.pointer (some ⟨rf, 0, none⟩), .slice (some ⟨h, 0, some 1⟩) n n, .int .i64 a] τ v σ' ∧ Q v σ' := by
  refine call_rwp hC cf30 rfl g.ok.wf ?_
  conv => whnf
  refine ld_intro (put_heap_eq _ _ _) ?_
  conv => whnf
  refine ⟨⟨by omega, rfl, by omega⟩, ?_⟩
  conv => whnf
  repeat (first | (refine br_true (inR_intro (by simp only [loI, hiI]; omega)) ?_; conv => whnf) | (refine br_true (by simp only [blt_dec, ble_dec, beq_dec, ltB_eq, leB_eq, decide_eq_true_eq, decide_eq_false_iff_not, Bool.and_eq_true, Bool.or_eq_true, beq_iff_eq, bne_iff_ne, beq_eq_false_iff_ne, bne_eq_false_iff_eq]; first | done | omega) ?_; conv => whnf))
  have hhlt := g.ok.lt own.head
  have hrows : ∀ j (h1 : j < rs.length), rs[j] < τ.next := fun j h1 => g.ok.lt (own.rows j h1 (by rw [← own.len]; exact h1))
  have hlen := own.len
  refine indexFunc hC (m := m.drop a) (by rw [List.length_drop]; omega) (Mem.ok (σ := τ) ?_) ?_ (fun i => ent m (a + i) a != 0) (fun i x τ2 hi g2 hx Q kk => ?_) ?_ ?_
  · repeat first | exact Mem.refl g.ok | apply Mem.bump | refine Mem.put ?_ (by (try simp only [bump_next, put_next]); omega) (by (try simp only [bump_next, put_next]); omega)
  · refine ⟨(rs.map (rowv w)).drop a, SlAt.mk (c := rs.map (rowv w)) (ro := false) ?_ (by simp; omega) (by rw [Nat.zero_add, Nat.mul_one, List.take_length]), by simp [own.len], ?_⟩
    · exact Mem.old (σ := τ) g.ok (by repeat first | exact Mem.refl g.ok | apply Mem.bump | refine Mem.put ?_ (by (try simp only [bump_next, put_next]); omega) (by (try simp only [bump_next, put_next]); omega)) own.head
    · intro i h1 h2
      rw [List.getElem_drop, List.getElem_drop, List.getElem_map]
      have h1' : a + i < rs.length := by simp at h1; omega
      have h2' : a + i < m.length := by simp at h2; omega
      have hr := own.rows (a + i) h1' h2'
      refine SlAt.mk (Mem.old (σ := τ) g.ok (by repeat first | exact Mem.refl g.ok | apply Mem.bump | refine Mem.put ?_ (by (try simp only [bump_next, put_next]); omega) (by (try simp only [bump_next, put_next]); omega)) hr) (by rw [List.length_map, own.wid _ (List.getElem_mem h2')]) (by rw [List.drop_zero, List.take_length])
  · have hi2 : a + i < m.length := by simp at hi; omega
    have e1 : (m.drop a)[i] = m[a + i] := by rw [List.getElem_drop]
    have e2 : ent m (a + i) a = (m[a + i]).getD a 0 := by unfold ent; rw [List.getD_eq_getElem?_getD (l := m), List.getElem?_eq_getElem hi2]; rfl
    rw [e1] at hx
    simp only [e2] at kk
    exact clear1 hC (σ := ((τ.bump 2).put (τ.next + 0) (.cells [vi a] false)).bump 6) (Mem.ok (σ := τ) (by repeat first | exact Mem.refl g.ok | apply Mem.bump | refine Mem.put ?_ (by (try simp only [bump_next, put_next]); omega) (by (try simp only [bump_next, put_next]); omega))) g2 (put_heap_eq _ _ _) hx (by rw [own.wid _ (List.getElem_mem hi2)]; exact haw) kk
  · intro τ2 pi g2 hi hpi hbef
    have hi2 : a + pi < m.length := by simp at hi; omega
    have g3 : Mem τ τ2 := Mem.trans (by repeat first | exact Mem.refl g.ok | apply Mem.bump | refine Mem.put ?_ (by (try simp only [bump_next, put_next]); omega) (by (try simp only [bump_next, put_next]); omega)) g2
    have g4 : Mem σ τ2 := g.trans g3
    have hbox : τ2.heap (τ.next + 0) = some (.cells [vi a] false) := Mem.old (Mem.ok (σ := τ) (by repeat first | exact Mem.refl g.ok | apply Mem.bump | refine Mem.put ?_ (by (try simp only [bump_next, put_next]); omega) (by (try simp only [bump_next, put_next]); omega))) g2 (put_heap_eq _ _ _)
    have hbl := g2.ok.lt hbox
    have hnx := g.next
    have hhead := g3.old g.ok own.head
    have hoff : 0 + a * 1 = a := by omega
    conv => whnf
    refine ld_intro hbox ?_
    conv => whnf
    refine ld_intro hbox ?_
    conv => whnf
    repeat (first | (refine br_true (inR_intro (by simp only [loI, hiI]; omega)) ?_; conv => whnf) | (refine br_true (by simp only [blt_dec, ble_dec, beq_dec, ltB_eq, leB_eq, decide_eq_true_eq, decide_eq_false_iff_not, Bool.and_eq_true, Bool.or_eq_true, beq_iff_eq, bne_iff_ne, beq_eq_false_iff_ne, bne_eq_false_iff_eq]; first | done | omega) ?_; conv => whnf))
    refine ld_intro hbox ?_
    conv => whnf
    repeat (first | (refine br_true (inR_intro (by simp only [loI, hiI]; omega)) ?_; conv => whnf) | (refine br_true (by simp only [blt_dec, ble_dec, beq_dec, ltB_eq, leB_eq, decide_eq_true_eq, decide_eq_false_iff_not, Bool.and_eq_true, Bool.or_eq_true, beq_iff_eq, bne_iff_ne, beq_eq_false_iff_ne, bne_eq_false_iff_eq]; first | done | omega) ?_; conv => whnf))
    refine ld_intro hhead ?_
    conv => whnf
    refine at_intro (own_get own (i := a + pi) (by omega) (by omega)) ?_
    conv => whnf
    refine ld_intro hbox ?_
    conv => whnf
    repeat (first | (refine br_true (inR_intro (by simp only [loI, hiI]; omega)) ?_; conv => whnf) | (refine br_true (by simp only [blt_dec, ble_dec, beq_dec, ltB_eq, leB_eq, decide_eq_true_eq, decide_eq_false_iff_not, Bool.and_eq_true, Bool.or_eq_true, beq_iff_eq, bne_iff_ne, beq_eq_false_iff_ne, bne_eq_false_iff_eq]; first | done | omega) ?_; conv => whnf))
    refine ld_intro hhead ?_
    conv => whnf
    refine at_intro (own_get own (i := a) (by omega) (by omega)) ?_
    conv => whnf
    repeat (first | (refine br_true (inR_intro (by simp only [loI, hiI]; omega)) ?_; conv => whnf) | (refine br_true (by simp only [blt_dec, ble_dec, beq_dec, ltB_eq, leB_eq, decide_eq_true_eq, decide_eq_false_iff_not, Bool.and_eq_true, Bool.or_eq_true, beq_iff_eq, bne_iff_ne, beq_eq_false_iff_ne, bne_eq_false_iff_eq]; first | done | omega) ?_; conv => whnf))
    have hpr : τ2.prot h = false := g4.noprot hσ own.hn
    refine wr_intro hhead (protL_false hpr ?_) ?_
    · intro q hq hq1
      simp only [List.mem_cons, List.not_mem_nil, or_false] at hq
      subst hq
      simp [rdF]
      omega
    conv => whnf
    repeat (first | (refine br_true (inR_intro (by simp only [loI, hiI]; omega)) ?_; conv => whnf) | (refine br_true (by simp only [blt_dec, ble_dec, beq_dec, ltB_eq, leB_eq, decide_eq_true_eq, decide_eq_false_iff_not, Bool.and_eq_true, Bool.or_eq_true, beq_iff_eq, bne_iff_ne, beq_eq_false_iff_ne, bne_eq_false_iff_eq, List.length_map]; first | done | omega) ?_; conv => whnf))
    have hsl : ((rs.map (rowv w)).set a (rowv w (rs.getD (a + pi) 0))).length = n := by simp; omega
    refine wr_intro (put_heap_eq _ _ _) (protL_false hpr ?_) ?_
    · intro q hq hq1
      simp only [List.mem_cons, List.not_mem_nil, or_false] at hq
      subst hq
      simp at hq1
    conv => whnf
    rw [show 0 + a * 1 = a by omega, wr_one _ _ _ (by rw [List.length_map]; omega)]
    repeat (first | (refine br_true (inR_intro (by simp only [loI, hiI]; omega)) ?_; conv => whnf) | (refine br_true (by simp only [blt_dec, ble_dec, beq_dec, ltB_eq, leB_eq, decide_eq_true_eq, decide_eq_false_iff_not, Bool.and_eq_true, Bool.or_eq_true, beq_iff_eq, bne_iff_ne, beq_eq_false_iff_ne, bne_eq_false_iff_eq, List.length_set, List.length_map]; first | done | omega) ?_; conv => whnf))
    rw [show 0 + (a + pi) * 1 = a + pi by omega, wr_one _ _ _ (by rw [List.length_set, List.length_map]; omega)]
    generalize hst : ((((((((τ2.bump 2).bump 20).wp (protL [(17, 3)] _ 20 _ 17)).put h _).wp _).wp _).put h _).wp _ : AS) = st
    have hst1 : st.heap h = some (.cells (((rs.map (rowv w)).set a (rowv w (rs.getD (a + pi) 0))).set (a + pi) (rowv w (rs.getD a 0))) false) := by
      subst hst; exact put_heap_eq _ _ _
    have hst2 : ∀ q, q ≠ h → st.heap q = τ2.heap q := by
      intro q hq; subst hst
      exact (put_heap_ne hq).trans (put_heap_ne hq)
    have hst3 : st.next = τ2.next + 2 + 20 := by subst hst; rfl
    have hst4 : st.prot = τ2.prot := by subst hst; rfl
    clear hst
    have hτh : h < τ2.next := g2.ok.lt hhead
    have hσh := own.hn
    have g5 : Mem σ st := ⟨⟨by omega, by rw [hst4]; exact g4.grow.prot, fun q hq => by rw [hst2 q (by omega)]; exact g4.grow.heap q hq⟩, ⟨fun q hq => by rw [hst2 q (by omega)]; exact g4.ok.wf q (by omega), fun q hq => by rw [hst4]; exact g4.ok.prot q (by omega)⟩⟩
    have own2 : Own σ st h w _ (swapM m a (a + pi)) := own_swap own (by omega) hi2 hst1 (fun r hr => by
      obtain ⟨j, hj, rfl⟩ := List.getElem_of_mem hr
      rw [hst2 _ (own.rn _ hr).2, g3.grow.heap _ (hrows j hj)])
    have hrl : ∀ j, j < rs.length → ((rs.set a (rs.getD (a + pi) 0)).set (a + pi) (rs.getD a 0)).getD j 0 < τ.next := by
      intro j hj
      rw [List.getD_eq_getElem?_getD, sw_get rs 0 (by omega) (by omega), List.getElem?_eq_getElem (sw_lt (by omega) (by omega) hj)]
      exact hrows _ _
    generalize hrs' : (rs.set a (rs.getD (a + pi) 0)).set (a + pi) (rs.getD a 0) = rs' at own2 hrl
    have hbox2 : st.heap (τ.next + 0) = some (.cells [vi a] false) := by rw [hst2 _ (by omega)]; exact hbox
    have hlen2 : (swapM m a (a + pi)).length = n := by simp [swapM, hmn]
    have hent : ent (swapM m a (a + pi)) a a ≠ 0 := by
      have hsw := sw_get m [] (a := a) (b := a + pi) (by omega) hi2 a
      have : sw a (a + pi) a = a + pi := by
        unfold sw
        by_cases e : a = a + pi
        · rw [if_pos e]; exact e
        · rw [if_neg e, if_pos rfl]
      rw [this] at hsw
      have e1 : (swapM m a (a + pi)).getD a [] = m.getD (a + pi) [] := by
        rw [List.getD_eq_getElem?_getD, List.getD_eq_getElem?_getD (l := m)]; unfold swapM; rw [hsw]
      unfold ent at hpi ⊢
      rw [e1]
      simpa using hpi
    have hbm : Bytes (swapM m a (a + pi)) := by
      intro l hl
      obtain ⟨j, hj, rfl⟩ := List.getElem_of_mem hl
      have e : (swapM m a (a + pi))[j] = m[sw a (a + pi) j]'(sw_lt (by omega) hi2 (by simpa [swapM] using hj)) := sw_getElem m [] (by omega) hi2 hj
      rw [e]
      exact hb _ (List.getElem_mem _)
    have kk2 := k2
    refine ld_intro hbox2 ?_
    conv => whnf
    repeat (first | (refine br_true (inR_intro (by simp only [loI, hiI]; omega)) ?_; conv => whnf) | (refine br_true (by simp only [blt_dec, ble_dec, beq_dec, ltB_eq, leB_eq, decide_eq_true_eq, decide_eq_false_iff_not, Bool.and_eq_true, Bool.or_eq_true, beq_iff_eq, bne_iff_ne, beq_eq_false_iff_ne, bne_eq_false_iff_eq]; first | done | omega) ?_; conv => whnf))
    refine ld_intro own2.head ?_
    conv => whnf
    obtain ⟨q1, q2, q3, q4⟩ := own_row own2 (i := a) (by omega)
    refine at_intro (own_get own2 (i := a) (by rw [own2.len]; omega) (by omega)) ?_
    conv => whnf
    refine ld_intro hbox2 ?_
    conv => whnf
    repeat (first | (refine br_true (inR_intro (by simp only [loI, hiI]; omega)) ?_; conv => whnf) | (refine br_true (by simp only [blt_dec, ble_dec, beq_dec, ltB_eq, leB_eq, decide_eq_true_eq, decide_eq_false_iff_not, Bool.and_eq_true, Bool.or_eq_true, beq_iff_eq, bne_iff_ne, beq_eq_false_iff_ne, bne_eq_false_iff_eq]; first | done | omega) ?_; conv => whnf))
    refine ld_intro q1 ?_
    conv => whnf
    refine at_intro (row_at (i := a) (by omega) (by omega)) ?_
    conv => whnf
    refine inv hC (r := rf) (bytes_ent hbm a a) (Mem.ok (σ := σ) ?_) (Mem.old (σ := σ) hσ ?_ hf) ?_
    · repeat first | exact g5 | apply Mem.bump | refine Mem.put ?_ (by (try simp only [bump_next, put_next]); omega) (by (try simp only [bump_next, put_next]); omega)
    · repeat first | exact g5 | apply Mem.bump | refine Mem.put ?_ (by (try simp only [bump_next, put_next]); omega) (by (try simp only [bump_next, put_next]); omega)
    intro τ5 g6
    have g7 : Mem st τ5 := Mem.trans (by repeat first | exact Mem.refl g5.ok | apply Mem.bump | refine Mem.put ?_ (by (try simp only [bump_next, put_next]); omega) (by (try simp only [bump_next, put_next]); omega)) g6
    have own3 : Own σ τ5 h w rs' (swapM m a (a + pi)) := own_mono own2 g5.ok g7
    have hbox3 := g7.old g5.ok hbox2
    have g8 := g5.trans g7
    generalize hgi : ginv (ent (swapM m a (a + pi)) a a) = gi
    conv => whnf
    obtain ⟨p1, p2, p3, p4⟩ := own_row own3 (i := a) (by omega)
    refine ld_intro hbox3 ?_
    conv => whnf
    repeat (first | (refine br_true (inR_intro (by simp only [loI, hiI]; omega)) ?_; conv => whnf) | (refine br_true (by simp only [blt_dec, ble_dec, beq_dec, ltB_eq, leB_eq, decide_eq_true_eq, decide_eq_false_iff_not, Bool.and_eq_true, Bool.or_eq_true, beq_iff_eq, bne_iff_ne, beq_eq_false_iff_ne, bne_eq_false_iff_eq]; first | done | omega) ?_; conv => whnf))
    refine ld_intro own3.head ?_
    conv => whnf
    refine at_intro (own_get own3 (i := a) (by rw [own3.len]; omega) (by omega)) ?_
    conv => whnf
    have hrlen : ((swapM m a (a + pi)).getD a []).length = w := p2
    generalize hrow : (swapM m a (a + pi)).getD a [] = row at p1 p2 q1 q2 hrlen
    have hgi2 : gi < 256 := by rw [← hgi]; exact ginv_lt _
    have hrowb : ∀ x ∈ row, x < 256 := by
      intro x hx
      rw [← hrow] at hx
      have ham : a < (swapM m a (a + pi)).length := by omega
      rw [List.getD_eq_getElem?_getD, List.getElem?_eq_getElem ham] at hx
      exact hbm _ (List.getElem_mem ham) x hx
    generalize hm1 : swapM m a (a + pi) = m1 at *
    refine loop_intro (n := 121) (fun k ws τ' => ∃ i : Nat, i ≤ w ∧ k = w - i ∧ ws = [.pointer (some ⟨rf, 0, none⟩), .slice (some ⟨h, 0, some 1⟩) n n, .pointer (some ⟨τ.next + 0, 0, none⟩), vb gi, vi w, vi i] ∧ Mem σ τ' ∧ Own σ τ' h w rs' (m1.set a (scaleTo gi i row)) ∧ τ'.heap (τ.next + 0) = some (.cells [vi a] false)) w rfl ?_ ?_
    · conv => whnf
      refine ⟨0, by omega, rfl, rfl, ?_, ?_, hbox3⟩
      · repeat first | exact g8 | apply Mem.bump | refine Mem.put ?_ (by (try simp only [bump_next, put_next]); omega) (by (try simp only [bump_next, put_next]); omega)
      · rw [scaleTo_zero, set_same hrow]
        exact own_mono own3 g7.ok (Mem.bump (Mem.refl g7.ok) 6)
    · rintro mm ws τ6 ⟨i, hi6, rfl, rfl, g9, own4, hbox4⟩
      have hbl4 := g9.ok.lt hbox4
      have hhl4 := g9.ok.lt own4.head
      have hm4 : (m1.set a (scaleTo gi i row)).length = n := by rw [List.length_set]; exact hlen2
      conv => whnf
      refine br_intro ?_ ?_ <;> intro h7 <;> simp only [blt_dec, ble_dec, beq_dec, ltB_eq, leB_eq, decide_eq_true_eq, decide_eq_false_iff_not, beq_iff_eq, bne_iff_ne, beq_eq_false_iff_ne, bne_eq_false_iff_eq] at h7
      · conv => whnf
        obtain ⟨s1, s2, s3, s4⟩ := own_row own4 (i := a) (by omega)
        have hsl4 := g9.ok.lt s1
        refine ld_intro hbox4 ?_
        conv => whnf
        repeat (first | (refine br_true (inR_intro (by simp only [loI, hiI]; omega)) ?_; conv => whnf) | (refine br_true (by simp only [blt_dec, ble_dec, beq_dec, ltB_eq, leB_eq, decide_eq_true_eq, decide_eq_false_iff_not, Bool.and_eq_true, Bool.or_eq_true, beq_iff_eq, bne_iff_ne, beq_eq_false_iff_ne, bne_eq_false_iff_eq]; first | done | omega) ?_; conv => whnf))
        refine ld_intro own4.head ?_
        conv => whnf
        refine at_intro (own_get own4 (i := a) (by rw [own4.len]; omega) (by omega)) ?_
        conv => whnf
        refine ld_intro hbox4 ?_
        conv => whnf
        repeat (first | (refine br_true (inR_intro (by simp only [loI, hiI]; omega)) ?_; conv => whnf) | (refine br_true (by simp only [blt_dec, ble_dec, beq_dec, ltB_eq, leB_eq, decide_eq_true_eq, decide_eq_false_iff_not, Bool.and_eq_true, Bool.or_eq_true, beq_iff_eq, bne_iff_ne, beq_eq_false_iff_ne, bne_eq_false_iff_eq]; first | done | omega) ?_; conv => whnf))
        refine ld_intro own4.head ?_
        conv => whnf
        refine at_intro (own_get own4 (i := a) (by rw [own4.len]; omega) (by omega)) ?_
        conv => whnf
        repeat (first | (refine br_true (inR_intro (by simp only [loI, hiI]; omega)) ?_; conv => whnf) | (refine br_true (by simp only [blt_dec, ble_dec, beq_dec, ltB_eq, leB_eq, decide_eq_true_eq, decide_eq_false_iff_not, Bool.and_eq_true, Bool.or_eq_true, beq_iff_eq, bne_iff_ne, beq_eq_false_iff_ne, bne_eq_false_iff_eq]; first | done | omega) ?_; conv => whnf))
        refine ld_intro s1 ?_
        conv => whnf
        refine at_intro (row_at (i := i) (by omega) (by omega)) ?_
        conv => whnf
        rw [set_getD (by omega), scaleTo_at]
        have hxb : row.getD i 0 < 256 := by
          rw [List.getD_eq_getElem?_getD, List.getElem?_eq_getElem (by omega)]
          exact hrowb _ (List.getElem_mem _)
        have okX : Ok (((τ6.bump 1).bump 2).bump 17) := Mem.ok (σ := σ) (by repeat first | exact g9 | apply Mem.bump | refine Mem.put ?_ (by (try simp only [bump_next, put_next]); omega) (by (try simp only [bump_next, put_next]); omega))
        have hfX : (((τ6.bump 1).bump 2).bump 17).heap rf = some (.cells fieldCells rof) := Mem.old (σ := σ) hσ (by repeat first | exact g9 | apply Mem.bump | refine Mem.put ?_ (by (try simp only [bump_next, put_next]); omega) (by (try simp only [bump_next, put_next]); omega)) hf
        refine mul hC (r := rf) hxb hgi2 (Ok.wp okX (fun r hr => protL_false (okX.prot r hr) ?_)) hfX ?_
        · intro q hq hq1
          simp only [List.mem_cons, List.not_mem_nil, or_false] at hq
          simp only [bump_next] at hr
          rcases hq with rfl | rfl <;> simp [rdF] <;> omega
        intro τ7 g10
        have g11 := Mem.unwp (σ := ((τ6.bump 1).bump 2).bump 17) okX g10
        conv => whnf
        repeat (first | (refine br_true (inR_intro (by simp only [loI, hiI]; omega)) ?_; conv => whnf) | (refine br_true (by simp only [blt_dec, ble_dec, beq_dec, ltB_eq, leB_eq, decide_eq_true_eq, decide_eq_false_iff_not, Bool.and_eq_true, Bool.or_eq_true, beq_iff_eq, bne_iff_ne, beq_eq_false_iff_ne, bne_eq_false_iff_eq]; first | done | omega) ?_; conv => whnf))
        generalize ((τ7.wp (((τ6.bump 1).bump 2).bump 17).prot)) = τ8 at *
        have g12 : Mem τ6 τ8 := Mem.trans (by repeat first | exact Mem.refl g9.ok | apply Mem.bump | refine Mem.put ?_ (by (try simp only [bump_next, put_next]); omega) (by (try simp only [bump_next, put_next]); omega)) g11
        have g13 := g9.trans g12
        have own5 := own_mono own4 g9.ok g12
        obtain ⟨t1, t2, t3, t4⟩ := own_row own5 (i := a) (by omega)
        have hsl8 := g13.ok.lt t1
        refine wr_intro t1 (protL_false (g13.noprot hσ t3) ?_) ?_
        · intro q hq hq1
          simp only [List.mem_cons, List.not_mem_nil, or_false] at hq
          rcases hq with rfl | rfl <;> simp at hq1
        conv => whnf
        repeat (first | (refine br_true (inR_intro (by simp only [loI, hiI]; omega)) ?_; conv => whnf) | (refine br_true (by simp only [blt_dec, ble_dec, beq_dec, ltB_eq, leB_eq, decide_eq_true_eq, decide_eq_false_iff_not, Bool.and_eq_true, Bool.or_eq_true, beq_iff_eq, bne_iff_ne, beq_eq_false_iff_ne, bne_eq_false_iff_eq, List.length_map]; first | done | omega) ?_; conv => whnf))
        repeat (first | (refine br_true (inR_intro (by simp only [loI, hiI]; omega)) ?_; conv => whnf) | (refine br_true (by simp only [blt_dec, ble_dec, beq_dec, ltB_eq, leB_eq, decide_eq_true_eq, decide_eq_false_iff_not, Bool.and_eq_true, Bool.or_eq_true, beq_iff_eq, bne_iff_ne, beq_eq_false_iff_ne, bne_eq_false_iff_eq]; first | done | omega) ?_; conv => whnf))
        have hiw : i < w := by omega
        have hw1 : wr (((m1.set a (scaleTo gi i row)).getD a []).map vb) (0 + i * 1) [vb (gmul (row.getD i 0) gi)] = (scaleTo gi (i + 1) row).map vb := by
          rw [set_getD (by omega), show 0 + i * 1 = i by omega, wr_one _ _ _ (by rw [List.length_map, scaleTo_len]; omega), ← scaleTo_succ _ _ _ (by omega), List.map_set]
        refine ⟨rfl, w - (i + 1), by omega, i + 1, by omega, rfl, rfl, ?_, ?_, ?_⟩
        · refine Mem.bump (g13.upd t3 hsl8 (o := .cells ((scaleTo gi (i + 1) row).map vb) false) ⟨?_, fun q hq => put_heap_ne hq, rfl, rfl⟩) 2
          exact (put_heap_eq _ _ _).trans (by rw [← hw1]; rfl)
        · refine own_bump ?_ 2
          rw [show m1.set a (scaleTo gi (i + 1) row) = (m1.set a (scaleTo gi i row)).set a (scaleTo gi (i + 1) row) from (List.set_set ..).symm]
          exact own_upd own5 (by omega) (by rw [scaleTo_len]; omega) ⟨(put_heap_eq _ _ _).trans (by rw [← hw1]; rfl), fun q hq => put_heap_ne hq, rfl, rfl⟩
        · have := hrl a (by omega)
          exact (put_heap_ne (by omega)).trans (g12.old g9.ok hbox4)
      · conv => whnf
        obtain rfl : i = w := by omega
        clear hi6 h7
        rw [← hrlen, scaleTo_full] at own4
        rw [hrlen] at own4
        generalize hpr : scaleR gi row = pr at *
        have hprl : pr.length = i := by rw [← hpr]; simp [scaleR, hrlen]
        generalize hm2 : m1.set a pr = m2 at *
        have hm2l : m2.length = n := by rw [← hm2, List.length_set]; exact hlen2
        have hpa : m2.getD a [] = pr := by rw [← hm2]; exact set_getD (by omega) _
        refine loop_intro (n := 121) (fun kk ws τ' => ∃ k : Nat, k ≤ n ∧ kk = n - k ∧ ws = [.pointer (some ⟨rf, 0, none⟩), .slice (some ⟨h, 0, some 1⟩) n n, .pointer (some ⟨τ.next + 0, 0, none⟩), .slice (some ⟨h, 0, some 1⟩) n n, vi n, vi k] ∧ Mem σ τ' ∧ Own σ τ' h i rs' (clearTo a pr k m2) ∧ τ'.heap (τ.next + 0) = some (.cells [vi a] false)) n rfl ?_ ?_
        · conv => whnf
          refine ⟨0, by omega, rfl, rfl, ?_, ?_, hbox4⟩
          · repeat first | exact g9 | apply Mem.bump | refine Mem.put ?_ (by (try simp only [bump_next, put_next]); omega) (by (try simp only [bump_next, put_next]); omega)
          · rw [clearTo_zero]; exact own_bump (own_bump own4 1) 3
        · rintro mm ws τ7 ⟨k, hk7, rfl, rfl, g10, own5, hbox5⟩
          have hbl5 := g10.ok.lt hbox5
          have hhl5 := g10.ok.lt own5.head
          conv => whnf
          refine br_intro ?_ ?_ <;> intro h8 <;> simp only [blt_dec, ble_dec, beq_dec, ltB_eq, leB_eq, decide_eq_true_eq, decide_eq_false_iff_not, beq_iff_eq, bne_iff_ne, beq_eq_false_iff_ne, bne_eq_false_iff_eq] at h8
          · conv => whnf
            have hk0 : k < n := by omega
            have hcl := clearTo_len a pr k m2
            obtain ⟨u1, u2, u3, u4⟩ := own_row own5 (i := k) (by omega)
            rw [clearTo_get _ _ _ _ _ (Nat.le_refl k)] at u1 u2
            generalize hrk : m2.getD k [] = rk at u1 u2
            have hul := g10.ok.lt u1
            repeat (first | (refine br_true (inR_intro (by simp only [loI, hiI]; omega)) ?_; conv => whnf) | (refine br_true (by simp only [blt_dec, ble_dec, beq_dec, ltB_eq, leB_eq, decide_eq_true_eq, decide_eq_false_iff_not, Bool.and_eq_true, Bool.or_eq_true, beq_iff_eq, bne_iff_ne, beq_eq_false_iff_ne, bne_eq_false_iff_eq]; first | done | omega) ?_; conv => whnf))
            refine ld_intro own5.head ?_
            conv => whnf
            refine at_intro (own_get own5 (i := k) (by rw [own5.len]; omega) (by omega)) ?_
            conv => whnf
            refine ld_intro hbox5 ?_
            conv => whnf
            repeat (first | (refine br_true (inR_intro (by simp only [loI, hiI]; omega)) ?_; conv => whnf) | (refine br_true (by simp only [blt_dec, ble_dec, beq_dec, ltB_eq, leB_eq, decide_eq_true_eq, decide_eq_false_iff_not, Bool.and_eq_true, Bool.or_eq_true, beq_iff_eq, bne_iff_ne, beq_eq_false_iff_ne, bne_eq_false_iff_eq]; first | done | omega) ?_; conv => whnf))
            refine ld_intro u1 ?_
            conv => whnf
            refine at_intro (row_at (i := a) (by omega) (by omega)) ?_
            conv => whnf
            refine ld_intro hbox5 ?_
            conv => whnf
            generalize htm : rk.getD a 0 = tm at *
            refine br_intro ?_ ?_ <;> intro h9 <;> simp only [blt_dec, ble_dec, beq_dec, ltB_eq, leB_eq, decide_eq_true_eq, decide_eq_false_iff_not, beq_iff_eq, bne_iff_ne, beq_eq_false_iff_ne, bne_eq_false_iff_eq] at h9
            · conv => whnf
              repeat (first | (refine br_true (inR_intro (by simp only [loI, hiI]; omega)) ?_; conv => whnf) | (refine br_true (by simp only [blt_dec, ble_dec, beq_dec, ltB_eq, leB_eq, decide_eq_true_eq, decide_eq_false_iff_not, Bool.and_eq_true, Bool.or_eq_true, beq_iff_eq, bne_iff_ne, beq_eq_false_iff_ne, bne_eq_false_iff_eq]; first | done | omega) ?_; conv => whnf))
              refine ⟨rfl, n - (k + 1), by omega, k + 1, by omega, rfl, rfl, ?_, ?_, hbox5⟩
              · repeat first | exact g10 | apply Mem.bump | refine Mem.put ?_ (by (try simp only [bump_next, put_next]); omega) (by (try simp only [bump_next, put_next]); omega)
              · rw [clearTo_skip (by omega) (.inl (by omega))]
                exact own_bump (own_bump (own_bump (own_bump (own_bump own5 1) 5) 5) 7) 2
            · conv => whnf
              refine br_intro ?_ ?_ <;> intro h10 <;> simp only [blt_dec, ble_dec, beq_dec, ltB_eq, leB_eq, decide_eq_true_eq, decide_eq_false_iff_not, beq_iff_eq, bne_iff_ne, beq_eq_false_iff_ne, bne_eq_false_iff_eq] at h10
              · conv => whnf
                repeat (first | (refine br_true (inR_intro (by simp only [loI, hiI]; omega)) ?_; conv => whnf) | (refine br_true (by simp only [blt_dec, ble_dec, beq_dec, ltB_eq, leB_eq, decide_eq_true_eq, decide_eq_false_iff_not, Bool.and_eq_true, Bool.or_eq_true, beq_iff_eq, bne_iff_ne, beq_eq_false_iff_ne, bne_eq_false_iff_eq]; first | done | omega) ?_; conv => whnf))
                refine ⟨rfl, n - (k + 1), by omega, k + 1, by omega, rfl, rfl, ?_, ?_, hbox5⟩
                · repeat first | exact g10 | apply Mem.bump | refine Mem.put ?_ (by (try simp only [bump_next, put_next]); omega) (by (try simp only [bump_next, put_next]); omega)
                · rw [clearTo_skip (by omega) (.inr (by rw [hrk, htm]; omega))]
                  exact own_bump (own_bump (own_bump (own_bump (own_bump own5 1) 5) 5) 7) 2
              · conv => whnf
                have hka : k ≠ a := by omega
                have hprk : pr.length = rk.length := by omega
                have hrkb : ∀ x ∈ rk, x < 256 := by
                  intro x hx
                  rw [← hrk, ← hm2, List.getD_eq_getElem?_getD, List.getElem?_set_ne (by omega), ← List.getD_eq_getElem?_getD] at hx
                  have hkm : k < m1.length := by omega
                  rw [List.getD_eq_getElem?_getD, List.getElem?_eq_getElem hkm] at hx
                  exact hbm _ (List.getElem_mem hkm) x hx
                have hprb : ∀ x ∈ pr, x < 256 := by
                  intro x hx
                  rw [← hpr] at hx
                  obtain ⟨y, _, rfl⟩ := List.mem_map.1 hx
                  exact gmul_lt _ _
                have htb : tm < 256 := by
                  rw [← htm, List.getD_eq_getElem?_getD, List.getElem?_eq_getElem (by omega)]
                  exact hrkb _ (List.getElem_mem _)
                generalize hmk : clearTo a pr k m2 = mk at *
                have hmkl : mk.length = n := by omega
                have hmka : mk.getD a [] = pr := by rw [← hmk, clearTo_geta, hpa]
                have hmkk : mk.getD k [] = rk := by rw [← hmk, clearTo_get _ _ _ _ _ (Nat.le_refl k), hrk]
                refine loop_intro (n := 121) (fun jj ws τ' => ∃ j : Nat, j ≤ i ∧ jj = i - j ∧ ws = [.pointer (some ⟨rf, 0, none⟩), .slice (some ⟨h, 0, some 1⟩) n n, .pointer (some ⟨τ.next + 0, 0, none⟩), rowv i (rs'.getD k 0), vb tm, .slice (some ⟨h, 0, some 1⟩) n n, vi n, vi k, vi i, vi j] ∧ Mem σ τ' ∧ Own σ τ' h i rs' (mk.set k (addTo tm pr j rk)) ∧ τ'.heap (τ.next + 0) = some (.cells [vi a] false)) i rfl ?_ ?_
                · conv => whnf
                  refine ⟨0, by omega, rfl, rfl, ?_, ?_, hbox5⟩
                  · repeat first | exact g10 | apply Mem.bump | refine Mem.put ?_ (by (try simp only [bump_next, put_next]); omega) (by (try simp only [bump_next, put_next]); omega)
                  · rw [addTo_zero, set_same hmkk]
                    exact own_bump (own_bump (own_bump (own_bump (own_bump own5 1) 5) 5) 7) 3
                · rintro mm ws τ8 ⟨j, hj8, rfl, rfl, g11, own6, hbox6⟩
                  have hbl6 := g11.ok.lt hbox6
                  have hhl6 := g11.ok.lt own6.head
                  have hm6 : (mk.set k (addTo tm pr j rk)).length = n := by rw [List.length_set]; exact hmkl
                  conv => whnf
                  refine br_intro ?_ ?_ <;> intro h11 <;> simp only [blt_dec, ble_dec, beq_dec, ltB_eq, leB_eq, decide_eq_true_eq, decide_eq_false_iff_not, beq_iff_eq, bne_iff_ne, beq_eq_false_iff_ne, bne_eq_false_iff_eq] at h11
                  · conv => whnf
                    obtain ⟨x1, x2, x3, x4⟩ := own_row own6 (i := k) (by omega)
                    obtain ⟨y1, y2, y3, y4⟩ := own_row own6 (i := a) (by omega)
                    rw [set_getD (by omega)] at x1 x2
                    have hset : (mk.set k (addTo tm pr j rk)).getD a [] = pr := by
                      rw [List.getD_eq_getElem?_getD, List.getElem?_set_ne hka, ← List.getD_eq_getElem?_getD, hmka]
                    rw [hset] at y1 y2
                    have hxl := g11.ok.lt x1
                    have hyl := g11.ok.lt y1
                    repeat (first | (refine br_true (inR_intro (by simp only [loI, hiI]; omega)) ?_; conv => whnf) | (refine br_true (by simp only [blt_dec, ble_dec, beq_dec, ltB_eq, leB_eq, decide_eq_true_eq, decide_eq_false_iff_not, Bool.and_eq_true, Bool.or_eq_true, beq_iff_eq, bne_iff_ne, beq_eq_false_iff_ne, bne_eq_false_iff_eq]; first | done | omega) ?_; conv => whnf))
                    refine ld_intro x1 ?_
                    conv => whnf
                    refine at_intro (row_at (i := j) (by omega) (by omega)) ?_
                    conv => whnf
                    refine ld_intro hbox6 ?_
                    conv => whnf
                    repeat (first | (refine br_true (inR_intro (by simp only [loI, hiI]; omega)) ?_; conv => whnf) | (refine br_true (by simp only [blt_dec, ble_dec, beq_dec, ltB_eq, leB_eq, decide_eq_true_eq, decide_eq_false_iff_not, Bool.and_eq_true, Bool.or_eq_true, beq_iff_eq, bne_iff_ne, beq_eq_false_iff_ne, bne_eq_false_iff_eq]; first | done | omega) ?_; conv => whnf))
                    refine ld_intro own6.head ?_
                    conv => whnf
                    refine at_intro (own_get own6 (i := a) (by rw [own6.len]; omega) (by omega)) ?_
                    conv => whnf
                    repeat (first | (refine br_true (inR_intro (by simp only [loI, hiI]; omega)) ?_; conv => whnf) | (refine br_true (by simp only [blt_dec, ble_dec, beq_dec, ltB_eq, leB_eq, decide_eq_true_eq, decide_eq_false_iff_not, Bool.and_eq_true, Bool.or_eq_true, beq_iff_eq, bne_iff_ne, beq_eq_false_iff_ne, bne_eq_false_iff_eq]; first | done | omega) ?_; conv => whnf))
                    refine ld_intro y1 ?_
                    conv => whnf
                    refine at_intro (row_at (i := j) (by omega) (by omega)) ?_
                    conv => whnf
                    rw [addTo_at _ _ _ _ hprk]
                    have hpj : pr.getD j 0 < 256 := by
                      rw [List.getD_eq_getElem?_getD, List.getElem?_eq_getElem (by omega)]
                      exact hprb _ (List.getElem_mem _)
                    have hrj : rk.getD j 0 < 256 := by
                      rw [List.getD_eq_getElem?_getD, List.getElem?_eq_getElem (by omega)]
                      exact hrkb _ (List.getElem_mem _)
                    have okX : Ok (((τ8.bump 1).bump 2).bump 20) := Mem.ok (σ := σ) (by repeat first | exact g11 | apply Mem.bump | refine Mem.put ?_ (by (try simp only [bump_next, put_next]); omega) (by (try simp only [bump_next, put_next]); omega))
                    have hfX : (((τ8.bump 1).bump 2).bump 20).heap rf = some (.cells fieldCells rof) := Mem.old (σ := σ) hσ (by repeat first | exact g11 | apply Mem.bump | refine Mem.put ?_ (by (try simp only [bump_next, put_next]); omega) (by (try simp only [bump_next, put_next]); omega)) hf
                    refine mul hC (r := rf) htb hpj (Ok.wp okX (fun r hr => protL_false (okX.prot r hr) ?_)) hfX ?_
                    · intro q hq hq1
                      simp only [List.mem_cons, List.not_mem_nil, or_false] at hq
                      simp only [bump_next] at hr
                      rcases hq with rfl
                      simp [rdF]
                      rw [← List.getD_eq_getElem?_getD]
                      omega
                    intro τ9 g12
                    have g13 := Mem.unwp (σ := ((τ8.bump 1).bump 2).bump 20) okX g12
                    conv => whnf
                    generalize ((τ9.wp (((τ8.bump 1).bump 2).bump 20).prot)) = τa at *
                    have g14 : Mem τ8 τa := Mem.trans (by repeat first | exact Mem.refl g11.ok | apply Mem.bump | refine Mem.put ?_ (by (try simp only [bump_next, put_next]); omega) (by (try simp only [bump_next, put_next]); omega)) g13
                    have g15 := g11.trans g14
                    refine add hC (f := .pointer (some ⟨rf, 0, none⟩)) hrj (gmul_lt _ _) (Ok.wp g15.ok (fun r hr => protL_false (g15.ok.prot r hr) ?_)) trivial ?_
                    · intro q hq hq1
                      simp only [List.mem_cons, List.not_mem_nil, or_false] at hq
                      rcases hq with rfl
                      simp at hq1
                    intro τb g16
                    have g17 := Mem.unwp g15.ok g16
                    conv => whnf
                    repeat (first | (refine br_true (inR_intro (by simp only [loI, hiI]; omega)) ?_; conv => whnf) | (refine br_true (by simp only [blt_dec, ble_dec, beq_dec, ltB_eq, leB_eq, decide_eq_true_eq, decide_eq_false_iff_not, Bool.and_eq_true, Bool.or_eq_true, beq_iff_eq, bne_iff_ne, beq_eq_false_iff_ne, bne_eq_false_iff_eq]; first | done | omega) ?_; conv => whnf))
                    generalize (τb.wp τa.prot) = τc at *
                    have g18 : Mem τ8 τc := g14.trans g17
                    have g19 := g11.trans g18
                    have own7 := own_mono own6 g11.ok g18
                    have x5 := g18.old g11.ok x1
                    have hxl5 := g19.ok.lt x5
                    refine wr_intro x5 (protL_false (g19.noprot hσ x3) ?_) ?_
                    · intro q hq hq1
                      simp only [List.mem_cons, List.not_mem_nil, or_false] at hq
                      rcases hq with rfl
                      simp at hq1
                    conv => whnf
                    repeat (first | (refine br_true (inR_intro (by simp only [loI, hiI]; omega)) ?_; conv => whnf) | (refine br_true (by simp only [blt_dec, ble_dec, beq_dec, ltB_eq, leB_eq, decide_eq_true_eq, decide_eq_false_iff_not, Bool.and_eq_true, Bool.or_eq_true, beq_iff_eq, bne_iff_ne, beq_eq_false_iff_ne, bne_eq_false_iff_eq, List.length_map]; first | done | omega) ?_; conv => whnf))
                    repeat (first | (refine br_true (inR_intro (by simp only [loI, hiI]; omega)) ?_; conv => whnf) | (refine br_true (by simp only [blt_dec, ble_dec, beq_dec, ltB_eq, leB_eq, decide_eq_true_eq, decide_eq_false_iff_not, Bool.and_eq_true, Bool.or_eq_true, beq_iff_eq, bne_iff_ne, beq_eq_false_iff_ne, bne_eq_false_iff_eq]; first | done | omega) ?_; conv => whnf))
                    have hw2 : wr ((addTo tm pr j rk).map vb) (0 + j * 1) [vb (rk.getD j 0 ^^^ gmul tm (pr.getD j 0))] = (addTo tm pr (j + 1) rk).map vb := by
                      rw [show 0 + j * 1 = j by omega, wr_one _ _ _ (by rw [List.length_map, addTo_len _ _ _ _ hprk]; omega), ← addTo_succ _ _ _ _ hprk (by omega), List.map_set]
                    refine ⟨rfl, i - (j + 1), by omega, j + 1, by omega, rfl, rfl, ?_, ?_, ?_⟩
                    · refine Mem.bump (g19.upd x3 hxl5 (o := .cells ((addTo tm pr (j + 1) rk).map vb) false) ⟨?_, fun q hq => put_heap_ne hq, rfl, rfl⟩) 2
                      exact (put_heap_eq _ _ _).trans (by rw [← hw2]; rfl)
                    · refine own_bump ?_ 2
                      rw [show mk.set k (addTo tm pr (j + 1) rk) = (mk.set k (addTo tm pr j rk)).set k (addTo tm pr (j + 1) rk) from (List.set_set ..).symm]
                      exact own_upd own7 (by omega) (by rw [addTo_len _ _ _ _ hprk]; omega) ⟨(put_heap_eq _ _ _).trans (by rw [← hw2]; rfl), fun q hq => put_heap_ne hq, rfl, rfl⟩
                    · have := hrl k (by omega)
                      exact (put_heap_ne (by omega)).trans (g18.old g11.ok hbox6)
                  · conv => whnf
                    obtain rfl : j = i := by omega
                    repeat (first | (refine br_true (inR_intro (by simp only [loI, hiI]; omega)) ?_; conv => whnf) | (refine br_true (by simp only [blt_dec, ble_dec, beq_dec, ltB_eq, leB_eq, decide_eq_true_eq, decide_eq_false_iff_not, Bool.and_eq_true, Bool.or_eq_true, beq_iff_eq, bne_iff_ne, beq_eq_false_iff_ne, bne_eq_false_iff_eq]; first | done | omega) ?_; conv => whnf))
                    refine ⟨rfl, n - (k + 1), by omega, k + 1, by omega, rfl, rfl, ?_, ?_, hbox6⟩
                    · repeat first | exact g11 | apply Mem.bump | refine Mem.put ?_ (by (try simp only [bump_next, put_next]); omega) (by (try simp only [bump_next, put_next]); omega)
                    · rw [clearTo_succ _ _ _ _ (by omega), hmk, clearR, if_neg (by rw [hrk, htm]; omega), hrk, htm]
                      have e : addTo tm pr j rk = addR tm pr rk := by
                        rw [← addTo_full _ _ _ hprk]; congr 1; omega
                      rw [e] at own6
                      exact own_bump (own_bump own6 1) 2
          · conv => whnf
            obtain rfl : k = n := by omega
            rw [← hm2l, ← hpa, clearTo_full] at own5
            refine k2 _ rs' (a + pi) ?_ (by omega) (by omega) ?_ ?_
            · repeat first | exact g10 | apply Mem.bump | refine Mem.put ?_ (by (try simp only [bump_next, put_next]); omega) (by (try simp only [bump_next, put_next]); omega)
            · simpa using hpi
            · have e : scaleM a (swapM m a (a + pi)) = m2 := by
                unfold scaleM
                rw [hm1, hgi, hrow, hpr, hm2]
              rw [e]
              exact own_bump (own_bump own5 1) 1
  · intro τ2 g2 hno
    have g3 : Mem τ τ2 := Mem.trans (by repeat first | exact Mem.refl g.ok | apply Mem.bump | refine Mem.put ?_ (by (try simp only [bump_next, put_next]); omega) (by (try simp only [bump_next, put_next]); omega)) g2
    conv => whnf
    refine k1 _ ?_ ?_ ?_
    · have := g.trans g3
      repeat first | exact this | apply Mem.bump | refine Mem.put ?_ (by (try simp only [bump_next, put_next]); omega) (by (try simp only [bump_next, put_next]); omega)
    · intro i h1 h2
      have := hno (i - a) (by simp; omega)
      rw [show a + (i - a) = i by omega] at this
      simpa using this
    · exact own_mono (own_mono own g.ok g3) g3.ok (by repeat first | exact Mem.refl g3.ok | apply Mem.bump | refine Mem.put ?_ (by (try simp only [bump_next, put_next]); omega) (by (try simp only [bump_next, put_next]); omega))
end
end Go.Corb.A

/- The contract of Inverse. Conditions: none. -/
set_option linter.unusedVariables false
set_option linter.unusedSimpArgs false
namespace Go.Corb.A
open Go Go.RowKit Go.Proofs Go.Corb Go.IntWalk

/-- What clearing column by column leads to: of n rows, the first a columns are done. -/
inductive GJ (n : Nat) : Nat → List (List Nat) → List (List Nat) → Prop
  | zero (m : List (List Nat)) : GJ n 0 m m
  | succ {a p : Nat} {m m' : List (List Nat)} (h : GJ n a m m') (h1 : a ≤ p) (h2 : p < n) (h3 : ent m' p a ≠ 0) : GJ n (a + 1) m (clearM a (scaleM a (swapM m' a p)))

theorem xor_lt8 {a b : Nat} (ha : a < 256) (hb : b < 256) : a ^^^ b < 256 := Nat.xor_lt_two_pow (n := 8) ha hb
theorem bytes_swap {m : List (List Nat)} (hb : Bytes m) {a p : Nat} (ha : a < m.length) (hp : p < m.length) : Bytes (swapM m a p) := by
  intro l hl
  obtain ⟨j, hj, rfl⟩ := List.getElem_of_mem hl
  have e : (swapM m a p)[j] = m[sw a p j]'(sw_lt ha hp (by simpa [swapM] using hj)) := sw_getElem m [] ha hp hj
  rw [e]
  exact hb _ (List.getElem_mem _)
theorem bytes_set {m : List (List Nat)} (hb : Bytes m) {a : Nat} {l : List Nat} (hl : ∀ x ∈ l, x < 256) : Bytes (m.set a l) := by
  intro r hr
  rcases List.mem_or_eq_of_mem_set hr with h | rfl
  · exact hb _ h
  · exact hl
theorem bytes_clear {m : List (List Nat)} (hb : Bytes m) (a : Nat) : Bytes (clearM a m) := by
  intro r hr
  simp only [clearM, List.mem_mapIdx] at hr
  obtain ⟨i, hi, rfl⟩ := hr
  unfold clearR
  split
  · exact hb _ (List.getElem_mem _)
  · intro x hx
    unfold addR at hx
    rw [List.mem_iff_getElem] at hx
    obtain ⟨j, hj, rfl⟩ := hx
    rw [List.getElem_zipWith]
    exact xor_lt8 (hb _ (List.getElem_mem _) _ (List.getElem_mem _)) (gmul_lt _ _)
theorem bytes_scale {m : List (List Nat)} (hb : Bytes m) (a : Nat) : Bytes (scaleM a m) := by
  refine bytes_set hb ?_
  intro x hx
  obtain ⟨y, _, rfl⟩ := List.mem_map.1 hx
  exact gmul_lt _ _
theorem GJ.bytes {n a : Nat} {m m' : List (List Nat)} (h : GJ n a m m') (hn : m.length = n) (hb : Bytes m) (ha : a ≤ n) : Bytes m' ∧ m'.length = n := by
  induction h with
  | zero m => exact ⟨hb, hn⟩
  | @succ a p m m' h h1 h2 h3 ih =>
    obtain ⟨b1, b2⟩ := ih hn hb (by omega)
    refine ⟨bytes_clear (bytes_scale (bytes_swap b1 (by omega) (by omega)) a) a, ?_⟩
    simp [clearM, scaleM, swapM, b2]

theorem bytes_both {m : List (List Nat)} (hb : Bytes m) : Bytes (bothM m) := by
  intro l hl x hx
  obtain ⟨k, hk, rfl⟩ := List.mem_map.1 hl
  rw [List.mem_append] at hx
  rcases hx with hx | hx
  · have hk' : k < m.length := by simpa using hk
    rw [List.getD_eq_getElem?_getD, List.getElem?_eq_getElem hk'] at hx
    exact hb _ (List.getElem_mem _) _ hx
  · rcases List.mem_or_eq_of_mem_set hx with h | rfl
    · have := List.eq_of_mem_replicate h; omega
    · omega

theorem own_weaken {σ σ' τ : AS} {h w : Nat} {rs : List Nat} {m : List (List Nat)} (own : Own σ' τ h w rs m) (hle : σ.next ≤ σ'.next) : Own σ τ h w rs m :=
  { own with hn := Nat.le_trans hle own.hn, rn := fun r hr => ⟨Nat.le_trans hle (own.rn r hr).1, (own.rn r hr).2⟩ }

section
variable {Base : CallRel}
set_option pp.deepTerms.threshold 4

theorem inverse (hC : CProp (ACall Try.prog Base)) {v0 : Value} {m : List (List Nat)} {n rf : Nat} {rof : Bool} (hml : m.length = n) (hn : 1 ≤ n) (hn' : n ≤ 64) (hrl : ∀ l ∈ m, l.length = n) (hb : Bytes m) {σ : AS} (hσ : Ok σ) (hf : σ.heap rf = some (.cells fieldCells rof)) (hv0 : MatAt σ v0 m) {Q : Value → AS → Prop}
    (k1 : ∀ σ' a m', Mem σ σ' → a < n → GJ n a (bothM m) m' → (∀ i, a ≤ i → i < n → ent m' i a = 0) → Q (.tuple [.slice none 0 0, .bool false].toArray) σ')
    (k2 : ∀ σ' v m', Mem σ σ' → GJ n n (bothM m) m' → MatAt σ' v (m'.map (List.drop n)) → Q (.tuple [v, .bool true].toArray) σ') :
    ∃ v σ', ACall Try.prog Base 14 [.pointer (some ⟨rf, 0, none⟩), v0] σ v σ' ∧ Q v σ' := by
  have hv := hv0
  obtain ⟨vs, hs, hl, hrows⟩ := hv0
  obtain ⟨a0, cap0, rfl⟩ := hs.shape
  have hr : rightB m = true := by
    have e0 : (m.getD 0 []).length = n := by
      rw [List.getD_eq_getElem?_getD, List.getElem?_eq_getElem (by omega)]
      exact hrl _ (List.getElem_mem _)
    unfold rightB
    rw [e0, decide_eq_true (by omega), decide_eq_true (by omega)]
    simp only [Bool.true_and, List.all_eq_true, beq_iff_eq]
    exact hrl
  refine call_rwp hC cf14 rfl hσ.wf ?_
  conv => whnf
  refine right hC (m := m) (by omega) (fun l hl => by rw [hrl l hl]; omega) (Mem.ok (σ := σ) ?_) (hv.mono hσ ?_) ?_
  · repeat first | exact Mem.refl hσ | apply Mem.bump | refine Mem.put ?_ (by (try simp only [bump_next, put_next]); omega) (by (try simp only [bump_next, put_next]); omega)
  · repeat first | exact Mem.refl hσ | apply Mem.bump | refine Mem.put ?_ (by (try simp only [bump_next, put_next]); omega) (by (try simp only [bump_next, put_next]); omega)
  intro τ1 g1
  rw [hr]
  have g2 : Mem σ τ1 := Mem.trans (by repeat first | exact Mem.refl hσ | apply Mem.bump | refine Mem.put ?_ (by (try simp only [bump_next, put_next]); omega) (by (try simp only [bump_next, put_next]); omega)) g1
  obtain ⟨r, o, sp, c, ro, rfl, hr1, hci, _⟩ := hs.idx (i := 0) (by omega)
  obtain ⟨a1, cap1, e1⟩ := (hrows 0 (by omega) (by omega)).shape
  have hm0 : 0 < m.length := by omega
  rw [e1, List.length_map, hrl _ (List.getElem_mem hm0)] at hci
  conv => whnf
  repeat (first | (refine br_true (inR_intro (by simp only [loI, hiI]; omega)) ?_; conv => whnf) | (refine br_true (by simp only [blt_dec, ble_dec, beq_dec, ltB_eq, leB_eq, decide_eq_true_eq, decide_eq_false_iff_not, Bool.and_eq_true, Bool.or_eq_true, beq_iff_eq, bne_iff_ne, beq_eq_false_iff_ne, bne_eq_false_iff_eq]; first | done | omega) ?_; conv => whnf))
  refine ld_intro (g2.old hσ hr1) ?_
  conv => whnf
  refine at_intro hci ?_
  conv => whnf
  (refine br_false (by simp only [blt_dec, ble_dec, beq_dec, ltB_eq, leB_eq, decide_eq_true_eq, decide_eq_false_iff_not, Bool.and_eq_true, Bool.or_eq_true, beq_iff_eq, bne_iff_ne, beq_eq_false_iff_ne, bne_eq_false_iff_eq]; first | done | omega) ?_; conv => whnf)
  refine both hC hml hn hn' hrl (Mem.ok (σ := σ) ?_) (hv.mono hσ ?_) ?_
  · repeat first | exact g2 | apply Mem.bump | refine Mem.put ?_ (by (try simp only [bump_next, put_next]); omega) (by (try simp only [bump_next, put_next]); omega)
  · repeat first | exact g2 | apply Mem.bump | refine Mem.put ?_ (by (try simp only [bump_next, put_next]); omega) (by (try simp only [bump_next, put_next]); omega)
  intro τ2 h rs g3 own
  have g4 : Mem σ τ2 := Mem.trans (by repeat first | exact g2 | apply Mem.bump | refine Mem.put ?_ (by (try simp only [bump_next, put_next]); omega) (by (try simp only [bump_next, put_next]); omega)) g3
  have hn2 := g2.next
  have hown : Own σ τ2 h (2 * n) rs (bothM m) := own_weaken own (by simp only [bump_next]; omega)
  clear own
  have hbl : (bothM m).length = n := by simp [bothM, hml]
  conv => whnf
  refine loop_intro (n := 56) (fun kk ws τ => ∃ (a : Nat) (rs' : List Nat) (m' : List (List Nat)), a ≤ n ∧ kk = n - a ∧ ws = [.pointer (some ⟨rf, 0, none⟩), .slice (some ⟨r, o, sp⟩) vs.length cap0, .slice (some ⟨h, 0, some 1⟩) n n, vi n, vi a] ∧ Mem σ τ ∧ Own σ τ h (2 * n) rs' m' ∧ GJ n a (bothM m) m') n rfl ?_ ?_
  · conv => whnf
    refine ⟨0, rs, bothM m, by omega, rfl, rfl, ?_, own_bump hown _, .zero _⟩
    repeat first | exact g4 | apply Mem.bump | refine Mem.put ?_ (by (try simp only [bump_next, put_next]); omega) (by (try simp only [bump_next, put_next]); omega)
  · rintro mm ws τ ⟨a, rs', m', ha, rfl, rfl, g5, own, hgj⟩
    obtain ⟨hbm, hlm⟩ := hgj.bytes hbl (bytes_both hb) ha
    conv => whnf
    refine br_intro ?_ ?_ <;> intro h1 <;> simp only [blt_dec, ble_dec, beq_dec, ltB_eq, leB_eq, decide_eq_true_eq, decide_eq_false_iff_not, beq_iff_eq, bne_iff_ne, beq_eq_false_iff_ne, bne_eq_false_iff_eq] at h1
    · conv => whnf
      refine clear hC (σ := σ) hσ ?_ hf (own_bump (own_bump (own_bump own 1) 2) 5) hlm (by omega) hn' (by omega) (by omega) hbm ?_ ?_
      · repeat first | exact g5 | apply Mem.bump | refine Mem.put ?_ (by (try simp only [bump_next, put_next]); omega) (by (try simp only [bump_next, put_next]); omega)
      · intro τ3 g6 hz _
        conv => whnf
        refine k1 _ a m' ?_ (by omega) hgj hz
        repeat first | exact g6 | apply Mem.bump | refine Mem.put ?_ (by (try simp only [bump_next, put_next]); omega) (by (try simp only [bump_next, put_next]); omega)
      · intro τ3 rs2 p g6 hp1 hp2 hp3 own2
        conv => whnf
        repeat (first | (refine br_true (inR_intro (by simp only [loI, hiI]; omega)) ?_; conv => whnf) | (refine br_true (by simp only [blt_dec, ble_dec, beq_dec, ltB_eq, leB_eq, decide_eq_true_eq, decide_eq_false_iff_not, Bool.and_eq_true, Bool.or_eq_true, beq_iff_eq, bne_iff_ne, beq_eq_false_iff_ne, bne_eq_false_iff_eq]; first | done | omega) ?_; conv => whnf))
        refine ⟨rfl, n - (a + 1), by omega, a + 1, rs2, _, by omega, rfl, rfl, ?_, own_bump own2 2, .succ hgj hp1 hp2 hp3⟩
        repeat first | exact g6 | apply Mem.bump | refine Mem.put ?_ (by (try simp only [bump_next, put_next]); omega) (by (try simp only [bump_next, put_next]); omega)
    · conv => whnf
      obtain rfl : a = n := by omega
      clear ha h1
      have hnx := g5.next
      refine loop_intro (n := 56) (fun kk ws τ4 => ∃ (i : Nat) (qs : List Nat) (ov : Value), i ≤ a ∧ kk = a - i ∧ ws = [.slice (some ⟨r, o, sp⟩) vs.length cap0, ov, .slice (some ⟨h, 0, some 1⟩) a a, vi a, vi i] ∧ Mem τ τ4 ∧ qs.length = i ∧ Growing τ τ4 ov (qs.map (rowv a)) ∧
        (∀ j (hj : j < qs.length), headOf ov ≠ some qs[j] ∧ τ.next ≤ qs[j] ∧ τ4.heap qs[j] = some (.cells (((m'.getD j []).drop a).map vb) false))) a rfl ?_ ?_
      · conv => whnf
        refine ⟨0, [], _, by omega, rfl, rfl, ?_, rfl, .inl ⟨rfl, rfl⟩, fun j h => absurd h (by simp)⟩
        repeat first | exact Mem.refl g5.ok | apply Mem.bump | refine Mem.put ?_ (by (try simp only [bump_next, put_next]); omega) (by (try simp only [bump_next, put_next]); omega)
      · rintro mm ws τ4 ⟨i, qs, ov, hi, rfl, rfl, g6, hqs, hG, hqs2⟩
        obtain ⟨oa, on, oc, rfl⟩ : ∃ a b c, ov = .slice a b c := by
          rcases hG with ⟨_, rfl⟩ | ⟨h, _, rfl, _⟩
          · exact ⟨_, _, _, rfl⟩
          · exact ⟨_, _, _, rfl⟩
        have g7 : Mem σ τ4 := g5.trans g6
        have hnx4 := g6.next
        conv => whnf
        refine br_intro ?_ ?_ <;> intro h1 <;> simp only [blt_dec, ble_dec, beq_dec, ltB_eq, leB_eq, decide_eq_true_eq, decide_eq_false_iff_not, beq_iff_eq, bne_iff_ne, beq_eq_false_iff_ne, bne_eq_false_iff_eq] at h1
        · conv => whnf
          have hi0 : i < a := by omega
          obtain ⟨u1, u2, u3, u4⟩ := own_row own (i := i) (by omega)
          have u5 := g6.old g5.ok u1
          repeat (first | (refine br_true (inR_intro (by simp only [loI, hiI]; omega)) ?_; conv => whnf) | (refine br_true (by simp only [blt_dec, ble_dec, beq_dec, ltB_eq, leB_eq, decide_eq_true_eq, decide_eq_false_iff_not, Bool.and_eq_true, Bool.or_eq_true, beq_iff_eq, bne_iff_ne, beq_eq_false_iff_ne, bne_eq_false_iff_eq]; first | done | omega) ?_; conv => whnf))
          refine ld_intro (g6.old g5.ok own.head) ?_
          conv => whnf
          refine at_intro (own_get own (i := i) (by rw [own.len]; omega) (by omega)) ?_
          conv => whnf
          refine ⟨⟨by omega, rfl, by omega⟩, ?_⟩
          conv => whnf
          repeat (first | (refine br_true (inR_intro (by simp only [loI, hiI]; omega)) ?_; conv => whnf) | (refine br_true (by simp only [blt_dec, ble_dec, beq_dec, ltB_eq, leB_eq, decide_eq_true_eq, decide_eq_false_iff_not, Bool.and_eq_true, Bool.or_eq_true, beq_iff_eq, bne_iff_ne, beq_eq_false_iff_ne, bne_eq_false_iff_eq]; first | done | omega) ?_; conv => whnf))
          have hil : i < m'.length := by omega
          have hdl : ((m'.getD i []).drop a).length = a := by rw [List.length_drop, u2]; omega
          refine clone hC (l := (m'.getD i []).drop a) (by omega) (Mem.ok (σ := σ) ?_) ?_ ?_ ?_
          · repeat first | exact g7 | apply Mem.bump | refine Mem.put ?_ (by (try simp only [bump_next, put_next]); omega) (by (try simp only [bump_next, put_next]); omega)
          · refine SlAt.mk (c := (m'.getD i []).map vb) (ro := false) ?_ (by rw [List.length_map]; omega) ?_
            · exact Mem.old (σ := τ4) g6.ok (by repeat first | exact Mem.refl g6.ok | apply Mem.bump | refine Mem.put ?_ (by (try simp only [bump_next, put_next]); omega) (by (try simp only [bump_next, put_next]); omega)) u5
            · have hq : ∀ q, q = a → ((List.drop q ((m'.getD i []).map vb)).take (((m'.getD i []).drop a).map vb).length = ((m'.getD i []).drop a).map vb) := by
                intro q hq; subst hq
                rw [← List.map_drop]
                exact List.take_length
              exact hq _ (by omega)
          · intro e; rw [e] at hdl; simp at hdl; omega
          intro τ5 rv g8 hfr
          have g9 : Mem τ4 τ5 := Mem.trans (by repeat first | exact Mem.refl g6.ok | apply Mem.bump | refine Mem.put ?_ (by (try simp only [bump_next, put_next]); omega) (by (try simp only [bump_next, put_next]); omega)) g8
          have hnx5 := g8.next
          simp only [bump_next, put_next] at hnx5
          rcases hfr with ⟨h0, _⟩ | ⟨r', hr', rfl, hh'⟩
          · rw [h0] at hdl; simp at hdl; omega
          simp only [bump_next, put_next] at hr'
          have hrlt := g8.ok.lt hh'
          rw [hdl]
          conv => whnf
          obtain ⟨τ6, hap, g10, hn6, hnx6, hfr6⟩ := app_growing (τ := τ5.put (τ4.next + 1 + 3 + 6) (.cells [rowv a r'] false)) (N := τ4.next + 1 + 3 + 7) (bytes := 24) (x := .slice (some ⟨τ4.next + 1 + 3 + 6, 0, none⟩) 1 1) (news := [rowv a r']) g5.ok ((g6.trans g9).put (by omega) (by omega)) (hG.mono g6.ok (Mem.put g9 (by omega) (by omega))) (by omega) (by simp only [put_next]; omega) (SlAt.mk (put_heap_eq _ _ _) rfl rfl) rfl (rowv_one _ _) (by simp) (by simp [hqs]; omega)
          refine ⟨_, _, hap, ?_⟩
          simp only [put_next] at hnx6
          conv => whnf
          repeat (first | (refine br_true (inR_intro (by simp only [loI, hiI]; omega)) ?_; conv => whnf) | (refine br_true (by simp only [blt_dec, ble_dec, beq_dec, ltB_eq, leB_eq, decide_eq_true_eq, decide_eq_false_iff_not, Bool.and_eq_true, Bool.or_eq_true, beq_iff_eq, bne_iff_ne, beq_eq_false_iff_ne, bne_eq_false_iff_eq]; first | done | omega) ?_; conv => whnf))
          have hqn : ∀ j (h : j < qs.length), qs[j] < τ4.next := fun j h => g6.ok.lt (hqs2 j h).2.2
          refine ⟨rfl, a - (i + 1), by omega, i + 1, qs ++ [r'], _, by omega, rfl, rfl, ?_, by simp [hqs], ?_, ?_⟩
          · exact Mem.bump g10 2
          · refine .inr ⟨τ4.next + 1 + 3 + 7, by omega, ?_, ?_⟩
            · simp only [List.map_append, List.map_cons, List.map_nil, List.length_append, List.length_map, List.length_cons, List.length_nil]
            · rw [List.map_append]; exact hn6
          · intro j hj
            have hj' : j < qs.length + 1 := by simpa using hj
            by_cases hji : j < qs.length
            · rw [List.getElem_append_left hji]
              obtain ⟨q1, q2, q3⟩ := hqs2 j hji
              have q4 := hqn j hji
              refine ⟨?_, q2, ?_⟩
              · intro e
                have e : τ4.next + 1 + 3 + 7 = qs[j] := by injection e
                omega
              · rw [bump_heap, hfr6 _ (by omega) q1, put_heap_ne (by omega), g9.grow.heap _ q4]
                exact q3
            · obtain rfl : j = qs.length := by omega
              rw [List.getElem_append_right (by omega)]
              simp only [Nat.sub_self, List.getElem_cons_zero]
              refine ⟨?_, by omega, ?_⟩
              · intro e
                have e : τ4.next + 1 + 3 + 7 = r' := by injection e
                omega
              · rw [bump_heap, hfr6 _ (by omega) ?_, put_heap_ne (by omega), hh']
                · rw [hqs]
                · rcases hG with ⟨_, e⟩ | ⟨h, _, e, eh⟩
                  · rw [e]; intro e; cases e
                  · rw [e]; intro e
                    have e : h = r' := by injection e
                    have := g6.ok.lt eh
                    omega
        · conv => whnf
          obtain rfl : i = a := by omega
          refine k2 _ _ m' ?_ hgj ?_
          · repeat first | exact g7 | apply Mem.bump | refine Mem.put ?_ (by (try simp only [bump_next, put_next]); omega) (by (try simp only [bump_next, put_next]); omega)
          · refine ⟨qs.map (rowv i), hG.at, by simp; omega, ?_⟩
            intro j h1 h2
            rw [List.length_map] at h1
            obtain ⟨_, _, q3⟩ := hqs2 j h1
            have hj : j < m'.length := by omega
            have e1 : m'.getD j [] = m'[j] := by rw [List.getD_eq_getElem?_getD, List.getElem?_eq_getElem hj]; rfl
            rw [e1] at q3
            rw [List.getElem_map, List.getElem_map]
            have hwj := own.wid _ (List.getElem_mem hj)
            exact SlAt.mk q3 (by rw [List.length_map, List.length_drop, hwj]; omega) (by rw [List.drop_zero, List.take_length])
end
end Go.Corb.A

/- Clearing a matrix, told by what its rows send to nothing. Conditions: none. -/
set_option linter.unusedVariables false
set_option linter.unusedSimpArgs false
namespace Go.Corb.A
open Go Go.RowKit Go.Corb

abbrev rowA (m : List (List Nat)) (i : Nat) : List Nat := m.getD i []
def Wid (w : Nat) (m : List (List Nat)) : Prop := ∀ i, i < m.length → (rowA m i).length = w
def Ker (m : List (List Nat)) (z : Nat → Nat) : Prop := ∀ i, i < m.length → dot (rowA m i) z = 0
def Unit (m : List (List Nat)) (a : Nat) : Prop := ∀ i j, i < m.length → j < a → ent m i j = if i = j then 1 else 0

theorem row_mem {m : List (List Nat)} {i : Nat} (h : i < m.length) : rowA m i ∈ m := by
  rw [rowA, List.getD_eq_getElem?_getD, List.getElem?_eq_getElem h]; exact List.getElem_mem h
theorem wid_of {w : Nat} {m : List (List Nat)} (h : ∀ r ∈ m, r.length = w) : Wid w m := fun i hi => h _ (row_mem hi)
theorem wid_to {w : Nat} {m : List (List Nat)} (h : Wid w m) : ∀ r ∈ m, r.length = w := by
  intro r hr
  obtain ⟨i, hi, rfl⟩ := List.getElem_of_mem hr
  have := h i hi
  rwa [rowA, List.getD_eq_getElem?_getD, List.getElem?_eq_getElem hi] at this
theorem ent_lt {m : List (List Nat)} (hb : Bytes m) (i j : Nat) : ent m i j < 256 := by
  unfold ent
  by_cases hi : i < m.length
  · by_cases hj : j < (rowA m i).length
    · rw [List.getD_eq_getElem?_getD (l := m.getD i []), List.getElem?_eq_getElem hj]
      exact hb _ (row_mem hi) _ (List.getElem_mem _)
    · rw [List.getD_eq_getElem?_getD (l := m.getD i []), List.getElem?_eq_none (by simp only [rowA] at hj; omega)]; decide
  · rw [List.getD_eq_getElem?_getD (l := m), List.getElem?_eq_none (by omega)]; simp

theorem swap_row {m : List (List Nat)} {a p : Nat} (ha : a < m.length) (hp : p < m.length) (i : Nat) : rowA (swapM m a p) i = rowA m (sw a p i) := by
  show ((m.set a (m.getD p [])).set p (m.getD a [])).getD i [] = _
  rw [List.getD_eq_getElem?_getD, sw_get m [] ha hp i, ← List.getD_eq_getElem?_getD]
theorem swap_len (m : List (List Nat)) (a p : Nat) : (swapM m a p).length = m.length := by simp [swapM]
theorem sw_sw (a p i : Nat) : sw a p (sw a p i) = i := by
  unfold sw; split
  · split
    · omega
    · split <;> omega
  · split
    · split <;> omega
    · rfl
theorem scale_len (a : Nat) (m : List (List Nat)) : (scaleM a m).length = m.length := by simp [scaleM]
theorem scale_row {m : List (List Nat)} {a : Nat} (ha : a < m.length) (i : Nat) : rowA (scaleM a m) i = if i = a then scaleR (ginv (ent m a a)) (rowA m a) else rowA m i := by
  simp only [rowA, scaleM, List.getD_eq_getElem?_getD, List.getElem?_set]
  by_cases h : a = i
  · subst h; simp [ha]
  · rw [if_neg h, if_neg (fun e => h e.symm)]
theorem clear_len (a : Nat) (m : List (List Nat)) : (clearM a m).length = m.length := by simp [clearM]
theorem clear_row {m : List (List Nat)} (a : Nat) {i : Nat} (hi : i < m.length) : rowA (clearM a m) i = clearR a (rowA m a) i (rowA m i) := by
  simp only [rowA, clearM, List.getD_eq_getElem?_getD, List.getElem?_mapIdx, List.getElem?_eq_getElem hi, Option.map_some, Option.getD_some]

theorem ent_swap {m : List (List Nat)} {a p : Nat} (ha : a < m.length) (hp : p < m.length) (i j : Nat) : ent (swapM m a p) i j = ent m (sw a p i) j := by
  show (rowA (swapM m a p) i).getD j 0 = _
  rw [swap_row ha hp]; rfl
theorem ent_scale {m : List (List Nat)} {a : Nat} (ha : a < m.length) (i j : Nat) : ent (scaleM a m) i j = if i = a then gmul (ent m a j) (ginv (ent m a a)) else ent m i j := by
  show (rowA (scaleM a m) i).getD j 0 = _
  rw [scale_row ha]
  by_cases h : i = a
  · rw [if_pos h, if_pos h]
    simp only [scaleR, List.getD_eq_getElem?_getD, List.getElem?_map]
    unfold ent
    simp only [rowA, List.getD_eq_getElem?_getD]
    cases ((m[a]?).getD [])[j]? with
    | none => simp [zero_gmul]
    | some x => simp
  · rw [if_neg h, if_neg h]; rfl
theorem ent_clear {m : List (List Nat)} {w a : Nat} (hw : Wid w m) (ha : a < m.length) {i j : Nat} (hi : i < m.length) (hj : j < w) : ent (clearM a m) i j = if i = a then ent m i j else ent m i j ^^^ gmul (ent m i a) (ent m a j) := by
  show (rowA (clearM a m) i).getD j 0 = _
  rw [clear_row a hi]
  unfold clearR
  by_cases h : i = a
  · rw [if_pos (.inl h), if_pos h]; rfl
  · rw [if_neg h]
    by_cases h0 : (rowA m i).getD a 0 = 0
    · rw [if_pos (.inr h0)]
      have e : ent m i a = 0 := h0
      rw [e, zero_gmul, Nat.xor_zero]; rfl
    · rw [if_neg (by rintro (h1 | h1); exact h h1; exact h0 h1)]
      have l1 := hw i hi
      have l2 := hw a ha
      have e1 : ent m i j = (rowA m i)[j]'(by omega) := by show (rowA m i).getD j 0 = _; rw [List.getD_eq_getElem?_getD, List.getElem?_eq_getElem (by omega)]; rfl
      have e2 : ent m a j = (rowA m a)[j]'(by omega) := by show (rowA m a).getD j 0 = _; rw [List.getD_eq_getElem?_getD, List.getElem?_eq_getElem (by omega)]; rfl
      rw [e1, e2, List.getD_eq_getElem?_getD, List.getElem?_eq_getElem (by simp only [addR, List.length_zipWith]; omega)]
      simp only [addR, List.getElem_zipWith, Option.getD_some]
      rfl

theorem wid_swap {w : Nat} {m : List (List Nat)} (hw : Wid w m) {a p : Nat} (ha : a < m.length) (hp : p < m.length) : Wid w (swapM m a p) := fun i hi => by
  rw [swap_len] at hi
  rw [swap_row ha hp]; exact hw _ (sw_lt ha hp hi)
theorem wid_scale {w : Nat} {m : List (List Nat)} (hw : Wid w m) {a : Nat} (ha : a < m.length) : Wid w (scaleM a m) := fun i hi => by
  rw [scale_len] at hi
  rw [scale_row ha]
  split
  · rw [scaleR, List.length_map]; exact hw _ ha
  · exact hw _ hi
theorem wid_clear {w : Nat} {m : List (List Nat)} (hw : Wid w m) {a : Nat} (ha : a < m.length) : Wid w (clearM a m) := fun i hi => by
  rw [clear_len] at hi
  rw [clear_row a hi]
  unfold clearR
  split
  · exact hw _ hi
  · have := hw _ hi
    have := hw _ ha
    simp only [addR, List.length_zipWith]; omega

theorem ker_swap {m : List (List Nat)} {a p : Nat} (ha : a < m.length) (hp : p < m.length) (z : Nat → Nat) : Ker (swapM m a p) z ↔ Ker m z := by
  constructor
  · intro h i hi
    have := h (sw a p i) (by rw [swap_len]; exact sw_lt ha hp hi)
    rwa [swap_row ha hp, sw_sw] at this
  · intro h i hi
    rw [swap_len] at hi
    rw [swap_row ha hp]
    exact h _ (sw_lt ha hp hi)
theorem ker_scale {m : List (List Nat)} {a : Nat} (ha : a < m.length) (hb : Bytes m) (h0 : ent m a a ≠ 0) (z : Nat → Nat) : Ker (scaleM a m) z ↔ Ker m z := by
  have hg := ginv_ne (ent_lt hb a a) h0
  constructor
  · intro h i hi
    have := h i (by rw [scale_len]; exact hi)
    rw [scale_row ha] at this
    split at this
    · rename_i e; subst e
      rw [scaleR, dot_scale _ (ginv_lt _)] at this
      exact gmul_cancel this hg
    · exact this
  · intro h i hi
    rw [scale_len] at hi
    rw [scale_row ha]
    split
    · rw [scaleR, dot_scale _ (ginv_lt _), h a ha, zero_gmul]
    · exact h i hi
theorem dot_clear {m : List (List Nat)} {w a : Nat} (ha : a < m.length) (hb : Bytes m) (hw : Wid w m) {z : Nat → Nat} (hz : ∀ j, z j < 256) {i : Nat} (hi : i < m.length) (hia : i ≠ a) : dot (rowA (clearM a m) i) z = dot (rowA m i) z ^^^ gmul (ent m i a) (dot (rowA m a) z) := by
  rw [clear_row a hi]
  unfold clearR
  by_cases h0 : (rowA m i).getD a 0 = 0
  · rw [if_pos (.inr h0)]
    have e : ent m i a = 0 := h0
    rw [e, zero_gmul, Nat.xor_zero]
  · rw [if_neg (by rintro (h1 | h1); exact hia h1; exact h0 h1), addR]
    exact dot_addR _ (ent_lt hb i a) _ _ _ (hb _ (row_mem hi)) hz (by rw [hw _ hi, hw _ ha])
theorem ker_clear {m : List (List Nat)} {w a : Nat} (ha : a < m.length) (hb : Bytes m) (hw : Wid w m) {z : Nat → Nat} (hz : ∀ j, z j < 256) : Ker (clearM a m) z ↔ Ker m z := by
  have self : rowA (clearM a m) a = rowA m a := by rw [clear_row a ha, clearR, if_pos (.inl rfl)]
  constructor
  · intro h i hi
    have h1 := h i (by rw [clear_len]; exact hi)
    have h2 := h a (by rw [clear_len]; exact ha)
    rw [self] at h2
    by_cases e : i = a
    · subst e; exact h2
    · rw [dot_clear ha hb hw hz hi e, h2, gmul_zero, Nat.xor_zero] at h1
      exact h1
  · intro h i hi
    rw [clear_len] at hi
    by_cases e : i = a
    · subst e; rw [self]; exact h _ ha
    · rw [dot_clear ha hb hw hz hi e, h a ha, h i hi, gmul_zero, Nat.xor_zero]

theorem unit_step {m : List (List Nat)} {w a p : Nat} (hb : Bytes m) (hw : Wid w m) (hap : a ≤ p) (hp : p < m.length) (haw : a < w) (h0 : ent m p a ≠ 0) (hu : Unit m a) : Unit (clearM a (scaleM a (swapM m a p))) (a + 1) := by
  have ha : a < m.length := by omega
  have hl1 : (swapM m a p).length = m.length := swap_len _ _ _
  have hl2 : (scaleM a (swapM m a p)).length = m.length := by rw [scale_len, hl1]
  have hsa : sw a p a = p := by unfold sw; split <;> (try split) <;> omega
  have hpiv : ent (swapM m a p) a a ≠ 0 := by rw [ent_swap ha hp, hsa]; exact h0
  have hpl : ent (swapM m a p) a a < 256 := ent_lt (bytes_swap hb ha hp) _ _
  have hrow : ∀ j, j ≤ a → ent (scaleM a (swapM m a p)) a j = if a = j then 1 else 0 := by
    intro j hj
    rw [ent_scale (by omega), if_pos rfl]
    by_cases e : a = j
    · subst e; rw [if_pos rfl, gmul_inv hpl hpiv]
    · rw [if_neg e, ent_swap ha hp, hsa, hu p j hp (by omega), if_neg (by omega), zero_gmul]
  intro i j hi hj
  rw [clear_len, hl2] at hi
  rw [ent_clear (wid_scale (wid_swap hw ha hp) (by omega)) (by omega) (by omega) (by omega)]
  by_cases e : i = a
  · subst e; rw [if_pos rfl]; exact hrow j (by omega)
  · rw [if_neg e, hrow j (by omega)]
    by_cases e2 : a = j
    · subst e2
      rw [if_pos rfl, gmul_one (ent_lt (bytes_scale (bytes_swap hb ha hp) a) _ _), Nat.xor_self, if_neg e]
    · rw [if_neg e2, gmul_zero, Nat.xor_zero, ent_scale (by omega), if_neg e, ent_swap ha hp]
      have hs := sw_lt ha hp hi
      rw [hu _ j hs (by omega)]
      by_cases e3 : i = p
      · subst e3
        have : sw a i i = a := by unfold sw; rw [if_pos rfl]
        rw [this, if_neg (by omega), if_neg (by omega)]
      · have : sw a p i = i := by unfold sw; rw [if_neg e3, if_neg e]
        rw [this]

theorem gj_all {n w a : Nat} {m m' : List (List Nat)} (h : GJ n a m m') (hn : m.length = n) (hb : Bytes m) (hw : Wid w m) (haw : a ≤ w) (ha : a ≤ n) :
    m'.length = n ∧ Bytes m' ∧ Wid w m' ∧ Unit m' a ∧ ∀ z, (∀ j, z j < 256) → (Ker m' z ↔ Ker m z) := by
  induction h with
  | zero m => exact ⟨hn, hb, hw, fun i j _ hj => absurd hj (by omega), fun _ _ => Iff.rfl⟩
  | @succ a p m m' h h1 h2 h3 ih =>
    obtain ⟨i1, i2, i3, i4, i5⟩ := ih hn hb hw (by omega) (by omega)
    have ha' : a < m'.length := by omega
    have hp' : p < m'.length := by omega
    have b1 := bytes_swap i2 ha' hp'
    have w1 := wid_swap i3 ha' hp'
    have l1 : (swapM m' a p).length = n := by rw [swap_len]; exact i1
    have hsa : sw a p a = p := by unfold sw; split <;> (try split) <;> omega
    refine ⟨by rw [clear_len, scale_len]; exact l1, bytes_clear (bytes_scale b1 a) a, wid_clear (wid_scale w1 (by omega)) (by rw [scale_len]; omega), unit_step i2 i3 h1 hp' (by omega) h3 i4, fun z hz => ?_⟩
    rw [ker_clear (by rw [scale_len]; omega) (bytes_scale b1 a) (wid_scale w1 (by omega)) hz, ker_scale (by omega) b1 (by rw [ent_swap ha' hp', hsa]; exact h3), ker_swap ha' hp']
    exact i5 z hz

/-! ### what an inverse is -/
theorem xor_eq0 {a b : Nat} : a ^^^ b = 0 ↔ a = b := by
  constructor
  · intro h
    have := congrArg (fun t => t ^^^ b) h
    simpa [Nat.xor_assoc] using this
  · rintro rfl; exact Nat.xor_self a
theorem dot_congr : ∀ (l : List Nat) {z z' : Nat → Nat}, (∀ j, j < l.length → z j = z' j) → dot l z = dot l z'
  | [], _, _, _ => rfl
  | x :: l, z, z', h => by
    simp only [dot]
    rw [h 0 (by simp), dot_congr l fun j hj => h (j + 1) (by simpa using hj)]
/-- Q is what turns A about. -/
def Sol (n : Nat) (A Q : List (List Nat)) : Prop := ∀ x y : Nat → Nat, (∀ j, x j < 256) → (∀ j, y j < 256) → ((∀ i, i < n → dot (rowA A i) x = y i) ↔ ∀ i, i < n → x i = dot (rowA Q i) y)
/-- Something that is not nothing is sent to nothing. -/
def Sing (n : Nat) (A : List (List Nat)) : Prop := ∃ x : Nat → Nat, (∀ j, x j < 256) ∧ (∃ a, a < n ∧ x a = 1) ∧ ∀ i, i < n → dot (rowA A i) x = 0
def uv (i : Nat) : Nat → Nat := fun j => if j = i then 1 else 0
theorem uv_lt (i j : Nat) : uv i j < 256 := by unfold uv; split <;> omega
theorem dot_uv {l : List Nat} (hl : ∀ x ∈ l, x < 256) {i : Nat} (hi : i < l.length) : dot l (uv i) = l.getD i 0 := by
  rw [dot_one l (uv i) i hi fun j _ hj => by rw [uv, if_neg hj, gmul_zero], uv, if_pos rfl, gmul_one]
  rw [List.getD_eq_getElem?_getD, List.getElem?_eq_getElem hi]
  exact hl _ (List.getElem_mem hi)

theorem both_row {A : List (List Nat)} {i : Nat} (hi : i < A.length) : rowA (bothM A) i = rowA A i ++ idRow A.length i := by
  simp only [rowA, bothM, List.getD_eq_getElem?_getD, List.getElem?_map, List.getElem?_range hi, Option.map_some, Option.getD_some]
theorem both_len (A : List (List Nat)) : (bothM A).length = A.length := by simp [bothM]
theorem idRow_get {n i j : Nat} (hi : i < n) (hj : j < n) : (idRow n i).getD j 0 = if i = j then 1 else 0 := by
  simp only [idRow, List.getD_eq_getElem?_getD, List.getElem?_set, List.length_replicate, List.getElem?_replicate]
  by_cases h : i = j
  · subst h; rw [if_pos rfl, if_pos hi, if_pos rfl]; rfl
  · rw [if_neg h, if_pos hj, if_neg h]; rfl
theorem dot_idRow {n i : Nat} (hi : i < n) (y : Nat → Nat) (hy : y i < 256) : dot (idRow n i) y = y i := by
  rw [dot_one (idRow n i) y i (by rw [idRow_len]; exact hi) fun j hj hji => by rw [idRow_len] at hj; rw [idRow_get hi hj, if_neg (fun e => hji e.symm), zero_gmul], idRow_get hi hi, if_pos rfl, one_gmul hy]

def joinV (n : Nat) (x y : Nat → Nat) : Nat → Nat := fun j => if j < n then x j else y (j - n)
theorem joinV_lt {n : Nat} {x y : Nat → Nat} (hx : ∀ j, x j < 256) (hy : ∀ j, y j < 256) (j : Nat) : joinV n x y j < 256 := by unfold joinV; split; exact hx _; exact hy _
theorem dot_join {l l' : List Nat} {n : Nat} (hl : l.length = n) (x y : Nat → Nat) : dot (l ++ l') (joinV n x y) = dot l x ^^^ dot l' y := by
  rw [dot_append]
  congr 1
  · exact dot_congr _ fun j hj => by unfold joinV; rw [if_pos (by omega)]
  · congr 1
    funext j
    unfold joinV; rw [if_neg (by omega)]
    congr 1; omega

section
variable {n : Nat} {A : List (List Nat)} (hA : A.length = n) (hb : Bytes A) (hw : Wid n A)
include hA hb hw
theorem both_all : (bothM A).length = n ∧ Bytes (bothM A) ∧ Wid (2 * n) (bothM A) := by
  refine ⟨by rw [both_len, hA], bytes_both hb, fun i hi => ?_⟩
  rw [both_len] at hi
  rw [both_row hi, List.length_append, idRow_len, hw i hi]; omega
omit hb in
theorem ker_both {x y : Nat → Nat} (hy : ∀ j, y j < 256) : Ker (bothM A) (joinV n x y) ↔ ∀ i, i < n → dot (rowA A i) x = y i := by
  constructor
  · intro h i hi
    have := h i (by rw [both_len]; omega)
    rw [both_row (by omega), dot_join (hw i (by omega)), hA, dot_idRow hi _ (hy i)] at this
    exact xor_eq0.1 this
  · intro h i hi
    rw [both_len] at hi
    rw [both_row hi, dot_join (hw i hi), hA, dot_idRow (by omega) _ (hy i)]
    exact xor_eq0.2 (h i (by omega))

theorem gj_sol {m' : List (List Nat)} (h : GJ n n (bothM A) m') : Sol n A (m'.map (List.drop n)) := by
  obtain ⟨b1, b2, b3⟩ := both_all hA hb hw
  obtain ⟨c1, c2, c3, c4, c5⟩ := gj_all h b1 b2 b3 (by omega) (Nat.le_refl _)
  have hrow : ∀ i, i < n → rowA (m'.map (List.drop n)) i = (rowA m' i).drop n := by
    intro i hi
    simp only [rowA, List.getD_eq_getElem?_getD, List.getElem?_map]
    rw [List.getElem?_eq_getElem (by omega)]; rfl
  intro x y hx hy
  rw [← ker_both hA hw hy, ← c5 _ (joinV_lt hx hy)]
  have hd : ∀ i, i < n → dot (rowA m' i) (joinV n x y) = x i ^^^ dot (rowA (m'.map (List.drop n)) i) y := by
    intro i hi
    rw [hrow i hi]
    conv => lhs; rw [← List.take_append_drop n (rowA m' i)]
    have hl : ((rowA m' i).take n).length = n := by rw [List.length_take, c3 i (by omega)]; omega
    rw [dot_join hl]
    congr 1
    have hg : ∀ j, j < n → ((rowA m' i).take n).getD j 0 = if i = j then 1 else 0 := by
      intro j hj
      rw [← c4 i j (by omega) hj]
      simp only [List.getD_eq_getElem?_getD, List.getElem?_take, if_pos hj, ent, rowA]
    rw [dot_one _ x i (by omega) fun j hj hji => by rw [hl] at hj; rw [hg j hj, if_neg (fun e => hji e.symm), zero_gmul], hg i hi, if_pos rfl, one_gmul (hx i)]
  constructor
  · intro h i hi
    have := h i (by omega)
    rw [hd i hi] at this
    exact xor_eq0.1 this
  · intro h i hi
    rw [hd i (by omega)]
    exact xor_eq0.2 (h i (by omega))

theorem gj_sing {m' : List (List Nat)} {a : Nat} (h : GJ n a (bothM A) m') (ha : a < n) (hz : ∀ i, a ≤ i → i < n → ent m' i a = 0) : Sing n A := by
  obtain ⟨b1, b2, b3⟩ := both_all hA hb hw
  obtain ⟨c1, c2, c3, c4, c5⟩ := gj_all h b1 b2 b3 (by omega) (by omega)
  let x : Nat → Nat := fun j => if j < a then ent m' j a else if j = a then 1 else 0
  have hx : ∀ j, x j < 256 := by
    intro j
    show (if j < a then ent m' j a else if j = a then 1 else 0) < 256
    split
    · exact ent_lt c2 _ _
    · split <;> omega
  have h0 : ∀ j : Nat, (fun _ => 0 : Nat → Nat) j < 256 := fun _ => Nat.zero_lt_succ _
  refine ⟨x, hx, ⟨a, ha, by show (if a < a then ent m' a a else if a = a then 1 else 0) = 1; rw [if_neg (by omega), if_pos rfl]⟩, ?_⟩
  rw [← ker_both hA hw (y := fun _ => 0) h0, ← c5 _ (joinV_lt hx h0)]
  intro i hi
  have hl := c3 i hi
  have hge : ∀ j, (rowA m' i).getD j 0 = ent m' i j := fun j => rfl
  have jl : ∀ j, joinV n x (fun _ => 0) j = if j < a then ent m' j a else if j = a then 1 else 0 := by
    intro j
    unfold joinV
    by_cases hj : j < n
    · rw [if_pos hj]
    · rw [if_neg hj, if_neg (by omega), if_neg (by omega)]
  have hoff : ∀ j, j < a → j ≠ i → gmul (ent m' i j) (joinV n x (fun _ => 0) j) = 0 := by
    intro j hj hji
    rw [c4 i j hi hj, if_neg (fun e => hji e.symm), zero_gmul]
  have hout : ∀ j, a < j → gmul (ent m' i j) (joinV n x (fun _ => 0) j) = 0 := by
    intro j hj
    rw [jl, if_neg (by omega), if_neg (by omega), gmul_zero]
  by_cases hia : i < a
  · rw [dot_two _ _ i a (by omega) (by omega) hia fun j _ hji hja => by
      rw [hge]
      rcases Nat.lt_or_gt_of_ne hja with h | h
      · exact hoff j h hji
      · exact hout j h]
    rw [hge, hge, c4 i i hi hia, if_pos rfl, jl, jl, if_pos hia, if_neg (by omega), if_pos rfl, one_gmul (ent_lt c2 _ _), gmul_one (ent_lt c2 _ _), Nat.xor_self]
  · refine dot_zero _ _ fun j _ => ?_
    rw [hge]
    rcases Nat.lt_trichotomy j a with h | h | h
    · exact hoff j h (by omega)
    · subst h; rw [hz i (by omega) (by omega), zero_gmul]
    · exact hout j h
end

/-! ### rows alike, rows of nothing, rows that change places -/
theorem sol_hits {n : Nat} {A Q : List (List Nat)} (h : Sol n A Q) (y : Nat → Nat) (hy : ∀ j, y j < 256) : ∃ x : Nat → Nat, (∀ j, x j < 256) ∧ ∀ i, i < n → dot (rowA A i) x = y i := by
  refine ⟨fun i => dot (rowA Q i) y, fun i => dot_lt _ _, ?_⟩
  exact (h _ y (fun i => dot_lt _ _) hy).2 fun i _ => rfl
theorem alike_not {n : Nat} {B Q : List (List Nat)} {i k : Nat} (hi : i < n) (hk : k < n) (hik : i ≠ k) (h : rowA B i = rowA B k) : ¬ Sol n B Q := by
  intro hs
  obtain ⟨x, _, hx⟩ := sol_hits hs (uv i) (uv_lt i)
  have h1 := hx i hi
  have h2 := hx k hk
  rw [h, h2] at h1
  unfold uv at h1
  rw [if_neg (fun e : k = i => hik e.symm), if_pos rfl] at h1
  cases h1
theorem zero_not {n c : Nat} {B Q : List (List Nat)} {k : Nat} (hk : k < n) (h : rowA B k = List.replicate c 0) : ¬ Sol n B Q := by
  intro hs
  obtain ⟨x, _, hx⟩ := sol_hits hs (uv k) (uv_lt k)
  have h1 := hx k hk
  rw [h, dot_zero] at h1
  · simp [uv] at h1
  · intro j hj
    rw [List.getD_eq_getElem?_getD, List.getElem?_replicate]
    split <;> simp [zero_gmul]
theorem sol_sing {n : Nat} {A Q : List (List Nat)} (h : Sol n A Q) : ¬ Sing n A := by
  rintro ⟨x, hx, ⟨a, ha, h1⟩, h0⟩
  have := (h x (fun _ => 0) hx (fun _ => Nat.zero_lt_succ _)).1 h0 a ha
  rw [h1, dot_zero _ _ fun j _ => gmul_zero _] at this
  cases this
theorem sing_swap {n i k : Nat} {A D : List (List Nat)} (hi : i < n) (hk : k < n) (hr : ∀ r, rowA D r = rowA A (sw i k r)) (h : Sing n D) : Sing n A := by
  obtain ⟨x, hx, ha, h0⟩ := h
  refine ⟨x, hx, ha, fun r hr' => ?_⟩
  have := h0 (sw i k r) (sw_lt hi hk hr')
  rwa [hr, sw_sw] at this
theorem sol_swap {n i k : Nat} {A D Q R : List (List Nat)} (hi : i < n) (hk : k < n) (hr : ∀ r, rowA D r = rowA A (sw i k r)) (hQ : Sol n A Q) (hR : Sol n D R) (bQ : Bytes Q) (bR : Bytes R) (lQ : Q.length = n) (lR : R.length = n) (wQ : Wid n Q) (wR : Wid n R) {r c : Nat} (hrn : r < n) (hc : c < n) : (rowA R r).getD c 0 = (rowA Q r).getD (sw i k c) 0 := by
  have hsc := sw_lt hi hk hc
  rw [← dot_uv (bR _ (row_mem (by omega))) (i := c) (by rw [wR r (by omega)]; exact hc), ← dot_uv (bQ _ (row_mem (by omega))) (i := sw i k c) (by rw [wQ r (by omega)]; exact hsc)]
  let x : Nat → Nat := fun j => dot (rowA R j) (uv c)
  have h1 : ∀ j, j < n → dot (rowA D j) x = uv c j := (hR x (uv c) (fun _ => dot_lt _ _) (uv_lt c)).2 fun _ _ => rfl
  have h2 : ∀ j, j < n → dot (rowA A j) x = uv (sw i k c) j := by
    intro j hj
    have := h1 (sw i k j) (sw_lt hi hk hj)
    rw [hr, sw_sw] at this
    rw [this]
    unfold uv
    by_cases e : j = sw i k c
    · subst e; rw [sw_sw, if_pos rfl, if_pos rfl]
    · rw [if_neg e, if_neg (fun e2 => e (by rw [← e2, sw_sw]))]
  exact (hQ x (uv (sw i k c)) (fun _ => dot_lt _ _) (uv_lt _)).1 h2 r hrn
end Go.Corb.A

/- The contract of of. Conditions: none. -/
set_option linter.unusedVariables false
set_option linter.unusedSimpArgs false
namespace Go.Corb.A
open Go Go.RowKit Go.Proofs Go.Corb Go.IntWalk

theorem u8_byte (x : Int) : ∃ b : Nat, b < 256 ∧ IntKind.u8.wrap x = (b : Int) := by
  refine ⟨(x % 256).toNat, ?_, ?_⟩
  · have := Int.emod_lt_of_pos x (show (0 : Int) < 256 by omega)
    have := Int.emod_nonneg x (show (256 : Int) ≠ 0 by omega)
    omega
  · have h2 := Int.emod_nonneg x (show (256 : Int) ≠ 0 by omega)
    rw [Int.toNat_of_nonneg h2]
    simp [IntKind.wrap, IntKind.signed, IntKind.bits]

theorem whole_one (w : Nat) (rs : List Nat) : (rs.map (whole · w)).all (·.oneCell') = true := by
  rw [List.all_eq_true]; intro x hx
  obtain ⟨n, _, rfl⟩ := List.mem_map.1 hx
  rfl

section
variable {Base : CallRel}
set_option pp.deepTerms.threshold 12

theorem of (hC : CProp (ACall Try.prog Base)) {rows cols : Nat} (hr : 1 ≤ rows) (hr' : rows ≤ 64) (hc : 1 ≤ cols) (hc' : cols ≤ 64) {vl : Value} {l : List Int} {σ : AS} (hσ : Ok σ) (hl : SlAt σ vl (l.map fun x => .int .i64 x)) {Q : Value → AS → Prop}
    (kQ : ∀ σ' v m, Mem σ σ' → MatAt σ' v m → m.length = rows → (∀ r ∈ m, r.length = cols) → Bytes m → Q v σ') :
    ∃ v σ', ACall Try.prog Base 12 [.int .i64 rows, .int .i64 cols, vl] σ v σ' ∧ Q v σ' := by
  obtain ⟨a0, cap0, rfl⟩ := hl.shape
  rw [List.length_map] at hl ⊢
  refine call_rwp hC cf12 rfl hσ.wf ?_
  conv => whnf
  refine loop_intro (n := 61) (fun kk ws τ => ∃ (i : Nat) (rs : List Nat) (m : List (List Nat)) (ov : Value), i ≤ rows ∧ kk = rows - i ∧ ws = [vi rows, vi cols, .slice a0 l.length cap0, ov, vi i] ∧ Mem σ τ ∧ rs.length = i ∧ m.length = i ∧ Growing σ τ ov (rs.map (whole · cols)) ∧ (∀ r ∈ m, r.length = cols) ∧ Bytes m ∧
      (∀ j (h : j < rs.length), headOf ov ≠ some rs[j] ∧ σ.next ≤ rs[j] ∧ τ.heap rs[j] = some (.cells ((m.getD j []).map vb) false))) rows rfl ?_ ?_
  · conv => whnf
    refine ⟨0, [], [], _, by omega, rfl, rfl, ?_, rfl, rfl, .inl ⟨rfl, rfl⟩, by simp, fun l hl => absurd hl (by simp), fun j h => absurd h (by simp)⟩
    repeat first | exact Mem.refl hσ | apply Mem.bump | refine Mem.put ?_ (by (try simp only [bump_next, put_next]); omega) (by (try simp only [bump_next, put_next]); omega)
  · rintro mm ws τ ⟨i, rs, m, ov, hi, rfl, rfl, g, hrs, hm, hG, hml, hmb, hrs2⟩
    obtain ⟨oa, on, oc, rfl⟩ : ∃ a b c, ov = .slice a b c := by
      rcases hG with ⟨_, rfl⟩ | ⟨h, _, rfl, _⟩
      · exact ⟨_, _, _, rfl⟩
      · exact ⟨_, _, _, rfl⟩
    have hnx := g.next
    conv => whnf
    refine br_intro ?_ ?_ <;> intro h1 <;> simp only [blt_dec, ble_dec, beq_dec, ltB_eq, leB_eq, decide_eq_true_eq, decide_eq_false_iff_not, beq_iff_eq, bne_iff_ne, beq_eq_false_iff_ne, bne_eq_false_iff_eq] at h1
    · conv => whnf
      repeat (first | (refine br_true (inR_intro (by simp only [loI, hiI]; omega)) ?_; conv => whnf) | (refine br_true (by simp only [blt_dec, ble_dec, beq_dec, ltB_eq, leB_eq, decide_eq_true_eq, decide_eq_false_iff_not, Bool.and_eq_true, Bool.or_eq_true, beq_iff_eq, bne_iff_ne, beq_eq_false_iff_ne, bne_eq_false_iff_eq]; first | done | omega) ?_; conv => whnf))
      refine loop_intro (n := 61) (fun kk ws τ' => ∃ (k : Nat) (row : List Nat), k ≤ cols ∧ kk = cols - k ∧ ws = [vi rows, vi cols, .slice a0 l.length cap0, .slice oa on oc, vi i, whole (τ.next + 3 + 1) cols, vi k] ∧ Mem τ τ' ∧ τ'.heap (τ.next + 3 + 1) = some (.cells (row.map vb) false) ∧ row.length = cols ∧ ∀ x ∈ row, x < 256) cols rfl ?_ ?_
      · conv => whnf
        refine ⟨0, List.replicate cols 0, by omega, rfl, rfl, ?_, ?_, by simp, fun x hx => by have := List.eq_of_mem_replicate hx; omega⟩
        · repeat first | exact Mem.refl g.ok | apply Mem.bump | refine Mem.put ?_ (by (try simp only [bump_next, put_next]); omega) (by (try simp only [bump_next, put_next]); omega)
        · refine (put_heap_eq _ _ _).trans ?_
          rw [zrow_rep, List.map_replicate]; rfl
      · rintro mm ws τ2 ⟨k, row, hk, rfl, rfl, g2, hh, hrl, hrb⟩
        have g3 := g.trans g2
        have hNl := g2.ok.lt hh
        have hnx2 := g2.next
        conv => whnf
        refine br_intro ?_ ?_ <;> intro h2 <;> simp only [blt_dec, ble_dec, beq_dec, ltB_eq, leB_eq, decide_eq_true_eq, decide_eq_false_iff_not, beq_iff_eq, bne_iff_ne, beq_eq_false_iff_ne, bne_eq_false_iff_eq] at h2
        · conv => whnf
          have hk0 : k < cols := by omega
          have hp : i * cols ≤ 64 * 64 := Nat.mul_le_mul (by omega) hc'
          rw [show (i : Int) * (cols : Int) = ((i * cols : Nat) : Int) from (Int.natCast_mul ..).symm]
          generalize hqq : i * cols = q at hp
          repeat (first | (refine br_true (inR_intro (by simp only [loI, hiI]; omega)) ?_; conv => whnf) | (refine br_true (by simp only [blt_dec, ble_dec, beq_dec, ltB_eq, leB_eq, decide_eq_true_eq, decide_eq_false_iff_not, Bool.and_eq_true, Bool.or_eq_true, beq_iff_eq, bne_iff_ne, beq_eq_false_iff_ne, bne_eq_false_iff_eq]; first | done | omega) ?_; conv => whnf))
          refine br_intro ?_ ?_ <;> intro h3 <;> simp only [blt_dec, ble_dec, beq_dec, ltB_eq, leB_eq, decide_eq_true_eq, decide_eq_false_iff_not, beq_iff_eq, bne_iff_ne, beq_eq_false_iff_ne, bne_eq_false_iff_eq] at h3
          · conv => whnf
            obtain ⟨r1, o1, sp1, c1, ro1, rfl, hr1, hci, _⟩ := hl.idx (i := q + k) (by rw [List.length_map]; omega)
            rw [List.getElem_map] at hci
            generalize l[q + k]'(by omega) = x at hci
            obtain ⟨b, hb, hbx⟩ := u8_byte x
            repeat (first | (refine br_true (inR_intro (by simp only [loI, hiI]; omega)) ?_; conv => whnf) | (refine br_true (by simp only [blt_dec, ble_dec, beq_dec, ltB_eq, leB_eq, decide_eq_true_eq, decide_eq_false_iff_not, Bool.and_eq_true, Bool.or_eq_true, beq_iff_eq, bne_iff_ne, beq_eq_false_iff_ne, bne_eq_false_iff_eq]; first | done | omega) ?_; conv => whnf))
            refine ld_intro (g3.old hσ hr1) ?_
            conv => whnf
            refine at_intro hci ?_
            conv => whnf
            rw [lock_eq, hbx]
            repeat (first | (refine br_true (inR_intro (by simp only [loI, hiI]; omega)) ?_; conv => whnf) | (refine br_true (by simp only [blt_dec, ble_dec, beq_dec, ltB_eq, leB_eq, decide_eq_true_eq, decide_eq_false_iff_not, Bool.and_eq_true, Bool.or_eq_true, beq_iff_eq, bne_iff_ne, beq_eq_false_iff_ne, bne_eq_false_iff_eq]; first | done | omega) ?_; conv => whnf))
            refine wr_intro hh (g2.noprot g.ok (by omega)) ?_
            conv => whnf
            repeat (first | (refine br_true (inR_intro (by simp only [loI, hiI]; omega)) ?_; conv => whnf) | (refine br_true (by simp only [blt_dec, ble_dec, beq_dec, ltB_eq, leB_eq, decide_eq_true_eq, decide_eq_false_iff_not, Bool.and_eq_true, Bool.or_eq_true, beq_iff_eq, bne_iff_ne, beq_eq_false_iff_ne, bne_eq_false_iff_eq, List.length_map]; first | done | omega) ?_; conv => whnf))
            refine ld_intro (Mem.old (σ := τ) g.ok (by repeat first | exact g2 | apply Mem.bump | refine Mem.put ?_ (by (try simp only [bump_next, put_next]); omega) (by (try simp only [bump_next, put_next]); omega)) (g.old hσ hr1)) ?_
            conv => whnf
            refine at_intro hci ?_
            conv => whnf
            have e0 : 0 + k * 1 = k := by omega
            rw [show ((b : Nat) : Int) = ((b : Nat) : Int) from rfl, e0, wr_one _ _ _ (by rw [List.length_map]; omega)]
            have hset : ∀ b : Nat, (row.map vb).set k (vb b) = (row.set k b).map vb := fun b => by rw [List.map_set]
            have hbs : ∀ b : Nat, b < 256 → ∀ x ∈ row.set k b, x < 256 := fun b hb x hx => by
              rcases List.mem_or_eq_of_mem_set hx with h | rfl
              · exact hrb _ h
              · exact hb
            refine br_intro ?_ ?_ <;> intro h5
            · conv => whnf
              repeat (first | (refine br_true (inR_intro (by simp only [loI, hiI]; omega)) ?_; conv => whnf) | (refine br_true (by simp only [blt_dec, ble_dec, beq_dec, ltB_eq, leB_eq, decide_eq_true_eq, decide_eq_false_iff_not, Bool.and_eq_true, Bool.or_eq_true, beq_iff_eq, bne_iff_ne, beq_eq_false_iff_ne, bne_eq_false_iff_eq]; first | done | omega) ?_; conv => whnf))
              refine ld_intro (Mem.old (σ := τ) g.ok (by repeat first | exact g2 | apply Mem.bump | refine Mem.put ?_ (by (try simp only [bump_next, put_next]); omega) (by (try simp only [bump_next, put_next]); omega)) (g.old hσ hr1)) ?_
              conv => whnf
              refine at_intro hci ?_
              conv => whnf
              refine pick hC (m := 2) (by omega) (by omega) (Mem.ok (σ := τ) ?_) ?_
              · repeat first | exact g2 | apply Mem.bump | refine Mem.put ?_ (by (try simp only [bump_next, put_next]); omega) (by (try simp only [bump_next, put_next]); omega)
              intro τ3 g4
              have g5 : Mem τ τ3 := Mem.trans (by repeat first | exact g2 | apply Mem.bump | refine Mem.put ?_ (by (try simp only [bump_next, put_next]); omega) (by (try simp only [bump_next, put_next]); omega)) g4
              have hh3 := g4.old (Mem.ok (σ := τ) (by repeat first | exact g2 | apply Mem.bump | refine Mem.put ?_ (by (try simp only [bump_next, put_next]); omega) (by (try simp only [bump_next, put_next]); omega))) (put_heap_eq _ _ _)
              have hN3 := g4.ok.lt hh3
              obtain ⟨b2, hb2, hbx2⟩ := u8_byte (x % 2)
              conv => whnf
              repeat (first | (refine br_true (inR_intro (by simp only [loI, hiI]; omega)) ?_; conv => whnf) | (refine br_true (by simp only [blt_dec, ble_dec, beq_dec, ltB_eq, leB_eq, decide_eq_true_eq, decide_eq_false_iff_not, Bool.and_eq_true, Bool.or_eq_true, beq_iff_eq, bne_iff_ne, beq_eq_false_iff_ne, bne_eq_false_iff_eq]; first | done | omega) ?_; conv => whnf))
              refine wr_intro hh3 (g5.noprot g.ok (by omega)) ?_
              conv => whnf
              repeat (first | (refine br_true (inR_intro (by simp only [loI, hiI]; omega)) ?_; conv => whnf) | (refine br_true (by simp only [blt_dec, ble_dec, beq_dec, ltB_eq, leB_eq, decide_eq_true_eq, decide_eq_false_iff_not, Bool.and_eq_true, Bool.or_eq_true, beq_iff_eq, bne_iff_ne, beq_eq_false_iff_ne, bne_eq_false_iff_eq, List.length_map, List.length_set]; first | done | omega) ?_; conv => whnf))
              rw [lock_eq, hbx2, e0, wr_one _ _ _ (by rw [List.length_set, List.length_map]; omega), List.set_set]
              refine ⟨rfl, cols - (k + 1), by omega, k + 1, row.set k b2, by omega, rfl, rfl, ?_, ?_, by rw [List.length_set]; exact hrl, hbs b2 hb2⟩
              · repeat first | exact g5 | apply Mem.bump | refine Mem.put ?_ (by (try simp only [bump_next, put_next]); omega) (by (try simp only [bump_next, put_next]); omega)
              · refine (put_heap_eq _ _ _).trans ?_
                exact congrArg (fun c => some (AObj.cells c false)) (hset b2)
            · conv => whnf
              repeat (first | (refine br_true (inR_intro (by simp only [loI, hiI]; omega)) ?_; conv => whnf) | (refine br_true (by simp only [blt_dec, ble_dec, beq_dec, ltB_eq, leB_eq, decide_eq_true_eq, decide_eq_false_iff_not, Bool.and_eq_true, Bool.or_eq_true, beq_iff_eq, bne_iff_ne, beq_eq_false_iff_ne, bne_eq_false_iff_eq]; first | done | omega) ?_; conv => whnf))
              refine ⟨rfl, cols - (k + 1), by omega, k + 1, row.set k b, by omega, rfl, rfl, ?_, ?_, by rw [List.length_set]; exact hrl, hbs b hb⟩
              · repeat first | exact g2 | apply Mem.bump | refine Mem.put ?_ (by (try simp only [bump_next, put_next]); omega) (by (try simp only [bump_next, put_next]); omega)
              · refine (put_heap_eq _ _ _).trans ?_
                exact congrArg (fun c => some (AObj.cells c false)) (hset b)
          · conv => whnf
            repeat (first | (refine br_true (inR_intro (by simp only [loI, hiI]; omega)) ?_; conv => whnf) | (refine br_true (by simp only [blt_dec, ble_dec, beq_dec, ltB_eq, leB_eq, decide_eq_true_eq, decide_eq_false_iff_not, Bool.and_eq_true, Bool.or_eq_true, beq_iff_eq, bne_iff_ne, beq_eq_false_iff_ne, bne_eq_false_iff_eq]; first | done | omega) ?_; conv => whnf))
            refine ⟨rfl, cols - (k + 1), by omega, k + 1, row, by omega, rfl, rfl, ?_, ?_, hrl, hrb⟩
            · repeat first | exact g2 | apply Mem.bump | refine Mem.put ?_ (by (try simp only [bump_next, put_next]); omega) (by (try simp only [bump_next, put_next]); omega)
            · exact hh
        · conv => whnf
          obtain rfl : k = cols := by omega
          obtain ⟨τ6, hap, g10, hn6, hnx6, hfr6⟩ := app_growing (τ := ((τ2.bump 3).bump 5).put (τ2.next + 3 + 2) (.cells [whole (τ.next + 3 + 1) k] false)) (N := τ2.next + 3 + 3) (bytes := 24) (x := .slice (some ⟨τ2.next + 3 + 2, 0, none⟩) 1 1) (news := [whole (τ.next + 3 + 1) k]) hσ (by repeat first | exact g3 | apply Mem.bump | refine Mem.put ?_ (by (try simp only [bump_next, put_next]); omega) (by (try simp only [bump_next, put_next]); omega)) (hG.mono g.ok (by repeat first | exact g2 | apply Mem.bump | refine Mem.put ?_ (by (try simp only [bump_next, put_next]); omega) (by (try simp only [bump_next, put_next]); omega))) (by omega) (by simp only [put_next, bump_next]; omega) (SlAt.mk (put_heap_eq _ _ _) rfl rfl) rfl (whole_one _ _) (by simp) (by simp [hrs]; omega)
          refine ⟨_, _, hap, ?_⟩
          simp only [put_next, bump_next] at hnx6
          conv => whnf
          repeat (first | (refine br_true (inR_intro (by simp only [loI, hiI]; omega)) ?_; conv => whnf) | (refine br_true (by simp only [blt_dec, ble_dec, beq_dec, ltB_eq, leB_eq, decide_eq_true_eq, decide_eq_false_iff_not, Bool.and_eq_true, Bool.or_eq_true, beq_iff_eq, bne_iff_ne, beq_eq_false_iff_ne, bne_eq_false_iff_eq]; first | done | omega) ?_; conv => whnf))
          have hqn : ∀ j (h : j < rs.length), rs[j] < τ.next := fun j h => g.ok.lt (hrs2 j h).2.2
          refine ⟨rfl, rows - (i + 1), by omega, i + 1, rs ++ [τ.next + 3 + 1], m ++ [row], _, by omega, rfl, rfl, ?_, by simp [hrs], by simp [hm], ?_, ?_, ?_, ?_⟩
          · repeat first | exact g10 | apply Mem.bump | refine Mem.put ?_ (by (try simp only [bump_next, put_next]); omega) (by (try simp only [bump_next, put_next]); omega)
          · refine .inr ⟨τ2.next + 3 + 3, by omega, ?_, ?_⟩
            · simp only [List.map_append, List.map_cons, List.map_nil, List.length_append, List.length_map, List.length_cons, List.length_nil]
            · rw [List.map_append]; exact hn6
          · intro r hr
            rcases List.mem_append.1 hr with h | h
            · exact hml r h
            · rw [List.mem_singleton.1 h]; exact hrl
          · intro r hr
            rcases List.mem_append.1 hr with h | h
            · exact hmb r h
            · rw [List.mem_singleton.1 h]; exact hrb
          · intro j hj
            have hj' : j < rs.length + 1 := by simpa using hj
            by_cases hji : j < rs.length
            · rw [List.getElem_append_left hji]
              obtain ⟨q1, q2, q3⟩ := hrs2 j hji
              have q4 := hqn j hji
              have e1 : (m ++ [row]).getD j [] = m.getD j [] := by rw [List.getD_eq_getElem?_getD, List.getD_eq_getElem?_getD, List.getElem?_append_left (by omega)]
              rw [e1]
              refine ⟨?_, q2, ?_⟩
              · intro e
                have e : τ2.next + 3 + 3 = rs[j] := by injection e
                omega
              · rw [bump_heap, hfr6 _ (by omega) q1, put_heap_ne (by omega)]
                exact (g2.grow.heap _ q4).trans q3
            · obtain rfl : j = rs.length := by omega
              rw [List.getElem_append_right (by omega)]
              simp only [Nat.sub_self, List.getElem_cons_zero]
              have e1 : (m ++ [row]).getD rs.length [] = row := by rw [List.getD_eq_getElem?_getD, List.getElem?_append_right (by omega), hrs, hm, Nat.sub_self]; rfl
              rw [e1]
              refine ⟨?_, by omega, ?_⟩
              · intro e
                have e : τ2.next + 3 + 3 = τ.next + 3 + 1 := by injection e
                omega
              · rw [bump_heap, hfr6 _ (by omega) ?_, put_heap_ne (by omega)]
                · exact hh
                · rcases hG with ⟨_, e⟩ | ⟨h, _, e, eh⟩
                  · rw [e]; intro e; cases e
                  · rw [e]; intro e
                    have e : h = τ.next + 3 + 1 := by injection e
                    have := g.ok.lt eh
                    omega
    · conv => whnf
      obtain rfl : i = rows := by omega
      refine kQ _ _ m ?_ ?_ hm hml hmb
      · repeat first | exact g | apply Mem.bump | refine Mem.put ?_ (by (try simp only [bump_next, put_next]); omega) (by (try simp only [bump_next, put_next]); omega)
      · refine ⟨rs.map (whole · cols), hG.at, by simp; omega, ?_⟩
        intro j h1 h2
        rw [List.length_map] at h1
        obtain ⟨_, _, q3⟩ := hrs2 j h1
        have e1 : m.getD j [] = m[j] := by rw [List.getD_eq_getElem?_getD, List.getElem?_eq_getElem h2]; rfl
        rw [e1] at q3
        rw [List.getElem_map]
        exact SlAt.mk q3 (by rw [List.length_map, hml _ (List.getElem_mem h2)]) (by rw [List.drop_zero, List.take_length])
end
end Go.Corb.A
