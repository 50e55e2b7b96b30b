/- YtlpkklcjdolaiaaQCoderKnown5: the law CoderKnown, and what it rests on: part of our own texts, merged. Conditions: none. -/
import Derived.Test.YtlpkklcjdolaiaaQCoderKnown4
import Derived.RangeFuncBox
import Derived.RangeFuncLeaves
import Derived.Shelf.Abstract
import Derived.WalkKit
import Derived.OwnWalkIn
import Derived.TacticsInMore
import Derived.LoopNIn
import Derived.LoopIn
import Derived.Maps.AppendAt
import Derived.Lib.Hide
import Derived.Test.YtlpkklcjdolaiaaProg
import Derived.SizedLaws
import Derived.ChangeSlices
/- The contracts of row and Mul. Conditions: none. -/
set_option linter.unusedVariables false
set_option linter.unusedSimpArgs false
namespace Go.Corb.A
open Go Go.RowKit Go.Proofs Go.Corb Go.IntWalk

def rowTo (a : List Nat) (b : List (List Nat)) (w : Nat) : Nat → List Nat
  | 0 => List.replicate w 0
  | k + 1 => addR (a.getD k 0) (b.getD k []) (rowTo a b w k)
def mulM (a b : List (List Nat)) : List (List Nat) := a.map fun r => rowTo r b (b.getD 0 []).length r.length

theorem rowTo_len {a : List Nat} {b : List (List Nat)} {w : Nat} (hw : ∀ r ∈ b, r.length = w) : ∀ k, k ≤ b.length → (rowTo a b w k).length = w
  | 0, _ => List.length_replicate ..
  | k + 1, h => by
    have hk : k < b.length := by omega
    have e : (b.getD k []).length = w := by rw [List.getD_eq_getElem?_getD, List.getElem?_eq_getElem hk]; exact hw _ (List.getElem_mem _)
    simp only [rowTo, addR, List.length_zipWith, rowTo_len hw k (by omega), e, Nat.min_self]
theorem addR_bytes {t : Nat} {p l : List Nat} (hl : ∀ x ∈ l, x < 256) : ∀ x ∈ addR t p l, x < 256 := by
  intro x hx
  obtain ⟨j, hj, rfl⟩ := List.getElem_of_mem hx
  simp only [addR, List.getElem_zipWith]
  exact xor_lt8 (hl _ (List.getElem_mem _)) (gmul_lt _ _)
theorem rowTo_bytes {a : List Nat} {b : List (List Nat)} {w : Nat} : ∀ k, ∀ x ∈ rowTo a b w k, x < 256
  | 0, x, hx => by have := List.eq_of_mem_replicate hx; omega
  | k + 1, x, hx => addR_bytes (rowTo_bytes k) x hx
theorem addTo_bytes {t : Nat} {p l : List Nat} (i : Nat) (hl : ∀ x ∈ l, x < 256) : ∀ x ∈ addTo t p i l, x < 256 := by
  intro x hx
  rcases List.mem_append.1 hx with h | h
  · exact addR_bytes hl x (List.mem_of_mem_take h)
  · exact hl x (List.mem_of_mem_drop h)
theorem getD_lt {l : List Nat} (hl : ∀ x ∈ l, x < 256) (i : Nat) : l.getD i 0 < 256 := by
  rw [List.getD_eq_getElem?_getD]
  cases h : l[i]? with
  | none => exact Nat.zero_lt_succ _
  | some x => exact hl x (List.mem_of_getElem? h)

theorem _root_.Go.Corb.Mem.put_wp {σ τ : AS} (m : Mem σ τ) {r : Nat} {o : AObj} {p : Nat → Bool} (h1 : σ.next ≤ r) (h2 : r < τ.next) : Mem σ (((τ.wp p).put r o).wp τ.prot) := m.upd (r := r) (o := o) h1 h2 ⟨put_heap_eq _ _ _, fun q h => put_heap_ne h, rfl, rfl⟩

section
variable {Base : CallRel}
set_option pp.deepTerms.threshold 8

theorem row (hC : CProp (ACall Try.prog Base)) {rf : Nat} {rof : Bool} {va vm : Value} {a : List Nat} {b : List (List Nat)} {w : Nat} (ha : a.length = b.length) (hb0 : 0 < b.length) (hbl : b.length < 2 ^ 30) (hw : ∀ r ∈ b, r.length = w) (hw' : w < 2 ^ 30) (hab : ∀ x ∈ a, x < 256) (hbb : Bytes b)
    {σ : AS} (hσ : Ok σ) (hf : σ.heap rf = some (.cells fieldCells rof)) (hva : SlAt σ va (a.map vb)) (hvm : MatAt σ vm b) {Q : Value → AS → Prop}
    (kQ : ∀ σ' r, Mem σ σ' → σ.next ≤ r → σ'.heap r = some (.cells ((rowTo a b w a.length).map vb) false) → Q (whole r w) σ') :
    ∃ v σ', ACall Try.prog Base 47 [.pointer (some ⟨rf, 0, none⟩), va, vm] σ v σ' ∧ Q v σ' := by
  obtain ⟨a0, cap0, rfl⟩ := hva.shape
  obtain ⟨vs, hs, hl, hrows⟩ := hvm
  obtain ⟨m0, cap1, rfl⟩ := hs.shape
  have hbw : ∀ k, k < b.length → (b.getD k []).length = w := fun k hk => by rw [List.getD_eq_getElem?_getD, List.getElem?_eq_getElem hk]; exact hw _ (List.getElem_mem _)
  have hrow : ∀ k (hk : k < b.length), ∃ r o sp c ro ra rcap, m0 = some ⟨r, o, sp⟩ ∧ σ.heap r = some (.cells c ro) ∧ c[o + k * 1]? = some (.slice ra w rcap) ∧ SlAt σ (.slice ra w rcap) ((b.getD k []).map vb) := by
    intro k hk
    obtain ⟨r, o, sp, c, ro, h1, h2, h3, _⟩ := hs.idx (i := k) (by omega)
    have h4 := hrows k (by omega) hk
    obtain ⟨ra, rcap, h5⟩ := h4.shape
    have e : b.getD k [] = b[k] := by rw [List.getD_eq_getElem?_getD, List.getElem?_eq_getElem hk]; rfl
    rw [h5] at h3 h4
    rw [List.length_map, hw _ (List.getElem_mem hk)] at h3 h4
    exact ⟨r, o, sp, c, ro, ra, rcap, h1, h2, h3, by rw [e]; exact h4⟩
  rw [List.length_map] at hva ⊢
  obtain ⟨r, o, sp, c, ro, ra, rcap, rfl, hr, hci, _⟩ := hrow 0 hb0
  refine call_rwp hC cf47 rfl hσ.wf ?_
  conv => whnf
  repeat (first | (refine br_true (inR_intro (by simp only [loI, hiI]; omega)) ?_; conv => whnf) | (refine br_true (by simp only [blt_dec, ble_dec, beq_dec, ltB_eq, leB_eq, decide_eq_true_eq, decide_eq_false_iff_not, Bool.and_eq_true, Bool.or_eq_true, beq_iff_eq, bne_iff_ne, beq_eq_false_iff_ne, bne_eq_false_iff_eq]; first | done | omega) ?_; conv => whnf))
  refine ld_intro hr ?_
  conv => whnf
  refine at_intro hci ?_
  conv => whnf
  repeat (first | (refine br_true (inR_intro (by simp only [loI, hiI]; omega)) ?_; conv => whnf) | (refine br_true (by simp only [blt_dec, ble_dec, beq_dec, ltB_eq, leB_eq, decide_eq_true_eq, decide_eq_false_iff_not, Bool.and_eq_true, Bool.or_eq_true, beq_iff_eq, bne_iff_ne, beq_eq_false_iff_ne, bne_eq_false_iff_eq]; first | done | omega) ?_; conv => whnf))
  refine loop_intro (n := 50) (fun kk ws τ => ∃ k, k ≤ a.length ∧ kk = a.length - k ∧ ws = [.pointer (some ⟨rf, 0, none⟩), .slice (some ⟨r, o, sp⟩) vs.length cap1, whole (σ.next + 1 + 4) w, .slice a0 a.length cap0, vi a.length, vi k] ∧ Mem σ τ ∧ τ.heap (σ.next + 1 + 4) = some (.cells ((rowTo a b w k).map vb) false)) a.length rfl ?_ ?_
  · conv => whnf
    refine ⟨0, by omega, rfl, rfl, ?_, ?_⟩
    · repeat first | exact Mem.refl hσ | apply Mem.bump | refine Mem.put ?_ (by (try simp only [bump_next, put_next]); omega) (by (try simp only [bump_next, put_next]); omega)
    · refine (put_heap_eq _ _ _).trans ?_
      rw [zrow_rep, rowTo, List.map_replicate]; rfl
  · rintro mm ws τ ⟨k, hk, rfl, rfl, g, hh⟩
    have hnx := g.next
    have hN := g.ok.lt hh
    conv => whnf
    refine br_intro ?_ ?_ <;> intro h1 <;> simp only [blt_dec, ble_dec, beq_dec, ltB_eq, leB_eq, decide_eq_true_eq, decide_eq_false_iff_not, beq_iff_eq, bne_iff_ne, beq_eq_false_iff_ne, bne_eq_false_iff_eq] at h1
    · conv => whnf
      have hk0 : k < a.length := by omega
      obtain ⟨r1, o1, sp1, c1, ro1, rfl, hr1, hc1, _⟩ := hva.idx (i := k) (by rw [List.length_map]; exact hk0)
      rw [getD_map_vb hk0] at hc1
      repeat (first | (refine br_true (inR_intro (by simp only [loI, hiI]; omega)) ?_; conv => whnf) | (refine br_true (by simp only [blt_dec, ble_dec, beq_dec, ltB_eq, leB_eq, decide_eq_true_eq, decide_eq_false_iff_not, Bool.and_eq_true, Bool.or_eq_true, beq_iff_eq, bne_iff_ne, beq_eq_false_iff_ne, bne_eq_false_iff_eq]; first | done | omega) ?_; conv => whnf))
      refine ld_intro (g.old hσ hr1) ?_
      conv => whnf
      refine at_intro hc1 ?_
      conv => whnf
      obtain ⟨r2, o2, sp2, c2, ro2, ra2, rcap2, e2, hr2, hc2, hs2⟩ := hrow k (by omega)
      simp only [Option.some.injEq, Addr.mk.injEq] at e2
      obtain ⟨rfl, rfl, rfl⟩ := e2
      repeat (first | (refine br_true (inR_intro (by simp only [loI, hiI]; omega)) ?_; conv => whnf) | (refine br_true (by simp only [blt_dec, ble_dec, beq_dec, ltB_eq, leB_eq, decide_eq_true_eq, decide_eq_false_iff_not, Bool.and_eq_true, Bool.or_eq_true, beq_iff_eq, bne_iff_ne, beq_eq_false_iff_ne, bne_eq_false_iff_eq]; first | done | omega) ?_; conv => whnf))
      refine ld_intro (g.old hσ hr2) ?_
      conv => whnf
      refine at_intro hc2 ?_
      conv => whnf
      have hpl := hbw k (by omega)
      have hrt := rowTo_len (a := a) hw k (by omega)
      have hbt := rowTo_bytes (a := a) (b := b) (w := w) k
      have hxb : a.getD k 0 < 256 := getD_lt hab k
      have hpb : ∀ x ∈ b.getD k [], x < 256 := by rw [List.getD_eq_getElem?_getD, List.getElem?_eq_getElem (show k < b.length by omega)]; exact hbb _ (List.getElem_mem _)
      have hsucc : rowTo a b w (k + 1) = addR (a.getD k 0) (b.getD k []) (rowTo a b w k) := rfl
      generalize rowTo a b w k = out at *
      generalize a.getD k 0 = x at *
      generalize b.getD k [] = p at *
      refine loop_intro (n := 50) (fun kk ws τ2 => ∃ i, i ≤ w ∧ kk = w - i ∧ ws = [.pointer (some ⟨rf, 0, none⟩), .slice (some ⟨r, o, sp⟩) vs.length cap1, whole (σ.next + 1 + 4) w, vb x, .slice (some ⟨r1, o1, sp1⟩) a.length cap0, vi a.length, vi k, .slice ra2 w rcap2, vi w, vi i] ∧ Mem σ τ2 ∧ τ2.heap (σ.next + 1 + 4) = some (.cells ((addTo x p i out).map vb) false)) w rfl ?_ ?_
      · conv => whnf
        refine ⟨0, by omega, rfl, rfl, ?_, ?_⟩
        · repeat first | exact g | apply Mem.bump | refine Mem.put ?_ (by (try simp only [bump_next, put_next]); omega) (by (try simp only [bump_next, put_next]); omega)
        · rw [addTo_zero]; exact hh
      · rintro mm ws τ2 ⟨i, hi, rfl, rfl, g2, hh2⟩
        have hnx2 := g2.next
        have hN2 := g2.ok.lt hh2
        have hal : (addTo x p i out).length = w := by rw [addTo_len _ _ _ _ (by omega)]; exact hrt
        conv => whnf
        refine br_intro ?_ ?_ <;> intro h3 <;> simp only [blt_dec, ble_dec, beq_dec, ltB_eq, leB_eq, decide_eq_true_eq, decide_eq_false_iff_not, beq_iff_eq, bne_iff_ne, beq_eq_false_iff_ne, bne_eq_false_iff_eq] at h3
        · conv => whnf
          have hi0 : i < w := by omega
          obtain ⟨r3, o3, sp3, c3, ro3, rfl, hr3, hc3, _⟩ := hs2.idx (i := i) (by rw [List.length_map]; omega)
          rw [getD_map_vb (by omega)] at hc3
          repeat (first | (refine br_true (inR_intro (by simp only [loI, hiI]; omega)) ?_; conv => whnf) | (refine br_true (by simp only [blt_dec, ble_dec, beq_dec, ltB_eq, leB_eq, decide_eq_true_eq, decide_eq_false_iff_not, Bool.and_eq_true, Bool.or_eq_true, beq_iff_eq, bne_iff_ne, beq_eq_false_iff_ne, bne_eq_false_iff_eq]; first | done | omega) ?_; conv => whnf))
          refine ld_intro (g2.old hσ hr3) ?_
          conv => whnf
          refine at_intro hc3 ?_
          conv => whnf
          repeat (first | (refine br_true (inR_intro (by simp only [loI, hiI]; omega)) ?_; conv => whnf) | (refine br_true (by simp only [blt_dec, ble_dec, beq_dec, ltB_eq, leB_eq, decide_eq_true_eq, decide_eq_false_iff_not, Bool.and_eq_true, Bool.or_eq_true, beq_iff_eq, bne_iff_ne, beq_eq_false_iff_ne, bne_eq_false_iff_eq]; first | done | omega) ?_; conv => whnf))
          refine ld_intro hh2 ?_
          conv => whnf
          refine at_intro (x := vb (out.getD i 0)) ?_ ?_
          · rw [List.getElem?_map, show 0 + i * 1 = i by omega, List.getElem?_eq_getElem (by omega)]
            have := addTo_at x p i out (by omega)
            rw [List.getD_eq_getElem?_getD, List.getElem?_eq_getElem (by omega)] at this
            exact congrArg (fun z => some (vb z)) this
          conv => whnf
          have okX : Ok (((τ2.bump 1).bump 5).bump 14) := Mem.ok (σ := σ) (by repeat first | exact g2 | apply Mem.bump | refine Mem.put ?_ (by (try simp only [bump_next, put_next]); omega) (by (try simp only [bump_next, put_next]); omega))
          have hfX : (((τ2.bump 1).bump 5).bump 14).heap rf = some (.cells fieldCells rof) := Mem.old (σ := σ) hσ (by repeat first | exact g2 | apply Mem.bump | refine Mem.put ?_ (by (try simp only [bump_next, put_next]); omega) (by (try simp only [bump_next, put_next]); omega)) hf
          refine mul hC (r := rf) hxb (getD_lt hpb i) (Ok.wp okX (fun r hr => protL_false (okX.prot r hr) ?_)) hfX ?_
          · intro q hq hq1
            simp only [List.mem_cons, List.not_mem_nil, or_false] at hq
            simp only [bump_next] at hr
            rcases hq with rfl
            simp [rdF]; omega
          intro τ3 g3
          have g4 := Mem.unwp (σ := ((τ2.bump 1).bump 5).bump 14) okX g3
          conv => whnf
          generalize ((τ3.wp (((τ2.bump 1).bump 5).bump 14).prot)) = τ4 at *
          have g5 : Mem τ2 τ4 := Mem.trans (by repeat first | exact Mem.refl g2.ok | apply Mem.bump | refine Mem.put ?_ (by (try simp only [bump_next, put_next]); omega) (by (try simp only [bump_next, put_next]); omega)) g4
          have g6 := g2.trans g5
          refine add hC (f := .pointer (some ⟨rf, 0, none⟩)) (getD_lt hbt i) (gmul_lt _ _) (Ok.wp g6.ok (fun r hr => protL_false (g6.ok.prot r hr) ?_)) trivial ?_
          · intro q hq hq1
            simp only [List.mem_cons, List.not_mem_nil, or_false] at hq
            rcases hq with rfl
            simp at hq1
          intro τ5 g7
          have g8 := Mem.unwp g6.ok g7
          conv => whnf
          generalize (τ5.wp τ4.prot) = τ6 at *
          have g9 := g6.trans g8
          have hh6 := g8.old g6.ok (g5.old g2.ok hh2)
          repeat (first | (refine br_true (inR_intro (by simp only [loI, hiI]; omega)) ?_; conv => whnf) | (refine br_true (by simp only [blt_dec, ble_dec, beq_dec, ltB_eq, leB_eq, decide_eq_true_eq, decide_eq_false_iff_not, Bool.and_eq_true, Bool.or_eq_true, beq_iff_eq, bne_iff_ne, beq_eq_false_iff_ne, bne_eq_false_iff_eq]; first | done | omega) ?_; conv => whnf))
          refine wr_intro hh6 (protL_false (g9.noprot hσ (by omega)) ?_) ?_
          · intro q hq hq1
            simp only [List.mem_cons, List.not_mem_nil, or_false] at hq
            rcases hq with rfl
            simp at hq1
          conv => whnf
          repeat (first | (refine br_true (inR_intro (by simp only [loI, hiI]; omega)) ?_; conv => whnf) | (refine br_true (by simp only [blt_dec, ble_dec, beq_dec, ltB_eq, leB_eq, decide_eq_true_eq, decide_eq_false_iff_not, Bool.and_eq_true, Bool.or_eq_true, beq_iff_eq, bne_iff_ne, beq_eq_false_iff_ne, bne_eq_false_iff_eq, List.length_map, hal]; first | done | omega) ?_; conv => whnf))
          refine ⟨rfl, w - (i + 1), by omega, i + 1, by omega, rfl, rfl, ?_, ?_⟩
          · exact Mem.bump (g9.put_wp (by omega) (by have := g9.ok.lt hh6; omega)) 2
          · refine (put_heap_eq _ _ _).trans ?_
            rw [show 0 + i * 1 = i by omega, wr_one _ _ _ (by rw [List.length_map]; omega), ← addTo_succ _ _ _ _ (by omega) (by omega), List.map_set]
            rfl
        · conv => whnf
          obtain rfl : i = w := by omega
          repeat (first | (refine br_true (inR_intro (by simp only [loI, hiI]; omega)) ?_; conv => whnf) | (refine br_true (by simp only [blt_dec, ble_dec, beq_dec, ltB_eq, leB_eq, decide_eq_true_eq, decide_eq_false_iff_not, Bool.and_eq_true, Bool.or_eq_true, beq_iff_eq, bne_iff_ne, beq_eq_false_iff_ne, bne_eq_false_iff_eq]; first | done | omega) ?_; conv => whnf))
          refine ⟨rfl, a.length - (k + 1), by omega, k + 1, by omega, rfl, rfl, ?_, ?_⟩
          · repeat first | exact g2 | apply Mem.bump | refine Mem.put ?_ (by (try simp only [bump_next, put_next]); omega) (by (try simp only [bump_next, put_next]); omega)
          · refine hh2.trans ?_
            rw [hsucc, ← addTo_full _ _ _ (by omega), hrt]
    · conv => whnf
      obtain rfl : k = a.length := by omega
      refine kQ _ _ ?_ (by omega) hh
      repeat first | exact g | apply Mem.bump | refine Mem.put ?_ (by (try simp only [bump_next, put_next]); omega) (by (try simp only [bump_next, put_next]); omega)

theorem rightB_of {m : List (List Nat)} {n : Nat} (h0 : 1 ≤ m.length) (h1 : m.length ≤ 64) (hn : 1 ≤ n) (hn' : n ≤ 64) (hrl : ∀ l ∈ m, l.length = n) : rightB m = true := by
  have e0 : (m.getD 0 []).length = n := by
    rw [List.getD_eq_getElem?_getD, List.getElem?_eq_getElem (by omega)]
    exact hrl _ (List.getElem_mem _)
  unfold rightB
  rw [e0, decide_eq_true (by omega), decide_eq_true (by omega)]
  simp only [Bool.true_and, List.all_eq_true, beq_iff_eq]
  exact hrl

theorem mat_get {σ : AS} {a0 : Option Addr} {nn cap : Nat} {vs : List Value} {m : List (List Nat)} {w : Nat} (hs : SlAt σ (.slice a0 nn cap) vs) (hl : vs.length = m.length) (hrows : ∀ i (h : i < vs.length) (h' : i < m.length), SlAt σ vs[i] (m[i].map vb)) (hw : ∀ r ∈ m, r.length = w) {k : Nat} (hk : k < m.length) :
    ∃ r o sp c ro ra rcap, a0 = some ⟨r, o, sp⟩ ∧ σ.heap r = some (.cells c ro) ∧ c[o + k * 1]? = some (.slice ra w rcap) ∧ SlAt σ (.slice ra w rcap) ((m.getD k []).map vb) := by
  obtain ⟨r, o, sp, c, ro, h1, h2, h3, _⟩ := hs.idx (i := k) (by omega)
  have h4 := hrows k (by omega) hk
  obtain ⟨ra, rcap, h5⟩ := h4.shape
  have e : m.getD k [] = m[k] := by rw [List.getD_eq_getElem?_getD, List.getElem?_eq_getElem hk]; rfl
  rw [h5] at h3 h4
  rw [List.length_map, hw _ (List.getElem_mem hk)] at h3 h4
  exact ⟨r, o, sp, c, ro, ra, rcap, h1, h2, h3, by rw [e]; exact h4⟩

/-- A list of rows that is being appended to. -/
structure Rows (σ τ : AS) (v : Value) (w : Nat) (rs : List Nat) (m : List (List Nat)) : Prop where
  grow : Growing σ τ v (rs.map (whole · w))
  len : rs.length = m.length
  row : ∀ j (h : j < rs.length), headOf v ≠ some rs[j] ∧ σ.next ≤ rs[j] ∧ (m.getD j []).length = w ∧ τ.heap rs[j] = some (.cells ((m.getD j []).map vb) false)
theorem Rows.nil (σ τ : AS) (w : Nat) : Rows σ τ (.slice none 0 0) w [] [] := ⟨.inl ⟨rfl, rfl⟩, rfl, fun j h => absurd h (by simp)⟩
theorem Rows.slice {σ τ : AS} {v : Value} {w : Nat} {rs : List Nat} {m : List (List Nat)} (h : Rows σ τ v w rs m) : ∃ a n c, v = .slice a n c := by
  rcases h.grow with ⟨_, rfl⟩ | ⟨h, _, rfl, _⟩
  · exact ⟨_, _, _, rfl⟩
  · exact ⟨_, _, _, rfl⟩
theorem Rows.mono {σ τ τ' : AS} {v : Value} {w : Nat} {rs : List Nat} {m : List (List Nat)} (h : Rows σ τ v w rs m) (hτ : Ok τ) (g : Mem τ τ') : Rows σ τ' v w rs m :=
  ⟨h.grow.mono hτ g, h.len, fun j hj => by obtain ⟨a, b, c, d⟩ := h.row j hj; exact ⟨a, b, c, g.old hτ d⟩⟩
theorem Rows.bump {σ τ : AS} {v : Value} {w : Nat} {rs : List Nat} {m : List (List Nat)} (h : Rows σ τ v w rs m) (n : Nat) : Rows σ (τ.bump n) v w rs m := ⟨h.grow, h.len, h.row⟩
theorem Rows.at {σ τ : AS} {v : Value} {w : Nat} {rs : List Nat} {m : List (List Nat)} (h : Rows σ τ v w rs m) : MatAt τ v m := by
  refine ⟨rs.map (whole · w), h.grow.at, by rw [List.length_map]; exact h.len, fun j h1 h2 => ?_⟩
  rw [List.length_map] at h1
  obtain ⟨_, _, q2, q3⟩ := h.row j h1
  have e1 : m.getD j [] = m[j] := by rw [List.getD_eq_getElem?_getD, List.getElem?_eq_getElem h2]; rfl
  rw [e1] at q2 q3
  rw [List.getElem_map]
  exact SlAt.mk q3 (by rw [List.length_map, q2]) (by rw [List.drop_zero, List.take_length])
/-- One more row. B: the box in which it is handed; N: where the new list lies. -/
theorem Rows.push {σ τ : AS} (hσ : Ok σ) (g : Mem σ τ) {v : Value} {w : Nat} {rs : List Nat} {m : List (List Nat)} (h : Rows σ τ v w rs m) {r B N : Nat} {l : List Nat} (hl : l.length = w) (hr : σ.next ≤ r) (hh : τ.heap r = some (.cells (l.map vb) false)) (hv : headOf v ≠ some r)
    (hB : τ.heap B = some (.cells [whole r w] false)) (hN : σ.next ≤ N) (hN' : N < τ.next) (hNr : N ≠ r) (hNrs : ∀ q ∈ rs, q ≠ N) (hlen : rs.length < 2 ^ 40) :
    ∃ v' τ', rAppend τ N 1 24 v (whole B 1) = some (v', τ') ∧ Mem σ τ' ∧ Rows σ τ' v' w (rs ++ [r]) (m ++ [l]) ∧ τ'.next = τ.next ∧ (∀ q, q ≠ N → headOf v ≠ some q → τ'.heap q = τ.heap q) ∧ headOf v' = some N := by
  obtain ⟨τ', hap, g', hn, hnx, hfr⟩ := app_growing (N := N) (bytes := 24) (x := whole B 1) (news := [whole r w]) hσ g h.grow hN hN' (SlAt.mk hB rfl rfl) rfl (whole_one _ _) (by simp) (by simp; omega)
  refine ⟨_, τ', hap, g', ⟨.inr ⟨N, hN, ?_, ?_⟩, by simp [h.len], fun j hj => ?_⟩, hnx, hfr, rfl⟩
  · simp only [List.map_append, List.map_cons, List.map_nil, List.length_append, List.length_map, List.length_cons, List.length_nil]
  · rw [List.map_append]; exact hn
  · have hj' : j < rs.length + 1 := by simpa using hj
    by_cases hji : j < rs.length
    · rw [List.getElem_append_left hji]
      obtain ⟨q1, q2, q3, q4⟩ := h.row j hji
      have hne := hNrs _ (List.getElem_mem hji)
      have e1 : (m ++ [l]).getD j [] = m.getD j [] := by rw [List.getD_eq_getElem?_getD, List.getD_eq_getElem?_getD, List.getElem?_append_left (by have := h.len; omega)]
      rw [e1]
      refine ⟨?_, q2, q3, by rw [hfr _ hne q1]; exact q4⟩
      intro e
      have e : N = rs[j] := by injection e
      exact hne e.symm
    · obtain rfl : j = rs.length := by omega
      rw [List.getElem_append_right (by omega)]
      simp only [Nat.sub_self, List.getElem_cons_zero]
      have e1 : (m ++ [l]).getD rs.length [] = l := by rw [List.getD_eq_getElem?_getD, List.getElem?_append_right (by have := h.len; omega), h.len, Nat.sub_self]; rfl
      rw [e1]
      refine ⟨?_, hr, hl, by rw [hfr _ (Ne.symm hNr) hv]; exact hh⟩
      intro e
      have e : N = r := by injection e
      exact hNr e

theorem mmul (hC : CProp (ACall Try.prog Base)) {rf : Nat} {rof : Bool} {va vm : Value} {a b : List (List Nat)} {w : Nat} (ha0 : 1 ≤ a.length) (ha1 : a.length ≤ 64) (har : ∀ r ∈ a, r.length = b.length) (hb0 : 1 ≤ b.length) (hb1 : b.length ≤ 64) (hw : ∀ r ∈ b, r.length = w) (hw0 : 1 ≤ w) (hw' : w ≤ 64) (hab : Bytes a) (hbb : Bytes b)
    {σ : AS} (hσ : Ok σ) (hf : σ.heap rf = some (.cells fieldCells rof)) (hva : MatAt σ va a) (hvm : MatAt σ vm b) {Q : Value → AS → Prop}
    (kQ : ∀ σ' v rs, Mem σ σ' → Rows σ σ' v w rs (a.map fun r => rowTo r b w b.length) → Q v σ') :
    ∃ v σ', ACall Try.prog Base 27 [.pointer (some ⟨rf, 0, none⟩), va, vm] σ v σ' ∧ Q v σ' := by
  have hva0 := hva
  have hvm0 := hvm
  obtain ⟨avs, has, hal, harows⟩ := hva
  obtain ⟨a0, acap, rfl⟩ := has.shape
  obtain ⟨bvs, hbs, hbl, hbrows⟩ := hvm
  obtain ⟨b0, bcap, rfl⟩ := hbs.shape
  refine call_rwp hC cf27 rfl hσ.wf ?_
  conv => whnf
  refine right hC (m := a) (by omega) (fun l hl => by rw [har l hl]; omega) (Mem.ok (σ := σ) ?_) (hva0.mono hσ ?_) ?_
  · repeat first | exact Mem.refl hσ | apply Mem.bump | refine Mem.put ?_ (by (try simp only [bump_next, put_next]); omega) (by (try simp only [bump_next, put_next]); omega)
  · repeat first | exact Mem.refl hσ | apply Mem.bump | refine Mem.put ?_ (by (try simp only [bump_next, put_next]); omega) (by (try simp only [bump_next, put_next]); omega)
  intro τ1 g1
  rw [rightB_of ha0 ha1 hb0 hb1 har]
  have g2 : Mem σ τ1 := Mem.trans (by repeat first | exact Mem.refl hσ | apply Mem.bump | refine Mem.put ?_ (by (try simp only [bump_next, put_next]); omega) (by (try simp only [bump_next, put_next]); omega)) g1
  conv => whnf
  refine right hC (m := b) (by omega) (fun l hl => by rw [hw l hl]; omega) g2.ok (hvm0.mono hσ g2) ?_
  intro τ2 g3
  rw [rightB_of hb0 hb1 hw0 hw' hw]
  have g4 := g2.trans g3
  conv => whnf
  obtain ⟨r, o, sp, c, ro, ra, rcap, rfl, hr, hci, _⟩ := mat_get has hal harows har (k := 0) (by omega)
  repeat (first | (refine br_true (inR_intro (by simp only [loI, hiI]; omega)) ?_; conv => whnf) | (refine br_true (by simp only [blt_dec, ble_dec, beq_dec, ltB_eq, leB_eq, decide_eq_true_eq, decide_eq_false_iff_not, Bool.and_eq_true, Bool.or_eq_true, beq_iff_eq, bne_iff_ne, beq_eq_false_iff_ne, bne_eq_false_iff_eq]; first | done | omega) ?_; conv => whnf))
  refine ld_intro (g4.old hσ hr) ?_
  conv => whnf
  refine at_intro hci ?_
  conv => whnf
  (refine br_false (by simp only [blt_dec, ble_dec, beq_dec, ltB_eq, leB_eq, decide_eq_true_eq, decide_eq_false_iff_not, Bool.and_eq_true, Bool.or_eq_true, beq_iff_eq, bne_iff_ne, beq_eq_false_iff_ne, bne_eq_false_iff_eq]; first | done | omega) ?_; conv => whnf)
  refine loop_intro (n := 46) (fun kk ws τ => ∃ (k : Nat) (rs : List Nat) (ov : Value), k ≤ a.length ∧ kk = a.length - k ∧ ws = [.pointer (some ⟨rf, 0, none⟩), .slice b0 bvs.length bcap, ov, .slice (some ⟨r, o, sp⟩) avs.length acap, vi avs.length, vi k] ∧ Mem σ τ ∧ rs.length = k ∧ Rows σ τ ov w rs ((a.take k).map fun r => rowTo r b w b.length)) a.length rfl ?_ ?_
  · conv => whnf
    refine ⟨0, [], _, by omega, rfl, rfl, ?_, rfl, Rows.nil _ _ _⟩
    repeat first | exact g4 | apply Mem.bump | refine Mem.put ?_ (by (try simp only [bump_next, put_next]); omega) (by (try simp only [bump_next, put_next]); omega)
  · rintro mm ws τ ⟨k, rs, ov, hk, rfl, rfl, g, hrs, hR⟩
    obtain ⟨oa, on, oc, rfl⟩ := hR.slice
    have hnx := g.next
    conv => whnf
    refine br_intro ?_ ?_ <;> intro h1 <;> simp only [blt_dec, ble_dec, beq_dec, ltB_eq, leB_eq, decide_eq_true_eq, decide_eq_false_iff_not, beq_iff_eq, bne_iff_ne, beq_eq_false_iff_ne, bne_eq_false_iff_eq] at h1
    · conv => whnf
      have hk0 : k < a.length := by omega
      obtain ⟨r1, o1, sp1, c1, ro1, ra1, rcap1, e1, hr1, hc1, hs1⟩ := mat_get has hal harows har hk0
      simp only [Option.some.injEq, Addr.mk.injEq] at e1
      obtain ⟨rfl, rfl, rfl⟩ := e1
      have hak : (a.getD k []).length = b.length := by rw [List.getD_eq_getElem?_getD, List.getElem?_eq_getElem hk0]; exact har _ (List.getElem_mem _)
      have hakb : ∀ x ∈ a.getD k [], x < 256 := by rw [List.getD_eq_getElem?_getD, List.getElem?_eq_getElem hk0]; exact hab _ (List.getElem_mem _)
      repeat (first | (refine br_true (inR_intro (by simp only [loI, hiI]; omega)) ?_; conv => whnf) | (refine br_true (by simp only [blt_dec, ble_dec, beq_dec, ltB_eq, leB_eq, decide_eq_true_eq, decide_eq_false_iff_not, Bool.and_eq_true, Bool.or_eq_true, beq_iff_eq, bne_iff_ne, beq_eq_false_iff_ne, bne_eq_false_iff_eq]; first | done | omega) ?_; conv => whnf))
      refine ld_intro (g.old hσ hr1) ?_
      conv => whnf
      refine at_intro hc1 ?_
      conv => whnf
      have okX : Mem σ (((τ.bump 1).bump 3).bump 8) := by repeat first | exact g | apply Mem.bump | refine Mem.put ?_ (by (try simp only [bump_next, put_next]); omega) (by (try simp only [bump_next, put_next]); omega)
      refine row hC (a := a.getD k []) hak (by omega) (by omega) hw (by omega) hakb hbb okX.ok (okX.old hσ hf) (hs1.mono hσ okX) (hvm0.mono hσ okX) ?_
      intro τ3 r' g5 hr' hh'
      simp only [bump_next] at hr'
      have g6 : Mem τ τ3 := Mem.trans (by repeat first | exact Mem.refl g.ok | apply Mem.bump | refine Mem.put ?_ (by (try simp only [bump_next, put_next]); omega) (by (try simp only [bump_next, put_next]); omega)) g5
      have hnx3 := g5.next
      simp only [bump_next] at hnx3
      have hr3 := g5.ok.lt hh'
      conv => whnf
      have hRx := hR.mono g.ok (Mem.put (r := τ.next + 1 + 3 + 5) (o := .cells [whole r' w] false) g6 (by omega) (by omega))
      have g7 : Mem σ (τ3.put (τ.next + 1 + 3 + 5) (.cells [whole r' w] false)) := (g.trans g6).put (by omega) (by omega)
      have hrsl : ∀ q ∈ rs, q < τ.next := fun q hq => by
        obtain ⟨j, hj, rfl⟩ := List.getElem_of_mem hq
        exact g.ok.lt (hR.row j hj).2.2.2
      have hne : headOf (.slice oa on oc) ≠ some r' := by
        rcases hR.grow with ⟨_, e⟩ | ⟨h, _, e, eh⟩
        · rw [e]; intro e; cases e
        · rw [e]; intro e
          have e : h = r' := by injection e
          have := g.ok.lt eh
          omega
      obtain ⟨v', τ4, hap, g8, hR4, hnx4, _, _⟩ := hRx.push hσ g7 (r := r') (B := τ.next + 1 + 3 + 5) (N := τ.next + 1 + 3 + 6) (l := rowTo (a.getD k []) b w (a.getD k []).length) (rowTo_len (a := a.getD k []) hw _ (by rw [hak]; exact Nat.le_refl _)) (by omega) (by rw [put_heap_ne (by omega)]; exact hh') hne (put_heap_eq _ _ _) (by omega) (by simp only [put_next]; omega) (by omega) (fun q hq => by have := hrsl q hq; omega) (by omega)
      obtain ⟨oa2, on2, oc2, rfl⟩ := hR4.slice
      refine ⟨_, _, hap, ?_⟩
      conv => whnf
      repeat (first | (refine br_true (inR_intro (by simp only [loI, hiI]; omega)) ?_; conv => whnf) | (refine br_true (by simp only [blt_dec, ble_dec, beq_dec, ltB_eq, leB_eq, decide_eq_true_eq, decide_eq_false_iff_not, Bool.and_eq_true, Bool.or_eq_true, beq_iff_eq, bne_iff_ne, beq_eq_false_iff_ne, bne_eq_false_iff_eq]; first | done | omega) ?_; conv => whnf))
      refine ⟨rfl, a.length - (k + 1), by omega, k + 1, rs ++ [r'], _, by omega, rfl, rfl, ?_, by simp [hrs], ?_⟩
      · repeat first | exact g8 | apply Mem.bump | refine Mem.put ?_ (by (try simp only [bump_next, put_next]); omega) (by (try simp only [bump_next, put_next]); omega)
      · rw [List.take_succ_eq_append_getElem hk0, List.map_append]
        have e1 : a.getD k [] = a[k] := by rw [List.getD_eq_getElem?_getD, List.getElem?_eq_getElem hk0]; rfl
        rw [e1] at hR4
        rw [har _ (List.getElem_mem hk0)] at hR4
        exact hR4.bump _
    · conv => whnf
      obtain rfl : k = a.length := by omega
      rw [List.take_length] at hR
      refine kQ _ _ rs ?_ ((hR.bump _).bump _)
      repeat first | exact g | apply Mem.bump | refine Mem.put ?_ (by (try simp only [bump_next, put_next]); omega) (by (try simp only [bump_next, put_next]); omega)
end
end Go.Corb.A

/- Matrices that have an inverse, by one that is known. Conditions: none. -/
set_option linter.unusedVariables false
set_option linter.unusedSimpArgs false
namespace Go.Corb.A
open Go Go.RowKit Go.Corb

theorem dot_rep (w : Nat) (z : Nat → Nat) : dot (List.replicate w 0) z = 0 := dot_zero _ _ fun j hj => by
  rw [List.getD_eq_getElem?_getD, List.getElem?_replicate]; split <;> exact zero_gmul _
/-- A sum of rows, sent on. -/
def comb (a : List Nat) (b : List (List Nat)) (z : Nat → Nat) : Nat → Nat
  | 0 => 0
  | k + 1 => comb a b z k ^^^ gmul (a.getD k 0) (dot (rowA b k) z)
theorem comb_lt {a : List Nat} {b : List (List Nat)} {z : Nat → Nat} : ∀ k, comb a b z k < 256
  | 0 => Nat.zero_lt_succ _
  | k + 1 => xor_lt8' (comb_lt k) (gmul_lt _ _)
theorem dot_rowTo {a : List Nat} {b : List (List Nat)} {w : Nat} (hab : ∀ x ∈ a, x < 256) (hw : ∀ r ∈ b, r.length = w) {z : Nat → Nat} (hz : ∀ j, z j < 256) : ∀ k, k ≤ b.length → dot (rowTo a b w k) z = comb a b z k
  | 0, _ => dot_rep w z
  | k + 1, h => by
    simp only [rowTo, comb, addR]
    rw [dot_addR _ (getD_lt hab k) _ _ _ (rowTo_bytes k) hz, dot_rowTo hab hw hz k (by omega)]
    rw [rowTo_len hw k (by omega)]
    exact hw _ (row_mem (by omega))
theorem comb_zero {a : List Nat} {b : List (List Nat)} {z : Nat → Nat} : ∀ k, (∀ i, i < k → dot (rowA b i) z = 0) → comb a b z k = 0
  | 0, _ => rfl
  | k + 1, h => by
    simp only [comb]
    rw [comb_zero k fun i hi => h i (by omega), h k (by omega), gmul_zero]; rfl
theorem comb_dot {b : List (List Nat)} {z y : Nat → Nat} : ∀ (k : Nat) (a : List Nat), a.length = k → (∀ i, i < k → dot (rowA b i) z = y i) → comb a b z k = dot a y
  | 0, a, ha, _ => by
    have : a = [] := List.eq_nil_of_length_eq_zero ha
    subst this; rfl
  | k + 1, a, ha, h => by
    have hne : a ≠ [] := by intro e; rw [e] at ha; cases ha
    obtain ⟨l, x, rfl⟩ : ∃ l x, a = l ++ [x] := ⟨a.dropLast, a.getLast hne, (List.dropLast_concat_getLast hne).symm⟩
    have hl : l.length = k := by simpa using ha
    rw [dot_append, hl]
    simp only [comb, dot]
    have e1 : (l ++ [x]).getD k 0 = x := by rw [List.getD_eq_getElem?_getD, List.getElem?_append_right (by omega), hl, Nat.sub_self]; rfl
    have e2 : comb (l ++ [x]) b z k = comb l b z k := by
      have : ∀ j, j ≤ k → comb (l ++ [x]) b z j = comb l b z j := by
        intro j
        induction j with
        | zero => intro _; rfl
        | succ j ih =>
          intro hj
          simp only [comb]
          rw [ih (by omega)]
          congr 2
          rw [List.getD_eq_getElem?_getD, List.getD_eq_getElem?_getD, List.getElem?_append_left (by omega)]
      exact this k (Nat.le_refl _)
    rw [e1, e2, comb_dot k l hl fun i hi => h i (by omega), h k (by omega), Nat.xor_zero, Nat.add_zero]

/-- C leads back. -/
def Left (n : Nat) (C A : List (List Nat)) : Prop := C.length = n ∧ Bytes C ∧ Wid n C ∧ ∀ i, i < n → rowTo (rowA C i) A n n = idRow n i
theorem left_back {n : Nat} {C A : List (List Nat)} (h : Left n C A) (hA : A.length = n) (hw : Wid n A) {x y : Nat → Nat} (hx : ∀ j, x j < 256) (hy : ∀ i, i < n → dot (rowA A i) x = y i) {i : Nat} (hi : i < n) : x i = dot (rowA C i) y := by
  obtain ⟨h1, h2, h3, h4⟩ := h
  have e := dot_rowTo (a := rowA C i) (b := A) (w := n) (h2 _ (row_mem (by omega))) (wid_to hw) hx n (by omega)
  rw [h4 i hi, dot_idRow hi _ (hx i)] at e
  rw [e]
  exact comb_dot n _ (h3 i (by omega)) hy
theorem left_sing {n : Nat} {C A : List (List Nat)} (h : Left n C A) (hA : A.length = n) (hw : Wid n A) : ¬ Sing n A := by
  rintro ⟨x, hx, ⟨a, ha, h1⟩, h0⟩
  have := left_back h hA hw hx (y := fun _ => 0) h0 ha
  rw [h1, dot_zero _ _ fun j _ => gmul_zero _] at this
  cases this
theorem left_sol {n : Nat} {C A Q : List (List Nat)} (h : Left n C A) (hA : A.length = n) (hw : Wid n A) (hs : Sol n A Q) (hQ : Q.length = n) (bQ : Bytes Q) (wQ : Wid n Q) : Q = C := by
  have key : ∀ r c, r < n → c < n → (rowA Q r).getD c 0 = (rowA C r).getD c 0 := by
    intro r c hr hc
    have hq : ∀ j, j < n → dot (rowA A j) (fun i => dot (rowA Q i) (uv c)) = uv c j := (hs _ _ (fun _ => dot_lt _ _) (uv_lt c)).2 fun _ _ => rfl
    have := left_back h hA hw (fun _ => dot_lt _ _) hq hr
    rw [dot_uv (bQ _ (row_mem (by omega))) (by rw [wQ r (by omega)]; exact hc), dot_uv (h.2.1 _ (row_mem (by rw [h.1]; omega))) (by rw [h.2.2.1 r (by rw [h.1]; omega)]; exact hc)] at this
    exact this
  apply List.ext_getElem (by rw [hQ, h.1])
  intro r h1 h2
  have e1 : Q[r] = rowA Q r := by rw [rowA, List.getD_eq_getElem?_getD, List.getElem?_eq_getElem h1]; rfl
  have e2 : C[r] = rowA C r := by rw [rowA, List.getD_eq_getElem?_getD, List.getElem?_eq_getElem h2]; rfl
  rw [e1, e2]
  have l1 := wQ r h1
  have l2 := h.2.2.1 r h2
  apply List.ext_getElem (by rw [l1, l2])
  intro c h3 h4
  have := key r c (by omega) (by omega)
  rw [List.getD_eq_getElem?_getD, List.getD_eq_getElem?_getD, List.getElem?_eq_getElem h3, List.getElem?_eq_getElem h4] at this
  exact this
end Go.Corb.A

/- The contract of known; the law MatrixRows. Conditions: none. -/
set_option linter.unusedVariables false
set_option linter.unusedSimpArgs false
namespace Go.Corb.A
open Go Go.RowKit Go.Proofs Go.Corb Go.IntWalk

def kA : List (List Nat) := [[1, 1], [0, 1]]
theorem kA_bytes : Bytes kA := by
  intro l hl x hx
  simp only [kA, List.mem_cons, List.not_mem_nil, or_false] at hl
  rcases hl with rfl | rfl <;> simp at hx <;> omega
theorem kA_wid : Wid 2 kA := by
  intro i hi
  have : i < 2 := hi
  rcases (show i = 0 ∨ i = 1 by omega) with rfl | rfl <;> rfl
theorem kA_left : Left 2 kA kA := by
  refine ⟨rfl, kA_bytes, kA_wid, fun i hi => ?_⟩
  rcases (show i = 0 ∨ i = 1 by omega) with rfl | rfl <;> kernel_rfl
theorem kA_mul : (kA.map fun r => rowTo r kA 2 2) = [[1, 0], [0, 1]] := by kernel_rfl

/-- What is there is there still. -/
def _root_.Go.Corb.Sub (σ τ : AS) : Prop := ∀ r o, σ.heap r = some o → τ.heap r = some o
theorem _root_.Go.Corb.Sub.refl (σ : AS) : Sub σ σ := fun _ _ h => h
theorem _root_.Go.Corb.Sub.trans {a b c : AS} (h : Sub a b) (k : Sub b c) : Sub a c := fun r o e => k r o (h r o e)
theorem _root_.Go.Corb.Mem.sub {σ τ : AS} (h : Mem σ τ) (hσ : Ok σ) : Sub σ τ := fun r o e => h.old hσ e
theorem _root_.Go.Corb.Sub.put {σ τ : AS} (h : Sub σ τ) {r : Nat} {o : AObj} (hr : τ.heap r = none) : Sub σ (τ.put r o) := fun q u e => by
  rw [put_heap_ne (fun e2 => by subst e2; rw [h _ _ e] at hr; cases hr)]
  exact h _ _ e
theorem _root_.Go.Corb.Sub.bump {σ τ : AS} (h : Sub σ τ) (n : Nat) : Sub σ (τ.bump n) := h
/-- A place that is kept for later. -/
theorem _root_.Go.Corb.Mem.free {σ τ : AS} {n r : Nat} (h : Mem (σ.bump n) τ) (hσ : Ok σ) (h1 : σ.next ≤ r) (h2 : r < σ.next + n) : τ.heap r = none := by
  rw [h.grow.heap r (by rw [bump_next]; exact h2)]
  exact hσ.wf r h1
theorem MatAt.sub {σ τ : AS} (e : Sub σ τ) {v : Value} {m : List (List Nat)} (h : MatAt σ v m) : MatAt τ v m := by
  obtain ⟨vs, h1, h2, h3⟩ := h
  exact ⟨vs, h1.same e, h2, fun i a b => (h3 i a b).same e⟩

section
variable {Base : CallRel}
set_option pp.deepTerms.threshold 8

theorem inverse' (hC : CProp (ACall Try.prog Base)) {v0 : Value} {m : List (List Nat)} {n rf : Nat} {rof : Bool} (hml : m.length = n) (hn : 1 ≤ n) (hn' : n ≤ 64) (hrl : ∀ l ∈ m, l.length = n) (hb : Bytes m) {σ : AS} (hσ : Ok σ) (hf : σ.heap rf = some (.cells fieldCells rof)) (hv0 : MatAt σ v0 m) {Q : Value → AS → Prop}
    (k1 : ∀ σ', Mem σ σ' → Sing n m → Q (.tuple [.slice none 0 0, .bool false].toArray) σ')
    (k2 : ∀ σ' v q, Mem σ σ' → MatAt σ' v q → q.length = n → Bytes q → (∀ l ∈ q, l.length = n) → Sol n m q → Q (.tuple [v, .bool true].toArray) σ') :
    ∃ v σ', ACall Try.prog Base 14 [.pointer (some ⟨rf, 0, none⟩), v0] σ v σ' ∧ Q v σ' := by
  have hw : Wid n m := wid_of hrl
  obtain ⟨b1, b2, b3⟩ := both_all hml hb hw
  refine inverse hC hml hn hn' hrl hb hσ hf hv0 ?_ ?_
  · intro σ' a m' g ha hg hz
    exact k1 σ' g (gj_sing hml hb hw hg ha hz)
  · intro σ' v m' g hg hm
    obtain ⟨c1, c2, c3, c4, c5⟩ := gj_all hg b1 b2 b3 (by omega) (Nat.le_refl _)
    refine k2 σ' v _ g hm (by rw [List.length_map]; exact c1) ?_ ?_ (gj_sol hml hb hw hg)
    · intro l hl x hx
      obtain ⟨l', hl', rfl⟩ := List.mem_map.1 hl
      exact c2 _ hl' x (List.mem_of_mem_drop hx)
    · intro l hl
      obtain ⟨l', hl', rfl⟩ := List.mem_map.1 hl
      rw [List.length_drop, wid_to c3 _ hl']; omega

theorem mat2 {σ : AS} {h r0 r1 n0 n1 : Nat} {b0 b1 b2 : Bool} {l0 l1 : List Nat} (hh : σ.heap h = some (.cells [whole r0 n0, whole r1 n1] b0)) (h0 : σ.heap r0 = some (.cells (l0.map vb) b1)) (h1 : σ.heap r1 = some (.cells (l1.map vb) b2)) (e0 : n0 = l0.length) (e1 : n1 = l1.length) : MatAt σ (whole h 2) [l0, l1] := by
  refine ⟨[whole r0 n0, whole r1 n1], SlAt.mk hh rfl rfl, rfl, fun i hi hi' => ?_⟩
  have : i < 2 := hi
  rcases (show i = 0 ∨ i = 1 by omega) with rfl | rfl
  · exact SlAt.mk h0 (by rw [List.length_map]; exact e0) (by rw [List.drop_zero]; exact List.take_length)
  · exact SlAt.mk h1 (by rw [List.length_map]; exact e1) (by rw [List.drop_zero]; exact List.take_length)

theorem known (hC : CProp (ACall Try.prog Base)) {σ : AS} (hσ : Ok σ) {Q : Value → AS → Prop}
    (kQ : ∀ σ', Mem σ σ' → Q (.bool true) σ') :
    ∃ v σ', ACall Try.prog Base 13 [] σ v σ' ∧ Q v σ' := by
  refine call_rwp hC cf13 rfl hσ.wf ?_
  conv => whnf
  refine new hC (Mem.ok (σ := σ) (by repeat first | exact Mem.refl hσ | apply Mem.bump | refine Mem.put ?_ (by (try simp only [bump_next, put_next]); omega) (by (try simp only [bump_next, put_next]); omega))) ?_
  intro τ1 rf g1 hrf hf
  have g2 : Mem σ τ1 := Mem.trans (by repeat first | exact Mem.refl hσ | apply Mem.bump | refine Mem.put ?_ (by (try simp only [bump_next, put_next]); omega) (by (try simp only [bump_next, put_next]); omega)) g1
  have hnx := g2.next
  conv => whnf
  have hM : Mem σ ((((((τ1.bump 4).put τ1.next (.cells ([1, 1].map vb) false)).put (τ1.next + 1) (.cells ([0, 1].map vb) false)).put (τ1.next + 2) (.cells [whole τ1.next 2, whole (τ1.next + 1) 2] false))).bump 8) := by repeat first | exact g2 | apply Mem.bump | refine Mem.put ?_ (by (try simp only [bump_next, put_next]); omega) (by (try simp only [bump_next, put_next]); omega)
  have hA : MatAt ((((((τ1.bump 4).put τ1.next (.cells ([1, 1].map vb) false)).put (τ1.next + 1) (.cells ([0, 1].map vb) false)).put (τ1.next + 2) (.cells [whole τ1.next 2, whole (τ1.next + 1) 2] false))).bump 8) (whole (τ1.next + 2) 2) kA := by
    refine mat2 (put_heap_eq _ _ _) (b1 := false) (b2 := false) ?_ ?_ rfl rfl
    · rw [bump_heap, put_heap_ne (by omega), put_heap_ne (by omega), put_heap_eq]
    · rw [bump_heap, put_heap_ne (by omega), put_heap_eq]
  have hf2 : ((((((τ1.bump 4).put τ1.next (.cells ([1, 1].map vb) false)).put (τ1.next + 1) (.cells ([0, 1].map vb) false)).put (τ1.next + 2) (.cells [whole τ1.next 2, whole (τ1.next + 1) 2] false))).bump 8).heap rf = some (.cells fieldCells false) := by
    have := g1.ok.lt hf
    rw [bump_heap, put_heap_ne (by omega), put_heap_ne (by omega), put_heap_ne (by omega)]; exact hf
  refine inverse' hC (m := kA) (n := 2) rfl (by omega) (by omega) (wid_to kA_wid) kA_bytes hM.ok hf2 hA ?_ ?_
  · intro σ' _ hs
    exact absurd hs (left_sing kA_left rfl kA_wid)
  intro τ2 v q g3 hq q1 q2 q3 hs
  obtain rfl := left_sol kA_left rfl kA_wid hs q1 q2 (wid_of q3)
  have g4 := hM.trans g3
  obtain ⟨qa, qn, qc, rfl⟩ : ∃ a n c, v = .slice a n c := by
    obtain ⟨vs, hs, _⟩ := hq
    obtain ⟨a, c, h⟩ := hs.shape
    exact ⟨_, _, _, h⟩
  conv => whnf
  have hk40 : ∀ l ∈ kA, l.length < 2 ^ 40 := fun l hl => by rw [wid_to kA_wid l hl]; omega
  have g5 : Mem τ2 (τ2.bump 17) := (Mem.refl g3.ok).bump 17
  refine same hC (m := kA) (m' := kA) (by decide) (by decide) hk40 hk40 g5.ok ((hA.mono hM.ok g3).mono g3.ok g5) (hq.mono g3.ok g5) ?_
  intro τ3 g6
  have g7 := g5.trans g6
  rw [show (kA == kA) = true from rfl]
  conv => whnf
  refine mmul hC (a := kA) (b := kA) (w := 2) (by decide) (by decide) (wid_to kA_wid) (by decide) (by decide) (wid_to kA_wid) (by decide) (by decide) kA_bytes kA_bytes g6.ok ((g3.trans g7).old hM.ok hf2) (hA.mono hM.ok (g3.trans g7)) (hq.mono g3.ok g7) ?_
  intro τ4 v4 rs g8 hR
  have hR := hR.at
  rw [show kA.length = 2 from rfl, kA_mul] at hR
  obtain ⟨ra, rn, rc, rfl⟩ : ∃ a n c, v4 = .slice a n c := by
    obtain ⟨vs, hs, _⟩ := hR
    obtain ⟨a, c, h⟩ := hs.shape
    exact ⟨_, _, _, h⟩
  conv => whnf
  have f0 := (g6.trans g8).free g3.ok (r := τ2.next + 11) (by omega) (by omega)
  have f1 := (g6.trans g8).free g3.ok (r := τ2.next + 12) (by omega) (by omega)
  have f2 := (g6.trans g8).free g3.ok (r := τ2.next + 13) (by omega) (by omega)
  have hnx4 := (g6.trans g8).next
  simp only [bump_next] at hnx4
  have g9 : Mem τ2 τ4 := g5.trans (g6.trans g8)
  have gE : Mem τ2 (((τ4.put (τ2.next + 11) (.cells ([1, 0].map vb) false)).put (τ2.next + 12) (.cells ([0, 1].map vb) false)).put (τ2.next + 13) (.cells [whole (τ2.next + 11) 2, whole (τ2.next + 12) 2] false)) := by repeat first | exact g9 | apply Mem.bump | refine Mem.put ?_ (by (try simp only [bump_next, put_next]); omega) (by (try simp only [bump_next, put_next]); omega)
  refine same hC (m := [[1, 0], [0, 1]]) (m' := [[1, 0], [0, 1]]) (by decide) (by decide) (by decide) (by decide) gE.ok (hR.sub ?_) ?_ ?_
  · exact ((((Sub.refl τ4).put f0).put (by rw [put_heap_ne (by omega)]; exact f1)).put (by rw [put_heap_ne (by omega), put_heap_ne (by omega)]; exact f2))
  · refine mat2 (put_heap_eq _ _ _) (b1 := false) (b2 := false) ?_ ?_ rfl rfl
    · rw [put_heap_ne (by omega), put_heap_ne (by omega), put_heap_eq]
    · rw [put_heap_ne (by omega), put_heap_eq]
  intro τ5 g10
  conv => whnf
  exact kQ _ (g4.trans (gE.trans g10))
end
end Go.Corb.A

/- The law MatrixRows over the abstract memory. Conditions: none. -/
set_option linter.unusedVariables false
set_option linter.unusedSimpArgs false
namespace Go.Corb.A
open Go Go.RowKit Go.Proofs Go.Corb Go.IntWalk

def RowsAt (σ : AS) (vs : List Value) (m : List (List Nat)) : Prop := vs.length = m.length ∧ ∀ i (h : i < vs.length) (h' : i < m.length), SlAt σ vs[i] (m[i].map vb)
theorem RowsAt.mono {σ τ : AS} (hσ : Ok σ) (g : Mem σ τ) {vs : List Value} {m : List (List Nat)} (h : RowsAt σ vs m) : RowsAt τ vs m := ⟨h.1, fun i a b => (h.2 i a b).mono hσ g⟩
theorem RowsAt.set {σ : AS} {vs : List Value} {m : List (List Nat)} (h : RowsAt σ vs m) (k : Nat) {x : Value} {row : List Nat} (hx : SlAt σ x (row.map vb)) : RowsAt σ (vs.set k x) (m.set k row) := by
  refine ⟨by simp [h.1], fun i h1 h2 => ?_⟩
  rw [List.length_set] at h1 h2
  rw [List.getElem_set, List.getElem_set]
  split
  · exact hx
  · exact h.2 i h1 h2
theorem RowsAt.get {σ : AS} {vs : List Value} {m : List (List Nat)} (h : RowsAt σ vs m) {i : Nat} (hi : i < m.length) : ∃ x, vs[i]? = some x ∧ (∃ a cap, x = .slice a (m.getD i []).length cap) ∧ SlAt σ x ((m.getD i []).map vb) := by
  have hi' : i < vs.length := by rw [h.1]; exact hi
  have e : m.getD i [] = m[i] := by rw [List.getD_eq_getElem?_getD, List.getElem?_eq_getElem hi]; rfl
  have h2 := h.2 i hi' hi
  rw [e]
  obtain ⟨a, cap, h3⟩ := h2.shape
  rw [List.length_map] at h3
  exact ⟨vs[i], List.getElem?_eq_getElem hi', ⟨a, cap, h3⟩, h2⟩
theorem RowsAt.one {σ : AS} {vs : List Value} {m : List (List Nat)} (h : RowsAt σ vs m) : vs.all (·.oneCell') = true := by
  rw [List.all_eq_true]
  intro x hx
  obtain ⟨i, hi, rfl⟩ := List.getElem_of_mem hx
  obtain ⟨a, cap, e⟩ := (h.2 i hi (by rw [← h.1]; exact hi)).shape
  rw [e]; rfl
theorem RowsAt.mat {σ : AS} {r n cap : Nat} {sp : Option Nat} {ro : Bool} {vs : List Value} {m : List (List Nat)} (h : RowsAt σ vs m) (hr : σ.heap r = some (.cells vs ro)) (hn : n = vs.length) : MatAt σ (.slice (some ⟨r, 0, sp⟩) n cap) m :=
  ⟨vs, SlAt.mk hr hn (by rw [List.drop_zero, List.take_length]), h.1, h.2⟩
theorem MatAt.rows {σ : AS} {v : Value} {m : List (List Nat)} (h : MatAt σ v m) : ∃ a vs cap, v = .slice a vs.length cap ∧ SlAt σ v vs ∧ RowsAt σ vs m := by
  obtain ⟨vs, h1, h2, h3⟩ := h
  obtain ⟨a, cap, e⟩ := h1.shape
  exact ⟨a, vs, cap, e, h1, h2, h3⟩

/-- A list of rows, appended to nothing. -/
theorem app_copy {τ : AS} {N B : Nat} {x : Value} {vs : List Value} {m : List (List Nat)} (hB : τ.heap B = some (.cells [] false)) (hx : SlAt τ x vs) (hr : RowsAt τ vs m) (hne : m ≠ []) (hb : m.length < 2 ^ 40) :
    rAppend τ N 1 24 (.slice (some ⟨B, 0, none⟩) 0 0) x = some (.slice (some ⟨N, 0, some 1⟩) m.length m.length, τ.put N (.cells vs false)) := by
  have hl := hr.1
  have hm : 0 < m.length := List.length_pos_iff.2 hne
  have := app_new (σ := τ) (N := N) (bytes := 24) (olds := []) (vs := vs) (s := .slice (some ⟨B, 0, none⟩) 0 0) (x := x) (SlAt.empty rfl) (fun r o sp len cap e => by
    simp only [Value.slice.injEq, Option.some.injEq, Addr.mk.injEq] at e
    obtain ⟨⟨_, _, rfl⟩, _, rfl⟩ := e
    exact ⟨rfl, by simp; omega⟩) rfl hx hr.one (by intro e; rw [e] at hl; simp at hl; omega) (by simp; omega)
  simpa [hl] using this

theorem tail_get {m : List (List Nat)} {i : Nat} (hi : i < m.length) (l : List (List Nat)) : True := trivial
theorem rowA_set {m : List (List Nat)} {k : Nat} (l : List Nat) (i : Nat) (hk : k < m.length) : rowA (m.set k l) i = if i = k then l else rowA m i := by
  simp only [rowA, List.getD_eq_getElem?_getD, List.getElem?_set]
  by_cases h : k = i
  · subst h; simp [hk]
  · rw [if_neg h, if_neg (fun e => h e.symm)]
theorem mem_set_len {m : List (List Nat)} {n k : Nat} {l : List Nat} (h : ∀ r ∈ m, r.length = n) (hl : l.length = n) : ∀ r ∈ m.set k l, r.length = n := by
  intro r hr
  rcases List.mem_or_eq_of_mem_set hr with h2 | rfl
  · exact h _ h2
  · exact hl

section
variable {Base : CallRel}
set_option pp.deepTerms.threshold 8

theorem pickN {x : Int} {m : Int} (hm : 0 < m) : ∃ a : Nat, x % m = (a : Int) ∧ (a : Int) < m := by
  have h1 := Int.emod_nonneg x (show m ≠ 0 by omega)
  have h2 := Int.emod_lt_of_pos x hm
  exact ⟨(x % m).toNat, by omega, by omega⟩

set_option maxHeartbeats 2000000 in
theorem matrixRows (hC : CProp (ACall Try.prog Base)) {n i k : Int} {vl : Value} {l : List Int} {σ : AS} (hσ : Ok σ) (hl : SlAt σ vl (l.map fun x => .int .i64 x)) {Q : Value → AS → Prop}
    (kQ : ∀ σ', Mem σ σ' → Q (.bool true) σ') :
    ∃ v σ', ACall Try.prog Base 3 [.int .i64 n, vl, .int .i64 i, .int .i64 k] σ v σ' ∧ Q v σ' := by
  obtain ⟨la, lcap, rfl⟩ := hl.shape
  rw [List.length_map] at hl ⊢
  refine call_rwp hC cf3 rfl hσ.wf ?_
  conv => whnf
  refine new hC (Mem.ok (σ := σ) (by repeat first | exact Mem.refl hσ | apply Mem.bump | refine Mem.put ?_ (by (try simp only [bump_next, put_next]); omega) (by (try simp only [bump_next, put_next]); omega))) ?_
  intro τ1 rf g1 hrf hf
  have g2 : Mem σ τ1 := Mem.trans (by repeat first | exact Mem.refl hσ | apply Mem.bump | refine Mem.put ?_ (by (try simp only [bump_next, put_next]); omega) (by (try simp only [bump_next, put_next]); omega)) g1
  conv => whnf
  refine pick hC (m := 5) (by omega) (by omega) (Mem.ok (σ := σ) (by repeat first | exact g2 | apply Mem.bump | refine Mem.put ?_ (by (try simp only [bump_next, put_next]); omega) (by (try simp only [bump_next, put_next]); omega))) ?_
  intro τ2 g3
  have g4 : Mem τ1 τ2 := Mem.trans (by repeat first | exact Mem.refl g1.ok | apply Mem.bump | refine Mem.put ?_ (by (try simp only [bump_next, put_next]); omega) (by (try simp only [bump_next, put_next]); omega)) g3
  obtain ⟨n0, hn0, hn0'⟩ := pickN (x := n) (m := 5) (by omega)
  rw [hn0]
  conv => whnf
  repeat (first | (refine br_true (inR_intro (by simp only [loI, hiI]; omega)) ?_; conv => whnf) | (refine br_true (by simp only [blt_dec, ble_dec, beq_dec, ltB_eq, leB_eq, decide_eq_true_eq, decide_eq_false_iff_not, Bool.and_eq_true, Bool.or_eq_true, beq_iff_eq, bne_iff_ne, beq_eq_false_iff_ne, bne_eq_false_iff_eq]; first | done | omega) ?_; conv => whnf))
  rw [show (2 : Int) + (n0 : Int) = ((2 + n0 : Nat) : Int) by omega]
  generalize hN : 2 + n0 = N
  have hN1 : 2 ≤ N := by omega
  have hN2 : N ≤ 6 := by omega
  clear hN hn0 hn0'
  have g5 := g2.trans g4
  have hf2 := g4.old g1.ok hf
  clear hf g1 g3 g4 hrf g2
  refine of hC (rows := N) (cols := N) (by omega) (by omega) (by omega) (by omega) (Mem.ok (σ := σ) (by repeat first | exact g5 | apply Mem.bump | refine Mem.put ?_ (by (try simp only [bump_next, put_next]); omega) (by (try simp only [bump_next, put_next]); omega))) (hl.mono hσ (by repeat first | exact g5 | apply Mem.bump | refine Mem.put ?_ (by (try simp only [bump_next, put_next]); omega) (by (try simp only [bump_next, put_next]); omega))) ?_
  intro τ3 va m g6 hm hml hmw hmb
  have g7 : Mem τ2 τ3 := Mem.trans (by repeat first | exact Mem.refl g5.ok | apply Mem.bump | refine Mem.put ?_ (by (try simp only [bump_next, put_next]); omega) (by (try simp only [bump_next, put_next]); omega)) g6
  have hf3 := g7.old g5.ok hf2
  have g8 := g5.trans g7
  clear g6 g7 hf2 g5
  obtain ⟨aa, vs, acap, rfl, hav, hrv⟩ := hm.rows
  conv => whnf
  refine pick hC (m := N) (by omega) (by omega) (Mem.ok (σ := σ) (by repeat first | exact g8 | apply Mem.bump | refine Mem.put ?_ (by (try simp only [bump_next, put_next]); omega) (by (try simp only [bump_next, put_next]); omega))) ?_
  intro τ4 g9
  have g10 : Mem τ3 τ4 := Mem.trans (by repeat first | exact Mem.refl g8.ok | apply Mem.bump | refine Mem.put ?_ (by (try simp only [bump_next, put_next]); omega) (by (try simp only [bump_next, put_next]); omega)) g9
  obtain ⟨i0, hi0, hi0'⟩ := pickN (x := i) (m := N) (by omega)
  rw [hi0]
  conv => whnf
  have g11 := g8.trans g10
  refine pick hC (m := N) (by omega) (by omega) (Mem.ok (σ := σ) (by repeat first | exact g11 | apply Mem.bump | refine Mem.put ?_ (by (try simp only [bump_next, put_next]); omega) (by (try simp only [bump_next, put_next]); omega))) ?_
  intro τ5 g12
  have g13 : Mem τ4 τ5 := Mem.trans (by repeat first | exact Mem.refl g11.ok | apply Mem.bump | refine Mem.put ?_ (by (try simp only [bump_next, put_next]); omega) (by (try simp only [bump_next, put_next]); omega)) g12
  obtain ⟨k0, hk0, hk0'⟩ := pickN (x := k) (m := N) (by omega)
  rw [hk0]
  conv => whnf
  have g14 := g11.trans g13
  refine known hC (Mem.ok (σ := σ) (by repeat first | exact g14 | apply Mem.bump | refine Mem.put ?_ (by (try simp only [bump_next, put_next]); omega) (by (try simp only [bump_next, put_next]); omega))) ?_
  intro τ6 g15
  have g16 : Mem τ5 τ6 := Mem.trans (by repeat first | exact Mem.refl g14.ok | apply Mem.bump | refine Mem.put ?_ (by (try simp only [bump_next, put_next]); omega) (by (try simp only [bump_next, put_next]); omega)) g15
  have g17 := g14.trans g16
  have g18 := g10.trans (g13.trans g16)
  have hav := hav.mono g8.ok g18
  have hrv := hrv.mono g8.ok g18
  have hf := g18.old g8.ok hf3
  clear hf3 g18 g9 g12 g15 g10 g13 g16 g14 g11 hi0 hk0 hm
  conv => whnf
  have hN0 : m ≠ [] := by intro e; rw [e] at hml; simp at hml; omega
  have hvl : vs.length = N := by rw [hrv.1, hml]
  refine br_intro ?_ ?_ <;> intro hik <;> simp only [blt_dec, ble_dec, beq_dec, ltB_eq, leB_eq, decide_eq_true_eq, decide_eq_false_iff_not, beq_iff_eq, bne_iff_ne, beq_eq_false_iff_ne, bne_eq_false_iff_eq] at hik
  · conv => whnf
    have g18 : Mem σ (τ6.bump 2) := by repeat first | exact g17 | apply Mem.bump | refine Mem.put ?_ (by (try simp only [bump_next, put_next]); omega) (by (try simp only [bump_next, put_next]); omega)
    refine known hC g18.ok ?_
    intro τ7 g19
    conv => whnf
    exact kQ _ (g18.trans g19)
  · conv => whnf
    have hik : i0 ≠ k0 := by intro e; subst e; exact hik rfl
    have hi1 : i0 < N := by omega
    have hk1 : k0 < N := by omega
    obtain ⟨xi, xi1, ⟨xia, xic, rfl⟩, xi3⟩ := hrv.get (i := i0) (by omega)
    obtain ⟨xk, xk1, ⟨xka, xkc, rfl⟩, xk3⟩ := hrv.get (i := k0) (by omega)
    obtain ⟨ar, ao, asp, ac, aro, e1, har, haci, hat⟩ := hav.idx (i := i0) (by omega)
    obtain rfl := e1
    have hack : ac[ao + k0 * 1]? = some (.slice xka (m.getD k0 []).length xkc) := by
      have : ((ac.drop ao).take vs.length)[k0]? = vs[k0]? := by rw [hat]
      rw [List.getElem?_take, if_pos (by omega), List.getElem?_drop, xk1] at this
      rw [Nat.mul_one]; exact this
    rw [← List.getElem?_eq_some_iff.2 ⟨_, rfl⟩, xi1] at haci
    have hmi : (m.getD i0 []).length = N := hmw _ (row_mem (by omega))
    have hmk : (m.getD k0 []).length = N := hmw _ (row_mem (by omega))
    rw [hmi] at xi1 xi3 haci
    rw [hmk] at xk1 xk3 hack
    have e0 : ∀ j : Nat, 0 + j * 1 = j := fun j => by omega
    -- rows alike
    have hnx := g17.next
    refine ⟨_, _, app_copy (m := m) (put_heap_eq _ _ _) (hav.mono g17.ok (by repeat first | exact Mem.refl g17.ok | apply Mem.bump | refine Mem.put ?_ (by (try simp only [bump_next, put_next]); omega) (by (try simp only [bump_next, put_next]); omega))) (hrv.mono g17.ok (by repeat first | exact Mem.refl g17.ok | apply Mem.bump | refine Mem.put ?_ (by (try simp only [bump_next, put_next]); omega) (by (try simp only [bump_next, put_next]); omega))) hN0 (by omega), ?_⟩
    rw [hml]
    conv => whnf
    repeat (first | (refine br_true (inR_intro (by simp only [loI, hiI]; omega)) ?_; conv => whnf) | (refine br_true (by simp only [blt_dec, ble_dec, beq_dec, ltB_eq, leB_eq, decide_eq_true_eq, decide_eq_false_iff_not, Bool.and_eq_true, Bool.or_eq_true, beq_iff_eq, bne_iff_ne, beq_eq_false_iff_ne, bne_eq_false_iff_eq]; first | done | omega) ?_; conv => whnf))
    refine ld_intro (Mem.old (σ := τ6) g17.ok (by repeat first | exact Mem.refl g17.ok | apply Mem.bump | refine Mem.put ?_ (by (try simp only [bump_next, put_next]); omega) (by (try simp only [bump_next, put_next]); omega)) har) ?_
    conv => whnf
    refine at_intro haci ?_
    conv => whnf
    repeat (first | (refine br_true (inR_intro (by simp only [loI, hiI]; omega)) ?_; conv => whnf) | (refine br_true (by simp only [blt_dec, ble_dec, beq_dec, ltB_eq, leB_eq, decide_eq_true_eq, decide_eq_false_iff_not, Bool.and_eq_true, Bool.or_eq_true, beq_iff_eq, bne_iff_ne, beq_eq_false_iff_ne, bne_eq_false_iff_eq]; first | done | omega) ?_; conv => whnf))
    refine wr_intro (c := vs) (put_heap_eq _ _ _) (Mem.noprot (σ := σ) hσ (by repeat first | exact g17 | apply Mem.bump | refine Mem.put ?_ (by (try simp only [bump_next, put_next]); omega) (by (try simp only [bump_next, put_next]); omega)) (by omega)) ?_
    conv => whnf
    repeat (first | (refine br_true (inR_intro (by simp only [loI, hiI]; omega)) ?_; conv => whnf) | (refine br_true (by simp only [blt_dec, ble_dec, beq_dec, ltB_eq, leB_eq, decide_eq_true_eq, decide_eq_false_iff_not, Bool.and_eq_true, Bool.or_eq_true, beq_iff_eq, bne_iff_ne, beq_eq_false_iff_ne, bne_eq_false_iff_eq, hvl]; first | done | omega) ?_; conv => whnf))
    rw [e0, wr_one _ _ _ (by omega)]
    have gB : Mem τ6 (((((τ6.bump 4).put (τ6.next + 0) (AObj.cells (zrow (Value.agg [Value.slice none 0 0].toArray) (0 * [Value.slice none 0 0].length)) false)).put (τ6.next + 2) (AObj.cells vs false)).bump 8).put (τ6.next + 2) (AObj.cells (vs.set k0 (Value.slice xia N xic)) false)) := by repeat first | exact Mem.refl g17.ok | apply Mem.bump | refine Mem.put ?_ (by (try simp only [bump_next, put_next]); omega) (by (try simp only [bump_next, put_next]); omega)
    have hrB := (hrv.mono g17.ok gB).set k0 (xi3.mono g17.ok gB)
    have hmB := (hrB.mono gB.ok (gB.ok |> Mem.refl |>.bump 8)).mat (n := N) (cap := N) (sp := some 1) (put_heap_eq _ _ _) (by rw [List.length_set]; omega)
    have wB := mem_set_len (k := k0) hmw hmi
    have bB := bytes_set (a := k0) hmb (l := m.getD i0 []) (fun x hx => hmb _ (row_mem (by omega)) x hx)
    have sB : ∀ q, ¬ Sol N (m.set k0 (m.getD i0 [])) q := fun q => alike_not (i := i0) (k := k0) hi1 hk1 hik (by rw [rowA_set _ _ (by omega), rowA_set _ _ (by omega), if_neg hik, if_pos rfl])
    refine inverse' hC (m := m.set k0 (m.getD i0 [])) (n := N) (by rw [List.length_set]; exact hml) (by omega) (by omega) wB bB (gB.bump 8).ok ((gB.bump 8).old g17.ok hf) hmB ?_ (fun σ' v q _ _ _ _ _ hs => absurd hs (sB q))
    intro τ7 g20 _
    have g21 : Mem τ6 τ7 := Mem.trans (gB.bump 8) g20
    have hav := hav.mono g17.ok g21
    have hrv := hrv.mono g17.ok g21
    have hf := g21.old g17.ok hf
    have har := g21.old g17.ok har
    have g22 := g17.trans g21
    have xi3 := xi3.mono g17.ok g21
    have xk3 := xk3.mono g17.ok g21
    clear gB hrB hmB g20 wB bB sB hnx
    conv => whnf
    -- a row of nothing
    refine ⟨_, _, app_copy (m := m) (put_heap_eq _ _ _) (hav.mono g22.ok (by repeat first | exact Mem.refl g22.ok | apply Mem.bump | refine Mem.put ?_ (by (try simp only [bump_next, put_next]); omega) (by (try simp only [bump_next, put_next]); omega))) (hrv.mono g22.ok (by repeat first | exact Mem.refl g22.ok | apply Mem.bump | refine Mem.put ?_ (by (try simp only [bump_next, put_next]); omega) (by (try simp only [bump_next, put_next]); omega))) hN0 (by omega), ?_⟩
    rw [hml]
    conv => whnf
    repeat (first | (refine br_true (inR_intro (by simp only [loI, hiI]; omega)) ?_; conv => whnf) | (refine br_true (by simp only [blt_dec, ble_dec, beq_dec, ltB_eq, leB_eq, decide_eq_true_eq, decide_eq_false_iff_not, Bool.and_eq_true, Bool.or_eq_true, beq_iff_eq, bne_iff_ne, beq_eq_false_iff_ne, bne_eq_false_iff_eq]; first | done | omega) ?_; conv => whnf))
    have hnx := g22.next
    refine wr_intro (c := vs) ?_ (Mem.noprot (σ := σ) hσ (by repeat first | exact g22 | apply Mem.bump | refine Mem.put ?_ (by (try simp only [bump_next, put_next]); omega) (by (try simp only [bump_next, put_next]); omega)) (by omega)) ?_
    · rw [put_heap_ne (by simp only [put_next, bump_next]; omega), bump_heap, put_heap_eq]
    conv => whnf
    repeat (first | (refine br_true (inR_intro (by simp only [loI, hiI]; omega)) ?_; conv => whnf) | (refine br_true (by simp only [blt_dec, ble_dec, beq_dec, ltB_eq, leB_eq, decide_eq_true_eq, decide_eq_false_iff_not, Bool.and_eq_true, Bool.or_eq_true, beq_iff_eq, bne_iff_ne, beq_eq_false_iff_ne, bne_eq_false_iff_eq, hvl]; first | done | omega) ?_; conv => whnf))
    rw [e0, wr_one _ _ _ (by omega), show zrow (Value.agg [Value.int IntKind.u8 0].toArray) (N * [Value.int IntKind.u8 0].length) = List.replicate N (vb 0) from zrow_rep (vb 0) N]
    have gB : Mem τ7 ((((((τ7.bump 4).put (τ7.next + 0) (AObj.cells (zrow (Value.agg [Value.slice none 0 0].toArray) (0 * [Value.slice none 0 0].length)) false)).put (τ7.next + 2) (AObj.cells vs false)).bump 6).put (τ7.next + 4 + 3) (AObj.cells (List.replicate N (vb 0)) false)).put (τ7.next + 2) (AObj.cells (vs.set k0 (whole (τ7.next + 4 + 3) N)) false)) := by repeat first | exact Mem.refl g22.ok | apply Mem.bump | refine Mem.put ?_ (by (try simp only [bump_next, put_next]); omega) (by (try simp only [bump_next, put_next]); omega)
    have hz : SlAt ((((((τ7.bump 4).put (τ7.next + 0) (AObj.cells (zrow (Value.agg [Value.slice none 0 0].toArray) (0 * [Value.slice none 0 0].length)) false)).put (τ7.next + 2) (AObj.cells vs false)).bump 6).put (τ7.next + 4 + 3) (AObj.cells (List.replicate N (vb 0)) false)).put (τ7.next + 2) (AObj.cells (vs.set k0 (whole (τ7.next + 4 + 3) N)) false)) (whole (τ7.next + 4 + 3) N) ((List.replicate N 0).map vb) := by
      refine SlAt.mk (c := List.replicate N (vb 0)) (ro := false) ?_ (by simp) (by simp)
      rw [put_heap_ne (by omega), put_heap_eq]
    have hrB := (hrv.mono g22.ok gB).set k0 hz
    have hmB := (hrB.mono gB.ok (gB.ok |> Mem.refl |>.bump 8)).mat (n := N) (cap := N) (sp := some 1) (put_heap_eq _ _ _) (by rw [List.length_set]; omega)
    have wB := mem_set_len (k := k0) hmw (l := List.replicate N 0) (by simp)
    have bB := bytes_set (a := k0) hmb (l := List.replicate N 0) (fun x hx => by have := List.eq_of_mem_replicate hx; omega)
    have sB : ∀ q, ¬ Sol N (m.set k0 (List.replicate N 0)) q := fun q => zero_not (k := k0) (c := N) hk1 (by rw [rowA_set _ _ (by omega), if_pos rfl])
    refine inverse' hC (m := m.set k0 (List.replicate N 0)) (n := N) (by rw [List.length_set]; exact hml) (by omega) (by omega) wB bB (gB.bump 8).ok ((gB.bump 8).old g22.ok hf) hmB ?_ (fun σ' v q _ _ _ _ _ hs => absurd hs (sB q))
    intro τ8 g23 _
    have g24 : Mem τ7 τ8 := Mem.trans (gB.bump 8) g23
    have hav := hav.mono g22.ok g24
    have hrv := hrv.mono g22.ok g24
    have hf := g24.old g22.ok hf
    have har := g24.old g22.ok har
    have g25 := g22.trans g24
    have xi3 := xi3.mono g22.ok g24
    have xk3 := xk3.mono g22.ok g24
    clear gB hrB hmB g23 wB bB sB hnx hz
    conv => whnf
    -- rows that change places
    refine ⟨_, _, app_copy (m := m) (put_heap_eq _ _ _) (hav.mono g25.ok (by repeat first | exact Mem.refl g25.ok | apply Mem.bump | refine Mem.put ?_ (by (try simp only [bump_next, put_next]); omega) (by (try simp only [bump_next, put_next]); omega))) (hrv.mono g25.ok (by repeat first | exact Mem.refl g25.ok | apply Mem.bump | refine Mem.put ?_ (by (try simp only [bump_next, put_next]); omega) (by (try simp only [bump_next, put_next]); omega))) hN0 (by omega), ?_⟩
    rw [hml]
    conv => whnf
    repeat (first | (refine br_true (inR_intro (by simp only [loI, hiI]; omega)) ?_; conv => whnf) | (refine br_true (by simp only [blt_dec, ble_dec, beq_dec, ltB_eq, leB_eq, decide_eq_true_eq, decide_eq_false_iff_not, Bool.and_eq_true, Bool.or_eq_true, beq_iff_eq, bne_iff_ne, beq_eq_false_iff_ne, bne_eq_false_iff_eq]; first | done | omega) ?_; conv => whnf))
    have hnx := g25.next
    refine ld_intro (Mem.old (σ := τ8) g25.ok (by repeat first | exact Mem.refl g25.ok | apply Mem.bump | refine Mem.put ?_ (by (try simp only [bump_next, put_next]); omega) (by (try simp only [bump_next, put_next]); omega)) har) ?_
    conv => whnf
    refine at_intro hack ?_
    conv => whnf
    repeat (first | (refine br_true (inR_intro (by simp only [loI, hiI]; omega)) ?_; conv => whnf) | (refine br_true (by simp only [blt_dec, ble_dec, beq_dec, ltB_eq, leB_eq, decide_eq_true_eq, decide_eq_false_iff_not, Bool.and_eq_true, Bool.or_eq_true, beq_iff_eq, bne_iff_ne, beq_eq_false_iff_ne, bne_eq_false_iff_eq]; first | done | omega) ?_; conv => whnf))
    refine ld_intro (Mem.old (σ := τ8) g25.ok (by repeat first | exact Mem.refl g25.ok | apply Mem.bump | refine Mem.put ?_ (by (try simp only [bump_next, put_next]); omega) (by (try simp only [bump_next, put_next]); omega)) har) ?_
    conv => whnf
    refine at_intro haci ?_
    conv => whnf
    repeat (first | (refine br_true (inR_intro (by simp only [loI, hiI]; omega)) ?_; conv => whnf) | (refine br_true (by simp only [blt_dec, ble_dec, beq_dec, ltB_eq, leB_eq, decide_eq_true_eq, decide_eq_false_iff_not, Bool.and_eq_true, Bool.or_eq_true, beq_iff_eq, bne_iff_ne, beq_eq_false_iff_ne, bne_eq_false_iff_eq]; first | done | omega) ?_; conv => whnf))
    refine wr_intro (c := vs) (put_heap_eq _ _ _) (Mem.noprot (σ := σ) hσ (by repeat first | exact g25 | apply Mem.bump | refine Mem.put ?_ (by (try simp only [bump_next, put_next]); omega) (by (try simp only [bump_next, put_next]); omega)) (by simp only [bump_next]; omega)) ?_
    conv => whnf
    repeat (first | (refine br_true (inR_intro (by simp only [loI, hiI]; omega)) ?_; conv => whnf) | (refine br_true (by simp only [blt_dec, ble_dec, beq_dec, ltB_eq, leB_eq, decide_eq_true_eq, decide_eq_false_iff_not, Bool.and_eq_true, Bool.or_eq_true, beq_iff_eq, bne_iff_ne, beq_eq_false_iff_ne, bne_eq_false_iff_eq, hvl]; first | done | omega) ?_; conv => whnf))
    rw [e0, wr_one _ _ _ (by omega)]
    refine wr_intro (c := vs.set i0 (.slice xka N xkc)) (put_heap_eq _ _ _) (Mem.noprot (σ := σ) hσ (by repeat first | exact g25 | apply Mem.bump | refine Mem.put ?_ (by (try simp only [bump_next, put_next]); omega) (by (try simp only [bump_next, put_next]); omega)) (by simp only [bump_next]; omega)) ?_
    conv => whnf
    repeat (first | (refine br_true (inR_intro (by simp only [loI, hiI]; omega)) ?_; conv => whnf) | (refine br_true (by simp only [blt_dec, ble_dec, beq_dec, ltB_eq, leB_eq, decide_eq_true_eq, decide_eq_false_iff_not, Bool.and_eq_true, Bool.or_eq_true, beq_iff_eq, bne_iff_ne, beq_eq_false_iff_ne, bne_eq_false_iff_eq, hvl, List.length_set]; first | done | omega) ?_; conv => whnf))
    rw [e0, wr_one _ _ _ (by rw [List.length_set]; omega)]
    have gB : Mem τ8 (((((((τ8.bump 4).bump 4).put ((τ8.bump 4).next + 0) (AObj.cells (zrow (Value.agg [Value.slice none 0 0].toArray) (0 * [Value.slice none 0 0].length)) false)).put ((τ8.bump 4).next + 2) (AObj.cells vs false)).bump 16).put ((τ8.bump 4).next + 2) (AObj.cells (vs.set i0 (Value.slice xka N xkc)) false)).put ((τ8.bump 4).next + 2) (AObj.cells ((vs.set i0 (Value.slice xka N xkc)).set k0 (Value.slice xia N xic)) false)) := by repeat first | exact Mem.refl g25.ok | apply Mem.bump | refine Mem.put ?_ (by (try simp only [bump_next, put_next]); omega) (by (try simp only [bump_next, put_next]); omega)
    have hrB := ((hrv.mono g25.ok gB).set i0 (xk3.mono g25.ok gB)).set k0 (xi3.mono g25.ok gB)
    have hmB := hrB.mat (n := N) (cap := N) (sp := some 1) (put_heap_eq _ _ _) (by rw [List.length_set, List.length_set]; omega)
    have wB := mem_set_len (k := k0) (mem_set_len (k := i0) hmw hmk) hmi
    have bB := bytes_set (a := k0) (bytes_set (a := i0) hmb (l := m.getD k0 []) (fun x hx => hmb _ (row_mem (by omega)) x hx)) (l := m.getD i0 []) (fun x hx => hmb _ (row_mem (by omega)) x hx)
    have rB : ∀ r, rowA ((m.set i0 (m.getD k0 [])).set k0 (m.getD i0 [])) r = rowA m (sw i0 k0 r) := fun r => swap_row (m := m) (a := i0) (p := k0) (by omega) (by omega) r
    have lB : ((m.set i0 (m.getD k0 [])).set k0 (m.getD i0 [])).length = N := by rw [List.length_set, List.length_set]; exact hml
    clear xi3 xk3 har haci hack xi1 xk1 hrB
    generalize (m.set i0 (m.getD k0 [])).set k0 (m.getD i0 []) = D at *
    generalize hst : (((((((τ8.bump 4).bump 4).put ((τ8.bump 4).next + 0) (AObj.cells (zrow (Value.agg [Value.slice none 0 0].toArray) (0 * [Value.slice none 0 0].length)) false)).put ((τ8.bump 4).next + 2) (AObj.cells vs false)).bump 16).put ((τ8.bump 4).next + 2) (AObj.cells (vs.set i0 (Value.slice xka N xkc)) false)).put ((τ8.bump 4).next + 2) (AObj.cells ((vs.set i0 (Value.slice xka N xkc)).set k0 (Value.slice xia N xic)) false)) = st at *
    have gS := gB.bump 8
    have hma : MatAt (st.bump 8) (.slice (some ⟨ar, ao, asp⟩) vs.length acap) m := ⟨vs, hav.mono g25.ok gS, (hrv.mono g25.ok gS).1, (hrv.mono g25.ok gS).2⟩
    have rB' : ∀ r, rowA m r = rowA D (sw i0 k0 r) := fun r => by rw [rB, sw_sw]
    refine inverse' hC (m := m) (n := N) hml (by omega) (by omega) hmw hmb gS.ok (gS.old g25.ok hf) hma ?_ ?_
    · intro τ9 g26 hsing
      have g27 := gS.trans g26
      have g28 := g26.bump 8
      conv => whnf
      refine inverse' hC (m := D) (n := N) lB (by omega) (by omega) wB bB g28.ok ((gS.trans g28).old g25.ok hf) ((hmB.mono gB.ok (Mem.bump (Mem.refl gB.ok) 8)).mono gS.ok g28) ?_ (fun σ' v q _ _ _ _ _ hs => absurd (sing_swap hi1 hk1 rB' hsing) (sol_sing hs))
      intro τ10 g29 _
      have g30 := (g25.trans gS).trans (g28.trans g29)
      conv => whnf
      refine loop_intro (n := 184) (fun mm ws τ => ws = [vi N, vi i0, vi k0, .slice none 0 0, .bool false, .slice none 0 0, vi 0] ∧ Mem σ τ) 0 rfl ?_ ?_
      · conv => whnf
        exact ⟨rfl, by repeat first | exact g30 | apply Mem.bump | refine Mem.put ?_ (by (try simp only [bump_next, put_next]); omega) (by (try simp only [bump_next, put_next]); omega)⟩
      · rintro mm ws τ ⟨rfl, g31⟩
        conv => whnf
        (refine br_true (by simp only [blt_dec, ble_dec, beq_dec, ltB_eq, leB_eq, decide_eq_true_eq, decide_eq_false_iff_not, Bool.and_eq_true, Bool.or_eq_true, beq_iff_eq, bne_iff_ne, beq_eq_false_iff_ne, bne_eq_false_iff_eq]; first | done | omega) ?_; conv => whnf)
        exact kQ _ (by repeat first | exact g31 | apply Mem.bump | refine Mem.put ?_ (by (try simp only [bump_next, put_next]); omega) (by (try simp only [bump_next, put_next]); omega))
    · intro τ9 v1 q1 g26 hv1 hq1 hqb1 hqw1 hsol1
      have g27 := gS.trans g26
      have g28 := g26.bump 8
      obtain ⟨qa, qs, qc, rfl, hqs, hqr⟩ := hv1.rows
      conv => whnf
      refine inverse' hC (m := D) (n := N) lB (by omega) (by omega) wB bB g28.ok ((gS.trans g28).old g25.ok hf) ((hmB.mono gB.ok (Mem.bump (Mem.refl gB.ok) 8)).mono gS.ok g28) (fun σ' _ hs => absurd (sing_swap hi1 hk1 rB hs) (sol_sing hsol1)) ?_
      intro τ10 v2 q2 g29 hv2 hq2 hqb2 hqw2 hsol2
      have g30 := (g25.trans gS).trans (g28.trans g29)
      obtain ⟨pa, ps, pc, rfl, hps, hpr⟩ := hv2.rows
      conv => whnf
      have hqsl : qs.length = N := by rw [hqr.1, hq1]
      have hpsl : ps.length = N := by rw [hpr.1, hq2]
      have h1 : Mem τ9 τ10 := ((Mem.refl g26.ok).bump 8).trans g29
      have hqs := hqs.mono g26.ok h1
      have hqr := hqr.mono g26.ok h1
      (refine br_false (by simp only [blt_dec, ble_dec, beq_dec, ltB_eq, leB_eq, decide_eq_true_eq, decide_eq_false_iff_not, Bool.and_eq_true, Bool.or_eq_true, beq_iff_eq, bne_iff_ne, beq_eq_false_iff_ne, bne_eq_false_iff_eq]; first | done | omega) ?_; conv => whnf)
      (refine br_false (by simp only [blt_dec, ble_dec, beq_dec, ltB_eq, leB_eq, decide_eq_true_eq, decide_eq_false_iff_not, Bool.and_eq_true, Bool.or_eq_true, beq_iff_eq, bne_iff_ne, beq_eq_false_iff_ne, bne_eq_false_iff_eq]; first | done | omega) ?_; conv => whnf)
      refine loop_intro (n := 184) (fun mm ws τ => ∃ r, r ≤ N ∧ mm = N - r ∧ ws = [vi N, vi i0, vi k0, .slice qa qs.length qc, .bool true, .slice pa ps.length pc, vi r] ∧ Mem τ10 τ) N rfl ?_ ?_
      · conv => whnf
        exact ⟨0, by omega, rfl, rfl, by repeat first | exact Mem.refl g30.ok | apply Mem.bump | refine Mem.put ?_ (by (try simp only [bump_next, put_next]); omega) (by (try simp only [bump_next, put_next]); omega)⟩
      · rintro mm ws τ ⟨r, hr, rfl, rfl, g31⟩
        conv => whnf
        refine br_intro ?_ ?_ <;> intro h2 <;> simp only [blt_dec, ble_dec, beq_dec, ltB_eq, leB_eq, decide_eq_true_eq, decide_eq_false_iff_not, beq_iff_eq, bne_iff_ne, beq_eq_false_iff_ne, bne_eq_false_iff_eq] at h2
        · have hr0 : r < N := by omega
          obtain ⟨qr, qo, qsp, qcc, qro, rfl, hqh, hqi, _⟩ := hqs.idx (i := r) (by omega)
          obtain ⟨pr, po, psp, pcc, pro, rfl, hph, hpi, _⟩ := hps.idx (i := r) (by omega)
          obtain ⟨y1, y11, ⟨y1a, y1c, rfl⟩, y13⟩ := hqr.get (i := r) (by omega)
          obtain ⟨y2, y21, ⟨y2a, y2c, rfl⟩, y23⟩ := hpr.get (i := r) (by omega)
          rw [List.getElem?_eq_getElem (by omega)] at y11 y21
          injection y11 with y11
          injection y21 with y21
          have w1 : (q1.getD r []).length = N := hqw1 _ (row_mem (by omega))
          have w2 : (q2.getD r []).length = N := hqw2 _ (row_mem (by omega))
          rw [w1] at y11 y13
          rw [w2] at y21 y23
          rw [y11] at hqi
          rw [y21] at hpi
          have wq1 : Wid N q1 := wid_of hqw1
          have wq2 : Wid N q2 := wid_of hqw2
          have s1 := sol_swap hi1 hk1 rB hsol1 hsol2 hqb1 hqb2 hq1 hq2 wq1 wq2 hr0 hk1
          have s2 := sol_swap hi1 hk1 rB hsol1 hsol2 hqb1 hqb2 hq1 hq2 wq1 wq2 hr0 hi1
          rw [show sw i0 k0 k0 = i0 by unfold sw; rw [if_pos rfl]] at s1
          rw [show sw i0 k0 i0 = k0 by unfold sw; rw [if_neg hik, if_pos rfl]] at s2
          obtain ⟨z1, zo1, zs1, zc1, zr1, rfl, zh1, zi1, zt1⟩ := y13.idx (i := i0) (by rw [List.length_map]; omega)
          obtain ⟨z2, zo2, zs2, zc2, zr2, rfl, zh2, zi2, zt2⟩ := y23.idx (i := i0) (by rw [List.length_map]; omega)
          obtain ⟨_, _, _, _, _, e1, zh1', zk1, _⟩ := y13.idx (i := k0) (by rw [List.length_map]; omega)
          obtain ⟨_, _, _, _, _, e2, zh2', zk2, _⟩ := y23.idx (i := k0) (by rw [List.length_map]; omega)
          simp only [Option.some.injEq, Addr.mk.injEq] at e1 e2
          obtain ⟨rfl, rfl, rfl⟩ := e1
          obtain ⟨rfl, rfl, rfl⟩ := e2
          rw [getD_map_vb (by omega)] at zi1 zi2 zk1 zk2
          have sub : ∀ r o n n', τ10.heap r = some o → ((τ.bump n).bump n').heap r = some o := fun r o n n' h => g31.old g30.ok h
          conv => whnf
          repeat (first | (refine br_true (inR_intro (by simp only [loI, hiI]; omega)) ?_; conv => whnf) | (refine br_true (by simp only [blt_dec, ble_dec, beq_dec, ltB_eq, leB_eq, decide_eq_true_eq, decide_eq_false_iff_not, Bool.and_eq_true, Bool.or_eq_true, beq_iff_eq, bne_iff_ne, beq_eq_false_iff_ne, bne_eq_false_iff_eq]; first | done | omega) ?_; conv => whnf))
          refine ld_intro (sub _ _ _ _ hqh) ?_
          conv => whnf
          refine at_intro hqi ?_
          conv => whnf
          (refine br_false (by simp only [blt_dec, ble_dec, beq_dec, ltB_eq, leB_eq, decide_eq_true_eq, decide_eq_false_iff_not, Bool.and_eq_true, Bool.or_eq_true, beq_iff_eq, bne_iff_ne, beq_eq_false_iff_ne, bne_eq_false_iff_eq]; first | done | omega) ?_; conv => whnf)
          repeat (first | (refine br_true (inR_intro (by simp only [loI, hiI]; omega)) ?_; conv => whnf) | (refine br_true (by simp only [blt_dec, ble_dec, beq_dec, ltB_eq, leB_eq, decide_eq_true_eq, decide_eq_false_iff_not, Bool.and_eq_true, Bool.or_eq_true, beq_iff_eq, bne_iff_ne, beq_eq_false_iff_ne, bne_eq_false_iff_eq]; first | done | omega) ?_; conv => whnf))
          refine ld_intro (sub _ _ _ _ hph) ?_
          conv => whnf
          refine at_intro hpi ?_
          conv => whnf
          (refine br_false (by simp only [blt_dec, ble_dec, beq_dec, ltB_eq, leB_eq, decide_eq_true_eq, decide_eq_false_iff_not, Bool.and_eq_true, Bool.or_eq_true, beq_iff_eq, bne_iff_ne, beq_eq_false_iff_ne, bne_eq_false_iff_eq]; first | done | omega) ?_; conv => whnf)
          repeat (first | (refine br_true (inR_intro (by simp only [loI, hiI]; omega)) ?_; conv => whnf) | (refine br_true (by simp only [blt_dec, ble_dec, beq_dec, ltB_eq, leB_eq, decide_eq_true_eq, decide_eq_false_iff_not, Bool.and_eq_true, Bool.or_eq_true, beq_iff_eq, bne_iff_ne, beq_eq_false_iff_ne, bne_eq_false_iff_eq]; first | done | omega) ?_; conv => whnf))
          refine ld_intro (sub _ _ _ _ hqh) ?_
          conv => whnf
          refine at_intro hqi ?_
          conv => whnf
          repeat (first | (refine br_true (inR_intro (by simp only [loI, hiI]; omega)) ?_; conv => whnf) | (refine br_true (by simp only [blt_dec, ble_dec, beq_dec, ltB_eq, leB_eq, decide_eq_true_eq, decide_eq_false_iff_not, Bool.and_eq_true, Bool.or_eq_true, beq_iff_eq, bne_iff_ne, beq_eq_false_iff_ne, bne_eq_false_iff_eq]; first | done | omega) ?_; conv => whnf))
          refine ld_intro (sub _ _ _ _ zh1) ?_
          conv => whnf
          refine at_intro zi1 ?_
          conv => whnf
          repeat (first | (refine br_true (inR_intro (by simp only [loI, hiI]; omega)) ?_; conv => whnf) | (refine br_true (by simp only [blt_dec, ble_dec, beq_dec, ltB_eq, leB_eq, decide_eq_true_eq, decide_eq_false_iff_not, Bool.and_eq_true, Bool.or_eq_true, beq_iff_eq, bne_iff_ne, beq_eq_false_iff_ne, bne_eq_false_iff_eq]; first | done | omega) ?_; conv => whnf))
          refine ld_intro (sub _ _ _ _ hph) ?_
          conv => whnf
          refine at_intro hpi ?_
          conv => whnf
          repeat (first | (refine br_true (inR_intro (by simp only [loI, hiI]; omega)) ?_; conv => whnf) | (refine br_true (by simp only [blt_dec, ble_dec, beq_dec, ltB_eq, leB_eq, decide_eq_true_eq, decide_eq_false_iff_not, Bool.and_eq_true, Bool.or_eq_true, beq_iff_eq, bne_iff_ne, beq_eq_false_iff_ne, bne_eq_false_iff_eq]; first | done | omega) ?_; conv => whnf))
          refine ld_intro (sub _ _ _ _ zh2') ?_
          conv => whnf
          refine at_intro zk2 ?_
          conv => whnf
          have s1' : ((q1.getD r []).getD i0 0 : Nat) = (q2.getD r []).getD k0 0 := s1.symm
          have s2' : ((q1.getD r []).getD k0 0 : Nat) = (q2.getD r []).getD i0 0 := s2.symm
          refine br_false (by rw [s1', bne_self_eq_false]) ?_
          conv => whnf
          repeat (first | (refine br_true (inR_intro (by simp only [loI, hiI]; omega)) ?_; conv => whnf) | (refine br_true (by simp only [blt_dec, ble_dec, beq_dec, ltB_eq, leB_eq, decide_eq_true_eq, decide_eq_false_iff_not, Bool.and_eq_true, Bool.or_eq_true, beq_iff_eq, bne_iff_ne, beq_eq_false_iff_ne, bne_eq_false_iff_eq]; first | done | omega) ?_; conv => whnf))
          refine ld_intro (sub _ _ _ _ hqh) ?_
          conv => whnf
          refine at_intro hqi ?_
          conv => whnf
          repeat (first | (refine br_true (inR_intro (by simp only [loI, hiI]; omega)) ?_; conv => whnf) | (refine br_true (by simp only [blt_dec, ble_dec, beq_dec, ltB_eq, leB_eq, decide_eq_true_eq, decide_eq_false_iff_not, Bool.and_eq_true, Bool.or_eq_true, beq_iff_eq, bne_iff_ne, beq_eq_false_iff_ne, bne_eq_false_iff_eq]; first | done | omega) ?_; conv => whnf))
          refine ld_intro (sub _ _ _ _ zh1') ?_
          conv => whnf
          refine at_intro zk1 ?_
          conv => whnf
          repeat (first | (refine br_true (inR_intro (by simp only [loI, hiI]; omega)) ?_; conv => whnf) | (refine br_true (by simp only [blt_dec, ble_dec, beq_dec, ltB_eq, leB_eq, decide_eq_true_eq, decide_eq_false_iff_not, Bool.and_eq_true, Bool.or_eq_true, beq_iff_eq, bne_iff_ne, beq_eq_false_iff_ne, bne_eq_false_iff_eq]; first | done | omega) ?_; conv => whnf))
          refine ld_intro (sub _ _ _ _ hph) ?_
          conv => whnf
          refine at_intro hpi ?_
          conv => whnf
          repeat (first | (refine br_true (inR_intro (by simp only [loI, hiI]; omega)) ?_; conv => whnf) | (refine br_true (by simp only [blt_dec, ble_dec, beq_dec, ltB_eq, leB_eq, decide_eq_true_eq, decide_eq_false_iff_not, Bool.and_eq_true, Bool.or_eq_true, beq_iff_eq, bne_iff_ne, beq_eq_false_iff_ne, bne_eq_false_iff_eq]; first | done | omega) ?_; conv => whnf))
          refine ld_intro (sub _ _ _ _ zh2) ?_
          conv => whnf
          refine at_intro zi2 ?_
          conv => whnf
          refine br_false (by rw [s2', bne_self_eq_false]) ?_
          conv => whnf
          repeat (first | (refine br_true (inR_intro (by simp only [loI, hiI]; omega)) ?_; conv => whnf) | (refine br_true (by simp only [blt_dec, ble_dec, beq_dec, ltB_eq, leB_eq, decide_eq_true_eq, decide_eq_false_iff_not, Bool.and_eq_true, Bool.or_eq_true, beq_iff_eq, bne_iff_ne, beq_eq_false_iff_ne, bne_eq_false_iff_eq]; first | done | omega) ?_; conv => whnf))
          refine ⟨rfl, N - (r + 1), by omega, r + 1, by omega, rfl, rfl, ?_⟩
          repeat first | exact g31 | apply Mem.bump | refine Mem.put ?_ (by (try simp only [bump_next, put_next]); omega) (by (try simp only [bump_next, put_next]); omega)
        · conv => whnf
          exact kQ _ (by repeat first | exact g30.trans g31 | apply Mem.bump | refine Mem.put ?_ (by (try simp only [bump_next, put_next]); omega) (by (try simp only [bump_next, put_next]); omega))
end
end Go.Corb.A

/- Contracts: Exp, Bytes, coder.New. Conditions: none. -/
set_option linter.unusedVariables false
set_option linter.unusedSimpArgs false
namespace Go.Corb
theorem inR_lock {k : IntKind} {n : Int} (h : inR k n = true) : lock (k.wrap n) = n := by rw [lock_eq, inR_wrap h]
end Go.Corb
namespace Go.Corb.A
open Go Go.RowKit Go.Proofs Go.Corb Go.IntWalk

section
variable {Base : CallRel}
set_option pp.deepTerms.threshold 8

theorem fexp (hC : CProp (ACall Try.prog Base)) {r : Nat} {ro : Bool} {n : Nat} (hn : n < 255) {σ : AS} (hσ : Ok σ) (hf : σ.heap r = some (.cells fieldCells ro)) {Q : Value → AS → Prop} (k : ∀ σ', Mem σ σ' → Q (vb (tabE.getD n 0)) σ') :
    ∃ v σ', ACall Try.prog Base 33 [.pointer (some ⟨r, 0, none⟩), vi n] σ v σ' ∧ Q v σ' := by
  refine call_rwp hC cf33 rfl hσ.wf ?_
  have hlen := fc_len
  conv => whnf
  rw [lock_eq, show (255 : Int) = ((255 : Nat) : Int) from rfl, ← Int.ofNat_tmod, Nat.mod_eq_of_lt hn]
  repeat (first | (refine br_true (inR_intro (by simp only [loI, hiI]; omega)) ?_; conv => whnf) | (refine br_true (by simp only [blt_dec, ble_dec, beq_dec, ltB_eq, leB_eq, decide_eq_true_eq, decide_eq_false_iff_not, Bool.and_eq_true, Bool.or_eq_true, beq_iff_eq, bne_iff_ne, beq_eq_false_iff_ne, bne_eq_false_iff_eq]; first | done | omega) ?_; conv => whnf))
  rw [lock_eq, show (n : Int) + ((255 : Nat) : Int) = ((n + 255 : Nat) : Int) by omega, ← Int.ofNat_tmod, Nat.add_mod_right, Nat.mod_eq_of_lt hn]
  conv => whnf
  repeat (first | (refine br_true (inR_intro (by simp only [loI, hiI]; omega)) ?_; conv => whnf) | (refine br_true (by simp only [blt_dec, ble_dec, beq_dec, ltB_eq, leB_eq, decide_eq_true_eq, decide_eq_false_iff_not, Bool.and_eq_true, Bool.or_eq_true, beq_iff_eq, bne_iff_ne, beq_eq_false_iff_ne, bne_eq_false_iff_eq]; first | done | omega) ?_; conv => whnf))
  refine ld_intro hf ?_
  conv => whnf
  refine at_intro (fc_exp (a := n) hn (by omega)) ?_
  conv => whnf
  exact k _ (by repeat first | exact Mem.refl hσ | apply Mem.bump)

theorem bytes (hC : CProp (ACall Try.prog Base)) {seed : Int} {n : Nat} (hn : 1 ≤ n) (hn' : n ≤ 4096) {σ : AS} (hσ : Ok σ) {Q : Value → AS → Prop}
    (kQ : ∀ σ' r (l : List Nat), Mem σ σ' → σ.next ≤ r → l.length = n → (∀ x ∈ l, x < 256) → σ'.heap r = some (.cells (l.map vb) false) → Q (whole r n) σ') :
    ∃ v σ', ACall Try.prog Base 17 [.int .i64 seed, vi n] σ v σ' ∧ Q v σ' := by
  refine call_rwp hC cf17 rfl hσ.wf ?_
  conv => whnf
  repeat (first | (refine br_true (inR_intro (by simp only [loI, hiI]; omega)) ?_; conv => whnf) | (refine br_true (by simp only [blt_dec, ble_dec, beq_dec, ltB_eq, leB_eq, decide_eq_true_eq, decide_eq_false_iff_not, Bool.and_eq_true, Bool.or_eq_true, beq_iff_eq, bne_iff_ne, beq_eq_false_iff_ne, bne_eq_false_iff_eq]; first | done | omega) ?_; conv => whnf))
  refine pick hC (m := 7) (by omega) (by omega) (Mem.ok (σ := σ) (by repeat first | exact Mem.refl hσ | apply Mem.bump | refine Mem.put ?_ (by (try simp only [bump_next, put_next]); omega) (by (try simp only [bump_next, put_next]); omega))) ?_
  intro τ1 g1
  have g2 : Mem σ τ1 := Mem.trans (by repeat first | exact Mem.refl hσ | apply Mem.bump | refine Mem.put ?_ (by (try simp only [bump_next, put_next]); omega) (by (try simp only [bump_next, put_next]); omega)) g1
  have hnx := g2.next
  have hnx1 := g1.next
  simp only [bump_next, put_next] at hnx1
  have hz := Mem.old (σ := (((σ.bump 1).bump 3).put (σ.next + 1 + 1) (.cells (zrow (.agg [.int .u8 0].toArray) (n * [Value.int .u8 0].length)) false)).bump 3) (Mem.ok (σ := σ) (by repeat first | exact Mem.refl hσ | apply Mem.bump | refine Mem.put ?_ (by (try simp only [bump_next, put_next]); omega) (by (try simp only [bump_next, put_next]); omega))) g1 (put_heap_eq _ _ _)
  rw [show zrow (Value.agg [Value.int IntKind.u8 0].toArray) (n * [Value.int IntKind.u8 0].length) = (List.replicate n 0).map vb by rw [List.map_replicate]; exact zrow_rep (vb 0) n] at hz
  have hzl := g1.ok.lt hz
  refine br_intro ?_ ?_ <;> intro h1 <;> simp only [blt_dec, ble_dec, beq_dec, ltB_eq, leB_eq, decide_eq_true_eq, decide_eq_false_iff_not, beq_iff_eq, bne_iff_ne, beq_eq_false_iff_ne, bne_eq_false_iff_eq] at h1
  · conv => whnf
    exact kQ _ (σ.next + 1 + 1) (List.replicate n 0) (by repeat first | exact g2 | apply Mem.bump | refine Mem.put ?_ (by (try simp only [bump_next, put_next]); omega) (by (try simp only [bump_next, put_next]); omega)) (by omega) (by simp) (fun x hx => by have := List.eq_of_mem_replicate hx; omega) hz
  · conv => whnf
    refine (fun h => br_intro (fun hb => (by rw [inR_lock hb] at h; exact h)) (fun _ => h)) ?_
    conv => whnf
    refine (fun h => br_intro (fun hb => (by rw [inR_lock hb] at h; exact h)) (fun _ => h)) ?_
    conv => whnf
    refine loop_intro (n := 33) (fun mm ws τ => ∃ (i : Nat) (s : Int) (l : List Nat), i ≤ n ∧ mm = n - i ∧ ws = [vi n, whole (σ.next + 1 + 1) n, .int .u64 s, vi i] ∧ Mem σ τ ∧ l.length = n ∧ (∀ x ∈ l, x < 256) ∧ τ.heap (σ.next + 1 + 1) = some (.cells (l.map vb) false)) n rfl ?_ ?_
    · conv => whnf
      exact ⟨0, _, List.replicate n 0, by omega, rfl, rfl, by repeat first | exact g2 | apply Mem.bump | refine Mem.put ?_ (by (try simp only [bump_next, put_next]); omega) (by (try simp only [bump_next, put_next]); omega), by simp, fun x hx => by have := List.eq_of_mem_replicate hx; omega, hz⟩
    · rintro mm ws τ ⟨i, s, l, hi, rfl, rfl, g, hl, hlb, hh⟩
      have hnx2 := g.next
      have hN := g.ok.lt hh
      conv => whnf
      refine br_intro ?_ ?_ <;> intro h2 <;> simp only [blt_dec, ble_dec, beq_dec, ltB_eq, leB_eq, decide_eq_true_eq, decide_eq_false_iff_not, beq_iff_eq, bne_iff_ne, beq_eq_false_iff_ne, bne_eq_false_iff_eq] at h2
      · conv => whnf
        have hi0 : i < n := by omega
        refine (fun h => br_intro (fun hb => (by rw [inR_lock hb] at h; exact h)) (fun _ => h)) ?_
        conv => whnf
        refine (fun h => br_intro (fun hb => (by rw [inR_lock hb] at h; exact h)) (fun _ => h)) ?_
        conv => whnf
        obtain ⟨b, hb, hbx⟩ := u8_byte (lock (Int.fdiv (lock (IntKind.u64.wrap (lock (IntKind.u64.wrap (s * 6364136223846793005)) + 1442695040888963407))) (2 ^ (min (Int.toNat 56) IntKind.u64.bits))))
        have hbl := (lock_eq (IntKind.u8.wrap (lock (Int.fdiv (lock (IntKind.u64.wrap (lock (IntKind.u64.wrap (s * 6364136223846793005)) + 1442695040888963407))) (2 ^ (min (Int.toNat 56) IntKind.u64.bits)))))).trans hbx
        rw [hbl]
        repeat (first | (refine br_true (inR_intro (by simp only [loI, hiI]; omega)) ?_; conv => whnf) | (refine br_true (by simp only [blt_dec, ble_dec, beq_dec, ltB_eq, leB_eq, decide_eq_true_eq, decide_eq_false_iff_not, Bool.and_eq_true, Bool.or_eq_true, beq_iff_eq, bne_iff_ne, beq_eq_false_iff_ne, bne_eq_false_iff_eq]; first | done | omega) ?_; conv => whnf))
        refine wr_intro hh (g.noprot hσ (by omega)) ?_
        conv => whnf
        repeat (first | (refine br_true (inR_intro (by simp only [loI, hiI]; omega)) ?_; conv => whnf) | (refine br_true (by simp only [blt_dec, ble_dec, beq_dec, ltB_eq, leB_eq, decide_eq_true_eq, decide_eq_false_iff_not, Bool.and_eq_true, Bool.or_eq_true, beq_iff_eq, bne_iff_ne, beq_eq_false_iff_ne, bne_eq_false_iff_eq, List.length_map]; first | done | omega) ?_; conv => whnf))
        refine ⟨rfl, n - (i + 1), by omega, i + 1, _, l.set i b, by omega, rfl, rfl, by repeat first | exact g | apply Mem.bump | refine Mem.put ?_ (by (try simp only [bump_next, put_next]); omega) (by (try simp only [bump_next, put_next]); omega), by simp [hl], ?_, ?_⟩
        · intro x hx
          rcases List.mem_or_eq_of_mem_set hx with h | rfl
          · exact hlb _ h
          · exact hb
        · refine (put_heap_eq _ _ _).trans ?_
          rw [show 0 + i * 1 = i by omega, wr_one _ _ _ (by rw [List.length_map]; omega), List.map_set]
          rfl
      · conv => whnf
        exact kQ _ (σ.next + 1 + 1) l (by repeat first | exact g | apply Mem.bump | refine Mem.put ?_ (by (try simp only [bump_next, put_next]); omega) (by (try simp only [bump_next, put_next]); omega)) (by omega) hl hlb hh
end
end Go.Corb.A

/- The contract of coder.New. Conditions: none. -/
set_option linter.unusedVariables false
set_option linter.unusedSimpArgs false
namespace Go.Corb.A
open Go Go.RowKit Go.Proofs Go.Corb Go.IntWalk

def genM : List (List Nat) := [[1, 0, 0, 0], [0, 1, 0, 0], [0, 0, 1, 0], [0, 0, 0, 1], [1, 1, 1, 1], [1, 2, 4, 8]]
/-- A coder that lies at r. -/
def CoderAt (σ : AS) (r : Nat) : Prop := ∃ rf rof ro h rcap, σ.heap r = some (.cells [.pointer (some ⟨rf, 0, none⟩), .slice (some ⟨h, 0, some 1⟩) 6 rcap] ro) ∧ σ.heap rf = some (.cells fieldCells rof) ∧ MatAt σ (.slice (some ⟨h, 0, some 1⟩) 6 rcap) genM ∧ 6 ≤ rcap
theorem CoderAt.mono {σ τ : AS} (hσ : Ok σ) (g : Mem σ τ) {r : Nat} (h : CoderAt σ r) : CoderAt τ r := by
  obtain ⟨rf, rof, ro, h, rcap, h1, h2, h3, h4⟩ := h
  exact ⟨rf, rof, ro, h, rcap, g.old hσ h1, g.old hσ h2, h3.mono hσ g, h4⟩

theorem _root_.Go.Corb.Sub.upd {σ τ : AS} (h : Sub σ τ) {r : Nat} {o : AObj} (hr : σ.heap r = none) : Sub σ (τ.put r o) := fun q u e => by
  rw [put_heap_ne (fun e2 => by subst e2; rw [hr] at e; cases e)]
  exact h _ _ e

theorem RowsAt.append {σ : AS} {vs vs' : List Value} {m m' : List (List Nat)} (h : RowsAt σ vs m) (h' : RowsAt σ vs' m') : RowsAt σ (vs ++ vs') (m ++ m') := by
  refine ⟨by rw [List.length_append, List.length_append, h.1, h'.1], fun i h1 h2 => ?_⟩
  have hl := h.1
  by_cases hi : i < vs.length
  · rw [List.getElem_append_left hi, List.getElem_append_left (by omega)]; exact h.2 _ _ _
  · rw [List.getElem_append_right (by omega), List.getElem_append_right (by omega)]
    simp only [← hl]
    exact h'.2 _ (by rw [List.length_append] at h1; omega) (by rw [List.length_append] at h2; omega)
theorem RowsAt.sub {σ τ : AS} (e : Sub σ τ) {vs : List Value} {m : List (List Nat)} (h : RowsAt σ vs m) : RowsAt τ vs m := ⟨h.1, fun i a b => (h.2 i a b).same e⟩
theorem RowsAt.one1 {σ : AS} {x : Value} {l : List Nat} (h : SlAt σ x (l.map vb)) : RowsAt σ [x] [l] := ⟨rfl, fun i h1 h2 => by
  have : i < 1 := h1
  obtain rfl : i = 0 := by omega
  exact h⟩
theorem RowsAt.nil (σ : AS) : RowsAt σ [] [] := ⟨rfl, fun i h _ => absurd h (by simp)⟩

section
variable {Base : CallRel}
set_option pp.deepTerms.threshold 8

def ones (k : Nat) : List Nat := List.replicate k 1 ++ List.replicate (4 - k) 0
def pows (k : Nat) : List Nat := (List.range k).map (fun i => tabE.getD i 0) ++ List.replicate (4 - k) 0

set_option maxHeartbeats 1000000 in
theorem coderNew (hC : CProp (ACall Try.prog Base)) {σ : AS} (hσ : Ok σ) {Q : Value → AS → Prop}
    (kQ : ∀ σ' r, Mem σ σ' → σ.next ≤ r → CoderAt σ' r → Q (.pointer (some ⟨r, 0, none⟩)) σ') :
    ∃ v σ', ACall Try.prog Base 15 [] σ v σ' ∧ Q v σ' := by
  refine call_rwp hC cf15 rfl hσ.wf ?_
  conv => whnf
  refine new hC (Mem.ok (σ := σ) (by repeat first | exact Mem.refl hσ | apply Mem.bump | refine Mem.put ?_ (by (try simp only [bump_next, put_next]); omega) (by (try simp only [bump_next, put_next]); omega))) ?_
  intro τ1 rf g1 hrf hf
  have g2 : Mem σ τ1 := Mem.trans (by repeat first | exact Mem.refl hσ | apply Mem.bump | refine Mem.put ?_ (by (try simp only [bump_next, put_next]); omega) (by (try simp only [bump_next, put_next]); omega)) g1
  have hnx1 := g1.next
  simp only [bump_next] at hnx1
  conv => whnf
  refine identity hC (n := 4) (by omega) (by omega) g1.ok ?_
  intro τ2 iv g3 hiv hiv2
  obtain ⟨ih, rfl⟩ := hiv2
  have g4 := g2.trans g3
  have hnx2 := g3.next
  have hf2 := g3.old g1.ok hf
  conv => whnf
  have nb : ∀ q, τ2.next ≤ q → τ2.heap q = none := g3.ok.wf
  have nb0 : τ2.heap (σ.next + 1 + 3) = none := by
    have h1 : τ1.heap (σ.next + 1 + 3) = none := by
      rw [g1.grow.heap _ (by simp only [bump_next]; omega)]
      exact (ok_bump hσ 1).wf _ (by simp only [bump_next]; omega)
    rw [g3.grow.heap _ (by omega)]; exact h1
  refine loop_intro (n := 39) (fun mm ws τ => ∃ k, k ≤ 4 ∧ mm = 4 - k ∧ ws = [.pointer (some ⟨σ.next + 1 + 3, 0, none⟩), whole (τ2.next + 0) 4, whole (τ2.next + 1) 4, vi k] ∧ Mem σ τ ∧ Sub τ2 τ ∧ τ2.next + 4 ≤ τ.next ∧ τ.heap (σ.next + 1 + 3) = some (.cells [.pointer (some ⟨rf, 0, none⟩), whole ih 4] false) ∧
    τ.heap (τ2.next + 0) = some (.cells ((ones k).map vb) false) ∧ τ.heap (τ2.next + 1) = some (.cells ((pows k).map vb) false)) 4 rfl ?_ ?_
  · conv => whnf
    refine ⟨0, by omega, rfl, rfl, by repeat first | exact g4 | apply Mem.bump | refine Mem.put ?_ (by (try simp only [bump_next, put_next]); omega) (by (try simp only [bump_next, put_next]); omega), ?_, by simp only [bump_next, put_next]; omega, ?_, ?_, ?_⟩
    · exact (((((Sub.refl τ2).upd nb0).bump 4).upd (nb _ (by simp only [put_next]; omega))).upd (nb _ (by simp only [put_next]; omega))).bump 1
    · rw [bump_heap, put_heap_ne (by simp only [put_next, bump_next]; omega), put_heap_ne (by simp only [put_next, bump_next]; omega), bump_heap]
      exact put_heap_eq _ _ _
    · rw [bump_heap]
      first
        | exact (put_heap_ne (by simp only [put_next]; omega)).trans (put_heap_eq _ _ _)
        | exact put_heap_eq _ _ _
    · rw [bump_heap]
      first
        | exact (put_heap_ne (by simp only [put_next]; omega)).trans (put_heap_eq _ _ _)
        | exact put_heap_eq _ _ _
  · rintro mm ws τ ⟨k, hk, rfl, rfl, g, hsub, hnx, hc, ho, hp⟩
    have hol : (ones k).length = 4 := by simp [ones]; omega
    have hpl : (pows k).length = 4 := by simp [pows]; omega
    conv => whnf
    refine br_intro ?_ ?_ <;> intro h1 <;> simp only [blt_dec, ble_dec, beq_dec, ltB_eq, leB_eq, decide_eq_true_eq, decide_eq_false_iff_not, beq_iff_eq, bne_iff_ne, beq_eq_false_iff_ne, bne_eq_false_iff_eq] at h1
    · have hk0 : k < 4 := by omega
      conv => whnf
      refine ld_intro hc ?_
      conv => whnf
      refine fexp hC (n := k) (by omega) (Mem.ok (σ := σ) (by repeat first | exact g | apply Mem.bump | refine Mem.put ?_ (by (try simp only [bump_next, put_next]); omega) (by (try simp only [bump_next, put_next]); omega))) (by exact hsub _ _ hf2) ?_
      intro τ3 g5
      have g6 : Mem τ τ3 := Mem.trans (by repeat first | exact Mem.refl g.ok | apply Mem.bump | refine Mem.put ?_ (by (try simp only [bump_next, put_next]); omega) (by (try simp only [bump_next, put_next]); omega)) g5
      have ho3 := g6.old g.ok ho
      have hp3 := g6.old g.ok hp
      have hc3 := g6.old g.ok hc
      have hn3 := g6.next
      have g7 := g.trans g6
      conv => whnf
      repeat (first | (refine br_true (inR_intro (by simp only [loI, hiI]; omega)) ?_; conv => whnf) | (refine br_true (by simp only [blt_dec, ble_dec, beq_dec, ltB_eq, leB_eq, decide_eq_true_eq, decide_eq_false_iff_not, Bool.and_eq_true, Bool.or_eq_true, beq_iff_eq, bne_iff_ne, beq_eq_false_iff_ne, bne_eq_false_iff_eq]; first | done | omega) ?_; conv => whnf))
      refine wr_intro ho3 (g7.noprot hσ (by omega)) ?_
      conv => whnf
      repeat (first | (refine br_true (inR_intro (by simp only [loI, hiI]; omega)) ?_; conv => whnf) | (refine br_true (by simp only [blt_dec, ble_dec, beq_dec, ltB_eq, leB_eq, decide_eq_true_eq, decide_eq_false_iff_not, Bool.and_eq_true, Bool.or_eq_true, beq_iff_eq, bne_iff_ne, beq_eq_false_iff_ne, bne_eq_false_iff_eq, List.length_map, hol]; first | done | omega) ?_; conv => whnf))
      repeat (first | (refine br_true (inR_intro (by simp only [loI, hiI]; omega)) ?_; conv => whnf) | (refine br_true (by simp only [blt_dec, ble_dec, beq_dec, ltB_eq, leB_eq, decide_eq_true_eq, decide_eq_false_iff_not, Bool.and_eq_true, Bool.or_eq_true, beq_iff_eq, bne_iff_ne, beq_eq_false_iff_ne, bne_eq_false_iff_eq]; first | done | omega) ?_; conv => whnf))
      refine wr_intro (by rw [put_heap_ne (by omega)]; exact hp3) (g7.noprot hσ (by omega)) ?_
      conv => whnf
      repeat (first | (refine br_true (inR_intro (by simp only [loI, hiI]; omega)) ?_; conv => whnf) | (refine br_true (by simp only [blt_dec, ble_dec, beq_dec, ltB_eq, leB_eq, decide_eq_true_eq, decide_eq_false_iff_not, Bool.and_eq_true, Bool.or_eq_true, beq_iff_eq, bne_iff_ne, beq_eq_false_iff_ne, bne_eq_false_iff_eq, List.length_map, hpl]; first | done | omega) ?_; conv => whnf))
      refine ⟨rfl, 4 - (k + 1), by omega, k + 1, by omega, rfl, rfl, by repeat first | exact g7 | apply Mem.bump | refine Mem.put ?_ (by (try simp only [bump_next, put_next]); omega) (by (try simp only [bump_next, put_next]); omega), ?_, by simp only [bump_next, put_next]; omega, ?_, ?_, ?_⟩
      · exact ((((hsub.trans (g6.sub g.ok)).upd (nb _ (by omega))).upd (nb _ (by omega)))).bump 2
      · rw [bump_heap, put_heap_ne (by omega), put_heap_ne (by omega)]; exact hc3
      · rw [bump_heap, put_heap_ne (by omega)]
        refine (put_heap_eq _ _ _).trans ?_
        rw [show 0 + k * 1 = k by omega, wr_one _ _ _ (by rw [List.length_map]; omega)]
        refine congrArg (fun c => some (AObj.cells c false)) ?_
        rcases (show k = 0 ∨ k = 1 ∨ k = 2 ∨ k = 3 by omega) with rfl | rfl | rfl | rfl <;> rfl
      · rw [bump_heap]
        refine (put_heap_eq _ _ _).trans ?_
        rw [show 0 + k * 1 = k by omega, wr_one _ _ _ (by rw [List.length_map]; omega)]
        refine congrArg (fun c => some (AObj.cells c false)) ?_
        rcases (show k = 0 ∨ k = 1 ∨ k = 2 ∨ k = 3 by omega) with rfl | rfl | rfl | rfl <;> rfl
    · obtain rfl : k = 4 := by omega
      conv => whnf
      refine ld_intro hc ?_
      conv => whnf
      obtain ⟨ia, is, icap, hie, his, hir⟩ := hiv.rows
      simp only [whole, Value.slice.injEq] at hie
      obtain ⟨rfl, hisl, rfl⟩ := hie
      have hil4 : is.length = 4 := hisl.symm
      have gE : Mem σ ((((τ.bump 1).bump 12).put (τ.next + 1 + 7) (.cells [whole (τ2.next + 0) 4, whole (τ2.next + 1) 4] false))) := by repeat first | exact g | apply Mem.bump | refine Mem.put ?_ (by (try simp only [bump_next, put_next]); omega) (by (try simp only [bump_next, put_next]); omega)
      have hS : Sub τ2 ((((τ.bump 1).bump 12).put (τ.next + 1 + 7) (.cells [whole (τ2.next + 0) 4, whole (τ2.next + 1) 4] false))) := ((hsub.bump 1).bump 12).upd (nb _ (by omega))
      refine ⟨_, _, app_new (olds := is) (vs := [whole (τ2.next + 0) 4, whole (τ2.next + 1) 4]) (his.same hS) ?_ hir.one (SlAt.mk (put_heap_eq _ _ _) rfl rfl) rfl (by simp) (by simp [hil4]), ?_⟩
      · intro r o sp len cap e
        simp only [Value.slice.injEq, Option.some.injEq, Addr.mk.injEq] at e
        obtain ⟨⟨_, _, rfl⟩, _, rfl⟩ := e
        exact ⟨rfl, by simp [hil4]⟩
      have hN8 : σ.next + 1 + 3 < τ2.next := by omega
      rw [hil4]
      conv => whnf
      refine wr_intro (c := [.pointer (some ⟨rf, 0, none⟩), whole ih 4]) ?_ ?_ ?_
      · rw [put_heap_ne (by simp only [bump_next]; omega), put_heap_ne (by simp only [bump_next]; omega)]; exact hc
      · exact Mem.noprot (σ := σ) hσ (by repeat first | exact g | apply Mem.bump | refine Mem.put ?_ (by (try simp only [bump_next, put_next]); omega) (by (try simp only [bump_next, put_next]); omega)) (by omega)
      conv => whnf
      have hwr : wr [Value.pointer (some ⟨rf, 0, none⟩), whole ih 4] 1 [Value.slice (some ⟨τ.next + 1 + 8, 0, some 1⟩) 6 6] = [Value.pointer (some ⟨rf, 0, none⟩), Value.slice (some ⟨τ.next + 1 + 8, 0, some 1⟩) 6 6] := rfl
      refine kQ _ (σ.next + 1 + 3) (by repeat first | exact g | apply Mem.bump | refine Mem.put ?_ (by (try simp only [bump_next, put_next]); omega) (by (try simp only [bump_next, put_next]); omega)) (by omega) ?_
      have hS2 : Sub τ2 ((((((τ.bump 1).bump 12).put (τ.next + 1 + 7) (.cells [whole (τ2.next + 0) 4, whole (τ2.next + 1) 4] false)).put (τ.next + 1 + 8) (.cells (is ++ [whole (τ2.next + 0) 4, whole (τ2.next + 1) 4]) false)).put (σ.next + 1 + 3) (.cells [Value.pointer (some ⟨rf, 0, none⟩), Value.slice (some ⟨τ.next + 1 + 8, 0, some 1⟩) 6 6] false)).bump 2) := (((hS.upd (nb _ (by omega))).upd nb0).bump 2)
      refine ⟨rf, false, false, τ.next + 1 + 8, 6, put_heap_eq _ _ _, hS2 _ _ hf2, ?_, Nat.le_refl _⟩
      refine RowsAt.mat (vs := is ++ [whole (τ2.next + 0) 4, whole (τ2.next + 1) 4]) (ro := false) (RowsAt.append (m := idM 4) (m' := [[1, 1, 1, 1], [1, 2, 4, 8]]) (hir.sub hS2) (RowsAt.append (m := [[1, 1, 1, 1]]) (m' := [[1, 2, 4, 8]]) (vs := [whole (τ2.next + 0) 4]) (vs' := [whole (τ2.next + 1) 4]) (RowsAt.one1 ?_) (RowsAt.one1 ?_))) ?_ (by rw [List.length_append, hil4]; rfl)
      · refine SlAt.mk (c := (ones 4).map vb) (ro := false) ?_ rfl rfl
        rw [bump_heap, put_heap_ne (by (try simp only [bump_next, put_next]); omega), put_heap_ne (by (try simp only [bump_next, put_next]); omega), put_heap_ne (by (try simp only [bump_next, put_next]); omega)]; exact ho
      · refine SlAt.mk (c := (pows 4).map vb) (ro := false) ?_ rfl ?_
        · rw [bump_heap, put_heap_ne (by (try simp only [bump_next, put_next]); omega), put_heap_ne (by (try simp only [bump_next, put_next]); omega), put_heap_ne (by (try simp only [bump_next, put_next]); omega)]; exact hp
        · rw [show pows 4 = [1, 2, 4, 8] by kernel_rfl]; rfl
      · rw [bump_heap, put_heap_ne (by (try simp only [bump_next, put_next]); omega)]; exact put_heap_eq _ _ _
end
end Go.Corb.A

/- The parts of a stripe: a range over slices.Chunk, at the world itself. Conditions: none. -/
set_option linter.unusedVariables false
set_option linter.unusedSimpArgs false
namespace Go.Corb.A
open Go Go.RowKit Go.Shelf Go.Proofs

attribute [local go_sem] Oper.semAt_some

set_option maxHeartbeats 1000000 in
theorem chunk_in (F : Fence) (n : Nat) (h5 : F.fn 52) (hro : F.round = none) (a : Option Addr) (len cap : Nat) (m : Int) (hm : 1 ≤ m) (w : World) :
    CallsIn F n Try.prog 52 #[.slice a len cap, .int .i64 m] w fun e w' => e = .returned (.func (.func 58) #[] #[.pointer (some ⟨w.heap.size, 0, none⟩), .pointer (some ⟨w.heap.size + 1, 0, none⟩)]) ∧ w' = (w.alloc (.cells #[.slice a len cap] 29)).alloc (.cells #[.int .i64 m] 3) := by
  refine callsIn_of_wp Try.func52 rfl h5 ?_ hro
  simp only [Try.ntmps52, List.size_toArray, List.length_cons, List.length_nil, Nat.reduceAdd, Nat.reduceSub, Array.replicate_succ, Array.replicate_zero, List.push_toArray, List.append_toArray, List.nil_append, List.cons_append]
  gi_wp2
  go_ret
  exact ⟨rfl, rfl⟩

/-- What a round keeps: the two boxes of the iterator. -/
def KpB (Bs Bm : Nat) (W W' : World) : Prop := (∀ v, Boxed W Bs 29 v → Boxed W' Bs 29 v) ∧ ∀ v, Boxed W Bm 3 v → Boxed W' Bm 3 v
theorem KpB.refl (Bs Bm : Nat) (W : World) : KpB Bs Bm W W := ⟨fun _ h => h, fun _ h => h⟩
theorem KpB.trans {Bs Bm : Nat} {A B C : World} (h : KpB Bs Bm A B) (k : KpB Bs Bm B C) : KpB Bs Bm A C := ⟨fun v e => k.1 v (h.1 v e), fun v e => k.2 v (h.2 v e)⟩
theorem boxed_putObj {W : World} {l : Nat} {o o' : Obj} (h : W.heap[l]? = some o) (hc : o.isCells = false) {B : Nat} {t : TypeId} {v : Value} (hb : Boxed W B t v) : Boxed (W.putObj l o') B t v := by
  refine hb.kept (grownBy_putObj' W l o') ?_
  intro e
  injection e with e
  subst e
  have hb' : W.heap[B]? = _ := hb
  rw [h] at hb'
  injection hb' with hb'
  subst hb'
  cases hc
theorem KpB.put {Bs Bm : Nat} (W : World) (l : Nat) (o o' : Obj) (h : W.heap[l]? = some o) (hc : o.isCells = false) : KpB Bs Bm W (W.putObj l o') := ⟨fun _ hb => boxed_putObj h hc hb, fun _ hb => boxed_putObj h hc hb⟩

set_option maxRecDepth 100000 in
set_option maxHeartbeats 2000000 in
theorem chunk1_in (F : Fence) (n : Nat) (h7 : F.fn 58) (hro : F.round = none) (hn : 1 ≤ n) (l Bs Bm b off M cap N : Nat) (hN : 1 ≤ N) (hcap : M * N ≤ cap) (hreach : M * N ≤ 140737488351232) (J Jx : List Nat → World → Prop) (hJd : ∀ pre W, J pre W → J pre W.drew)
    (hY : ∀ pre x W, J pre W → pre.length < M → YieldAt F (n - 1) Try.prog l #[.slice (some ⟨b, off + x * N, none⟩) N N] W fun e W' =>
      (e = .returned (.bool true) ∧ J (pre ++ [x]) W' ∧ KpB Bs Bm W W') ∨ (e = .returned (.bool false) ∧ Jx (pre ++ [x]) W'))
    (W : World) (hBs : Boxed W Bs 29 (.slice (some ⟨b, off, none⟩) (M * N) cap)) (hBm : Boxed W Bm 3 (.int .i64 N)) (h0 : J [] W) :
    CallsIn F n Try.prog 58 #[.func (.yield l) #[] #[], .pointer (some ⟨Bs, 0, none⟩), .pointer (some ⟨Bm, 0, none⟩)] W fun e W' => (∃ v, e = .returned v) ∧
      ((∃ ys, ys = List.range M ∧ J ys W') ∨ (∃ pre, (∃ k, k ≤ M ∧ pre = List.range k) ∧ Jx pre W')) := by
  refine callsIn_of_wp Try.func58 rfl h7 ?_ hro
  simp only [Try.ntmps58, List.size_toArray, List.length_cons, List.length_nil, Nat.reduceAdd, Nat.reduceSub, Array.replicate_succ, Array.replicate_zero, List.push_toArray, List.append_toArray, List.nil_append, List.cons_append]
  gi_wp2
  gi_loopw [4] (fun i wr => ∃ k : Nat, k ≤ M ∧ i = .int .i64 ((k * N : Nat) : Int) ∧ J (List.range k) wr ∧ Boxed wr Bs 29 (.slice (some ⟨b, off, none⟩) (M * N) cap) ∧ Boxed wr Bm 3 (.int .i64 N))
    (fun i _ => M * N - (intOf i).toNat)
  case atStart => exact ⟨0, Nat.zero_le _, by simp, h0, hBs, hBm⟩
  case round =>
    obtain ⟨k, hk, rfl, hJs, hbs, hbm⟩ := hrel
    have hcs := hbs.cell
    have hcm := hbm.cell
    by_cases hlt : k < M
    · obtain ⟨fn, tmps, assign, body, hy, hR⟩ := hY _ k wr.drew (hJd _ _ hJs) (by rw [List.length_range]; exact hlt)
      have hbs' : Boxed wr.drew Bs 29 (.slice (some ⟨b, off, none⟩) (M * N) cap) := hbs
      have hbm' : Boxed wr.drew Bm 3 (.int .i64 N) := hbm
      have hle : k * N + N ≤ M * N := by
        have := Nat.mul_le_mul_right N (show k + 1 ≤ M by omega)
        rwa [Nat.add_mul, Nat.one_mul] at this
      have e1 : (k + 1) * N = k * N + N := by rw [Nat.add_mul, Nat.one_mul]
      have HE := Lib.hid e1
      clear e1
      generalize k * N = q at *
      generalize M * N = L at *
      have hql : q < L := by omega
      gi_wp2
      gi_region
      all_goals (rw [if_neg (show ¬ L - q < N by omega)])
      all_goals gi_wp2
      all_goals (refine hR.mono ?_; rintro e W3 (⟨rfl, hJ3, hk3⟩ | ⟨rfl, hJx3⟩))
      all_goals first
        | (have hcm3 := (hk3.2 _ hbm').cell
           have hq3 := HE.out
           gi_wp2
           go_roundw
           case rel => exact ⟨k + 1, by omega, by rw [hq3]; rfl, by rw [List.range_succ]; exact hJ3, hk3.1 _ hbs', hk3.2 _ hbm'⟩
           case measure => simp [intOf]; omega)
        | (gi_wp2
           refine bodyPost_ret (results_none rfl _ _ _) rfl ?_
           exact ⟨⟨_, rfl⟩, .inr ⟨_, ⟨k + 1, by omega, (List.range_succ).symm⟩, hJx3⟩⟩)
    · obtain rfl : k = M := by omega
      gi_wp2
      go_end0
      exact ⟨⟨_, rfl⟩, .inl ⟨_, rfl, hJs⟩⟩
end Go.Corb.A

/- The parts of a stripe: the list that is collected. Conditions: none. -/
set_option linter.unusedVariables false
set_option linter.unusedSimpArgs false
namespace Go.Corb.A
open Go Go.RowKit Go.Shelf Go.Proofs

attribute [local go_sem] Oper.semAt_some

theorem chunk_stops (F : Fence) (n : Nat) (h7 : F.fn 58) (hro : F.round = none) (hn : 1 ≤ n) (Bs Bm b off M cap N : Nat) (hN : 1 ≤ N) (hcap : M * N ≤ cap) (hreach : M * N ≤ 140737488351232) (w : World)
    (hBs : Boxed w Bs 29 (.slice (some ⟨b, off, none⟩) (M * N) cap)) (hBm : Boxed w Bm 3 (.int .i64 N)) :
    SeqStopsK F n Try.prog 58 #[.pointer (some ⟨Bs, 0, none⟩), .pointer (some ⟨Bm, 0, none⟩)] (fun x : Nat => #[Value.slice (some ⟨b, off + x * N, none⟩) N N]) (KpB Bs Bm) (fun ys => ys = List.range M) (fun pre => ∃ k, k ≤ M ∧ pre = List.range k) M w := fun l J Jx W hW hJ _ hY h0 =>
  chunk1_in F n h7 hro hn l Bs Bm b off M cap N hN hcap hreach J Jx (fun pre W h => hJ pre W W.drew none h ⟨rfl, rfl, rfl, Nat.le_refl _, fun _ _ _ => rfl⟩ (fun r e => by cases e)) hY W ((hW.block Bs hBs.lt).trans hBs) ((hW.block Bm hBm.lt).trans hBm) h0

theorem info29 : (Try.prog.info? 29).map (fun i => (i.zero, i.size, i.bytes)) = some (some (.slice none 0 0), 1, 24) := by kernel_rfl

def sub (b off N : Nat) (k : Nat) : Value := .slice (some ⟨b, off + k * N, none⟩) N N

theorem ownsRow_base {W : World} {b b' : Nat} {e : TypeId} {size : Nat} {v : Value} {n : Nat} {xs : List Value} (h : W.ownsRow b e size v n xs) (hb : b' ≤ b) : W.ownsRow b' e size v n xs := by
  rcases h with ⟨h1, h | ⟨g, cap, cur, h2, h3, h4⟩⟩
  · exact ⟨h1, .inl h⟩
  · exact ⟨h1, .inr ⟨g, cap, cur, h2, Nat.le_trans hb h3, h4⟩⟩
theorem ownsRow_not {W : World} {b : Nat} {e : TypeId} {size : Nat} {v : Value} {n : Nat} {xs : List Value} (h : W.ownsRow b e size v n xs) {k : Nat} (hk : k < b) : some k ≠ v.ownBlock := by
  rcases h with ⟨h1, ⟨rfl, _⟩ | ⟨g, cap, cur, rfl, h3, h4⟩⟩
  · simp [Value.ownBlock]
  · intro e
    have e : k = g := by injection e
    omega

set_option maxRecDepth 100000 in
set_option maxHeartbeats 2000000 in
theorem parts_in (F : Fence) (n : Nat) (h3 : F.fn 34) (h4 : F.fn 52) (h5 : F.fn 58) (hro : F.round = none) (hn : 3 ≤ n) (b off M cap : Nat) (hcap : M * 32 ≤ cap) (hM : M ≤ 1000000) (w : World) :
    CallsIn F n Try.prog 34 #[.slice (some ⟨b, off, none⟩) (M * 32) cap] w fun e W' => ∃ v, e = .returned v ∧ W'.ownsRow (w.heap.size + 3) 29 1 v M ((List.range M).map (sub b off 32)) ∧ (v = .slice none 0 0 ↔ List.range M = []) ∧ Below w.heap.size w W' := by
  have h1 : 1 ≤ n := by omega
  obtain ⟨i0, hi, hz0, hz1, hz2⟩ := info_parts info29
  refine callsIn_of_wp_marks Try.func34 rfl h3 ?_ hro
  simp only [Try.ntmps34, List.size_toArray, List.length_cons, List.length_nil, Nat.reduceAdd, Nat.reduceSub, Array.replicate_succ, Array.replicate_zero, List.push_toArray, List.append_toArray, List.nil_append, List.cons_append]
  gi_wp2_with (gi_at_call 52; refine (chunk_in F (n - 1) h4 hro _ _ _ _ (by omega) _).mono ?_; rintro e w' ⟨rfl, rfl⟩)
  have bO := ((Boxed.new w 26 (.slice none 0 0)).alloc (.cells #[Value.slice (some ⟨b, off, none⟩) (M * 32) cap] 29)).alloc (.cells #[Value.int IntKind.i64 32] 3)
  have bS := (Boxed.new (w.alloc (.cells #[.slice none 0 0] 26)) 29 (Value.slice (some ⟨b, off, none⟩) (M * 32) cap)).alloc (.cells #[Value.int IntKind.i64 32] 3)
  have bM := Boxed.new ((w.alloc (.cells #[.slice none 0 0] 26)).alloc (.cells #[Value.slice (some ⟨b, off, none⟩) (M * 32) cap] 29)) 3 (Value.int IntKind.i64 32)
  rw [World.size_alloc] at bS
  rw [World.size_alloc, World.size_alloc] at bM
  have hB0 : Below w.heap.size w (((w.alloc (.cells #[.slice none 0 0] 26)).alloc (.cells #[Value.slice (some ⟨b, off, none⟩) (M * 32) cap] 29)).alloc (.cells #[Value.int IntKind.i64 32] 3)) := (((Below.refl _ w).alloc (Nat.le_refl _) _).alloc (by simp) _).alloc (by simp; omega) _
  refine wpIn_rangeFunc_ownG hro h1 (gf := 58) (lb := #[.pointer (some ⟨w.heap.size + 1, 0, none⟩), .pointer (some ⟨w.heap.size + 1 + 1, 0, none⟩)]) rfl h5 (enters_of Try.func58 (by kernel_rfl) rfl)
    (chunk_stops F (n - 1) h5 hro (by omega) (w.heap.size + 1) (w.heap.size + 1 + 1) b off M cap 32 (by omega) hcap (by omega) _ bS bM) (fun h k => KpB.trans h k) (fun W l o o' _ h hc _ => KpB.put W l o o' h hc) (Below.refl _ _) (fun _ => rfl)
    (fun pre W => (∃ v, Boxed W w.heap.size 26 v ∧ W.ownsRow (w.heap.size + 3) 29 1 v pre.length (pre.map (sub b off 32)) ∧ (v = .slice none 0 0 ↔ pre = [])) ∧ Below w.heap.size w W ∧ w.heap.size + 3 ≤ W.heap.size)
    (fun _ _ _ => False)
    (OwnFrom.and (Own.from (holdsRow_own (w.heap.size + 3) w.heap.size 26 29 1 (fun pre => pre.length) (fun pre => pre.map (sub b off 32)) (fun pre v => v = .slice none 0 0 ↔ pre = [])) _) (OwnFrom.and (ownFrom_below (Nat.le_refl _) (by simp; omega)) (fun s X Y row h hg _ => Nat.le_trans h hg.size)))
    (fun _ _ _ _ _ hs _ _ => hs)
    ⟨⟨_, bO, World.ownsRow_nil _ _ _ _, by simp⟩, hB0, by simp⟩
    (fun x => { tmps := #[.slice (some ⟨b, off, none⟩) (M * 32) cap, undef, .slice none 0 0, .pointer (some ⟨w.heap.size, 0, none⟩), Value.slice (some ⟨b, off + x * 32, none⟩) 32 32, .slice (some ⟨b, off, none⟩) (M * 32) cap, .func (.func 58) #[] #[.pointer (some ⟨w.heap.size + 1, 0, none⟩), .pointer (some ⟨w.heap.size + 1 + 1, 0, none⟩)], Value.slice (some ⟨b, off + x * 32, none⟩) 32 32, undef, undef, undef, undef, undef], defers := [] }) ?assign ?body ?done ?stop
  case assign =>
    intro l x W K hK
    gi_wp2
    exact hK
  case body =>
    rintro l pre x W ⟨⟨v, hv, hrow, hnil⟩, hB, hsz⟩ hlt
    have hc := hv.cell
    have kp : ∀ (tmp : Obj) (w1 : World) (v' : Value) (B : Nat) (t : TypeId) (u : Value), (W.alloc tmp).grownBy w1 v.ownBlock → B < w.heap.size + 3 → w.heap.size < B → Boxed W B t u → Boxed (w1.setCell ⟨w.heap.size, 0, none⟩ v') B t u := fun tmp w1 v' B t u hg h1 h2 hu =>
      ((hu.alloc tmp).kept hg (ownsRow_not hrow h1)).kept (grownBy_setCell' w1 w.heap.size v') (by intro e; injection e with e; omega)
    gi_wp2_with (gi_at_builtin; refine wpListIn_append_own _ rfl _ _ 26 rfl (w.heap.size + 3) 29 i0 (.slice none 0 0) 1 24 Try.underlying26 hi hz0 hz1 hz2 rfl (by decide) _ _ _ rfl (hrow.alloc _) ⟨W.heap.size, 0, none⟩ 1 1 [Value.slice (some ⟨b, off + x * 32, none⟩) 32 32] rfl rfl (cell_one_new _ _ _) (fun u hu => by rw [List.mem_singleton.1 hu]; rfl) (by unfold maxLen; omega) (by omega) (by simp; omega) ?_; intro v' w1 hown' hgrow _; obtain ⟨g', cap', rfl⟩ := ownsRow_succ hown'; have hkp := fun (B : Nat) (t : TypeId) (u : Value) => kp _ w1 (.slice (some ⟨g', 0, none⟩) (pre.length + 1) cap') B t u hgrow; obtain ⟨hv1, hv2, hr2, hk2, hb2⟩ := hv.appended (n₀ := w.heap.size) (by decide) (ownsRow_base hrow (by omega)) hB.size (Nat.le_refl _) (ownsRow_base hown' (by omega)) hgrow; have hr3 := hown'.kept (grownBy_setCell' w1 w.heap.size (.slice (some ⟨g', 0, none⟩) (pre.length + 1) cap')) (.inr (hv1.not_row (by decide) hown').symm); have hc1 := hv1.cell; have hf1 := hv1.frozen)
    refine ⟨hk2.from _, ⟨fun u hu => hkp _ _ u (by omega) (by omega) hu, fun u hu => hkp _ _ u (by omega) (by omega) hu⟩, ⟨_, hv2, ?_, by simp⟩, hB.trans hb2, ?_⟩
    · simpa [sub] using hr3
    · have := hb2.size; omega
  case done =>
    rintro D ys W hD rfl ⟨⟨v, hv, hrow, hnil⟩, hB, hsz⟩ hK
    have hc := hv.cell
    gi_wp2
    refine ⟨by simp, .inl ⟨_, _, rfl, run_takeDeferred hK, ?_⟩⟩
    rw [List.length_range] at hrow
    exact ⟨_, results_tmp rfl _ _ _, v, rfl, ownsRow_putObj hrow _ hK rfl, hnil, hB.trans (belowK_b (w := w) (Nat.le_refl _) W D _ _ (by simp at hD; omega) hK rfl rfl)⟩
  case stop =>
    rintro D c pre W _ _ h _
    exact h.elim
end Go.Corb.A

/- The abstract machine, part 32: from a call on the abstract memory to the model's call; arguments that are read. Conditions: none. -/
set_option linter.unusedVariables false
set_option linter.unusedSimpArgs false
namespace Go.Corb
open Go Go.RowKit

abbrev Imp := List (Option (List Value × RI))
def impHeap (L : Imp) : AS := { heap := fun r => (L[r]?.join).map fun p => .cells p.1 true, next := L.length, prot := fun _ => false }
def impMap (L : Imp) : RMap := fun r => (L[r]?.join).map (·.2)
def EntOK (W : World) (ρ : RMap) (p : List Value × RI) : Prop :=
  ∃ cs e fr, W.heap[p.2.blk]? = some (.cells cs e fr) ∧ cs.size = p.2.n ∧ p.2.base + p.1.length ≤ p.2.n ∧ ∀ j, j < p.1.length → VR ρ (p.1.getD j undef) (cs.getD (p.2.base + j) undef)

theorem imp_ok (L : Imp) : Ok (impHeap L) where
  wf := fun r hr => by
    have hr : L.length ≤ r := hr
    simp [impHeap, List.getElem?_eq_none hr]
  prot := fun _ _ => rfl

theorem imp_high (L : Imp) (r : Nat) (hr : (impHeap L).next ≤ r) : impMap L r = none := by
  have hr : L.length ≤ r := hr
  simp [impMap, List.getElem?_eq_none hr]

theorem imp_rel {W : World} {L : Imp} (h : ∀ (r : Nat) (p : List Value × RI), L[r]?.join = some p → EntOK W (impMap L) p) : Rel W.heap.size W (impMap L) (impHeap L) W where
  below := Below.refl _ _
  hB := Nat.le_refl _
  objs := fun r o hr => by
    simp only [impHeap] at hr
    obtain ⟨p, hp, rfl⟩ := Option.map_eq_some_iff.1 hr
    obtain ⟨cs, e, fr, h1, h2, h3, h4⟩ := h r p hp
    exact ⟨p.2, by simp [impMap, hp], cs, e, fr, h1, h2, h3, h4, fun h => (nomatch h)⟩
  sep := fun r q o u i k hr _ _ _ hro _ => by
    simp only [impHeap] at hr
    obtain ⟨p, hp, rfl⟩ := Option.map_eq_some_iff.1 hr
    cases hro
  lt := fun r i hr => by
    simp only [impMap] at hr
    obtain ⟨p, hp, rfl⟩ := Option.map_eq_some_iff.1 hr
    obtain ⟨cs, e, fr, h1, _⟩ := h r p hp
    exact (Array.getElem?_eq_some_iff.1 h1).1

section
variable {P : Program}
theorem law_calls (hm : P.follows .mixedOrders = true) {f : FuncId} {args : List Value} {args' : Array Value} {σ0 σ' : AS} {ρ0 : RMap} {W : World} {b : Bool}
    (h : ACall P (fun _ _ _ _ _ => False) f args σ0 (.bool b) σ') (hwf : σ0.wf) (hR : Rel W.heap.size W ρ0 σ0 W) (hρ : ∀ r, σ0.next ≤ r → ρ0 r = none)
    (hlen : args.length = args'.size) (hargs : ∀ j, VR ρ0 (args.getD j undef) (args'.getD j undef)) {fn : Func} (hf : P.funcs[f]? = some fn) (hb : fn.body.isSome = true) (hn : (fn.name == "runtime.NumGoroutine") = false) :
    Calls P f args' W fun e w' => e = .returned (.bool b) ∧ Below W.heap.size W w' := by
  have hC0 : CProp (fun _ _ _ _ _ => False : CallRel) := ⟨fun h _ => h.elim, fun h _ _ _ _ => h.elim⟩
  have hS0 : CSound P (fun _ _ _ _ _ => False : CallRel) := fun h => h.elim
  rcases acall_sound hm hC0 hS0 h hwf W.heap.size W ρ0 W args' hR hρ hlen hargs with ⟨_, hc⟩ | ⟨v', w', ρ', hv, _⟩
  · refine hc.mono fun e w' ⟨v', ρ', he, ha⟩ => ?_
    have := ha.val.bool_inv
    subst this
    exact ⟨he, ha.rel.below⟩
  · obtain ⟨c, hb⟩ := Option.isSome_iff_exists.1 hb
    have hn' : ¬ fn.name = "runtime.NumGoroutine" := by simpa using hn
    have he2 : (callFunc f args').run P W = .ok (.enter f args') W := by simp [callFunc, hf, hn', hb]
    rw [he2] at hv
    cases hv
end

/-- v is a slice of n elements, whose cells are c. -/
def RowAt (σ : AS) (v : Value) (n : Nat) (c : List Value) : Prop :=
  ∃ a cap, v = .slice a n cap ∧ (a = none → cap = 0 ∧ n = 0 ∧ c = []) ∧ (∀ p, a = some p → c ≠ [] → ∃ d ro, σ.heap p.block = some (.cells d ro) ∧ (d.drop p.off).take c.length = c)
theorem RowAt.sl {σ : AS} {v : Value} {n : Nat} {c : List Value} (h : RowAt σ v n c) (hn : n = c.length) : SlAt σ v c := by
  subst hn
  obtain ⟨a, cap, rfl, h1, h2⟩ := h
  exact ⟨a, cap, rfl, fun h => ⟨(h1 h).1, (h1 h).2.2⟩, h2⟩

/-- What an argument that is a slice of plain values comes to. -/
def ArgRow (W : World) (r : Nat) (v' : Value) (n : Nat) (c : List Value) (v : Value) (e : Option (List Value × RI)) : Prop :=
  (∀ ρ : RMap, (∀ p, e = some p → ρ r = some p.2) → VR ρ v v') ∧ (∀ ρ p, e = some p → EntOK W ρ p) ∧ ∀ σ : AS, (∀ p, e = some p → σ.heap r = some (.cells p.1 true)) → RowAt σ v n c

theorem cell_add {W : World} {a : Addr} {i : Nat} {z : Value} (h : W.cell? (a.add i) = some z) : ∃ cs e fr, W.heap[a.block]? = some (.cells cs e fr) ∧ cs[a.off + i]? = some z := by
  unfold World.cell? at h
  have hb : (a.add i).block = a.block := by unfold Addr.add; split <;> rfl
  have ho : (a.add i).off = a.off + i := by
    unfold Addr.add; split
    · rename_i h; subst h; rfl
    · rfl
  rw [hb, ho] at h
  split at h
  · rename_i c t fr hh
    split at h
    · cases h
    · exact ⟨_, _, _, hh, h⟩
  · cases h

theorem cell_spot {W : World} {a : Addr} {z : Value} (h : W.cell? (a.add 0) = some z) : a.spot = none := by
  unfold World.cell? at h
  have hb : a.add 0 = a := rfl
  rw [hb] at h
  split at h
  · split at h
    · cases h
    · rename_i hs; simpa using hs
  · cases h

/-- zs: all cells that it has room for; s: cells of an element. -/
theorem arg_row {W : World} (r : Nat) {v' : Value} {s n : Nat} (hs : 0 < s) {zs : List Value}
    (h : (v' = .slice none 0 0 ∧ n = 0 ∧ zs = []) ∨ ∃ a cap, v' = .slice (some a) n cap ∧ n ≤ cap ∧ zs.length = cap * s ∧ ∀ i, i < zs.length → W.cell? (a.add i) = some (zs.getD i undef))
    (hsc : ∀ z ∈ zs, scalarOK z = true) : ∃ v e, ArgRow W r v' n (zs.take (n * s)) v e := by
  rcases h with ⟨rfl, rfl, rfl⟩ | ⟨a, cap, rfl, hn, hz, hc⟩
  · exact ⟨.slice none 0 0, none, fun ρ _ => .sc _ rfl, fun ρ p h => (nomatch h), fun σ _ => ⟨none, 0, rfl, fun _ => ⟨rfl, rfl, by simp⟩, fun p h => (nomatch h)⟩⟩
  · by_cases h0 : cap = 0
    · subst h0
      obtain rfl : n = 0 := by omega
      have : zs = [] := List.eq_nil_of_length_eq_zero (by omega)
      subst this
      exact ⟨.slice (some ⟨r, 0, some 0⟩) 0 0, none, fun ρ _ => .wild _ _ _, fun ρ p h => (nomatch h), fun σ _ => ⟨_, _, rfl, fun h => (nomatch h), fun p _ h => absurd (by simp) h⟩⟩
    · have hz0 : 0 < zs.length := by rw [hz]; exact Nat.mul_pos (by omega) hs
      obtain ⟨cs, e, fr, hb, _⟩ := cell_add (hc 0 hz0)
      have hsp := cell_spot (hc 0 hz0)
      have hin : ∀ i, i < zs.length → cs[a.off + i]? = some (zs.getD i undef) := by
        intro i hi
        obtain ⟨cs2, e2, fr2, hb2, hcc⟩ := cell_add (hc i hi)
        rw [hb] at hb2
        simp only [Option.some.injEq, Obj.cells.injEq] at hb2
        obtain ⟨rfl, _, _⟩ := hb2
        exact hcc
      have hlast := (Array.getElem?_eq_some_iff.1 (hin (zs.length - 1) (by omega))).1
      refine ⟨.slice (some ⟨r, 0, none⟩) n cap, some (zs, ⟨a.block, a.off, cs.size⟩), fun ρ hρ => ?_, fun ρ p hp => ?_, fun σ hσ => ⟨_, _, rfl, fun h => (nomatch h), fun p hp _ => ?_⟩⟩
      · have := hρ _ rfl
        obtain ⟨ab, ao, asp⟩ := a
        simp only at hsp
        subst hsp
        exact VR.sl r 0 n cap _ this
      · injection hp with hp; subst hp
        refine ⟨cs, e, fr, hb, rfl, by simp only; omega, fun j hj => ?_⟩
        simp only at hj ⊢
        have e1 : cs.getD (a.off + j) undef = zs.getD j undef := by rw [Array.getD_eq_getD_getElem?, hin j hj]; rfl
        rw [e1]
        refine .sc _ (hsc _ ?_)
        rw [List.getD_eq_getElem?_getD, List.getElem?_eq_getElem hj]
        exact List.getElem_mem hj
      · injection hp with hp; subst hp
        exact ⟨zs, true, hσ _ rfl, by rw [List.drop_zero, List.length_take, Nat.min_eq_left (by rw [hz]; exact Nat.mul_le_mul_right _ hn)]⟩
end Go.Corb

/- The abstract machine, part 33: slices of numbers among a law's arguments. Conditions: none. -/
set_option linter.unusedVariables false
set_option linter.unusedSimpArgs false
namespace Go.Corb
open Go Go.RowKit Go.ChangeShapes Go.WideShapes

/-- A slice of numbers that a law is handed: what it reads as, and how long it is. -/
theorem slice_ints {H : Type} {enc : TypeId × Value → H} {P : Program} {W : World} {base : Nat} {held : Bool} {t e : TypeId} {k : IntKind} {a : Option Addr} {len cap : Nat} {d : DataW H} {ps : List MemPlace} {ts : List TypeId} {ds : List (DataW H)} {j B : Nat}
    (hsz : (DataW.weightsEach P ts ds).all (· ≤ reachBytes) = true) (ht : ts[j]? = some t) (hd : ds[j]? = some d) (hu : P.underlying t = some (.slice e)) (he : P.underlying e = some (.int k)) (hc : P.cellsOf e = 1) (hB : P.bytesOf e = B) (hp : 0 < B)
    (h : DataW.Trod enc P W base (fun _ => true) held t (.slice a len cap) d ps) :
    ∃ zs : List Int, ((Value.slice a len cap = .slice none 0 0 ∧ len = 0 ∧ zs = []) ∨ ∃ a' cap', Value.slice a len cap = .slice (some a') len cap' ∧ len ≤ cap' ∧ zs.length = cap' ∧ (∀ i, i < zs.length → W.cell? (a'.add i) = some (.int k (zs.getD i 0))) ∧ ∀ x ∈ zs, (Lit.int k x).wf = true) ∧ len ≤ 140737488351232 := by
  obtain ⟨fuel, hf⟩ := h
  rcases open_ints hu he hc hf with ⟨hcs, _⟩ | ⟨x, l, c, zs, hcs, _, hl, _, hz, hx, hcell, hwf⟩
  · simp [Value.cells] at hcs
    obtain ⟨rfl, rfl, rfl⟩ := hcs
    exact ⟨[], .inl ⟨rfl, rfl, rfl⟩, by omega⟩
  · simp [Value.cells] at hcs
    obtain ⟨rfl, rfl, rfl⟩ := hcs
    obtain ⟨hx, _⟩ := Prod.mk.inj hx
    subst hx
    have z := sized_slice hsz ht hd hu
    have hz : zs.length = cap := by simpa using hz
    rw [hB] at z
    simp only [lits, List.length_map, List.length_take, List.length_drop] at z
    refine ⟨zs, .inr ⟨x, cap, rfl, hl, hz, hcell, hwf⟩, ?_⟩
    have h1 : min len zs.length + (zs.length - len) = zs.length := by omega
    rw [h1] at z
    have h2 : zs.length ≤ zs.length * B := Nat.le_mul_of_pos_right _ hp
    have h3 : reachBytes = 140737488351232 := rfl
    omega
end Go.Corb

/- The parts of a stripe, on the abstract memory: a function whose contract is known from the world. Conditions: none. -/
set_option linter.unusedVariables false
set_option linter.unusedSimpArgs false
namespace Go.Corb
open Go Go.RowKit

theorem OR.below {B : Nat} {ρ ρ' : RMap} {o : AObj} {i : RI} {w W' : World} (h : OR B ρ o i w) (he : ρ.Ext ρ') (hi : i.blk < w.heap.size) (hb : Below w.heap.size w W') : OR B ρ' o i W' := by
  cases o with
  | cells c ro =>
    obtain ⟨cs, e, fr, h1, h2, h3, h4, h5⟩ := h
    exact ⟨cs, e, fr, (hb.block _ hi).trans h1, h2, h3, fun j hj => (h4 j hj).mono he, h5⟩
  | other ob =>
    obtain ⟨h1, h2, h3⟩ := h
    exact ⟨h1, (hb.block _ hi).trans h2, h3⟩

/-- A list that a function of the world has collected in new memory. -/
theorem row_after {B : Nat} {w0 w W' : World} {ρ : RMap} {σ : AS} (hR : Rel B w0 ρ σ w) (hwf : σ.wf) (hh : ∀ r, σ.next ≤ r → ρ r = none) (hb : Below w.heap.size w W') {base M : Nat} {e : TypeId} {v' : Value} {xs c : List Value}
    (hrow : W'.ownsRow base e 1 v' M xs) (hbase : w.heap.size ≤ base) (hM : 0 < M) (hcl : c.length = M) (hv : ∀ j, j < M → VR ρ (c.getD j undef) (xs.getD j undef)) :
    ∃ ρ', After B w0 ρ σ ((σ.bump 1).put σ.next (.cells c false)) (.slice (some ⟨σ.next, 0, some 1⟩) M M) v' ρ' W' := by
  obtain ⟨hxl, h | ⟨g, cap, cur, rfl, hg, hgb, hMc, _, hcs, htake⟩⟩ := hrow
  · omega
  have hρN : ρ σ.next = none := hh _ (Nat.le_refl _)
  have hext : ρ.Ext (ρ.set σ.next ⟨g, 0, cap⟩) := RMap.set_ext hρN _
  have hset : ρ.set σ.next ⟨g, 0, cap⟩ σ.next = some ⟨g, 0, cap⟩ := by simp [RMap.set]
  have hoth : ∀ q, q ≠ σ.next → ρ.set σ.next ⟨g, 0, cap⟩ q = ρ q := fun q hq => set_other ρ σ.next _ q hq
  have hgn : g < W'.heap.size := (Array.getElem?_eq_some_iff.1 hgb).1
  refine ⟨ρ.set σ.next ⟨g, 0, cap⟩, hext, fun r hr => hoth r (by omega), fun r hr => ?_, ?_, ?_⟩
  · have hr : σ.next + 1 ≤ r := hr
    rw [hoth r (by omega)]; exact hh r (by omega)
  · have := VR.slx (ρ := ρ.set σ.next ⟨g, 0, cap⟩) σ.next 0 1 M M cap ⟨g, 0, cap⟩ hset (by omega) hMc (by simp)
    simpa using this
  · refine ⟨hR.below.trans (hb.mono hR.hB), Nat.le_trans hR.hB hb.size, ?_, ?_, ?_⟩
    · intro r o hr
      by_cases e1 : r = σ.next
      · subst e1
        have : o = .cells c false := by
          have := hr
          rw [put_heap_eq] at this
          injection this with this
          exact this.symm
        subst this
        refine ⟨⟨g, 0, cap⟩, hset, cur, e, (0, 0), hgb, by simp only; omega, by simp only; omega, fun j hj => ?_, fun _ => ⟨Nat.le_trans hR.hB (Nat.le_trans hbase hg), fun j _ => by simp⟩⟩
        have hj : j < M := by omega
        have h2 := (hv j hj).mono hext
        have h3 : cur.getD (0 + j) undef = xs.getD j undef := by
          rw [← htake]
          simp only [Array.getD_eq_getD_getElem?, List.getD_eq_getElem?_getD, List.getElem?_take, Nat.zero_add]
          rw [if_pos (by omega), Array.getElem?_toList]
        simp only
        rw [h3]
        exact h2
      · have hr' : σ.heap r = some o := by
          have := hr
          rw [put_heap_ne e1] at this
          exact this
        obtain ⟨i, hi, ho⟩ := hR.objs r o hr'
        exact ⟨i, hext _ _ hi, ho.below hext (hR.lt r i hi) hb⟩
    · intro r q o u i k hr hq hi hk hro hrq
      have old : ∀ {s : Nat} {x : AObj} {y : RI}, s ≠ σ.next → ρ.set σ.next ⟨g, 0, cap⟩ s = some y → y.blk < w.heap.size := fun hs hy => by
        rw [hoth _ hs] at hy; exact hR.lt _ _ hy
      by_cases e1 : r = σ.next
      · subst e1
        rw [hset] at hi
        injection hi with hi
        subst hi
        have := old (x := u) (fun e => hrq e.symm) hk
        simp only
        omega
      · by_cases e2 : q = σ.next
        · subst e2
          rw [hset] at hk
          injection hk with hk
          subst hk
          have := old (x := o) e1 hi
          simp only
          omega
        · rw [hoth _ e1] at hi
          rw [hoth _ e2] at hk
          rw [put_heap_ne e1] at hr
          rw [put_heap_ne e2] at hq
          exact hR.sep r q o u i k hr hq hi hk hro hrq
    · intro r i hi
      by_cases e1 : r = σ.next
      · subst e1
        rw [hset] at hi
        injection hi with hi
        subst hi
        exact hgn
      · rw [hoth _ e1] at hi
        exact Nat.lt_of_lt_of_le (hR.lt _ _ hi) hb.size
end Go.Corb

namespace Go.Corb.A
open Go Go.RowKit Go.Proofs Go.Corb

def PartsBase : CallRel := fun f args σ v σ' => f = 34 ∧ ∃ r o sp M cap, 0 < M ∧ M ≤ 1000000 ∧ M * 32 ≤ cap ∧ (sp = none ∨ sp = some 1) ∧ args = [.slice (some ⟨r, o, sp⟩) (M * 32) cap] ∧ v = .slice (some ⟨σ.next, 0, some 1⟩) M M ∧
  σ' = (σ.bump 1).put σ.next (.cells ((List.range M).map fun k => .slice (some ⟨r, o + k * 32, none⟩) 32 32) false)

theorem parts_prop : CProp PartsBase where
  frames := by
    rintro f args σ v σ' ⟨rfl, r, o, sp, M, cap, h1, h2, h3, h4, rfl, rfl, rfl⟩ hwf
    refine ⟨⟨rfl, Nat.le_succ _, fun q hq hq0 => ?_, fun q hq hq0 => ?_⟩, fun q hq => ?_⟩
    · rw [put_heap_ne (by rintro rfl; exact hq0 (hwf _ (Nat.le_refl _)))]; rfl
    · rw [put_heap_ne (by intro e; subst e; exact hq (Nat.le_refl _))]; exact hq0
    · have hq : σ.next + 1 ≤ q := hq
      rw [put_heap_ne (by omega)]; exact hwf q (by omega)
  ext := by
    rintro f args σ v σ' X p ⟨rfl, r, o, sp, M, cap, h1, h2, h3, h4, rfl, rfl, rfl⟩ hwf hX hlt hp
    refine ⟨rfl, r, o, sp, M, cap, h1, h2, h3, h4, rfl, rfl, ?_⟩
    have hXN : X σ.next = none := by
      cases e : X σ.next with
      | none => rfl
      | some u => have := hlt σ.next (by simp [e]); omega
    unfold AS.ext AS.put AS.bump
    congr 1
    funext q
    by_cases e : q = σ.next
    · subst e; simp
    · simp [e]

theorem parts_sound : CSound Try.prog PartsBase := by
  rintro f args σ v σ' ⟨rfl, r, o, sp, M, cap, h1, h2, h3, h4, rfl, rfl, rfl⟩ hwf B w0 ρ w args' hR hh hlen hargs
  left
  have hfn : (callFunc 34 args').run Try.prog w = .ok (.enter 34 args') w := by
    have : ¬ Try.f34.name = "runtime.NumGoroutine" := by simpa using (show (Try.f34.name == "runtime.NumGoroutine") = false by kernel_rfl)
    obtain ⟨c, hc⟩ := Option.isSome_iff_exists.1 (show Try.f34.body.isSome = true by kernel_rfl)
    simp [callFunc, Try.func34, this, hc]
  refine ⟨hfn, ?_⟩
  have h0 := hargs 0
  have hargs' : args' = #[args'.getD 0 undef] := by
    have hs : args'.size = 1 := hlen.symm
    apply Array.ext
    · simp [hs]
    · intro i hi hi2
      have : i = 0 := by omega
      subst this
      simp [Array.getD_eq_getD_getElem?, hi]
  have hform : ∃ i cap', ρ r = some i ∧ args'.getD 0 undef = .slice (some ⟨i.blk, i.base + o, none⟩) (M * 32) cap' ∧ M * 32 ≤ cap' := by
    have h0 : VR ρ (.slice (some ⟨r, o, sp⟩) (M * 32) cap) (args'.getD 0 undef) := h0
    generalize args'.getD 0 undef = y at h0
    have hne : M * 32 ≠ 0 := by omega
    generalize M * 32 = L at *
    cases h0 with
    | sc _ hs => cases hs
    | sl _ _ _ _ i hi => exact ⟨i, _, hi, rfl, h3⟩
    | slx _ _ _ _ _ cap' i hi _ hc _ => exact ⟨i, cap', hi, rfl, Nat.le_trans h3 hc⟩
    | wild => exact absurd rfl hne
  obtain ⟨i, cap', hi, e, hc'⟩ := hform
  rw [hargs', e]
  refine (callsIn_wide (n := 3)).1 ((parts_in Fence.wide 3 trivial trivial trivial rfl (by omega) i.blk (i.base + o) M cap' hc' h2 w).mono ?_)
  rintro e W' ⟨v', rfl, hrow, _, hb⟩
  obtain ⟨ρ', ha⟩ := row_after hR hwf hh hb hrow (by omega) h1 (c := (List.range M).map fun k => .slice (some ⟨r, o + k * 32, none⟩) 32 32) (by simp) (fun j hj => by
    simp only [List.getD_eq_getElem?_getD, List.getElem?_map, List.getElem?_range hj, Option.map_some, Option.getD_some, sub]
    have := VR.sl (ρ := ρ) r (o + j * 32) 32 32 i hi
    rw [← Nat.add_assoc] at this
    exact this)
  exact ⟨v', ρ', rfl, ha⟩

theorem mixed : Try.prog.follows .mixedOrders = true := by kernel_rfl
theorem acall : CProp (ACall Try.prog PartsBase) := acall_prop mixed parts_prop parts_sound

theorem parts {r o M cap : Nat} {sp : Option Nat} (h1 : 0 < M) (h2 : M ≤ 1000000) (h3 : M * 32 ≤ cap) (h4 : sp = none ∨ sp = some 1) {σ : AS} {Q : Value → AS → Prop}
    (k : Q (.slice (some ⟨σ.next, 0, some 1⟩) M M) ((σ.bump 1).put σ.next (.cells ((List.range M).map fun k => .slice (some ⟨r, o + k * 32, none⟩) 32 32) false))) :
    ∃ v σ', ACall Try.prog PartsBase 34 [.slice (some ⟨r, o, sp⟩) (M * 32) cap] σ v σ' ∧ Q v σ' :=
  ⟨_, _, acall_base ⟨rfl, r, o, sp, M, cap, h1, h2, h3, h4, rfl, rfl, rfl⟩, k⟩
end Go.Corb.A

/- The contract of Encode. Conditions: none. -/
set_option linter.unusedVariables false
set_option linter.unusedSimpArgs false
namespace Go.Corb.A
open Go Go.RowKit Go.Proofs Go.Corb Go.IntWalk

def partsM (l : List Nat) : List (List Nat) := (List.range 4).map fun k => (l.drop (k * 32)).take 32
def encM (l : List Nat) : List (List Nat) := genM.map fun r => rowTo r (partsM l) 32 4
structure StripeAt (σ : AS) (v : Value) (l : List Nat) : Prop where
  len : l.length = 128
  bytes : ∀ x ∈ l, x < 256
  at' : ∃ r o sp cap, v = .slice (some ⟨r, o, sp⟩) 128 cap ∧ 128 ≤ cap ∧ (sp = none ∨ sp = some 1) ∧ SlAt σ v (l.map vb)
theorem StripeAt.mono {σ τ : AS} (hσ : Ok σ) (g : Mem σ τ) {v : Value} {l : List Nat} (h : StripeAt σ v l) : StripeAt τ v l := by
  obtain ⟨h1, h2, r, o, sp, cap, rfl, h4, h5, h6⟩ := h
  exact ⟨h1, h2, r, o, sp, cap, rfl, h4, h5, h6.mono hσ g⟩
theorem partsM_len (l : List Nat) : (partsM l).length = 4 := by simp [partsM]
theorem partsM_wid {l : List Nat} (h : l.length = 128) : ∀ r ∈ partsM l, r.length = 32 := by
  intro r hr
  obtain ⟨k, hk, rfl⟩ := List.mem_map.1 hr
  have := List.mem_range.1 hk
  rw [List.length_take, List.length_drop]; omega
theorem partsM_bytes {l : List Nat} (h : ∀ x ∈ l, x < 256) : Bytes (partsM l) := by
  intro r hr x hx
  obtain ⟨k, hk, rfl⟩ := List.mem_map.1 hr
  exact h x (List.mem_of_mem_drop (List.mem_of_mem_take hx))
theorem genM_wid : ∀ r ∈ genM, r.length = 4 := by decide
theorem genM_bytes : Bytes genM := by
  intro l hl x hx
  simp only [genM, List.mem_cons, List.not_mem_nil, or_false] at hl
  rcases hl with rfl | rfl | rfl | rfl | rfl | rfl <;> simp at hx <;> omega
theorem encM_len (l : List Nat) : (encM l).length = 6 := rfl
theorem encM_wid {l : List Nat} (h : l.length = 128) : ∀ r ∈ encM l, r.length = 32 := by
  intro r hr
  obtain ⟨a, ha, rfl⟩ := List.mem_map.1 hr
  exact rowTo_len (partsM_wid h) _ (by rw [partsM_len]; omega)
theorem encM_bytes (l : List Nat) : Bytes (encM l) := by
  intro r hr
  obtain ⟨a, ha, rfl⟩ := List.mem_map.1 hr
  exact rowTo_bytes 4

section
set_option pp.deepTerms.threshold 8

/-- The parts that the slice of slices holds. -/
theorem parts_mat {σ : AS} {r o cap : Nat} {sp : Option Nat} {l : List Nat} (hl : l.length = 128) (hs : SlAt σ (.slice (some ⟨r, o, sp⟩) 128 cap) (l.map vb)) {h : Nat} (hh : σ.heap h = some (.cells ((List.range 4).map fun k => .slice (some ⟨r, o + k * 32, none⟩) 32 32) false)) : MatAt σ (.slice (some ⟨h, 0, some 1⟩) 4 4) (partsM l) := by
  obtain ⟨_, _, _, c, ro, e, hr, _, ht⟩ := hs.idx (i := 0) (by rw [List.length_map, hl]; omega)
  simp only [Option.some.injEq, Addr.mk.injEq] at e
  obtain ⟨rfl, rfl, rfl⟩ := e
  rw [List.length_map, hl] at ht
  refine RowsAt.mat (vs := (List.range 4).map fun k => .slice (some ⟨r, o + k * 32, none⟩) 32 32) ⟨by simp [partsM], fun i h1 h2 => ?_⟩ hh (by simp)
  have hi : i < 4 := by simpa using h1
  simp only [partsM, List.getElem_map, List.getElem_range]
  have hlen : ((l.drop (i * 32)).take 32).length = 32 := by rw [List.length_take, List.length_drop]; omega
  refine SlAt.mk hr (by rw [List.length_map, hlen]) ?_
  rw [List.length_map, hlen, List.map_take, List.map_drop, ← ht, List.drop_take, List.take_take, List.drop_drop, Nat.min_eq_left (by omega)]

theorem encode {σ : AS} (hσ : Ok σ) {rc : Nat} (hc : CoderAt σ rc) {vs : Value} {l : List Nat} (hs : StripeAt σ vs l) {Q : Value → AS → Prop}
    (kQ : ∀ σ' v, Mem σ σ' → MatAt σ' v (encM l) → Q (.tuple [v, vi 0].toArray) σ') :
    ∃ v σ', ACall Try.prog PartsBase 18 [.pointer (some ⟨rc, 0, none⟩), vs] σ v σ' ∧ Q v σ' := by
  obtain ⟨hl, hb, r, o, sp, cap, rfl, hcap, hsp, hsl⟩ := hs
  obtain ⟨rf, rof, ro, h, rcap, h1, h2, h3, _⟩ := hc
  refine call_rwp acall cf18 rfl hσ.wf ?_
  conv => whnf
  refine ld_intro h1 ?_
  conv => whnf
  refine ld_intro h1 ?_
  conv => whnf
  refine parts (M := 4) (by omega) (by omega) (by omega) hsp ?_
  conv => whnf
  have gS : Mem σ (((((σ.bump 2).bump 3).bump 13).bump 1).put (σ.next + 2 + 3 + 13) (.cells ((List.range 4).map fun k => .slice (some ⟨r, o + k * 32, none⟩) 32 32) false)) := by repeat first | exact Mem.refl hσ | apply Mem.bump | refine Mem.put ?_ (by (try simp only [bump_next, put_next]); omega) (by (try simp only [bump_next, put_next]); omega)
  have okX : Ok ((((((σ.bump 2).bump 3).bump 13).bump 1).put (σ.next + 2 + 3 + 13) (.cells ((List.range 4).map fun k => .slice (some ⟨r, o + k * 32, none⟩) 32 32) false)).wp (protL [(9, 3), (9, 7)] [] 13 (((σ.bump 2).bump 3).bump 13).prot 10)) := Ok.wp gS.ok (fun r hr => protL_false (gS.ok.prot r hr) (fun q hq hq1 => by simp only [List.mem_cons, List.not_mem_nil, or_false] at hq; rcases hq with rfl | rfl <;> simp at hq1))
  refine mmul acall (a := genM) (b := partsM l) (w := 32) (by decide) (by decide) (by rw [partsM_len]; exact genM_wid) (by rw [partsM_len]; omega) (by rw [partsM_len]; omega) (partsM_wid hl) (by omega) (by omega) genM_bytes (partsM_bytes hb) (Ok.wp gS.ok (fun r hr => protL_false (gS.ok.prot r hr) (fun q hq hq1 => by simp only [List.mem_cons, List.not_mem_nil, or_false] at hq; rcases hq with rfl | rfl <;> simp at hq1))) (gS.old hσ h2) (h3.mono hσ gS) (parts_mat hl (hsl.mono hσ gS) (put_heap_eq _ _ _)) ?_
  intro τ1 v rs g1 hR
  have g2 := Mem.unwp gS.ok g1
  obtain ⟨va, vn, vc, rfl⟩ := hR.slice
  conv => whnf
  rw [partsM_len] at hR
  exact kQ _ _ (gS.trans g2) hR.at
end
end Go.Corb.A

/- Four of six chunks lead back. Conditions: none. -/
set_option linter.unusedVariables false
set_option linter.unusedSimpArgs false
namespace Go.Corb.A
open Go Go.RowKit Go.Corb

def invTab : List (List Nat × List (List Nat)) := [([0, 1, 2, 3], [[1, 0, 0, 0], [0, 1, 0, 0], [0, 0, 1, 0], [0, 0, 0, 1]]), ([0, 1, 2, 4], [[1, 0, 0, 0], [0, 1, 0, 0], [0, 0, 1, 0], [1, 1, 1, 1]]), ([0, 1, 2, 5], [[1, 0, 0, 0], [0, 1, 0, 0], [0, 0, 1, 0], [173, 71, 142, 173]]), ([0, 1, 3, 4], [[1, 0, 0, 0], [0, 1, 0, 0], [1, 1, 1, 1], [0, 0, 1, 0]]), ([0, 1, 3, 5], [[1, 0, 0, 0], [0, 1, 0, 0], [71, 142, 2, 71], [0, 0, 1, 0]]), ([0, 1, 4, 5], [[1, 0, 0, 0], [0, 1, 0, 0], [200, 143, 245, 61], [201, 142, 244, 61]]), ([0, 2, 3, 4], [[1, 0, 0, 0], [1, 1, 1, 1], [0, 1, 0, 0], [0, 0, 1, 0]]), ([0, 2, 3, 5], [[1, 0, 0, 0], [142, 2, 4, 142], [0, 1, 0, 0], [0, 0, 1, 0]]), ([0, 2, 4, 5], [[1, 0, 0, 0], [123, 245, 166, 221], [0, 1, 0, 0], [122, 244, 167, 221]]), ([0, 3, 4, 5], [[1, 0, 0, 0], [143, 2, 245, 122], [142, 3, 244, 122], [0, 1, 0, 0]]), ([1, 2, 3, 4], [[1, 1, 1, 1], [1, 0, 0, 0], [0, 1, 0, 0], [0, 0, 1, 0]]), ([1, 2, 3, 5], [[2, 4, 8, 1], [1, 0, 0, 0], [0, 1, 0, 0], [0, 0, 1, 0]]), ([1, 2, 4, 5], [[187, 210, 156, 157], [1, 0, 0, 0], [0, 1, 0, 0], [186, 211, 157, 157]]), ([1, 3, 4, 5], [[245, 247, 166, 167], [1, 0, 0, 0], [244, 246, 167, 167], [0, 1, 0, 0]]), ([2, 3, 4, 5], [[2, 6, 245, 244], [3, 7, 244, 244], [1, 0, 0, 0], [0, 1, 0, 0]])]
def leftB (C A : List (List Nat)) : Bool := Nat.beq C.length 4 && (C.all (fun r => Nat.beq r.length 4 && r.all fun x => Nat.blt x 256) && (List.range 4).all fun i => rowTo (C.getD i []) A 4 4 == idRow 4 i)
theorem leftB_left {C A : List (List Nat)} (h : leftB C A = true) : Left 4 C A := by
  simp only [leftB, Bool.and_eq_true, Nat.beq_eq, List.all_eq_true, List.mem_range, beq_iff_eq, Nat.blt_eq] at h
  obtain ⟨h1, h2, h3⟩ := h
  exact ⟨h1, fun l hl x hx => (h2 l hl).2 x hx, wid_of fun r hr => (h2 r hr).1, h3⟩
theorem invTab_left : invTab.all (fun p => leftB p.2 (p.1.map fun i => genM.getD i []) && (Nat.beq p.1.length 4 && p.1.all fun i => Nat.blt i 6)) = true := by kernel_rfl

/-- The first four of those that are there. -/
def selB (p : Nat → Bool) : Nat → List Nat
  | 0 => []
  | k + 1 => if p k && decide ((selB p k).length < 4) then selB p k ++ [k] else selB p k
theorem selB_len (p : Nat → Bool) : ∀ k, (selB p k).length ≤ 4
  | 0 => by simp [selB]
  | k + 1 => by
    have := selB_len p k
    unfold selB
    split
    · rename_i h
      simp only [Bool.and_eq_true, decide_eq_true_eq] at h
      rw [List.length_append]; simp; omega
    · exact this
theorem selB_lt (p : Nat → Bool) : ∀ k, ∀ i ∈ selB p k, i < k ∧ p i = true
  | 0, i, h => by simp [selB] at h
  | k + 1, i, h => by
    unfold selB at h
    split at h
    · rename_i hc
      simp only [Bool.and_eq_true, decide_eq_true_eq] at hc
      rcases List.mem_append.1 h with h | h
      · have := selB_lt p k i h; exact ⟨by omega, this.2⟩
      · rw [List.mem_singleton.1 h]; exact ⟨by omega, hc.1⟩
    · have := selB_lt p k i h; exact ⟨by omega, this.2⟩
theorem selB_congr {p q : Nat → Bool} : ∀ k, (∀ i, i < k → p i = q i) → selB p k = selB q k
  | 0, _ => rfl
  | k + 1, h => by
    unfold selB
    rw [selB_congr k fun i hi => h i (by omega), h k (by omega)]
def pat (b0 b1 b2 b3 b4 b5 : Bool) : Nat → Bool
  | 0 => b0
  | 1 => b1
  | 2 => b2
  | 3 => b3
  | 4 => b4
  | _ => b5
theorem sel_all : ∀ b0 b1 b2 b3 b4 b5 : Bool, (selB (pat b0 b1 b2 b3 b4 b5) 6).length = 4 → (invTab.map (·.1)).contains (selB (pat b0 b1 b2 b3 b4 b5) 6) = true := by decide
theorem sel_pat (p : Nat → Bool) : selB p 6 = selB (pat (p 0) (p 1) (p 2) (p 3) (p 4) (p 5)) 6 := by
  refine selB_congr 6 fun i hi => ?_
  rcases (show i = 0 ∨ i = 1 ∨ i = 2 ∨ i = 3 ∨ i = 4 ∨ i = 5 by omega) with rfl | rfl | rfl | rfl | rfl | rfl <;> rfl
theorem sel_left {p : Nat → Bool} (h : (selB p 6).length = 4) : ∃ C, Left 4 C ((selB p 6).map (rowA genM)) := by
  have h1 : (selB (pat (p 0) (p 1) (p 2) (p 3) (p 4) (p 5)) 6).length = 4 := by rw [← sel_pat]; exact h
  have h2 := sel_all _ _ _ _ _ _ h1
  rw [← sel_pat, List.contains_iff_mem] at h2
  obtain ⟨q, hq, e⟩ := List.mem_map.1 h2
  have h3 := List.all_eq_true.1 invTab_left q hq
  simp only [Bool.and_eq_true] at h3
  rw [← e]
  exact ⟨q.2, leftB_left h3.1⟩

def colv (b : List (List Nat)) (j : Nat) : Nat → Nat := fun k => (rowA b k).getD j 0
theorem colv_lt {b : List (List Nat)} (hb : Bytes b) (j k : Nat) : colv b j k < 256 := ent_lt hb k j
theorem rowTo_get {a : List Nat} {b : List (List Nat)} {w : Nat} (hab : ∀ x ∈ a, x < 256) (hb : Bytes b) (hw : ∀ r ∈ b, r.length = w) (hl : a.length = b.length) {j : Nat} (hj : j < w) : (rowTo a b w b.length).getD j 0 = dot a (colv b j) := by
  rw [← dot_uv (rowTo_bytes _) (by rw [rowTo_len hw _ (Nat.le_refl _)]; exact hj), dot_rowTo hab hw (uv_lt j) _ (Nat.le_refl _)]
  exact comb_dot _ _ hl fun i hi => dot_uv (hb _ (row_mem hi)) (by rw [hw _ (row_mem hi)]; exact hj)

theorem mat_ext {A B : List (List Nat)} {n w : Nat} (hA : A.length = n) (hB : B.length = n) (wA : ∀ r ∈ A, r.length = w) (wB : ∀ r ∈ B, r.length = w) (h : ∀ i j, i < n → j < w → (rowA A i).getD j 0 = (rowA B i).getD j 0) : A = B := by
  apply List.ext_getElem (by rw [hA, hB])
  intro i h1 h2
  have e1 : A[i] = rowA A i := by rw [rowA, List.getD_eq_getElem?_getD, List.getElem?_eq_getElem h1]; rfl
  have e2 : B[i] = rowA B i := by rw [rowA, List.getD_eq_getElem?_getD, List.getElem?_eq_getElem h2]; rfl
  rw [e1, e2]
  have l1 := wA _ (row_mem h1)
  have l2 := wB _ (row_mem h2)
  apply List.ext_getElem (by rw [l1, l2])
  intro j h3 h4
  have := h i j (by omega) (by omega)
  rw [List.getD_eq_getElem?_getD, List.getD_eq_getElem?_getD, List.getElem?_eq_getElem h3, List.getElem?_eq_getElem h4] at this
  exact this
theorem rowA_map {f : Nat → List Nat} {s : List Nat} {i : Nat} (hi : i < s.length) : rowA (s.map f) i = f (s.getD i 0) := by
  simp only [rowA, List.getD_eq_getElem?_getD, List.getElem?_map, List.getElem?_eq_getElem hi, Option.map_some, Option.getD_some]
theorem rowA_map' {f : List Nat → List Nat} {m : List (List Nat)} {i : Nat} (hi : i < m.length) : rowA (m.map f) i = f (rowA m i) := by
  simp only [rowA, List.getD_eq_getElem?_getD, List.getElem?_map, List.getElem?_eq_getElem hi, Option.map_some, Option.getD_some]
theorem enc_get {l : List Nat} (hl : l.length = 128) (hb : ∀ x ∈ l, x < 256) {i j : Nat} (hi : i < 6) (hj : j < 32) : (rowA (encM l) i).getD j 0 = dot (rowA genM i) (colv (partsM l) j) := by
  rw [encM, rowA_map' (show i < genM.length from hi)]
  have hp := partsM_len l
  have := rowTo_get (a := rowA genM i) (b := partsM l) (genM_bytes _ (row_mem (show i < genM.length from hi))) (partsM_bytes hb) (partsM_wid hl) (by rw [hp]; exact genM_wid _ (row_mem (show i < genM.length from hi))) hj
  rw [hp] at this
  exact this

theorem parts_flat {l : List Nat} (hl : l.length = 128) : (partsM l).flatten = l := by
  have e : partsM l = [l.take 32, (l.drop 32).take 32, (l.drop 64).take 32, (l.drop 96).take 32] := by simp [partsM, List.range_succ]
  rw [e]
  simp only [List.flatten_cons, List.flatten_nil, List.append_nil]
  have h4 : (l.drop 96).take 32 = l.drop 96 := List.take_of_length_le (by rw [List.length_drop]; omega)
  have h3 : l.drop 96 = (l.drop 64).drop 32 := by rw [List.drop_drop]
  have h2 : l.drop 64 = (l.drop 32).drop 32 := by rw [List.drop_drop]
  rw [h4, h3, List.take_append_drop, h2, List.take_append_drop, List.take_append_drop]

/-- What is reckoned back out of four chunks. -/
def decL (q S : List (List Nat)) : List Nat := (q.map fun r => rowTo r S 32 4).flatten
theorem dec_enc {l : List Nat} (hl : l.length = 128) (hb : ∀ x ∈ l, x < 256) {s : List Nat} (hs : s.length = 4) (hs6 : ∀ i ∈ s, i < 6) {m q : List (List Nat)} (hm : ∀ i ∈ s, rowA m i = rowA (encM l) i)
    (hq : Sol 4 (s.map (rowA genM)) q) (ql : q.length = 4) (qb : Bytes q) (qw : ∀ r ∈ q, r.length = 4) : decL q (s.map (rowA m)) = l := by
  have hp := partsM_len l
  have hsm : ∀ k, k < 4 → s.getD k 0 ∈ s := fun k hk => by
    rw [List.getD_eq_getElem?_getD, List.getElem?_eq_getElem (by omega)]; exact List.getElem_mem _
  have hSw : ∀ r ∈ s.map (rowA m), r.length = 32 := by
    intro r hr
    obtain ⟨i, hi, rfl⟩ := List.mem_map.1 hr
    rw [hm i hi]; exact encM_wid hl _ (row_mem (hs6 i hi))
  have hSb : Bytes (s.map (rowA m)) := by
    intro r hr
    obtain ⟨i, hi, rfl⟩ := List.mem_map.1 hr
    rw [hm i hi]; exact encM_bytes l _ (row_mem (hs6 i hi))
  have hSl : (s.map (rowA m)).length = 4 := by rw [List.length_map, hs]
  have key : (q.map fun r => rowTo r (s.map (rowA m)) 32 4) = partsM l := by
    refine mat_ext (n := 4) (w := 32) (by rw [List.length_map, ql]) hp ?_ (partsM_wid hl) fun i j hi hj => ?_
    · intro r hr
      obtain ⟨a, ha, rfl⟩ := List.mem_map.1 hr
      exact rowTo_len hSw 4 (by rw [hSl]; omega)
    · rw [rowA_map' (by rw [ql]; exact hi)]
      have h1 := rowTo_get (a := rowA q i) (qb _ (row_mem (by omega))) hSb hSw (by rw [hSl]; exact qw _ (row_mem (by omega))) hj
      rw [hSl] at h1
      rw [h1]
      have hx : ∀ k, colv (partsM l) j k < 256 := colv_lt (partsM_bytes hb) j
      have hy : ∀ k, colv (s.map (rowA m)) j k < 256 := colv_lt hSb j
      have h2 := (hq (colv (partsM l) j) (colv (s.map (rowA m)) j) hx hy).1 (fun k hk => by
        rw [rowA_map (by omega)]
        have hm' := hm _ (hsm k hk)
        have hk6 := hs6 _ (hsm k hk)
        rw [← enc_get hl hb hk6 hj, ← hm']
        simp only [colv]
        rw [rowA_map (by omega)]) i hi
      exact h2.symm
  unfold decL
  rw [key, parts_flat hl]

theorem dot_addz : ∀ (l : List Nat) (z z' : Nat → Nat), (∀ x ∈ l, x < 256) → (∀ j, z j < 256) → (∀ j, z' j < 256) → dot l (fun k => z k ^^^ z' k) = dot l z ^^^ dot l z'
  | [], _, _, _, _, _ => by simp only [dot]; rfl
  | x :: l, z, z', hl, hz, hz' => by
    simp only [dot]
    rw [dot_addz l (fun j => z (j + 1)) (fun j => z' (j + 1)) (fun y hy => hl y (by simp [hy])) (fun j => hz _) (fun j => hz' _), gmul_add (hl x (by simp)) (hz 0) (hz' 0)]
    simp only [Nat.xor_assoc]
    congr 1
    exact xlc _ _ _
end Go.Corb.A

/- The contract of Decode. Conditions: none. -/
set_option linter.unusedVariables false
set_option linter.unusedSimpArgs false
namespace Go.Corb.A
open Go Go.RowKit Go.Proofs Go.Corb Go.IntWalk

def there (m : List (List Nat)) (k : Nat) : Bool := decide (0 < (rowA m k).length)
def sel (m : List (List Nat)) (k : Nat) : List Nat := selB (there m) k
def chunk0 (m : List (List Nat)) : Prop := ∀ r ∈ m, r.length = 0 ∨ r.length = 32

theorem headOf_slice {r o n c : Nat} {sp : Option Nat} : headOf (.slice (some ⟨r, o, sp⟩) n c) = some r := rfl
theorem _root_.Go.Corb.Growing.head {σ τ : AS} {v : Value} {vals : List Value} (h : Growing σ τ v vals) {q : Nat} (e : headOf v = some q) : σ.next ≤ q ∧ τ.heap q = some (.cells vals false) := by
  rcases h with ⟨_, rfl⟩ | ⟨h, h1, rfl, h2⟩
  · cases e
  · have e : h = q := by injection e
    subst e
    exact ⟨h1, h2⟩
theorem _root_.Go.Corb.Growing.slice {σ τ : AS} {v : Value} {vals : List Value} (h : Growing σ τ v vals) : ∃ a n c, v = .slice a n c := by
  rcases h with ⟨_, rfl⟩ | ⟨h, _, rfl, _⟩
  · exact ⟨_, _, _, rfl⟩
  · exact ⟨_, _, _, rfl⟩
theorem _root_.Go.Corb.Growing.keep {σ τ τ' : AS} {v : Value} {vals : List Value} (h : Growing σ τ v vals) (e : ∀ q, headOf v = some q → τ'.heap q = τ.heap q) : Growing σ τ' v vals := by
  rcases h with h | ⟨h, h1, rfl, h2⟩
  · exact .inl h
  · exact .inr ⟨h, h1, rfl, by rw [e h rfl]; exact h2⟩
theorem _root_.Go.Corb.Growing.len {σ τ : AS} {v : Value} {vals : List Value} (h : Growing σ τ v vals) : ∃ a c, v = .slice a vals.length c := by
  rcases h with ⟨rfl, rfl⟩ | ⟨h, _, rfl, _⟩
  · exact ⟨_, _, rfl⟩
  · exact ⟨_, _, rfl⟩

section
variable {Base : CallRel}
set_option pp.deepTerms.threshold 8

theorem decode1 (hC : CProp (ACall Try.prog Base)) {x : Value} {l : List Nat} {τ : AS} (hτ : Ok τ) (hx : SlAt τ x (l.map vb)) (hl : l.length < 2 ^ 40) {Q : Value → AS → Prop}
    (k : ∀ τ', Mem τ τ' → Q (.bool (decide (l.length ≠ 0 ∧ l.length ≠ 32))) τ') : ∃ v σ', ACall Try.prog Base 40 [x] τ v σ' ∧ Q v σ' := by
  obtain ⟨a, cap, rfl⟩ := hx.shape
  rw [List.length_map]
  refine call_rwp hC cf40 rfl hτ.wf ?_
  conv => whnf
  refine br_intro ?_ ?_ <;> intro h1 <;> simp only [blt_dec, ble_dec, beq_dec, ltB_eq, leB_eq, decide_eq_true_eq, decide_eq_false_iff_not, beq_iff_eq, bne_iff_ne, beq_eq_false_iff_ne, bne_eq_false_iff_eq] at h1
  · conv => whnf
    refine br_intro ?_ ?_ <;> intro h2 <;> simp only [blt_dec, ble_dec, beq_dec, ltB_eq, leB_eq, decide_eq_true_eq, decide_eq_false_iff_not, beq_iff_eq, bne_iff_ne, beq_eq_false_iff_ne, bne_eq_false_iff_eq] at h2
    · conv => whnf
      rw [show decide (l.length ≠ 0 ∧ l.length ≠ 32) = true from decide_eq_true (by omega)] at k
      exact k _ (by repeat first | exact Mem.refl hτ | apply Mem.bump | refine Mem.put ?_ (by (try simp only [bump_next, put_next]); omega) (by (try simp only [bump_next, put_next]); omega))
    · conv => whnf
      rw [show decide (l.length ≠ 0 ∧ l.length ≠ 32) = false from decide_eq_false (by omega)] at k
      exact k _ (by repeat first | exact Mem.refl hτ | apply Mem.bump | refine Mem.put ?_ (by (try simp only [bump_next, put_next]); omega) (by (try simp only [bump_next, put_next]); omega))
  · conv => whnf
    rw [show decide (l.length ≠ 0 ∧ l.length ≠ 32) = false from decide_eq_false (by omega)] at k
    exact k _ (by repeat first | exact Mem.refl hτ | apply Mem.bump | refine Mem.put ?_ (by (try simp only [bump_next, put_next]); omega) (by (try simp only [bump_next, put_next]); omega))

theorem decode (hC : CProp (ACall Try.prog Base)) {σ : AS} (hσ : Ok σ) {rc : Nat} (hc : CoderAt σ rc) {vm : Value} {m : List (List Nat)} (hm : MatAt σ vm m) (hml : m.length = 6) (hmw : chunk0 m) (hmb : Bytes m) (hsel : (sel m 6).length = 4) {Q : Value → AS → Prop}
    (kQ : ∀ σ' v q, Mem σ σ' → (∃ r, σ.next ≤ r ∧ v = .slice (some ⟨r, 0, some 1⟩) 128 128 ∧ σ'.heap r = some (.cells ((decL q ((sel m 6).map (rowA m))).map vb) false)) → Sol 4 ((sel m 6).map (rowA genM)) q → q.length = 4 → Bytes q → (∀ r ∈ q, r.length = 4) → (decL q ((sel m 6).map (rowA m))).length = 128 → Q (.tuple [v, .bool true].toArray) σ') :
    ∃ v σ', ACall Try.prog Base 22 [.pointer (some ⟨rc, 0, none⟩), vm] σ v σ' ∧ Q v σ' := by
  have hm0 := hm
  obtain ⟨ma, mv, mcap, rfl, hms, hmr⟩ := hm.rows
  obtain ⟨rf, rof, ro, h, rcap, h1, h2, h3, _⟩ := hc
  have hmvl : mv.length = 6 := by rw [hmr.1, hml]
  obtain ⟨ga, gv, gcap, ge, hgs, hgr⟩ := h3.rows
  have hgl : gv.length = 6 := hgr.1
  have hwl : ∀ k, (rowA m k).length = 0 ∨ (rowA m k).length = 32 := by
    intro k
    by_cases hk : k < m.length
    · exact hmw _ (row_mem hk)
    · left; rw [rowA, List.getD_eq_getElem?_getD, List.getElem?_eq_none (by omega)]; rfl
  refine call_rwp hC cf22 rfl hσ.wf ?_
  conv => whnf
  refine containsFunc hC (m := m) (by omega) (Mem.ok (σ := σ) (by repeat first | exact Mem.refl hσ | apply Mem.bump | refine Mem.put ?_ (by (try simp only [bump_next, put_next]); omega) (by (try simp only [bump_next, put_next]); omega))) (hm0.mono hσ (by repeat first | exact Mem.refl hσ | apply Mem.bump | refine Mem.put ?_ (by (try simp only [bump_next, put_next]); omega) (by (try simp only [bump_next, put_next]); omega))) (fun i => decide ((rowA m i).length ≠ 0 ∧ (rowA m i).length ≠ 32)) ?_ ?_
  · intro i x τ hi g hx Q k
    have e : m[i] = rowA m i := by rw [rowA, List.getD_eq_getElem?_getD, List.getElem?_eq_getElem hi]; rfl
    rw [e] at hx
    exact decode1 hC g.ok hx (by rcases hwl i with h | h <;> omega) k
  intro τ1 g1
  have g2 : Mem σ τ1 := Mem.trans (by repeat first | exact Mem.refl hσ | apply Mem.bump | refine Mem.put ?_ (by (try simp only [bump_next, put_next]); omega) (by (try simp only [bump_next, put_next]); omega)) g1
  have hany : (List.range m.length).any (fun i => decide ((rowA m i).length ≠ 0 ∧ (rowA m i).length ≠ 32)) = false := by
    rw [List.any_eq_false]
    intro i _
    have := hwl i
    rw [decide_eq_true_eq]; omega
  rw [hany]
  conv => whnf
  (refine br_false (by simp only [blt_dec, ble_dec, beq_dec, ltB_eq, leB_eq, decide_eq_true_eq, decide_eq_false_iff_not, Bool.and_eq_true, Bool.or_eq_true, beq_iff_eq, bne_iff_ne, beq_eq_false_iff_ne, bne_eq_false_iff_eq]; first | done | omega) ?_; conv => whnf)
  refine loop_intro (n := 75) (fun mm ws τ => ∃ (k : Nat) (rv sv : Value) (rvals svals : List Value), k ≤ 6 ∧ mm = 6 - k ∧ ws = [.pointer (some ⟨rc, 0, none⟩), rv, sv, .slice ma mv.length mcap, vi mv.length, vi k] ∧ Mem σ τ ∧ Growing σ τ rv rvals ∧ Growing σ τ sv svals ∧ (∀ q, headOf rv = some q → headOf sv ≠ some q) ∧
    RowsAt σ rvals ((sel m k).map (rowA genM)) ∧ RowsAt σ svals ((sel m k).map (rowA m))) 6 rfl ?_ ?_
  · conv => whnf
    exact ⟨0, _, _, [], [], by omega, rfl, rfl, by repeat first | exact g2 | apply Mem.bump | refine Mem.put ?_ (by (try simp only [bump_next, put_next]); omega) (by (try simp only [bump_next, put_next]); omega), .inl ⟨rfl, rfl⟩, .inl ⟨rfl, rfl⟩, fun q h => (nomatch h), RowsAt.nil _, RowsAt.nil _⟩
  · rintro mm ws τ ⟨k, rv, sv, rvals, svals, hk, rfl, rfl, g, hGr, hGs, hne, hrr, hrs⟩
    have hrl : rvals.length = (sel m k).length := by rw [hrr.1, List.length_map]
    have hsl : svals.length = (sel m k).length := by rw [hrs.1, List.length_map]
    have hnx := g.next
    have hs4 := selB_len (there m) k
    have hhr : ∀ q, headOf rv = some q → q < τ.next := fun q e => g.ok.lt (hGr.head e).2
    have hhs : ∀ q, headOf sv = some q → q < τ.next := fun q e => g.ok.lt (hGs.head e).2
    obtain ⟨ra, rcap', hrv⟩ := hGr.len
    obtain ⟨sa, scap', hsv⟩ := hGs.len
    subst hrv
    subst hsv
    conv => whnf
    refine br_intro ?_ ?_ <;> intro h5 <;> simp only [blt_dec, ble_dec, beq_dec, ltB_eq, leB_eq, decide_eq_true_eq, decide_eq_false_iff_not, beq_iff_eq, bne_iff_ne, beq_eq_false_iff_ne, bne_eq_false_iff_eq] at h5
    · have hk0 : k < 6 := by omega
      obtain ⟨xv, xv1, ⟨xa, xc, rfl⟩, xv3⟩ := hmr.get (i := k) (by omega)
      obtain ⟨mr, mo, msp, mc, mro, rfl, hmh, hmi, _⟩ := hms.idx (i := k) (by omega)
      rw [← List.getElem?_eq_some_iff.2 ⟨_, rfl⟩, xv1] at hmi
      conv => whnf
      repeat (first | (refine br_true (inR_intro (by simp only [loI, hiI]; omega)) ?_; conv => whnf) | (refine br_true (by simp only [blt_dec, ble_dec, beq_dec, ltB_eq, leB_eq, decide_eq_true_eq, decide_eq_false_iff_not, Bool.and_eq_true, Bool.or_eq_true, beq_iff_eq, bne_iff_ne, beq_eq_false_iff_ne, bne_eq_false_iff_eq]; first | done | omega) ?_; conv => whnf))
      refine ld_intro (g.old hσ hmh) ?_
      conv => whnf
      refine at_intro hmi ?_
      conv => whnf
      have hth : there m k = decide (0 < (m.getD k []).length) := rfl
      have hsucc : sel m (k + 1) = if there m k && decide ((sel m k).length < 4) then sel m k ++ [k] else sel m k := rfl
      refine br_intro ?_ ?_ <;> intro h6 <;> simp only [blt_dec, ble_dec, beq_dec, ltB_eq, leB_eq, decide_eq_true_eq, decide_eq_false_iff_not, beq_iff_eq, bne_iff_ne, beq_eq_false_iff_ne, bne_eq_false_iff_eq] at h6
      · conv => whnf
        refine br_intro ?_ ?_ <;> intro h7 <;> simp only [blt_dec, ble_dec, beq_dec, ltB_eq, leB_eq, decide_eq_true_eq, decide_eq_false_iff_not, beq_iff_eq, bne_iff_ne, beq_eq_false_iff_ne, bne_eq_false_iff_eq] at h7
        · conv => whnf
          refine ld_intro (g.old hσ h1) ?_
          conv => whnf
          obtain ⟨yv, yv1, ⟨ya, yc, rfl⟩, yv3⟩ := hgr.get (i := k) hk0
          obtain ⟨gr, go, gsp, gc, gro, ge1, hgh, hgi, _⟩ := hgs.idx (i := k) (by omega)
          simp only [Option.some.injEq, Addr.mk.injEq] at ge1
          obtain ⟨rfl, rfl, rfl⟩ := ge1
          rw [← List.getElem?_eq_some_iff.2 ⟨_, rfl⟩, yv1] at hgi
          repeat (first | (refine br_true (inR_intro (by simp only [loI, hiI]; omega)) ?_; conv => whnf) | (refine br_true (by simp only [blt_dec, ble_dec, beq_dec, ltB_eq, leB_eq, decide_eq_true_eq, decide_eq_false_iff_not, Bool.and_eq_true, Bool.or_eq_true, beq_iff_eq, bne_iff_ne, beq_eq_false_iff_ne, bne_eq_false_iff_eq]; first | done | omega) ?_; conv => whnf))
          refine ld_intro (g.old hσ hgh) ?_
          conv => whnf
          refine at_intro hgi ?_
          conv => whnf
          have gA : Mem σ ((((τ.bump 1).bump 5).bump 8).bump 16 |>.put (τ.next + 1 + 5 + 8 + 8) (.cells [.slice ya (genM.getD k []).length yc] false)) := by repeat first | exact g | apply Mem.bump | refine Mem.put ?_ (by (try simp only [bump_next, put_next]); omega) (by (try simp only [bump_next, put_next]); omega)
          have hGrA : Growing σ ((((τ.bump 1).bump 5).bump 8).bump 16 |>.put (τ.next + 1 + 5 + 8 + 8) (.cells [.slice ya (genM.getD k []).length yc] false)) (.slice ra rvals.length rcap') rvals := hGr.keep fun q e => put_heap_ne (by have := hhr q e; omega)
          obtain ⟨τa, hapa, ga', hna, hnxa, hfra⟩ := app_growing (N := τ.next + 1 + 5 + 8 + 9) (bytes := 24) (x := .slice (some ⟨τ.next + 1 + 5 + 8 + 8, 0, none⟩) 1 1) (news := [.slice ya (genM.getD k []).length yc]) hσ gA hGrA (by omega) (by simp only [put_next, bump_next]; omega) (SlAt.mk (put_heap_eq _ _ _) rfl rfl) rfl hrr.one (by simp) (by simp; omega)
          refine ⟨_, _, hapa, ?_⟩
          simp only [put_next, bump_next] at hnxa
          conv => whnf
          have gB : Mem σ (τa.put (τ.next + 1 + 5 + 8 + 12) (.cells [.slice xa (m.getD k []).length xc] false)) := ga'.put (by omega) (by omega)
          have hGsB : Growing σ (τa.put (τ.next + 1 + 5 + 8 + 12) (.cells [.slice xa (m.getD k []).length xc] false)) (.slice sa svals.length scap') svals := hGs.keep fun q e => by
            have hq := hhs q e
            rw [put_heap_ne (by omega), hfra q (by omega) (fun e2 => hne q e2 e), put_heap_ne (by omega)]
            rfl
          obtain ⟨τb, hapb, gb', hnb, hnxb, hfrb⟩ := app_growing (N := τ.next + 1 + 5 + 8 + 13) (bytes := 24) (x := .slice (some ⟨τ.next + 1 + 5 + 8 + 12, 0, none⟩) 1 1) (news := [.slice xa (m.getD k []).length xc]) hσ gB hGsB (by omega) (by simp only [put_next]; omega) (SlAt.mk (put_heap_eq _ _ _) rfl rfl) rfl hrs.one (by simp) (by simp; omega)
          refine ⟨_, _, hapb, ?_⟩
          conv => whnf
          repeat (first | (refine br_true (inR_intro (by simp only [loI, hiI]; omega)) ?_; conv => whnf) | (refine br_true (by simp only [blt_dec, ble_dec, beq_dec, ltB_eq, leB_eq, decide_eq_true_eq, decide_eq_false_iff_not, Bool.and_eq_true, Bool.or_eq_true, beq_iff_eq, bne_iff_ne, beq_eq_false_iff_ne, bne_eq_false_iff_eq]; first | done | omega) ?_; conv => whnf))
          rw [hth, decide_eq_true (by omega), decide_eq_true (by omega)] at hsucc
          rw [show (true && true) = true from rfl, if_pos rfl] at hsucc
          refine ⟨rfl, 6 - (k + 1), by omega, k + 1, .slice (some ⟨τ.next + 1 + 5 + 8 + 9, 0, some 1⟩) (rvals.length + 1) (rvals.length + 1), .slice (some ⟨τ.next + 1 + 5 + 8 + 13, 0, some 1⟩) (svals.length + 1) (svals.length + 1), rvals ++ [.slice ya (genM.getD k []).length yc], svals ++ [.slice xa (m.getD k []).length xc], by omega, rfl, rfl, by repeat first | exact gb' | apply Mem.bump | refine Mem.put ?_ (by (try simp only [bump_next, put_next]); omega) (by (try simp only [bump_next, put_next]); omega), .inr ⟨τ.next + 1 + 5 + 8 + 9, by omega, by rw [List.length_append]; rfl, ?_⟩, .inr ⟨τ.next + 1 + 5 + 8 + 13, by omega, by rw [List.length_append]; rfl, by rw [bump_heap]; exact hnb⟩, ?_, ?_, ?_⟩
          · rw [bump_heap, hfrb _ (by omega) (fun e => by have := hhs _ e; omega), put_heap_ne (by omega)]
            exact hna
          · intro q e e2
            have e : τ.next + 1 + 5 + 8 + 9 = q := by injection e
            have e2 : τ.next + 1 + 5 + 8 + 13 = q := by injection e2
            omega
          · rw [hsucc, List.map_append]; exact hrr.append (RowsAt.one1 yv3)
          · rw [hsucc, List.map_append]; exact hrs.append (RowsAt.one1 xv3)
        · conv => whnf
          repeat (first | (refine br_true (inR_intro (by simp only [loI, hiI]; omega)) ?_; conv => whnf) | (refine br_true (by simp only [blt_dec, ble_dec, beq_dec, ltB_eq, leB_eq, decide_eq_true_eq, decide_eq_false_iff_not, Bool.and_eq_true, Bool.or_eq_true, beq_iff_eq, bne_iff_ne, beq_eq_false_iff_ne, bne_eq_false_iff_eq]; first | done | omega) ?_; conv => whnf))
          rw [hth, decide_eq_true (by omega), decide_eq_false (by omega)] at hsucc
          rw [show (true && false) = false from rfl, if_neg (by simp)] at hsucc
          refine ⟨rfl, 6 - (k + 1), by omega, k + 1, _, _, rvals, svals, by omega, rfl, rfl, by repeat first | exact g | apply Mem.bump | refine Mem.put ?_ (by (try simp only [bump_next, put_next]); omega) (by (try simp only [bump_next, put_next]); omega), hGr, hGs, hne, ?_, ?_⟩
          · rw [hsucc]; exact hrr
          · rw [hsucc]; exact hrs
      · conv => whnf
        repeat (first | (refine br_true (inR_intro (by simp only [loI, hiI]; omega)) ?_; conv => whnf) | (refine br_true (by simp only [blt_dec, ble_dec, beq_dec, ltB_eq, leB_eq, decide_eq_true_eq, decide_eq_false_iff_not, Bool.and_eq_true, Bool.or_eq_true, beq_iff_eq, bne_iff_ne, beq_eq_false_iff_ne, bne_eq_false_iff_eq]; first | done | omega) ?_; conv => whnf))
        rw [hth, decide_eq_false (by omega)] at hsucc
        rw [Bool.false_and, if_neg (by simp)] at hsucc
        refine ⟨rfl, 6 - (k + 1), by omega, k + 1, _, _, rvals, svals, by omega, rfl, rfl, by repeat first | exact g | apply Mem.bump | refine Mem.put ?_ (by (try simp only [bump_next, put_next]); omega) (by (try simp only [bump_next, put_next]); omega), hGr, hGs, hne, ?_, ?_⟩
        · rw [hsucc]; exact hrr
        · rw [hsucc]; exact hrs
    · obtain rfl : k = 6 := by omega
      have hselt : ∀ i ∈ sel m 6, i < 6 ∧ there m i = true := selB_lt _ _
      have hS32 : ∀ r ∈ (sel m 6).map (rowA m), r.length = 32 := by
        intro r hr
        obtain ⟨i, hi, rfl⟩ := List.mem_map.1 hr
        have h9 := (hselt i hi).2
        simp only [there, decide_eq_true_eq] at h9
        have := hwl i
        omega
      have hSb : Bytes ((sel m 6).map (rowA m)) := by
        intro r hr
        obtain ⟨i, hi, rfl⟩ := List.mem_map.1 hr
        exact hmb _ (row_mem (by rw [hml]; exact (hselt i hi).1))
      have hAw : ∀ r ∈ (sel m 6).map (rowA genM), r.length = 4 := by
        intro r hr
        obtain ⟨i, hi, rfl⟩ := List.mem_map.1 hr
        exact genM_wid _ (row_mem (hselt i hi).1)
      have hAb : Bytes ((sel m 6).map (rowA genM)) := by
        intro r hr
        obtain ⟨i, hi, rfl⟩ := List.mem_map.1 hr
        exact genM_bytes _ (row_mem (hselt i hi).1)
      have hAl : ((sel m 6).map (rowA genM)).length = 4 := by rw [List.length_map]; exact hsel
      have hSl : ((sel m 6).map (rowA m)).length = 4 := by rw [List.length_map]; exact hsel
      obtain ⟨C, hC4⟩ := sel_left (p := there m) hsel
      have hsing := left_sing hC4 hAl (wid_of hAw)
      have gE : Mem σ ((τ.bump 1).bump 11) := by repeat first | exact g | apply Mem.bump | refine Mem.put ?_ (by (try simp only [bump_next, put_next]); omega) (by (try simp only [bump_next, put_next]); omega)
      have hrows : MatAt ((τ.bump 1).bump 11) (.slice ra rvals.length rcap') ((sel m 6).map (rowA genM)) := ⟨rvals, hGr.at, (hrr.mono hσ gE).1, (hrr.mono hσ gE).2⟩
      have hsome : MatAt τ (.slice sa svals.length scap') ((sel m 6).map (rowA m)) := ⟨svals, hGs.at, (hrs.mono hσ g).1, (hrs.mono hσ g).2⟩
      conv => whnf
      refine ld_intro (g.old hσ h1) ?_
      conv => whnf
      refine inverse' hC (m := (sel m 6).map (rowA genM)) (n := 4) hAl (by omega) (by omega) hAw hAb gE.ok (gE.old hσ h2) hrows (fun σ' _ hs => absurd hs hsing) ?_
      intro τ2 qv q g3 hq ql qb qw hsol
      have g4 : Mem τ τ2 := Mem.trans (by repeat first | exact Mem.refl g.ok | apply Mem.bump | refine Mem.put ?_ (by (try simp only [bump_next, put_next]); omega) (by (try simp only [bump_next, put_next]); omega)) g3
      have g5 := g.trans g4
      obtain ⟨qa, qvs, qc, rfl, hqs, hqr⟩ := hq.rows
      conv => whnf
      (refine br_false (by simp only [blt_dec, ble_dec, beq_dec, ltB_eq, leB_eq, decide_eq_true_eq, decide_eq_false_iff_not, Bool.and_eq_true, Bool.or_eq_true, beq_iff_eq, bne_iff_ne, beq_eq_false_iff_ne, bne_eq_false_iff_eq]; first | done | omega) ?_; conv => whnf)
      have g6 : Mem σ ((τ2.bump 7).bump 10) := by repeat first | exact g5 | apply Mem.bump | refine Mem.put ?_ (by (try simp only [bump_next, put_next]); omega) (by (try simp only [bump_next, put_next]); omega)
      have g7 : Mem τ2 ((τ2.bump 7).bump 10) := by repeat first | exact Mem.refl g3.ok | apply Mem.bump | refine Mem.put ?_ (by (try simp only [bump_next, put_next]); omega) (by (try simp only [bump_next, put_next]); omega)
      refine ld_intro (g5.old hσ h1) ?_
      conv => whnf
      refine mmul hC (a := q) (b := (sel m 6).map (rowA m)) (w := 32) (by omega) (by omega) (by rw [hSl]; exact qw) (by omega) (by omega) hS32 (by omega) (by omega) qb hSb g6.ok (g6.old hσ h2) (hq.mono g3.ok g7) ((hsome.mono g.ok g4).mono g3.ok g7) ?_
      intro τ3 v4 rs g8 hR
      rw [hSl] at hR
      have hfl : ((q.map fun r => rowTo r ((sel m 6).map (rowA m)) 32 4)).length = 4 := by rw [List.length_map, ql]
      have hw32 : ∀ r ∈ (q.map fun r => rowTo r ((sel m 6).map (rowA m)) 32 4), r.length = 32 := by
        intro r hr
        obtain ⟨a, ha, rfl⟩ := List.mem_map.1 hr
        exact rowTo_len hS32 4 (by omega)
      have hflat : ((q.map fun r => rowTo r ((sel m 6).map (rowA m)) 32 4)).flatten.length = 128 := by
        rw [List.length_flatten]
        have : ∀ l : List (List Nat), (∀ r ∈ l, r.length = 32) → (l.map List.length).sum = 32 * l.length := by
          intro l
          induction l with
          | nil => intro _; rfl
          | cons x l ih =>
            intro h
            rw [List.map_cons, List.sum_cons, h x (by simp), ih fun r hr => h r (by simp [hr]), List.length_cons]; omega
        rw [this _ hw32, hfl]
      obtain ⟨va, vn, vc, rfl⟩ := hR.slice
      conv => whnf
      refine concat hC (m := q.map fun r => rowTo r ((sel m 6).map (rowA m)) 32 4) (by rw [hflat]; omega) (by omega) g8.ok hR.at ?_
      intro τ4 v5 g9 hfr
      have hn5 := g5.next
      have hn8 := g8.next
      simp only [bump_next] at hn8
      rcases hfr with ⟨h0, _⟩ | ⟨r5, hr5, rfl, hh5⟩
      · rw [h0] at hflat; simp at hflat
      rw [hflat]
      conv => whnf
      exact kQ _ _ q ((g6.trans g8).trans g9) ⟨r5, by omega, rfl, hh5⟩ hsol ql qb qw hflat
end
end Go.Corb.A

/- Rows and bytes, opened. Conditions: none. -/
set_option linter.unusedVariables false
set_option linter.unusedSimpArgs false
namespace Go.Corb.A
open Go Go.RowKit Go.Proofs Go.Corb Go.IntWalk

/-- A row, opened. -/
theorem row_open {σ : AS} {v : Value} {l : List Nat} {w : Nat} (h : SlAt σ v (l.map vb)) (hl : l.length = w) (hw : 0 < w) : ∃ r o sp cap c ro, v = .slice (some ⟨r, o, sp⟩) w cap ∧ σ.heap r = some (.cells c ro) ∧ (∀ j, j < w → c[o + j * 1]? = some (vb (l.getD j 0))) ∧ (c.drop o).take w = l.map vb := by
  obtain ⟨a, cap, rfl⟩ := h.shape
  obtain ⟨r, o, sp, c, ro, rfl, hr, _, ht⟩ := h.idx (i := 0) (by rw [List.length_map]; omega)
  rw [List.length_map, hl] at ht
  refine ⟨r, o, sp, cap, c, ro, by rw [List.length_map, hl], hr, fun j hj => ?_, ht⟩
  have : ((c.drop o).take w)[j]? = (l.map vb)[j]? := by rw [ht]
  rw [List.getElem?_take, if_pos hj, List.getElem?_drop, List.getElem?_map] at this
  rw [Nat.mul_one, this, List.getD_eq_getElem?_getD, List.getElem?_eq_getElem (l := l) (by omega)]
  rfl
/-- A matrix, opened. -/
theorem mat_open {σ : AS} {v : Value} {m : List (List Nat)} {n : Nat} (h : MatAt σ v m) (hn : m.length = n) (hn0 : 0 < n) : ∃ r o sp cap c ro, v = .slice (some ⟨r, o, sp⟩) n cap ∧ σ.heap r = some (.cells c ro) ∧ ∀ k, k < n → ∃ x, c[o + k * 1]? = some x ∧ SlAt σ x ((rowA m k).map vb) := by
  obtain ⟨a, vs, cap, rfl, hs, hr⟩ := h.rows
  have hl : vs.length = n := by rw [hr.1, hn]
  obtain ⟨r, o, sp, c, ro, rfl, hh, _, ht⟩ := hs.idx (i := 0) (by omega)
  rw [hl] at ht ⊢
  refine ⟨r, o, sp, cap, c, ro, rfl, hh, fun k hk => ?_⟩
  obtain ⟨x, hx, _, h3⟩ := hr.get (i := k) (by omega)
  refine ⟨x, ?_, h3⟩
  have : ((c.drop o).take n)[k]? = vs[k]? := by rw [ht]
  rw [List.getElem?_take, if_pos hk, List.getElem?_drop, hx] at this
  rw [Nat.mul_one]; exact this

def bsOf (l : List Nat) : List UInt8 := l.map UInt8.ofNat
theorem bytes_of (l : List Nat) : bytesOf (l.map vb) = some (bsOf l) := by
  induction l with
  | nil => rfl
  | cons x l ih =>
    rw [List.map_cons, bytesOf, ih]
    rfl
theorem bytes_of' {c : List Value} {l : List Nat} (h : c = l.map vb) : bytesOf c = some (bsOf l) := by rw [h, bytes_of]
theorem str_step {c : List Value} {l : List Nat} {o n : Nat} {K : List UInt8 → Prop} {L : Prop} (hn : l.length = n) (hn0 : 0 < n) (ht : (c.drop o).take n = l.map vb) (k : K (bsOf l)) : brB ((o + n).ble c.length) (bsB (List.take n (List.drop o c)) K) L := by
  have h1 : ((c.drop o).take n).length = n := by rw [ht, List.length_map, hn]
  rw [List.length_take, List.length_drop] at h1
  exact br_true (Nat.ble_eq_true_of_le (by omega)) (bs_intro (bytes_of' ht) k)
theorem all_of {l : List Nat} {n : Nat} (hn : l.length = n) : ((l.map vb).drop 0).take n = l.map vb := by rw [List.drop_zero, List.take_of_length_le (by rw [List.length_map, hn]; exact Nat.le_refl _)]
end Go.Corb.A

/- The contract of known (coder). Conditions: none. -/
set_option linter.unusedVariables false
set_option linter.unusedSimpArgs false
namespace Go.Corb.A
open Go Go.RowKit Go.Proofs Go.Corb Go.IntWalk

theorem RowsAt.cons {σ : AS} {x : Value} {vs : List Value} {l : List Nat} {m : List (List Nat)} (h : SlAt σ x (l.map vb)) (h2 : RowsAt σ vs m) : RowsAt σ (x :: vs) (l :: m) := RowsAt.append (RowsAt.one1 h) h2
theorem zrow_vb (n : Nat) : zrow (.agg [.int .u8 0].toArray) (n * [Value.int .u8 0].length) = (List.replicate n 0).map vb := by rw [List.map_replicate]; exact zrow_rep (vb 0) n
theorem vb_all (l : List Nat) (h : ∀ x ∈ l, x < 256) : True := trivial
theorem rowA_enc_len {l : List Nat} (h : l.length = 128) {k : Nat} (hk : k < 6) : (rowA (encM l) k).length = 32 := encM_wid h _ (row_mem (by rw [encM_len]; exact hk))

section
set_option pp.deepTerms.threshold 8
variable {Base : CallRel}

/-- Four chunks of a stripe lead back to it. -/
theorem decode_good (hC : CProp (ACall Try.prog Base)) {σ : AS} (hσ : Ok σ) {rc : Nat} (hc : CoderAt σ rc) {vm : Value} {m : List (List Nat)} (hm : MatAt σ vm m) (hml : m.length = 6) {l : List Nat} (hl : l.length = 128) (hlb : ∀ x ∈ l, x < 256) (p : Nat → Bool)
    (hrow : ∀ k, k < 6 → rowA m k = if p k then rowA (encM l) k else []) (hp : (selB p 6).length = 4) {Q : Value → AS → Prop}
    (kQ : ∀ σ' r, Mem σ σ' → σ.next ≤ r → σ'.heap r = some (.cells (l.map vb) false) → Q (.tuple [.slice (some ⟨r, 0, some 1⟩) 128 128, .bool true].toArray) σ') :
    ∃ v σ', ACall Try.prog Base 22 [.pointer (some ⟨rc, 0, none⟩), vm] σ v σ' ∧ Q v σ' := by
  have hth : ∀ k, k < 6 → there m k = p k := by
    intro k hk
    rw [there, hrow k hk]
    cases p k with
    | true => rw [if_pos rfl, rowA_enc_len hl hk]; rfl
    | false => rw [if_neg (by simp)]; rfl
  have hs : sel m 6 = selB p 6 := selB_congr 6 hth
  have hrows : ∀ r ∈ m, ∃ k, k < 6 ∧ r = rowA m k := by
    intro r hr
    obtain ⟨k, hk, rfl⟩ := List.getElem_of_mem hr
    exact ⟨k, by omega, by rw [rowA, List.getD_eq_getElem?_getD, List.getElem?_eq_getElem hk]; rfl⟩
  refine decode hC hσ hc hm hml ?_ ?_ (by rw [hs]; exact hp) ?_
  · intro r hr
    obtain ⟨k, hk, rfl⟩ := hrows r hr
    rw [hrow k hk]
    cases p k with
    | true => right; rw [if_pos rfl, rowA_enc_len hl hk]
    | false => left; rfl
  · intro r hr x hx
    obtain ⟨k, hk, rfl⟩ := hrows r hr
    rw [hrow k hk] at hx
    cases hpk : p k with
    | true => rw [hpk, if_pos rfl] at hx; exact encM_bytes l _ (row_mem (by rw [encM_len]; exact hk)) x hx
    | false => rw [hpk] at hx; simp at hx
  · intro σ' v q g hv hsol ql qb qw hlen
    obtain ⟨r, hr, rfl, hh⟩ := hv
    have hd : decL q ((sel m 6).map (rowA m)) = l := by
      refine dec_enc (s := sel m 6) hl hlb (by rw [hs]; exact hp) (fun i hi => (selB_lt _ _ i hi).1) (fun i hi => ?_) hsol ql qb qw
      have h1 := selB_lt _ _ i hi
      rw [hrow i h1.1, if_pos (by rw [← hth i h1.1]; exact h1.2)]
    rw [hd] at hh
    exact kQ _ r g hr hh

def kl : List Nat := (List.replicate 128 0).set 32 1
theorem kl_len : kl.length = 128 := by kernel_rfl
theorem kl_bytes : ∀ x ∈ kl, x < 256 := by
  intro x hx
  rcases List.mem_or_eq_of_mem_set hx with h | h
  · have := List.eq_of_mem_replicate h; omega
  · omega
theorem kl_enc : ((rowA (encM kl) 4).getD 0 0 = 1 ∧ (rowA (encM kl) 5).getD 0 0 = 2) ∧ (rowA (encM kl) 5).getD 1 0 = 0 := ⟨⟨by kernel_rfl, by kernel_rfl⟩, by kernel_rfl⟩

theorem known5_aux (L : List Nat) (hL : L = kl) {σ : AS} (hσ : Ok σ) {Q : Value → AS → Prop} (k : ∀ σ', Mem σ σ' → Q (.bool true) σ') :
    ∃ v σ', ACall Try.prog PartsBase 16 [] σ v σ' ∧ Q v σ' := by
  have L_len : L.length = 128 := by rw [hL]; exact kl_len
  have L_bytes : ∀ x ∈ L, x < 256 := by rw [hL]; exact kl_bytes
  have L_enc : ((rowA (encM L) 4).getD 0 0 = 1 ∧ (rowA (encM L) 5).getD 0 0 = 2) ∧ (rowA (encM L) 5).getD 1 0 = 0 := by rw [hL]; exact kl_enc
  have L_set : ((List.replicate 128 0).map vb).set (0 + 32 * 1) (vb 1) = L.map vb := by rw [hL, kl, List.map_set]
  clear hL
  refine call_rwp acall cf16 rfl hσ.wf ?_
  conv => whnf
  refine coderNew acall (Mem.ok (σ := σ) (by repeat first | exact Mem.refl hσ | apply Mem.bump | refine Mem.put ?_ (by (try simp only [bump_next, put_next]); omega) (by (try simp only [bump_next, put_next]); omega))) ?_
  intro τ1 rc g1 hrc hc
  have g1' : Mem σ τ1 := Mem.trans (by repeat first | exact Mem.refl hσ | apply Mem.bump | refine Mem.put ?_ (by (try simp only [bump_next, put_next]); omega) (by (try simp only [bump_next, put_next]); omega)) g1
  have hn1 := g1'.next
  conv => whnf
  refine wr_intro (put_heap_eq _ _ _) (Mem.noprot hσ (by repeat first | exact g1' | apply Mem.bump | refine Mem.put ?_ (by (try simp only [bump_next, put_next]); omega) (by (try simp only [bump_next, put_next]); omega)) (by simp only [bump_next]; omega)) ?_
  rw [zrow_vb]
  generalize hz : (List.replicate 128 0).map vb = z
  have hzl : z.length = 128 := by rw [← hz, List.length_map, List.length_replicate]
  conv => whnf
  rw [show Nat.ble (0 + 32 * 1 + 1) z.length = true from (by rw [hzl]; rfl)]
  conv => whnf
  generalize hw : wr z _ _ = zz
  rw [hz] at L_set
  obtain rfl : zz = L.map vb := by rw [← hw]; exact (wr_one z (0 + 32 * 1) (vb 1) (by omega)).trans L_set
  refine encode (l := L) (Mem.ok (σ := σ) (by repeat first | exact g1' | apply Mem.bump | refine Mem.put ?_ (by (try simp only [bump_next, put_next]); omega) (by (try simp only [bump_next, put_next]); omega))) (hc.mono g1'.ok (by repeat first | exact Mem.refl g1'.ok | apply Mem.bump | refine Mem.put ?_ (by (try simp only [bump_next, put_next]); omega) (by (try simp only [bump_next, put_next]); omega))) ⟨L_len, L_bytes, _, _, _, _, rfl, (by decide : 128 ≤ 128), .inl rfl, SlAt.mk (by rw [bump_heap, put_heap_eq]) (by rw [List.length_map, L_len]) (by rw [List.drop_zero, List.take_length])⟩ ?_
  intro τ2 vl g2 hvl
  have g2' : Mem τ1 τ2 := Mem.trans (by repeat first | exact Mem.refl g1'.ok | apply Mem.bump | refine Mem.put ?_ (by (try simp only [bump_next, put_next]); omega) (by (try simp only [bump_next, put_next]); omega)) g2
  have hkl : τ2.heap (τ1.next + 2 + 0) = some (.cells (L.map vb) false) := g2.old (Mem.ok (σ := σ) (by repeat first | exact g1' | apply Mem.bump | refine Mem.put ?_ (by (try simp only [bump_next, put_next]); omega) (by (try simp only [bump_next, put_next]); omega))) (put_heap_eq _ _ _)
  have g3 := g1'.trans g2'
  have hc := hc.mono g1'.ok g2'
  clear g2 hw hz L_set
  have ok2 := g2'.ok
  obtain ⟨lr, lo, lsp, lcap, lc, lro, rfl, hlh, hli⟩ := mat_open hvl (encM_len _) (by omega)
  obtain ⟨x2, y2, z2⟩ := hli 2 (by omega)
  obtain ⟨x3, y3, z3⟩ := hli 3 (by omega)
  obtain ⟨x4, y4, z4⟩ := hli 4 (by omega)
  obtain ⟨x5, y5, z5⟩ := hli 5 (by omega)
  obtain ⟨r4, o4, p4, c4, e4, ro4, rfl, h4, a4, _⟩ := row_open z4 (rowA_enc_len L_len (by omega)) (by omega)
  obtain ⟨r5, o5, p5, c5, e5, ro5, rfl, h5, a5, _⟩ := row_open z5 (rowA_enc_len L_len (by omega)) (by omega)
  obtain ⟨r2, o2, p2, c2, e2, ro2, rfl, h2, a2, _⟩ := row_open z2 (rowA_enc_len L_len (by omega)) (by omega)
  obtain ⟨r3, o3, p3, c3, e3, ro3, rfl, h3, a3, _⟩ := row_open z3 (rowA_enc_len L_len (by omega)) (by omega)
  conv => whnf
  repeat (first | (refine br_true (inR_intro (by simp only [loI, hiI]; omega)) ?_; conv => whnf) | (refine br_true (by simp only [blt_dec, ble_dec, beq_dec, ltB_eq, leB_eq, decide_eq_true_eq, decide_eq_false_iff_not, Bool.and_eq_true, Bool.or_eq_true, beq_iff_eq, bne_iff_ne, beq_eq_false_iff_ne, bne_eq_false_iff_eq]; first | done | omega) ?_; conv => whnf))
  refine ld_intro hlh ?_
  conv => whnf
  refine at_intro y4 ?_
  conv => whnf
  refine ld_intro hlh ?_
  conv => whnf
  refine at_intro y5 ?_
  conv => whnf
  refine ld_intro hlh ?_
  conv => whnf
  refine at_intro y2 ?_
  conv => whnf
  refine ld_intro hlh ?_
  conv => whnf
  refine at_intro y3 ?_
  conv => whnf
  refine ld_intro hlh ?_
  conv => whnf
  refine at_intro y4 ?_
  conv => whnf
  refine ld_intro hlh ?_
  conv => whnf
  refine at_intro y5 ?_
  conv => whnf
  have gX : Mem τ2 (((τ2.bump 21).bump 20).put ((τ2.bump 21).next + 13) (.cells [.slice none 0 0, .slice none 0 0, .slice (some ⟨r2, o2, p2⟩) 32 c2, .slice (some ⟨r3, o3, p3⟩) 32 c3, .slice (some ⟨r4, o4, p4⟩) 32 c4, .slice (some ⟨r5, o5, p5⟩) 32 c5] false)) := by repeat first | exact Mem.refl ok2 | apply Mem.bump | refine Mem.put ?_ (by (try simp only [bump_next, put_next]); omega) (by (try simp only [bump_next, put_next]); omega)
  refine decode_good acall (m := [[], [], rowA (encM L) 2, rowA (encM L) 3, rowA (encM L) 4, rowA (encM L) 5]) gX.ok (hc.mono ok2 gX) (RowsAt.mat (RowsAt.cons (SlAt.nil _) (RowsAt.cons (SlAt.nil _) (RowsAt.cons (z2.mono ok2 gX) (RowsAt.cons (z3.mono ok2 gX) (RowsAt.cons (z4.mono ok2 gX) (RowsAt.one1 (z5.mono ok2 gX))))))) (put_heap_eq _ _ _) rfl) rfl L_len L_bytes (fun k => Nat.ble 2 k) ?_ rfl ?_
  · intro k hk
    rcases (show k = 0 ∨ k = 1 ∨ k = 2 ∨ k = 3 ∨ k = 4 ∨ k = 5 by omega) with rfl | rfl | rfl | rfl | rfl | rfl <;> rfl
  intro τ3 r6 g4 hr6 h6
  have g5 : Mem τ2 τ3 := gX.trans g4
  have a40 := a4 0 (by omega)
  have a50 := a5 0 (by omega)
  have a51 := a5 1 (by omega)
  rw [L_enc.1.1] at a40
  rw [L_enc.1.2] at a50
  rw [L_enc.2] at a51
  conv => whnf
  repeat (first | (refine br_true (inR_intro (by simp only [loI, hiI]; omega)) ?_; conv => whnf) | (refine br_true (by simp only [blt_dec, ble_dec, beq_dec, ltB_eq, leB_eq, decide_eq_true_eq, decide_eq_false_iff_not, Bool.and_eq_true, Bool.or_eq_true, beq_iff_eq, bne_iff_ne, beq_eq_false_iff_ne, bne_eq_false_iff_eq]; first | done | omega) ?_; conv => whnf))
  refine ld_intro (g5.old ok2 hlh) ?_
  conv => whnf
  refine at_intro y4 ?_
  conv => whnf
  refine ld_intro (g5.old ok2 h4) ?_
  conv => whnf
  refine at_intro a40 ?_
  conv => whnf
  refine ld_intro (g5.old ok2 hlh) ?_
  conv => whnf
  refine at_intro y5 ?_
  conv => whnf
  refine ld_intro (g5.old ok2 h5) ?_
  conv => whnf
  refine at_intro a50 ?_
  conv => whnf
  refine ld_intro (g5.old ok2 hlh) ?_
  conv => whnf
  refine at_intro y5 ?_
  conv => whnf
  refine ld_intro (g5.old ok2 h5) ?_
  conv => whnf
  refine at_intro a51 ?_
  conv => whnf
  refine ld_intro h6 ?_
  refine str_step L_len (by decide) (all_of L_len) ?_
  conv => whnf
  refine ld_intro (g5.old ok2 hkl) ?_
  refine str_step L_len (by decide) (all_of L_len) ?_
  conv => whnf
  rw [beq_self_eq_true]
  conv => whnf
  exact k _ (by repeat first | exact g3.trans g5 | apply Mem.bump | refine Mem.put ?_ (by (try simp only [bump_next, put_next]); omega) (by (try simp only [bump_next, put_next]); omega))

theorem known5 {σ : AS} (hσ : Ok σ) {Q : Value → AS → Prop} (k : ∀ σ', Mem σ σ' → Q (.bool true) σ') :
    ∃ v σ', ACall Try.prog PartsBase 16 [] σ v σ' ∧ Q v σ' := known5_aux kl rfl hσ k
end
end Go.Corb.A

/- The chunks are linear. Conditions: none. -/
set_option linter.unusedVariables false
set_option linter.unusedSimpArgs false
namespace Go.Corb.A
open Go Go.RowKit Go.Proofs Go.Corb Go.IntWalk

theorem partsM_row {l : List Nat} {k : Nat} (hk : k < 4) : rowA (partsM l) k = (l.drop (k * 32)).take 32 := by
  have h : k < (List.range 4).length := by simpa using hk
  rw [partsM, rowA_map h, List.getD_eq_getElem?_getD, List.getElem?_range hk]
  rfl
theorem partsM_row' {l : List Nat} {k : Nat} (hk : 4 ≤ k) : rowA (partsM l) k = [] := by
  rw [rowA, List.getD_eq_getElem?_getD, List.getElem?_eq_none (by rw [partsM_len]; exact hk)]; rfl
theorem colv_parts {l : List Nat} {k j : Nat} (hk : k < 4) (hj : j < 32) : colv (partsM l) j k = l.getD (k * 32 + j) 0 := by
  rw [colv, partsM_row hk, List.getD_eq_getElem?_getD, List.getElem?_take, if_pos hj, List.getElem?_drop, List.getD_eq_getElem?_getD]
theorem colv_parts' {l : List Nat} {k j : Nat} (hk : 4 ≤ k) : colv (partsM l) j k = 0 := by
  rw [colv, partsM_row' hk]; rfl

/-- The chunks of a sum. -/
theorem enc_xor {x y z : List Nat} (hx : x.length = 128) (hy : y.length = 128) (hz : z.length = 128) (bx : ∀ v ∈ x, v < 256) (by' : ∀ v ∈ y, v < 256) (bz : ∀ v ∈ z, v < 256)
    (h : ∀ i, i < 128 → z.getD i 0 = x.getD i 0 ^^^ y.getD i 0) {i j : Nat} (hi : i < 6) (hj : j < 32) :
    (rowA (encM z) i).getD j 0 = (rowA (encM x) i).getD j 0 ^^^ (rowA (encM y) i).getD j 0 := by
  rw [enc_get hx bx hi hj, enc_get hy by' hi hj, enc_get hz bz hi hj]
  rw [← dot_addz _ _ _ (genM_bytes _ (row_mem (show i < genM.length from hi))) (colv_lt (partsM_bytes bx) j) (colv_lt (partsM_bytes by') j)]
  congr 1
  funext k
  by_cases hk : k < 4
  · rw [colv_parts hk hj, colv_parts hk hj, colv_parts hk hj, h _ (by omega)]
  · rw [colv_parts' (by omega), colv_parts' (by omega), colv_parts' (by omega)]; rfl
end Go.Corb.A

/- The law CoderAdds over the abstract memory. Conditions: none. -/
set_option linter.unusedVariables false
set_option linter.unusedSimpArgs false
namespace Go.Corb.A
open Go Go.RowKit Go.Proofs Go.Corb Go.IntWalk

theorem stripe_of {σ : AS} {r : Nat} {l : List Nat} (hl : l.length = 128) (hb : ∀ x ∈ l, x < 256) {ro : Bool} (h : σ.heap r = some (.cells (l.map vb) ro)) {sp : Option Nat} (hsp : sp = none ∨ sp = some 1) : StripeAt σ (.slice (some ⟨r, 0, sp⟩) 128 128) l :=
  ⟨hl, hb, _, _, _, _, rfl, by omega, hsp, SlAt.mk h (by rw [List.length_map, hl]) (by rw [List.drop_zero, List.take_length])⟩

def xorTo (x y : List Nat) (k : Nat) : List Nat := (List.range 128).map fun i => if i < k then x.getD i 0 ^^^ y.getD i 0 else 0
theorem xorTo_len (x y : List Nat) (k : Nat) : (xorTo x y k).length = 128 := by simp [xorTo]
theorem xorTo_get {x y : List Nat} {k i : Nat} (hi : i < 128) : (xorTo x y k).getD i 0 = if i < k then x.getD i 0 ^^^ y.getD i 0 else 0 := by
  rw [xorTo, List.getD_eq_getElem?_getD, List.getElem?_map, List.getElem?_range hi]; rfl
theorem xorTo_zero (x y : List Nat) : xorTo x y 0 = List.replicate 128 0 := by
  apply List.ext_getElem (by simp [xorTo])
  intro i h1 h2
  rw [List.getElem_replicate]
  simp only [xorTo, List.getElem_map, List.getElem_range]
  rw [if_neg (by omega)]
theorem xorTo_set {x y : List Nat} {k : Nat} (hk : k < 128) : (xorTo x y k).set k (x.getD k 0 ^^^ y.getD k 0) = xorTo x y (k + 1) := by
  apply List.ext_getElem (by simp [xorTo])
  intro i h1 h2
  rw [List.getElem_set]
  simp only [xorTo, List.getElem_map, List.getElem_range]
  by_cases h : k = i
  · subst h; rw [if_pos rfl, if_pos (by omega)]
  · rw [if_neg h]
    by_cases h' : i < k
    · rw [if_pos h', if_pos (by omega)]
    · rw [if_neg h', if_neg (by omega)]
theorem getD_lt8 {x : List Nat} (h : ∀ v ∈ x, v < 256) (i : Nat) : x.getD i 0 < 256 := by
  rw [List.getD_eq_getElem?_getD]
  cases e : x[i]? with
  | none => decide
  | some v => exact h v (List.mem_of_getElem? e)
theorem xorTo_bytes {x y : List Nat} (hx : ∀ v ∈ x, v < 256) (hy : ∀ v ∈ y, v < 256) (k : Nat) : ∀ v ∈ xorTo x y k, v < 256 := by
  intro v hv
  obtain ⟨i, _, rfl⟩ := List.mem_map.1 hv
  split
  · exact xor_lt8 (getD_lt8 hx i) (getD_lt8 hy i)
  · omega
theorem map_vb_get {l : List Nat} {n i : Nat} (hl : l.length = n) (hi : i < n) : (l.map vb)[0 + i * 1]? = some (vb (l.getD i 0)) := by
  rw [Nat.zero_add, Nat.mul_one, List.getElem?_map, List.getD_eq_getElem?_getD, List.getElem?_eq_getElem (by omega)]; rfl

section
set_option pp.deepTerms.threshold 8

theorem coderAdds (a b : Int) {σ : AS} (hσ : Ok σ) {Q : Value → AS → Prop} (k : ∀ σ', Mem σ σ' → Q (.bool true) σ') :
    ∃ v σ', ACall Try.prog PartsBase 4 [.int .i64 a, .int .i64 b] σ v σ' ∧ Q v σ' := by
  refine call_rwp acall cf4 rfl hσ.wf ?_
  conv => whnf
  refine coderNew acall (Mem.ok (σ := σ) (by repeat first | exact Mem.refl hσ | apply Mem.bump | refine Mem.put ?_ (by (try simp only [bump_next, put_next]); omega) (by (try simp only [bump_next, put_next]); omega))) ?_
  intro τ1 rc g1 hrc hc
  have g1' : Mem σ τ1 := Mem.trans (by repeat first | exact Mem.refl hσ | apply Mem.bump | refine Mem.put ?_ (by (try simp only [bump_next, put_next]); omega) (by (try simp only [bump_next, put_next]); omega)) g1
  have ok1 := g1'.ok
  conv => whnf
  refine known5 (Mem.ok (σ := τ1) (by repeat first | exact Mem.refl ok1 | apply Mem.bump | refine Mem.put ?_ (by (try simp only [bump_next, put_next]); omega) (by (try simp only [bump_next, put_next]); omega))) ?_
  intro τ2 g2
  have g2' : Mem τ1 τ2 := Mem.trans (by repeat first | exact Mem.refl ok1 | apply Mem.bump | refine Mem.put ?_ (by (try simp only [bump_next, put_next]); omega) (by (try simp only [bump_next, put_next]); omega)) g2
  have ok2 := g2'.ok
  have hc := hc.mono ok1 g2'
  conv => whnf
  refine bytes acall (n := 128) (by decide) (by decide) (Mem.ok (σ := τ2) (by repeat first | exact Mem.refl ok2 | apply Mem.bump | refine Mem.put ?_ (by (try simp only [bump_next, put_next]); omega) (by (try simp only [bump_next, put_next]); omega))) ?_
  intro τ3 rx x g3 hrx xl xb hx
  have g3' : Mem τ2 τ3 := Mem.trans (by repeat first | exact Mem.refl ok2 | apply Mem.bump | refine Mem.put ?_ (by (try simp only [bump_next, put_next]); omega) (by (try simp only [bump_next, put_next]); omega)) g3
  have ok3 := g3'.ok
  have hc := hc.mono ok2 g3'
  conv => whnf
  refine bytes acall (n := 128) (by decide) (by decide) (Mem.ok (σ := τ3) (by repeat first | exact Mem.refl ok3 | apply Mem.bump | refine Mem.put ?_ (by (try simp only [bump_next, put_next]); omega) (by (try simp only [bump_next, put_next]); omega))) ?_
  intro τ4 ry y g4 hry yl yb hy
  have g4' : Mem τ3 τ4 := Mem.trans (by repeat first | exact Mem.refl ok3 | apply Mem.bump | refine Mem.put ?_ (by (try simp only [bump_next, put_next]); omega) (by (try simp only [bump_next, put_next]); omega)) g4
  have ok4 := g4'.ok
  have hc := hc.mono ok3 g4'
  have hx := g4'.old ok3 hx
  have g04 := (g1'.trans g2').trans (g3'.trans g4')
  clear g1 g2 g3 g4 hrx hry hrc
  conv => whnf
  refine loop_intro (n := 151) (fun mm ws τ => ∃ (j rz : Nat), j ≤ 128 ∧ mm = 128 - j ∧ ws = [.pointer (some ⟨rc, 0, none⟩), whole rx 128, whole ry 128, whole rz 128, vi 128, vi j] ∧ Mem τ4 τ ∧ τ4.next ≤ rz ∧ τ.heap rz = some (.cells ((xorTo x y j).map vb) false)) 128 rfl ?_ ?_
  · conv => whnf
    exact ⟨0, _, by omega, rfl, rfl, by repeat first | exact Mem.refl ok4 | apply Mem.bump | refine Mem.put ?_ (by (try simp only [bump_next, put_next]); omega) (by (try simp only [bump_next, put_next]); omega), by (try simp only [bump_next]); omega, by rw [bump_heap, put_heap_eq, zrow_vb, xorTo_zero]⟩
  · rintro mm ws τ ⟨j, rz, hj, rfl, rfl, g, hrz, hz⟩
    have hnx := g.next
    have hN := g.ok.lt hz
    conv => whnf
    refine br_intro ?_ ?_ <;> intro h2 <;> simp only [blt_dec, ble_dec, beq_dec, ltB_eq, leB_eq, decide_eq_true_eq, decide_eq_false_iff_not, beq_iff_eq, bne_iff_ne, beq_eq_false_iff_ne, bne_eq_false_iff_eq] at h2
    · conv => whnf
      have hj0 : j < 128 := by omega
      repeat (first | (refine br_true (inR_intro (by simp only [loI, hiI]; omega)) ?_; conv => whnf) | (refine br_true (by simp only [blt_dec, ble_dec, beq_dec, ltB_eq, leB_eq, decide_eq_true_eq, decide_eq_false_iff_not, Bool.and_eq_true, Bool.or_eq_true, beq_iff_eq, bne_iff_ne, beq_eq_false_iff_ne, bne_eq_false_iff_eq]; first | done | omega) ?_; conv => whnf))
      refine ld_intro (g.old ok4 hx) ?_
      conv => whnf
      refine at_intro (map_vb_get xl hj0) ?_
      conv => whnf
      repeat (first | (refine br_true (inR_intro (by simp only [loI, hiI]; omega)) ?_; conv => whnf) | (refine br_true (by simp only [blt_dec, ble_dec, beq_dec, ltB_eq, leB_eq, decide_eq_true_eq, decide_eq_false_iff_not, Bool.and_eq_true, Bool.or_eq_true, beq_iff_eq, bne_iff_ne, beq_eq_false_iff_ne, bne_eq_false_iff_eq]; first | done | omega) ?_; conv => whnf))
      refine ld_intro (g.old ok4 hy) ?_
      conv => whnf
      refine at_intro (map_vb_get yl hj0) ?_
      conv => whnf
      repeat (first | (refine br_true (inR_intro (by simp only [loI, hiI]; omega)) ?_; conv => whnf) | (refine br_true (by simp only [blt_dec, ble_dec, beq_dec, ltB_eq, leB_eq, decide_eq_true_eq, decide_eq_false_iff_not, Bool.and_eq_true, Bool.or_eq_true, beq_iff_eq, bne_iff_ne, beq_eq_false_iff_ne, bne_eq_false_iff_eq]; first | done | omega) ?_; conv => whnf))
      rw [lock_eq, xor8 _ _ (getD_lt8 xb j) (getD_lt8 yb j)]
      refine wr_intro hz (g.noprot ok4 (by omega)) ?_
      refine br_true (by first | rfl | decide) ?_
      repeat (first | (refine br_true (inR_intro (by simp only [loI, hiI]; omega)) ?_; conv => whnf) | (refine br_true (by simp only [blt_dec, ble_dec, beq_dec, ltB_eq, leB_eq, decide_eq_true_eq, decide_eq_false_iff_not, Bool.and_eq_true, Bool.or_eq_true, beq_iff_eq, bne_iff_ne, beq_eq_false_iff_ne, bne_eq_false_iff_eq, List.length_map, xorTo_len]; first | done | omega) ?_; conv => whnf))
      refine ⟨rfl, 128 - (j + 1), by omega, j + 1, rz, by omega, rfl, rfl, by repeat first | exact g | apply Mem.bump | refine Mem.put ?_ (by (try simp only [bump_next, put_next]); omega) (by (try simp only [bump_next, put_next]); omega), hrz, ?_⟩
      rw [bump_heap, put_heap_eq, show 0 + j * 1 = j by omega, wr_one _ _ _ (by rw [List.length_map, xorTo_len]; omega), ← xorTo_set hj0, List.map_set]
      rfl
    · obtain rfl : j = 128 := by omega
      have okz := g.ok
      have hx := g.old ok4 hx
      have hy := g.old ok4 hy
      have hc := hc.mono ok4 g
      conv => whnf
      refine encode (σ := (τ.bump 1).bump 8) (Mem.ok (σ := τ) (by repeat first | exact Mem.refl okz | apply Mem.bump | refine Mem.put ?_ (by (try simp only [bump_next, put_next]); omega) (by (try simp only [bump_next, put_next]); omega))) (hc.mono okz (by repeat first | exact Mem.refl okz | apply Mem.bump | refine Mem.put ?_ (by (try simp only [bump_next, put_next]); omega) (by (try simp only [bump_next, put_next]); omega))) (stripe_of xl xb (by exact hx) (.inl rfl)) ?_
      intro τ5 vp g5 hP
      have g5' : Mem τ τ5 := Mem.trans (by repeat first | exact Mem.refl okz | apply Mem.bump | refine Mem.put ?_ (by (try simp only [bump_next, put_next]); omega) (by (try simp only [bump_next, put_next]); omega)) g5
      have ok5 := g5'.ok
      have hc := hc.mono okz g5'
      have hy := g5'.old okz hy
      have hz := g5'.old okz hz
      obtain ⟨Pr, Po, Psp, Pcap, Pc, Pro, rfl, Ph, Pli⟩ := mat_open hP (encM_len _) (by decide)
      conv => whnf
      refine encode (σ := τ5.bump 8) (Mem.ok (σ := τ5) (by repeat first | exact Mem.refl ok5 | apply Mem.bump | refine Mem.put ?_ (by (try simp only [bump_next, put_next]); omega) (by (try simp only [bump_next, put_next]); omega))) (hc.mono ok5 (by repeat first | exact Mem.refl ok5 | apply Mem.bump | refine Mem.put ?_ (by (try simp only [bump_next, put_next]); omega) (by (try simp only [bump_next, put_next]); omega))) (stripe_of yl yb (by exact hy) (.inl rfl)) ?_
      intro τ6 vq g6 hQ
      have g6' : Mem τ5 τ6 := Mem.trans (by repeat first | exact Mem.refl ok5 | apply Mem.bump | refine Mem.put ?_ (by (try simp only [bump_next, put_next]); omega) (by (try simp only [bump_next, put_next]); omega)) g6
      have ok6 := g6'.ok
      have hc := hc.mono ok5 g6'
      have hz := g6'.old ok5 hz
      obtain ⟨Qr, Qo, Qsp, Qcap, Qc, Qro, rfl, Qh, Qli⟩ := mat_open hQ (encM_len _) (by decide)
      conv => whnf
      refine encode (σ := τ6.bump 8) (Mem.ok (σ := τ6) (by repeat first | exact Mem.refl ok6 | apply Mem.bump | refine Mem.put ?_ (by (try simp only [bump_next, put_next]); omega) (by (try simp only [bump_next, put_next]); omega))) (hc.mono ok6 (by repeat first | exact Mem.refl ok6 | apply Mem.bump | refine Mem.put ?_ (by (try simp only [bump_next, put_next]); omega) (by (try simp only [bump_next, put_next]); omega))) (stripe_of (xorTo_len x y 128) (xorTo_bytes xb yb 128) (by exact hz) (.inl rfl)) ?_
      intro τ7 vr g7 hR
      have g7' : Mem τ6 τ7 := Mem.trans (by repeat first | exact Mem.refl ok6 | apply Mem.bump | refine Mem.put ?_ (by (try simp only [bump_next, put_next]); omega) (by (try simp only [bump_next, put_next]); omega)) g7
      have ok7 := g7'.ok
      obtain ⟨Rr, Ro, Rsp, Rcap, Rc, Rro, rfl, Rh, Rli⟩ := mat_open hR (encM_len _) (by decide)
      have g67 := g6'.trans g7'
      have Ph := g67.old ok5 Ph
      have Qh := g7'.old ok6 Qh
      have gF := g04.trans (g.trans (g5'.trans g67))
      clear g5 g6 g7 hP hQ hR hx hy hz hc
      conv => whnf
      refine loop_intro (n := 151) (fun mm ws τ => ∃ (i : Nat), i ≤ 6 ∧ mm = 6 - i ∧ ws = [.slice (some ⟨Pr, Po, Psp⟩) 6 Pcap, .slice (some ⟨Qr, Qo, Qsp⟩) 6 Qcap, .slice (some ⟨Rr, Ro, Rsp⟩) 6 Rcap, vi 6, vi i] ∧ Mem τ7 τ) 6 rfl ?_ ?_
      · conv => whnf
        exact ⟨0, by omega, rfl, rfl, by repeat first | exact Mem.refl ok7 | apply Mem.bump | refine Mem.put ?_ (by (try simp only [bump_next, put_next]); omega) (by (try simp only [bump_next, put_next]); omega)⟩
      · rintro mm ws τ8 ⟨i, hi, rfl, rfl, g8⟩
        conv => whnf
        refine br_intro ?_ ?_ <;> intro h3 <;> simp only [blt_dec, ble_dec, beq_dec, ltB_eq, leB_eq, decide_eq_true_eq, decide_eq_false_iff_not, beq_iff_eq, bne_iff_ne, beq_eq_false_iff_ne, bne_eq_false_iff_eq] at h3
        · have hi0 : i < 6 := by omega
          obtain ⟨xP, yP, zP⟩ := Pli i hi0
          obtain ⟨rP, oP, pP, cP, eP, roP, rfl, hP, aP, _⟩ := row_open zP (rowA_enc_len xl hi0) (by decide)
          obtain ⟨xQ, yQ, zQ⟩ := Qli i hi0
          obtain ⟨rQ, oQ, pQ, cQ, eQ, roQ, rfl, hQ, aQ, _⟩ := row_open zQ (rowA_enc_len yl hi0) (by decide)
          obtain ⟨xR, yR, zR⟩ := Rli i hi0
          obtain ⟨rR, oR, pR, cR, eR, roR, rfl, hR, aR, _⟩ := row_open zR (rowA_enc_len (xorTo_len x y 128) hi0) (by decide)
          conv => whnf
          repeat (first | (refine br_true (inR_intro (by simp only [loI, hiI]; omega)) ?_; conv => whnf) | (refine br_true (by simp only [blt_dec, ble_dec, beq_dec, ltB_eq, leB_eq, decide_eq_true_eq, decide_eq_false_iff_not, Bool.and_eq_true, Bool.or_eq_true, beq_iff_eq, bne_iff_ne, beq_eq_false_iff_ne, bne_eq_false_iff_eq]; first | done | omega) ?_; conv => whnf))
          refine ld_intro (g8.old ok7 Ph) ?_
          conv => whnf
          refine at_intro (yP) ?_
          conv => whnf
          repeat (first | (refine br_true (inR_intro (by simp only [loI, hiI]; omega)) ?_; conv => whnf) | (refine br_true (by simp only [blt_dec, ble_dec, beq_dec, ltB_eq, leB_eq, decide_eq_true_eq, decide_eq_false_iff_not, Bool.and_eq_true, Bool.or_eq_true, beq_iff_eq, bne_iff_ne, beq_eq_false_iff_ne, bne_eq_false_iff_eq]; first | done | omega) ?_; conv => whnf))
          refine ld_intro (g8.old ok7 Qh) ?_
          conv => whnf
          refine at_intro (yQ) ?_
          conv => whnf
          repeat (first | (refine br_true (inR_intro (by simp only [loI, hiI]; omega)) ?_; conv => whnf) | (refine br_true (by simp only [blt_dec, ble_dec, beq_dec, ltB_eq, leB_eq, decide_eq_true_eq, decide_eq_false_iff_not, Bool.and_eq_true, Bool.or_eq_true, beq_iff_eq, bne_iff_ne, beq_eq_false_iff_ne, bne_eq_false_iff_eq]; first | done | omega) ?_; conv => whnf))
          refine ld_intro (g8.old ok7 Rh) ?_
          conv => whnf
          refine at_intro (yR) ?_
          conv => whnf
          repeat (first | (refine br_true (inR_intro (by simp only [loI, hiI]; omega)) ?_; conv => whnf) | (refine br_true (by simp only [blt_dec, ble_dec, beq_dec, ltB_eq, leB_eq, decide_eq_true_eq, decide_eq_false_iff_not, Bool.and_eq_true, Bool.or_eq_true, beq_iff_eq, bne_iff_ne, beq_eq_false_iff_ne, bne_eq_false_iff_eq]; first | done | omega) ?_; conv => whnf))
          refine ld_intro (g8.old ok7 Rh) ?_
          conv => whnf
          refine at_intro (yR) ?_
          conv => whnf
          have hP := g67.old ok5 hP
          have hQ := g7'.old ok6 hQ
          refine loop_intro (n := 151) (fun mm ws τ => ∃ (j : Nat), j ≤ 32 ∧ mm = 32 - j ∧ ws = [.slice (some ⟨Pr, Po, Psp⟩) 6 Pcap, .slice (some ⟨Qr, Qo, Qsp⟩) 6 Qcap, .slice (some ⟨Rr, Ro, Rsp⟩) 6 Rcap, vi i, vi 6, vi i, vi 32, vi j] ∧ Mem τ7 τ) 32 rfl ?_ ?_
          · conv => whnf
            exact ⟨0, by omega, rfl, rfl, by repeat first | exact g8 | apply Mem.bump | refine Mem.put ?_ (by (try simp only [bump_next, put_next]); omega) (by (try simp only [bump_next, put_next]); omega)⟩
          · rintro mm ws τ9 ⟨j, hj, rfl, rfl, g9⟩
            conv => whnf
            refine br_intro ?_ ?_ <;> intro h4 <;> simp only [blt_dec, ble_dec, beq_dec, ltB_eq, leB_eq, decide_eq_true_eq, decide_eq_false_iff_not, beq_iff_eq, bne_iff_ne, beq_eq_false_iff_ne, bne_eq_false_iff_eq] at h4
            · have hj0 : j < 32 := by omega
              conv => whnf
              repeat (first | (refine br_true (inR_intro (by simp only [loI, hiI]; omega)) ?_; conv => whnf) | (refine br_true (by simp only [blt_dec, ble_dec, beq_dec, ltB_eq, leB_eq, decide_eq_true_eq, decide_eq_false_iff_not, Bool.and_eq_true, Bool.or_eq_true, beq_iff_eq, bne_iff_ne, beq_eq_false_iff_ne, bne_eq_false_iff_eq]; first | done | omega) ?_; conv => whnf))
              refine ld_intro (g9.old ok7 Rh) ?_
              conv => whnf
              refine at_intro (yR) ?_
              conv => whnf
              repeat (first | (refine br_true (inR_intro (by simp only [loI, hiI]; omega)) ?_; conv => whnf) | (refine br_true (by simp only [blt_dec, ble_dec, beq_dec, ltB_eq, leB_eq, decide_eq_true_eq, decide_eq_false_iff_not, Bool.and_eq_true, Bool.or_eq_true, beq_iff_eq, bne_iff_ne, beq_eq_false_iff_ne, bne_eq_false_iff_eq]; first | done | omega) ?_; conv => whnf))
              refine ld_intro (g9.old ok7 hR) ?_
              conv => whnf
              refine at_intro (aR j hj0) ?_
              conv => whnf
              repeat (first | (refine br_true (inR_intro (by simp only [loI, hiI]; omega)) ?_; conv => whnf) | (refine br_true (by simp only [blt_dec, ble_dec, beq_dec, ltB_eq, leB_eq, decide_eq_true_eq, decide_eq_false_iff_not, Bool.and_eq_true, Bool.or_eq_true, beq_iff_eq, bne_iff_ne, beq_eq_false_iff_ne, bne_eq_false_iff_eq]; first | done | omega) ?_; conv => whnf))
              refine ld_intro (g9.old ok7 Ph) ?_
              conv => whnf
              refine at_intro (yP) ?_
              conv => whnf
              repeat (first | (refine br_true (inR_intro (by simp only [loI, hiI]; omega)) ?_; conv => whnf) | (refine br_true (by simp only [blt_dec, ble_dec, beq_dec, ltB_eq, leB_eq, decide_eq_true_eq, decide_eq_false_iff_not, Bool.and_eq_true, Bool.or_eq_true, beq_iff_eq, bne_iff_ne, beq_eq_false_iff_ne, bne_eq_false_iff_eq]; first | done | omega) ?_; conv => whnf))
              refine ld_intro (g9.old ok7 hP) ?_
              conv => whnf
              refine at_intro (aP j hj0) ?_
              conv => whnf
              repeat (first | (refine br_true (inR_intro (by simp only [loI, hiI]; omega)) ?_; conv => whnf) | (refine br_true (by simp only [blt_dec, ble_dec, beq_dec, ltB_eq, leB_eq, decide_eq_true_eq, decide_eq_false_iff_not, Bool.and_eq_true, Bool.or_eq_true, beq_iff_eq, bne_iff_ne, beq_eq_false_iff_ne, bne_eq_false_iff_eq]; first | done | omega) ?_; conv => whnf))
              refine ld_intro (g9.old ok7 Qh) ?_
              conv => whnf
              refine at_intro (yQ) ?_
              conv => whnf
              repeat (first | (refine br_true (inR_intro (by simp only [loI, hiI]; omega)) ?_; conv => whnf) | (refine br_true (by simp only [blt_dec, ble_dec, beq_dec, ltB_eq, leB_eq, decide_eq_true_eq, decide_eq_false_iff_not, Bool.and_eq_true, Bool.or_eq_true, beq_iff_eq, bne_iff_ne, beq_eq_false_iff_ne, bne_eq_false_iff_eq]; first | done | omega) ?_; conv => whnf))
              refine ld_intro (g9.old ok7 hQ) ?_
              conv => whnf
              refine at_intro (aQ j hj0) ?_
              conv => whnf
              rw [lock_eq, xor8 _ _ (getD_lt8 (encM_bytes x _ (row_mem (by rw [encM_len]; exact hi0))) j) (getD_lt8 (encM_bytes y _ (row_mem (by rw [encM_len]; exact hi0))) j), ← enc_xor xl yl (xorTo_len x y 128) xb yb (xorTo_bytes xb yb 128) (fun i hi => by rw [xorTo_get hi, if_pos hi]) hi0 hj0]
              rw [bne_self_eq_false]
              conv => whnf
              repeat (first | (refine br_true (inR_intro (by simp only [loI, hiI]; omega)) ?_; conv => whnf) | (refine br_true (by simp only [blt_dec, ble_dec, beq_dec, ltB_eq, leB_eq, decide_eq_true_eq, decide_eq_false_iff_not, Bool.and_eq_true, Bool.or_eq_true, beq_iff_eq, bne_iff_ne, beq_eq_false_iff_ne, bne_eq_false_iff_eq]; first | done | omega) ?_; conv => whnf))
              exact ⟨rfl, 32 - (j + 1), by omega, j + 1, by omega, rfl, rfl, by repeat first | exact g9 | apply Mem.bump | refine Mem.put ?_ (by (try simp only [bump_next, put_next]); omega) (by (try simp only [bump_next, put_next]); omega)⟩
            · conv => whnf
              repeat (first | (refine br_true (inR_intro (by simp only [loI, hiI]; omega)) ?_; conv => whnf) | (refine br_true (by simp only [blt_dec, ble_dec, beq_dec, ltB_eq, leB_eq, decide_eq_true_eq, decide_eq_false_iff_not, Bool.and_eq_true, Bool.or_eq_true, beq_iff_eq, bne_iff_ne, beq_eq_false_iff_ne, bne_eq_false_iff_eq]; first | done | omega) ?_; conv => whnf))
              exact ⟨rfl, 6 - (i + 1), by omega, i + 1, by omega, rfl, rfl, by repeat first | exact g9 | apply Mem.bump | refine Mem.put ?_ (by (try simp only [bump_next, put_next]); omega) (by (try simp only [bump_next, put_next]); omega)⟩
        · conv => whnf
          exact k _ (by repeat first | exact gF.trans g8 | apply Mem.bump | refine Mem.put ?_ (by (try simp only [bump_next, put_next]); omega) (by (try simp only [bump_next, put_next]); omega))
end
end Go.Corb.A

/- The contract of Delta. Conditions: none. -/
set_option linter.unusedVariables false
set_option linter.unusedSimpArgs false
namespace Go.Corb.A
open Go Go.RowKit Go.Proofs Go.Corb Go.IntWalk

/-- n cells, of which the first k hold what f says. -/
def fillTo (f : Nat → Nat) (n k : Nat) : List Nat := (List.range n).map fun i => if i < k then f i else 0
theorem fillTo_len (f : Nat → Nat) (n k : Nat) : (fillTo f n k).length = n := by simp [fillTo]
theorem fillTo_get {f : Nat → Nat} {n k i : Nat} (hi : i < n) : (fillTo f n k).getD i 0 = if i < k then f i else 0 := by
  rw [fillTo, List.getD_eq_getElem?_getD, List.getElem?_map, List.getElem?_range hi]; rfl
theorem fillTo_zero (f : Nat → Nat) (n : Nat) : fillTo f n 0 = List.replicate n 0 := by
  apply List.ext_getElem (by simp [fillTo])
  intro i h1 h2
  rw [List.getElem_replicate]
  simp only [fillTo, List.getElem_map, List.getElem_range]
  rw [if_neg (by omega)]
theorem fillTo_set {f : Nat → Nat} {n k : Nat} (hk : k < n) : (fillTo f n k).set k (f k) = fillTo f n (k + 1) := by
  apply List.ext_getElem (by simp [fillTo])
  intro i h1 h2
  rw [List.getElem_set]
  simp only [fillTo, List.getElem_map, List.getElem_range]
  by_cases h : k = i
  · subst h; rw [if_pos rfl, if_pos (by omega)]
  · rw [if_neg h]
    by_cases h' : i < k
    · rw [if_pos h', if_pos (by omega)]
    · rw [if_neg h', if_neg (by omega)]
theorem fillTo_bytes {f : Nat → Nat} (h : ∀ i, f i < 256) (n k : Nat) : ∀ x ∈ fillTo f n k, x < 256 := by
  intro x hx
  obtain ⟨i, _, rfl⟩ := List.mem_map.1 hx
  split
  · exact h i
  · omega

def delF (idx : Nat) (old new : List Nat) (i j : Nat) : Nat := gmul ((rowA genM (4 + i)).getD idx 0) (old.getD j 0 ^^^ new.getD j 0)
def delTo (idx : Nat) (old new : List Nat) (k : Nat) : List (List Nat) := (List.range k).map fun i => fillTo (delF idx old new i) 32 32
theorem delTo_len (idx : Nat) (old new : List Nat) (k : Nat) : (delTo idx old new k).length = k := by simp [delTo]
theorem delTo_succ (idx : Nat) (old new : List Nat) (k : Nat) : delTo idx old new (k + 1) = delTo idx old new k ++ [fillTo (delF idx old new k) 32 32] := by simp [delTo, List.range_succ]

section
variable {Base : CallRel}
set_option pp.deepTerms.threshold 8

theorem delta (hC : CProp (ACall Try.prog Base)) {σ : AS} (hσ : Ok σ) {rc : Nat} (hc : CoderAt σ rc) {idx : Nat} (hidx : idx < 4) {vo vn : Value} {old new : List Nat} (ho : SlAt σ vo (old.map vb)) (hn : SlAt σ vn (new.map vb))
    (hol : old.length = 32) (hnl : new.length = 32) (hob : ∀ x ∈ old, x < 256) (hnb : ∀ x ∈ new, x < 256) {Q : Value → AS → Prop}
    (kQ : ∀ σ' v, Mem σ σ' → MatAt σ' v (delTo idx old new 2) → Q (.tuple [v, vi 0].toArray) σ') :
    ∃ v σ', ACall Try.prog Base 19 [.pointer (some ⟨rc, 0, none⟩), vi idx, vo, vn] σ v σ' ∧ Q v σ' := by
  obtain ⟨r1, o1, p1, c1, e1, ro1, rfl, h1, a1, _⟩ := row_open ho hol (by decide)
  obtain ⟨r2, o2, p2, c2, e2, ro2, rfl, h2, a2, _⟩ := row_open hn hnl (by decide)
  obtain ⟨rf, rof, ro, h, rcap, hc1, hc2, hc3, hcap⟩ := hc
  obtain ⟨gr, go, gsp, gcap, gc, gro, ge, gh, gli⟩ := mat_open hc3 (show genM.length = 6 from rfl) (by decide)
  simp only [Value.slice.injEq, Option.some.injEq, Addr.mk.injEq] at ge
  obtain ⟨⟨rfl, rfl, rfl⟩, _, rfl⟩ := ge
  refine call_rwp hC cf19 rfl hσ.wf ?_
  conv => whnf
  repeat (first | (refine br_true (inR_intro (by simp only [loI, hiI]; omega)) ?_; conv => whnf) | (refine br_true (by simp only [blt_dec, ble_dec, beq_dec, ltB_eq, leB_eq, decide_eq_true_eq, decide_eq_false_iff_not, Bool.and_eq_true, Bool.or_eq_true, beq_iff_eq, bne_iff_ne, beq_eq_false_iff_ne, bne_eq_false_iff_eq]; first | done | omega) ?_; conv => whnf))
  (refine br_false (by simp only [blt_dec, ble_dec, beq_dec, ltB_eq, leB_eq, decide_eq_true_eq, decide_eq_false_iff_not, Bool.and_eq_true, Bool.or_eq_true, beq_iff_eq, bne_iff_ne, beq_eq_false_iff_ne, bne_eq_false_iff_eq]; first | done | omega) ?_; conv => whnf)
  refine ld_intro hc1 ?_
  conv => whnf
  repeat (first | (refine br_true (inR_intro (by simp only [loI, hiI]; omega)) ?_; conv => whnf) | (refine br_true (by simp only [blt_dec, ble_dec, beq_dec, ltB_eq, leB_eq, decide_eq_true_eq, decide_eq_false_iff_not, Bool.and_eq_true, Bool.or_eq_true, beq_iff_eq, bne_iff_ne, beq_eq_false_iff_ne, bne_eq_false_iff_eq]; first | done | omega) ?_; conv => whnf))
  refine ⟨⟨by decide, rfl, hcap⟩, ?_⟩
  conv => whnf
  refine br_true (by rw [show Nat.blt 4 rcap = true from by simp only [Nat.blt_eq]; omega, Bool.or_true]) ?_
  conv => whnf
  refine loop_intro (n := 79) (fun mm ws τ => ∃ (k : Nat) (rs : List Nat) (ov : Value), k ≤ 2 ∧ mm = 2 - k ∧ ws = [.pointer (some ⟨rc, 0, none⟩), vi idx, .slice (some ⟨r1, o1, p1⟩) 32 c1, .slice (some ⟨r2, o2, p2⟩) 32 c2, ov, .slice (some ⟨h, 4, some 1⟩) 2 (rcap - 4), vi 2, vi k] ∧ Mem σ τ ∧ rs.length = k ∧ Rows σ τ ov 32 rs (delTo idx old new k)) 2 rfl ?_ ?_
  · conv => whnf
    exact ⟨0, [], _, by omega, rfl, rfl, by repeat first | exact Mem.refl hσ | apply Mem.bump | refine Mem.put ?_ (by (try simp only [bump_next, put_next]); omega) (by (try simp only [bump_next, put_next]); omega), rfl, Rows.nil _ _ _⟩
  · rintro mm ws τ ⟨k, rs, ov, hk, rfl, rfl, g, hrs, hR⟩
    obtain ⟨oa, on, oc, rfl⟩ := hR.slice
    have hnx := g.next
    have okτ := g.ok
    conv => whnf
    refine br_intro ?_ ?_ <;> intro h3 <;> simp only [blt_dec, ble_dec, beq_dec, ltB_eq, leB_eq, decide_eq_true_eq, decide_eq_false_iff_not, beq_iff_eq, bne_iff_ne, beq_eq_false_iff_ne, bne_eq_false_iff_eq] at h3
    · have hk0 : k < 2 := by omega
      obtain ⟨gx, gy, gz⟩ := gli (4 + k) (by omega)
      obtain ⟨r3, o3, p3, c3, e3, ro3, rfl, h3', a3, _⟩ := row_open gz (genM_wid _ (row_mem (show 4 + k < genM.length by show 4 + k < 6; omega))) (by decide)
      rw [show 0 + (4 + k) * 1 = 4 + k * 1 by omega] at gy
      conv => whnf
      repeat (first | (refine br_true (inR_intro (by simp only [loI, hiI]; omega)) ?_; conv => whnf) | (refine br_true (by simp only [blt_dec, ble_dec, beq_dec, ltB_eq, leB_eq, decide_eq_true_eq, decide_eq_false_iff_not, Bool.and_eq_true, Bool.or_eq_true, beq_iff_eq, bne_iff_ne, beq_eq_false_iff_ne, bne_eq_false_iff_eq]; first | done | omega) ?_; conv => whnf))
      refine ld_intro (g.old hσ gh) ?_
      conv => whnf
      refine at_intro gy ?_
      conv => whnf
      refine loop_intro (n := 79) (fun mm ws τ2 => ∃ (j : Nat), j ≤ 32 ∧ mm = 32 - j ∧ ws = [.pointer (some ⟨rc, 0, none⟩), vi idx, .slice (some ⟨r1, o1, p1⟩) 32 c1, .slice (some ⟨r2, o2, p2⟩) 32 c2, .slice oa on oc, .slice (some ⟨r3, o3, p3⟩) 4 c3, whole (τ.next + 1 + 3) 32, .slice (some ⟨h, 4, some 1⟩) 2 (rcap - 4), vi 2, vi k, vi 32, vi j] ∧ Mem τ τ2 ∧ τ2.heap (τ.next + 1 + 3) = some (.cells ((fillTo (delF idx old new k) 32 j).map vb) false)) 32 rfl ?_ ?_
      · conv => whnf
        exact ⟨0, by omega, rfl, rfl, by repeat first | exact Mem.refl okτ | apply Mem.bump | refine Mem.put ?_ (by (try simp only [bump_next, put_next]); omega) (by (try simp only [bump_next, put_next]); omega), by rw [bump_heap]; refine (put_heap_eq _ _ _).trans ?_; rw [zrow_vb, fillTo_zero]⟩
      · rintro mm ws τ2 ⟨j, hj, rfl, rfl, g2, hh⟩
        have hN := g2.ok.lt hh
        have gs := g.trans g2
        have ok2 := g2.ok
        conv => whnf
        refine br_intro ?_ ?_ <;> intro h4 <;> simp only [blt_dec, ble_dec, beq_dec, ltB_eq, leB_eq, decide_eq_true_eq, decide_eq_false_iff_not, beq_iff_eq, bne_iff_ne, beq_eq_false_iff_ne, bne_eq_false_iff_eq] at h4
        · have hj0 : j < 32 := by omega
          conv => whnf
          refine ld_intro (gs.old hσ hc1) ?_
          conv => whnf
          repeat (first | (refine br_true (inR_intro (by simp only [loI, hiI]; omega)) ?_; conv => whnf) | (refine br_true (by simp only [blt_dec, ble_dec, beq_dec, ltB_eq, leB_eq, decide_eq_true_eq, decide_eq_false_iff_not, Bool.and_eq_true, Bool.or_eq_true, beq_iff_eq, bne_iff_ne, beq_eq_false_iff_ne, bne_eq_false_iff_eq]; first | done | omega) ?_; conv => whnf))
          refine ld_intro (gs.old hσ h3') ?_
          conv => whnf
          refine at_intro (a3 idx hidx) ?_
          conv => whnf
          refine ld_intro (gs.old hσ hc1) ?_
          conv => whnf
          repeat (first | (refine br_true (inR_intro (by simp only [loI, hiI]; omega)) ?_; conv => whnf) | (refine br_true (by simp only [blt_dec, ble_dec, beq_dec, ltB_eq, leB_eq, decide_eq_true_eq, decide_eq_false_iff_not, Bool.and_eq_true, Bool.or_eq_true, beq_iff_eq, bne_iff_ne, beq_eq_false_iff_ne, bne_eq_false_iff_eq]; first | done | omega) ?_; conv => whnf))
          refine ld_intro (gs.old hσ h1) ?_
          conv => whnf
          refine at_intro (a1 j hj0) ?_
          conv => whnf
          repeat (first | (refine br_true (inR_intro (by simp only [loI, hiI]; omega)) ?_; conv => whnf) | (refine br_true (by simp only [blt_dec, ble_dec, beq_dec, ltB_eq, leB_eq, decide_eq_true_eq, decide_eq_false_iff_not, Bool.and_eq_true, Bool.or_eq_true, beq_iff_eq, bne_iff_ne, beq_eq_false_iff_ne, bne_eq_false_iff_eq]; first | done | omega) ?_; conv => whnf))
          refine ld_intro (gs.old hσ h2) ?_
          conv => whnf
          refine at_intro (a2 j hj0) ?_
          conv => whnf
          have hrcl := ok2.lt (gs.old hσ hc1)
          have hr3l := ok2.lt (gs.old hσ h3')
          have okX : Ok (((τ2.bump 1).bump 2).bump 26) := Mem.ok (σ := σ) (by repeat first | exact gs | apply Mem.bump | refine Mem.put ?_ (by (try simp only [bump_next, put_next]); omega) (by (try simp only [bump_next, put_next]); omega))
          refine add hC (f := .pointer (some ⟨rf, 0, none⟩)) (getD_lt8 hob j) (getD_lt8 hnb j) (Ok.wp okX (fun r hr => protL_false (okX.prot r hr) ?_)) trivial ?_
          · intro q hq hq1
            simp only [List.mem_cons, List.not_mem_nil, or_false] at hq
            simp only [bump_next] at hr
            rcases hq with rfl | rfl <;> simp [rdF] <;> omega
          intro τ3 g3
          have g4 := Mem.unwp (σ := ((τ2.bump 1).bump 2).bump 26) okX g3
          conv => whnf
          generalize (τ3.wp (((τ2.bump 1).bump 2).bump 26).prot) = τ4 at *
          have g5 : Mem τ2 τ4 := Mem.trans (by repeat first | exact Mem.refl g2.ok | apply Mem.bump | refine Mem.put ?_ (by (try simp only [bump_next, put_next]); omega) (by (try simp only [bump_next, put_next]); omega)) g4
          have g6 := gs.trans g5
          refine mul hC (r := rf) (getD_lt8 (genM_bytes _ (row_mem (show 4 + k < genM.length by show 4 + k < 6; omega))) idx) (xor_lt8 (getD_lt8 hob j) (getD_lt8 hnb j)) (Ok.wp g6.ok (fun r hr => protL_false (g6.ok.prot r hr) ?_)) (g6.old hσ hc2) ?_
          · intro q hq hq1
            simp only [List.mem_cons, List.not_mem_nil, or_false] at hq
            rcases hq with rfl | rfl <;> simp at hq1
          intro τ5 g7
          have g8 := Mem.unwp g6.ok g7
          conv => whnf
          generalize (τ5.wp τ4.prot) = τ6 at *
          have g9 := g6.trans g8
          have g10 := (g2.trans g5).trans g8
          have hh6 := g8.old g6.ok (g5.old g2.ok hh)
          repeat (first | (refine br_true (inR_intro (by simp only [loI, hiI]; omega)) ?_; conv => whnf) | (refine br_true (by simp only [blt_dec, ble_dec, beq_dec, ltB_eq, leB_eq, decide_eq_true_eq, decide_eq_false_iff_not, Bool.and_eq_true, Bool.or_eq_true, beq_iff_eq, bne_iff_ne, beq_eq_false_iff_ne, bne_eq_false_iff_eq]; first | done | omega) ?_; conv => whnf))
          refine wr_intro hh6 (protL_false (g9.noprot hσ (by omega)) ?_) ?_
          · intro q hq hq1
            simp only [List.mem_cons, List.not_mem_nil, or_false] at hq
            rcases hq with rfl | rfl <;> simp at hq1
          refine br_true (by first | rfl | decide) ?_
          repeat (first | (refine br_true (inR_intro (by simp only [loI, hiI]; omega)) ?_; conv => whnf) | (refine br_true (by simp only [blt_dec, ble_dec, beq_dec, ltB_eq, leB_eq, decide_eq_true_eq, decide_eq_false_iff_not, Bool.and_eq_true, Bool.or_eq_true, beq_iff_eq, bne_iff_ne, beq_eq_false_iff_ne, bne_eq_false_iff_eq, List.length_map, fillTo_len]; first | done | omega) ?_; conv => whnf))
          refine ⟨rfl, 32 - (j + 1), by omega, j + 1, by omega, rfl, rfl, ?_, ?_⟩
          · exact Mem.bump (g10.put_wp (by omega) (by have := g10.ok.lt hh6; omega)) 2
          · refine (put_heap_eq _ _ _).trans ?_
            rw [show 0 + j * 1 = j by omega, wr_one _ _ _ (by rw [List.length_map, fillTo_len]; omega), ← fillTo_set hj0, List.map_set]
            rfl
        · obtain rfl : j = 32 := by omega
          conv => whnf
          have hnx2 := g2.next
          have hRx := hR.mono g.ok (Mem.put (r := τ2.next + 1 + 2) (o := .cells [whole (τ.next + 1 + 3) 32] false) ((g2.bump 1).bump 5) (by omega) (by simp only [bump_next]; omega))
          have g7 : Mem σ (((τ2.bump 1).bump 5).put (τ2.next + 1 + 2) (.cells [whole (τ.next + 1 + 3) 32] false)) := by repeat first | exact gs | apply Mem.bump | refine Mem.put ?_ (by (try simp only [bump_next, put_next]); omega) (by (try simp only [bump_next, put_next]); omega)
          have hrsl : ∀ q ∈ rs, q < τ.next := fun q hq => by
            obtain ⟨j, hj, rfl⟩ := List.getElem_of_mem hq
            exact g.ok.lt (hR.row j hj).2.2.2
          have hne : headOf (.slice oa on oc) ≠ some (τ.next + 1 + 3) := by
            rcases hR.grow with ⟨_, e⟩ | ⟨h, _, e, eh⟩
            · rw [e]; intro e; cases e
            · rw [e]; intro e
              have e : h = τ.next + 1 + 3 := by injection e
              have := g.ok.lt eh
              omega
          obtain ⟨v', τ4, hap, g8, hR4, hnx4, _, _⟩ := hRx.push hσ g7 (r := τ.next + 1 + 3) (B := τ2.next + 1 + 2) (N := τ2.next + 1 + 3) (l := fillTo (delF idx old new k) 32 32) (fillTo_len _ _ _) (by omega) (by rw [put_heap_ne (by omega)]; exact hh) hne (put_heap_eq _ _ _) (by omega) (by simp only [put_next, bump_next]; omega) (by omega) (fun q hq => by have := hrsl q hq; omega) (by omega)
          obtain ⟨oa2, on2, oc2, rfl⟩ := hR4.slice
          refine ⟨_, _, hap, ?_⟩
          rw [← delTo_succ] at hR4
          conv => whnf
          repeat (first | (refine br_true (inR_intro (by simp only [loI, hiI]; omega)) ?_; conv => whnf) | (refine br_true (by simp only [blt_dec, ble_dec, beq_dec, ltB_eq, leB_eq, decide_eq_true_eq, decide_eq_false_iff_not, Bool.and_eq_true, Bool.or_eq_true, beq_iff_eq, bne_iff_ne, beq_eq_false_iff_ne, bne_eq_false_iff_eq]; first | done | omega) ?_; conv => whnf))
          refine ⟨rfl, 2 - (k + 1), by omega, k + 1, rs ++ [τ.next + 1 + 3], _, by omega, rfl, rfl, ?_, by simp [hrs], hR4.bump _⟩
          repeat first | exact g8 | apply Mem.bump | refine Mem.put ?_ (by (try simp only [bump_next, put_next]); omega) (by (try simp only [bump_next, put_next]); omega)
    · obtain rfl : k = 2 := by omega
      conv => whnf
      exact kQ _ _ (by repeat first | exact g | apply Mem.bump | refine Mem.put ?_ (by (try simp only [bump_next, put_next]); omega) (by (try simp only [bump_next, put_next]); omega)) ((hR.bump _).bump _).at
end
end Go.Corb.A

/- What a delta does. Conditions: none. -/
set_option linter.unusedVariables false
set_option linter.unusedSimpArgs false
namespace Go.Corb.A
open Go Go.RowKit Go.Proofs Go.Corb Go.IntWalk

/-- s, of which from o on there is x. -/
def patch (s x : List Nat) (o : Nat) : List Nat := s.take o ++ x ++ s.drop (o + x.length)
theorem patch_len {s x : List Nat} {o : Nat} (h : o + x.length ≤ s.length) : (patch s x o).length = s.length := by
  simp only [patch, List.length_append, List.length_take, List.length_drop]; omega
theorem patch_bytes {s x : List Nat} {o : Nat} (hs : ∀ v ∈ s, v < 256) (hx : ∀ v ∈ x, v < 256) : ∀ v ∈ patch s x o, v < 256 := by
  intro v hv
  simp only [patch, List.mem_append] at hv
  rcases hv with (h | h) | h
  · exact hs v (List.mem_of_mem_take h)
  · exact hx v h
  · exact hs v (List.mem_of_mem_drop h)
theorem patch_get {s x : List Nat} {o i : Nat} (h : o + x.length ≤ s.length) : (patch s x o).getD i 0 = if o ≤ i ∧ i < o + x.length then x.getD (i - o) 0 else s.getD i 0 := by
  have ht : (s.take o).length = o := by rw [List.length_take]; omega
  simp only [patch, List.getD_eq_getElem?_getD]
  by_cases h1 : i < o
  · rw [if_neg (by omega), List.append_assoc, List.getElem?_append_left (by omega), List.getElem?_take, if_pos h1]
  · rw [List.append_assoc, List.getElem?_append_right (by omega), ht]
    by_cases h2 : i < o + x.length
    · rw [if_pos ⟨by omega, h2⟩, List.getElem?_append_left (by omega)]
    · rw [if_neg (by omega), List.getElem?_append_right (by omega), List.getElem?_drop, show o + x.length + (i - o - x.length) = i by omega]

theorem xor_cancel (a b : Nat) : a ^^^ (a ^^^ b) = b := by rw [← Nat.xor_assoc, Nat.xor_self, Nat.zero_xor]
theorem dot_at : ∀ (l : List Nat) (z : Nat → Nat) (i : Nat), i < l.length → (∀ j, j ≠ i → z j = 0) → dot l z = gmul (l.getD i 0) (z i) := fun l z i hi h => dot_one l z i hi fun j _ hj => by rw [h j hj]; unfold gmul; rw [if_pos (.inr rfl)]

theorem enc_delta {s x old : List Nat} {idx i j : Nat} (hs : s.length = 128) (hx : x.length = 32) (bs : ∀ v ∈ s, v < 256) (bx : ∀ v ∈ x, v < 256) (hidx : idx < 4) (hi : i < 2) (hj : j < 32) (ho : old.getD j 0 = s.getD (idx * 32 + j) 0) :
    (rowA (encM s) (4 + i)).getD j 0 ^^^ delF idx old x i j = (rowA (encM (patch s x (idx * 32))) (4 + i)).getD j 0 := by
  have ht := patch_len (s := s) (x := x) (o := idx * 32) (by omega)
  rw [hs] at ht
  have bt := patch_bytes (o := idx * 32) bs bx
  have hg := fun i => patch_get (s := s) (x := x) (o := idx * 32) (i := i) (by omega)
  rw [hx] at hg
  generalize patch s x (idx * 32) = t at *
  have bu := xorTo_bytes bs bt 128
  have hu := xorTo_len s t 128
  rw [enc_xor hs hu ht bs bu bt (fun k hk => by rw [xorTo_get hk, if_pos hk, xor_cancel]) (show 4 + i < 6 by omega) hj]
  congr 1
  rw [enc_get hu bu (show 4 + i < 6 by omega) hj]
  have hrl : (rowA genM (4 + i)).length = 4 := genM_wid _ (row_mem (show 4 + i < genM.length by show 4 + i < 6; omega))
  rw [dot_at _ _ idx (by omega)]
  · rw [colv_parts hidx hj, xorTo_get (by omega), if_pos (by omega), hg, if_pos (by omega), delF, ho, Nat.add_sub_cancel_left]
  · intro k hk
    by_cases hk4 : k < 4
    · rw [colv_parts hk4 hj, xorTo_get (by omega), if_pos (by omega), hg, if_neg (by omega), Nat.xor_self]
    · exact colv_parts' (by omega)
end Go.Corb.A
