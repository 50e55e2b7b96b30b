/- YtlpkklcjdolaiaaQMatrixRows5: the law MatrixRows, and what it rests on: part of our own texts, merged. Conditions: none. -/
import Derived.Test.YtlpkklcjdolaiaaQMatrixRows4
import Derived.SizedLaws
import Derived.ChangeSlices
/- The contracts of row and Mul. Conditions: none. -/
set_option linter.unusedVariables false
set_option linter.unusedSimpArgs false
namespace Go.Corb.A
open Go Go.RowKit Go.Proofs Go.Corb Go.IntWalk

def rowTo (a : List Nat) (b : List (List Nat)) (w : Nat) : Nat → List Nat
  | 0 => List.replicate w 0
  | k + 1 => addR (a.getD k 0) (b.getD k []) (rowTo a b w k)
def mulM (a b : List (List Nat)) : List (List Nat) := a.map fun r => rowTo r b (b.getD 0 []).length r.length

theorem rowTo_len {a : List Nat} {b : List (List Nat)} {w : Nat} (hw : ∀ r ∈ b, r.length = w) : ∀ k, k ≤ b.length → (rowTo a b w k).length = w
  | 0, _ => List.length_replicate ..
  | k + 1, h => by
    have hk : k < b.length := by omega
    have e : (b.getD k []).length = w := by rw [List.getD_eq_getElem?_getD, List.getElem?_eq_getElem hk]; exact hw _ (List.getElem_mem _)
    simp only [rowTo, addR, List.length_zipWith, rowTo_len hw k (by omega), e, Nat.min_self]
theorem addR_bytes {t : Nat} {p l : List Nat} (hl : ∀ x ∈ l, x < 256) : ∀ x ∈ addR t p l, x < 256 := by
  intro x hx
  obtain ⟨j, hj, rfl⟩ := List.getElem_of_mem hx
  simp only [addR, List.getElem_zipWith]
  exact xor_lt8 (hl _ (List.getElem_mem _)) (gmul_lt _ _)
theorem rowTo_bytes {a : List Nat} {b : List (List Nat)} {w : Nat} : ∀ k, ∀ x ∈ rowTo a b w k, x < 256
  | 0, x, hx => by have := List.eq_of_mem_replicate hx; omega
  | k + 1, x, hx => addR_bytes (rowTo_bytes k) x hx
theorem addTo_bytes {t : Nat} {p l : List Nat} (i : Nat) (hl : ∀ x ∈ l, x < 256) : ∀ x ∈ addTo t p i l, x < 256 := by
  intro x hx
  rcases List.mem_append.1 hx with h | h
  · exact addR_bytes hl x (List.mem_of_mem_take h)
  · exact hl x (List.mem_of_mem_drop h)
theorem getD_lt {l : List Nat} (hl : ∀ x ∈ l, x < 256) (i : Nat) : l.getD i 0 < 256 := by
  rw [List.getD_eq_getElem?_getD]
  cases h : l[i]? with
  | none => exact Nat.zero_lt_succ _
  | some x => exact hl x (List.mem_of_getElem? h)

theorem _root_.Go.Corb.Mem.put_wp {σ τ : AS} (m : Mem σ τ) {r : Nat} {o : AObj} {p : Nat → Bool} (h1 : σ.next ≤ r) (h2 : r < τ.next) : Mem σ (((τ.wp p).put r o).wp τ.prot) := m.upd (r := r) (o := o) h1 h2 ⟨put_heap_eq _ _ _, fun q h => put_heap_ne h, rfl, rfl⟩

section
variable {Base : CallRel}
set_option pp.deepTerms.threshold 8

theorem row (hC : CProp (ACall Try.prog Base)) {rf : Nat} {rof : Bool} {va vm : Value} {a : List Nat} {b : List (List Nat)} {w : Nat} (ha : a.length = b.length) (hb0 : 0 < b.length) (hbl : b.length < 2 ^ 30) (hw : ∀ r ∈ b, r.length = w) (hw' : w < 2 ^ 30) (hab : ∀ x ∈ a, x < 256) (hbb : Bytes b)
    {σ : AS} (hσ : Ok σ) (hf : σ.heap rf = some (.cells fieldCells rof)) (hva : SlAt σ va (a.map vb)) (hvm : MatAt σ vm b) {Q : Value → AS → Prop}
    (kQ : ∀ σ' r, Mem σ σ' → σ.next ≤ r → σ'.heap r = some (.cells ((rowTo a b w a.length).map vb) false) → Q (whole r w) σ') :
    ∃ v σ', ACall Try.prog Base 47 [.pointer (some ⟨rf, 0, none⟩), va, vm] σ v σ' ∧ Q v σ' := by
  obtain ⟨a0, cap0, rfl⟩ := hva.shape
  obtain ⟨vs, hs, hl, hrows⟩ := hvm
  obtain ⟨m0, cap1, rfl⟩ := hs.shape
  have hbw : ∀ k, k < b.length → (b.getD k []).length = w := fun k hk => by rw [List.getD_eq_getElem?_getD, List.getElem?_eq_getElem hk]; exact hw _ (List.getElem_mem _)
  have hrow : ∀ k (hk : k < b.length), ∃ r o sp c ro ra rcap, m0 = some ⟨r, o, sp⟩ ∧ σ.heap r = some (.cells c ro) ∧ c[o + k * 1]? = some (.slice ra w rcap) ∧ SlAt σ (.slice ra w rcap) ((b.getD k []).map vb) := by
    intro k hk
    obtain ⟨r, o, sp, c, ro, h1, h2, h3, _⟩ := hs.idx (i := k) (by omega)
    have h4 := hrows k (by omega) hk
    obtain ⟨ra, rcap, h5⟩ := h4.shape
    have e : b.getD k [] = b[k] := by rw [List.getD_eq_getElem?_getD, List.getElem?_eq_getElem hk]; rfl
    rw [h5] at h3 h4
    rw [List.length_map, hw _ (List.getElem_mem hk)] at h3 h4
    exact ⟨r, o, sp, c, ro, ra, rcap, h1, h2, h3, by rw [e]; exact h4⟩
  rw [List.length_map] at hva ⊢
  obtain ⟨r, o, sp, c, ro, ra, rcap, rfl, hr, hci, _⟩ := hrow 0 hb0
  refine call_rwp hC cf47 rfl hσ.wf ?_
  conv => whnf
  repeat (first | (refine br_true (inR_intro (by simp only [loI, hiI]; omega)) ?_; conv => whnf) | (refine br_true (by simp only [blt_dec, ble_dec, beq_dec, ltB_eq, leB_eq, decide_eq_true_eq, decide_eq_false_iff_not, Bool.and_eq_true, Bool.or_eq_true, beq_iff_eq, bne_iff_ne, beq_eq_false_iff_ne, bne_eq_false_iff_eq]; first | done | omega) ?_; conv => whnf))
  refine ld_intro hr ?_
  conv => whnf
  refine at_intro hci ?_
  conv => whnf
  repeat (first | (refine br_true (inR_intro (by simp only [loI, hiI]; omega)) ?_; conv => whnf) | (refine br_true (by simp only [blt_dec, ble_dec, beq_dec, ltB_eq, leB_eq, decide_eq_true_eq, decide_eq_false_iff_not, Bool.and_eq_true, Bool.or_eq_true, beq_iff_eq, bne_iff_ne, beq_eq_false_iff_ne, bne_eq_false_iff_eq]; first | done | omega) ?_; conv => whnf))
  refine loop_intro (n := 50) (fun kk ws τ => ∃ k, k ≤ a.length ∧ kk = a.length - k ∧ ws = [.pointer (some ⟨rf, 0, none⟩), .slice (some ⟨r, o, sp⟩) vs.length cap1, whole (σ.next + 1 + 4) w, .slice a0 a.length cap0, vi a.length, vi k] ∧ Mem σ τ ∧ τ.heap (σ.next + 1 + 4) = some (.cells ((rowTo a b w k).map vb) false)) a.length rfl ?_ ?_
  · conv => whnf
    refine ⟨0, by omega, rfl, rfl, ?_, ?_⟩
    · repeat first | exact Mem.refl hσ | apply Mem.bump | refine Mem.put ?_ (by (try simp only [bump_next, put_next]); omega) (by (try simp only [bump_next, put_next]); omega)
    · refine (put_heap_eq _ _ _).trans ?_
      rw [zrow_rep, rowTo, List.map_replicate]; rfl
  · rintro mm ws τ ⟨k, hk, rfl, rfl, g, hh⟩
    have hnx := g.next
    have hN := g.ok.lt hh
    conv => whnf
    refine br_intro ?_ ?_ <;> intro h1 <;> simp only [blt_dec, ble_dec, beq_dec, ltB_eq, leB_eq, decide_eq_true_eq, decide_eq_false_iff_not, beq_iff_eq, bne_iff_ne, beq_eq_false_iff_ne, bne_eq_false_iff_eq] at h1
    · conv => whnf
      have hk0 : k < a.length := by omega
      obtain ⟨r1, o1, sp1, c1, ro1, rfl, hr1, hc1, _⟩ := hva.idx (i := k) (by rw [List.length_map]; exact hk0)
      rw [getD_map_vb hk0] at hc1
      repeat (first | (refine br_true (inR_intro (by simp only [loI, hiI]; omega)) ?_; conv => whnf) | (refine br_true (by simp only [blt_dec, ble_dec, beq_dec, ltB_eq, leB_eq, decide_eq_true_eq, decide_eq_false_iff_not, Bool.and_eq_true, Bool.or_eq_true, beq_iff_eq, bne_iff_ne, beq_eq_false_iff_ne, bne_eq_false_iff_eq]; first | done | omega) ?_; conv => whnf))
      refine ld_intro (g.old hσ hr1) ?_
      conv => whnf
      refine at_intro hc1 ?_
      conv => whnf
      obtain ⟨r2, o2, sp2, c2, ro2, ra2, rcap2, e2, hr2, hc2, hs2⟩ := hrow k (by omega)
      simp only [Option.some.injEq, Addr.mk.injEq] at e2
      obtain ⟨rfl, rfl, rfl⟩ := e2
      repeat (first | (refine br_true (inR_intro (by simp only [loI, hiI]; omega)) ?_; conv => whnf) | (refine br_true (by simp only [blt_dec, ble_dec, beq_dec, ltB_eq, leB_eq, decide_eq_true_eq, decide_eq_false_iff_not, Bool.and_eq_true, Bool.or_eq_true, beq_iff_eq, bne_iff_ne, beq_eq_false_iff_ne, bne_eq_false_iff_eq]; first | done | omega) ?_; conv => whnf))
      refine ld_intro (g.old hσ hr2) ?_
      conv => whnf
      refine at_intro hc2 ?_
      conv => whnf
      have hpl := hbw k (by omega)
      have hrt := rowTo_len (a := a) hw k (by omega)
      have hbt := rowTo_bytes (a := a) (b := b) (w := w) k
      have hxb : a.getD k 0 < 256 := getD_lt hab k
      have hpb : ∀ x ∈ b.getD k [], x < 256 := by rw [List.getD_eq_getElem?_getD, List.getElem?_eq_getElem (show k < b.length by omega)]; exact hbb _ (List.getElem_mem _)
      have hsucc : rowTo a b w (k + 1) = addR (a.getD k 0) (b.getD k []) (rowTo a b w k) := rfl
      generalize rowTo a b w k = out at *
      generalize a.getD k 0 = x at *
      generalize b.getD k [] = p at *
      refine loop_intro (n := 50) (fun kk ws τ2 => ∃ i, i ≤ w ∧ kk = w - i ∧ ws = [.pointer (some ⟨rf, 0, none⟩), .slice (some ⟨r, o, sp⟩) vs.length cap1, whole (σ.next + 1 + 4) w, vb x, .slice (some ⟨r1, o1, sp1⟩) a.length cap0, vi a.length, vi k, .slice ra2 w rcap2, vi w, vi i] ∧ Mem σ τ2 ∧ τ2.heap (σ.next + 1 + 4) = some (.cells ((addTo x p i out).map vb) false)) w rfl ?_ ?_
      · conv => whnf
        refine ⟨0, by omega, rfl, rfl, ?_, ?_⟩
        · repeat first | exact g | apply Mem.bump | refine Mem.put ?_ (by (try simp only [bump_next, put_next]); omega) (by (try simp only [bump_next, put_next]); omega)
        · rw [addTo_zero]; exact hh
      · rintro mm ws τ2 ⟨i, hi, rfl, rfl, g2, hh2⟩
        have hnx2 := g2.next
        have hN2 := g2.ok.lt hh2
        have hal : (addTo x p i out).length = w := by rw [addTo_len _ _ _ _ (by omega)]; exact hrt
        conv => whnf
        refine br_intro ?_ ?_ <;> intro h3 <;> simp only [blt_dec, ble_dec, beq_dec, ltB_eq, leB_eq, decide_eq_true_eq, decide_eq_false_iff_not, beq_iff_eq, bne_iff_ne, beq_eq_false_iff_ne, bne_eq_false_iff_eq] at h3
        · conv => whnf
          have hi0 : i < w := by omega
          obtain ⟨r3, o3, sp3, c3, ro3, rfl, hr3, hc3, _⟩ := hs2.idx (i := i) (by rw [List.length_map]; omega)
          rw [getD_map_vb (by omega)] at hc3
          repeat (first | (refine br_true (inR_intro (by simp only [loI, hiI]; omega)) ?_; conv => whnf) | (refine br_true (by simp only [blt_dec, ble_dec, beq_dec, ltB_eq, leB_eq, decide_eq_true_eq, decide_eq_false_iff_not, Bool.and_eq_true, Bool.or_eq_true, beq_iff_eq, bne_iff_ne, beq_eq_false_iff_ne, bne_eq_false_iff_eq]; first | done | omega) ?_; conv => whnf))
          refine ld_intro (g2.old hσ hr3) ?_
          conv => whnf
          refine at_intro hc3 ?_
          conv => whnf
          repeat (first | (refine br_true (inR_intro (by simp only [loI, hiI]; omega)) ?_; conv => whnf) | (refine br_true (by simp only [blt_dec, ble_dec, beq_dec, ltB_eq, leB_eq, decide_eq_true_eq, decide_eq_false_iff_not, Bool.and_eq_true, Bool.or_eq_true, beq_iff_eq, bne_iff_ne, beq_eq_false_iff_ne, bne_eq_false_iff_eq]; first | done | omega) ?_; conv => whnf))
          refine ld_intro hh2 ?_
          conv => whnf
          refine at_intro (x := vb (out.getD i 0)) ?_ ?_
          · rw [List.getElem?_map, show 0 + i * 1 = i by omega, List.getElem?_eq_getElem (by omega)]
            have := addTo_at x p i out (by omega)
            rw [List.getD_eq_getElem?_getD, List.getElem?_eq_getElem (by omega)] at this
            exact congrArg (fun z => some (vb z)) this
          conv => whnf
          have okX : Ok (((τ2.bump 1).bump 5).bump 14) := Mem.ok (σ := σ) (by repeat first | exact g2 | apply Mem.bump | refine Mem.put ?_ (by (try simp only [bump_next, put_next]); omega) (by (try simp only [bump_next, put_next]); omega))
          have hfX : (((τ2.bump 1).bump 5).bump 14).heap rf = some (.cells fieldCells rof) := Mem.old (σ := σ) hσ (by repeat first | exact g2 | apply Mem.bump | refine Mem.put ?_ (by (try simp only [bump_next, put_next]); omega) (by (try simp only [bump_next, put_next]); omega)) hf
          refine mul hC (r := rf) hxb (getD_lt hpb i) (Ok.wp okX (fun r hr => protL_false (okX.prot r hr) ?_)) hfX ?_
          · intro q hq hq1
            simp only [List.mem_cons, List.not_mem_nil, or_false] at hq
            simp only [bump_next] at hr
            rcases hq with rfl
            simp [rdF]; omega
          intro τ3 g3
          have g4 := Mem.unwp (σ := ((τ2.bump 1).bump 5).bump 14) okX g3
          conv => whnf
          generalize ((τ3.wp (((τ2.bump 1).bump 5).bump 14).prot)) = τ4 at *
          have g5 : Mem τ2 τ4 := Mem.trans (by repeat first | exact Mem.refl g2.ok | apply Mem.bump | refine Mem.put ?_ (by (try simp only [bump_next, put_next]); omega) (by (try simp only [bump_next, put_next]); omega)) g4
          have g6 := g2.trans g5
          refine add hC (f := .pointer (some ⟨rf, 0, none⟩)) (getD_lt hbt i) (gmul_lt _ _) (Ok.wp g6.ok (fun r hr => protL_false (g6.ok.prot r hr) ?_)) trivial ?_
          · intro q hq hq1
            simp only [List.mem_cons, List.not_mem_nil, or_false] at hq
            rcases hq with rfl
            simp at hq1
          intro τ5 g7
          have g8 := Mem.unwp g6.ok g7
          conv => whnf
          generalize (τ5.wp τ4.prot) = τ6 at *
          have g9 := g6.trans g8
          have hh6 := g8.old g6.ok (g5.old g2.ok hh2)
          repeat (first | (refine br_true (inR_intro (by simp only [loI, hiI]; omega)) ?_; conv => whnf) | (refine br_true (by simp only [blt_dec, ble_dec, beq_dec, ltB_eq, leB_eq, decide_eq_true_eq, decide_eq_false_iff_not, Bool.and_eq_true, Bool.or_eq_true, beq_iff_eq, bne_iff_ne, beq_eq_false_iff_ne, bne_eq_false_iff_eq]; first | done | omega) ?_; conv => whnf))
          refine wr_intro hh6 (protL_false (g9.noprot hσ (by omega)) ?_) ?_
          · intro q hq hq1
            simp only [List.mem_cons, List.not_mem_nil, or_false] at hq
            rcases hq with rfl
            simp at hq1
          conv => whnf
          repeat (first | (refine br_true (inR_intro (by simp only [loI, hiI]; omega)) ?_; conv => whnf) | (refine br_true (by simp only [blt_dec, ble_dec, beq_dec, ltB_eq, leB_eq, decide_eq_true_eq, decide_eq_false_iff_not, Bool.and_eq_true, Bool.or_eq_true, beq_iff_eq, bne_iff_ne, beq_eq_false_iff_ne, bne_eq_false_iff_eq, List.length_map, hal]; first | done | omega) ?_; conv => whnf))
          refine ⟨rfl, w - (i + 1), by omega, i + 1, by omega, rfl, rfl, ?_, ?_⟩
          · exact Mem.bump (g9.put_wp (by omega) (by have := g9.ok.lt hh6; omega)) 2
          · refine (put_heap_eq _ _ _).trans ?_
            rw [show 0 + i * 1 = i by omega, wr_one _ _ _ (by rw [List.length_map]; omega), ← addTo_succ _ _ _ _ (by omega) (by omega), List.map_set]
            rfl
        · conv => whnf
          obtain rfl : i = w := by omega
          repeat (first | (refine br_true (inR_intro (by simp only [loI, hiI]; omega)) ?_; conv => whnf) | (refine br_true (by simp only [blt_dec, ble_dec, beq_dec, ltB_eq, leB_eq, decide_eq_true_eq, decide_eq_false_iff_not, Bool.and_eq_true, Bool.or_eq_true, beq_iff_eq, bne_iff_ne, beq_eq_false_iff_ne, bne_eq_false_iff_eq]; first | done | omega) ?_; conv => whnf))
          refine ⟨rfl, a.length - (k + 1), by omega, k + 1, by omega, rfl, rfl, ?_, ?_⟩
          · repeat first | exact g2 | apply Mem.bump | refine Mem.put ?_ (by (try simp only [bump_next, put_next]); omega) (by (try simp only [bump_next, put_next]); omega)
          · refine hh2.trans ?_
            rw [hsucc, ← addTo_full _ _ _ (by omega), hrt]
    · conv => whnf
      obtain rfl : k = a.length := by omega
      refine kQ _ _ ?_ (by omega) hh
      repeat first | exact g | apply Mem.bump | refine Mem.put ?_ (by (try simp only [bump_next, put_next]); omega) (by (try simp only [bump_next, put_next]); omega)

theorem rightB_of {m : List (List Nat)} {n : Nat} (h0 : 1 ≤ m.length) (h1 : m.length ≤ 64) (hn : 1 ≤ n) (hn' : n ≤ 64) (hrl : ∀ l ∈ m, l.length = n) : rightB m = true := by
  have e0 : (m.getD 0 []).length = n := by
    rw [List.getD_eq_getElem?_getD, List.getElem?_eq_getElem (by omega)]
    exact hrl _ (List.getElem_mem _)
  unfold rightB
  rw [e0, decide_eq_true (by omega), decide_eq_true (by omega)]
  simp only [Bool.true_and, List.all_eq_true, beq_iff_eq]
  exact hrl

theorem mat_get {σ : AS} {a0 : Option Addr} {nn cap : Nat} {vs : List Value} {m : List (List Nat)} {w : Nat} (hs : SlAt σ (.slice a0 nn cap) vs) (hl : vs.length = m.length) (hrows : ∀ i (h : i < vs.length) (h' : i < m.length), SlAt σ vs[i] (m[i].map vb)) (hw : ∀ r ∈ m, r.length = w) {k : Nat} (hk : k < m.length) :
    ∃ r o sp c ro ra rcap, a0 = some ⟨r, o, sp⟩ ∧ σ.heap r = some (.cells c ro) ∧ c[o + k * 1]? = some (.slice ra w rcap) ∧ SlAt σ (.slice ra w rcap) ((m.getD k []).map vb) := by
  obtain ⟨r, o, sp, c, ro, h1, h2, h3, _⟩ := hs.idx (i := k) (by omega)
  have h4 := hrows k (by omega) hk
  obtain ⟨ra, rcap, h5⟩ := h4.shape
  have e : m.getD k [] = m[k] := by rw [List.getD_eq_getElem?_getD, List.getElem?_eq_getElem hk]; rfl
  rw [h5] at h3 h4
  rw [List.length_map, hw _ (List.getElem_mem hk)] at h3 h4
  exact ⟨r, o, sp, c, ro, ra, rcap, h1, h2, h3, by rw [e]; exact h4⟩

/-- A list of rows that is being appended to. -/
structure Rows (σ τ : AS) (v : Value) (w : Nat) (rs : List Nat) (m : List (List Nat)) : Prop where
  grow : Growing σ τ v (rs.map (whole · w))
  len : rs.length = m.length
  row : ∀ j (h : j < rs.length), headOf v ≠ some rs[j] ∧ σ.next ≤ rs[j] ∧ (m.getD j []).length = w ∧ τ.heap rs[j] = some (.cells ((m.getD j []).map vb) false)
theorem Rows.nil (σ τ : AS) (w : Nat) : Rows σ τ (.slice none 0 0) w [] [] := ⟨.inl ⟨rfl, rfl⟩, rfl, fun j h => absurd h (by simp)⟩
theorem Rows.slice {σ τ : AS} {v : Value} {w : Nat} {rs : List Nat} {m : List (List Nat)} (h : Rows σ τ v w rs m) : ∃ a n c, v = .slice a n c := by
  rcases h.grow with ⟨_, rfl⟩ | ⟨h, _, rfl, _⟩
  · exact ⟨_, _, _, rfl⟩
  · exact ⟨_, _, _, rfl⟩
theorem Rows.mono {σ τ τ' : AS} {v : Value} {w : Nat} {rs : List Nat} {m : List (List Nat)} (h : Rows σ τ v w rs m) (hτ : Ok τ) (g : Mem τ τ') : Rows σ τ' v w rs m :=
  ⟨h.grow.mono hτ g, h.len, fun j hj => by obtain ⟨a, b, c, d⟩ := h.row j hj; exact ⟨a, b, c, g.old hτ d⟩⟩
theorem Rows.bump {σ τ : AS} {v : Value} {w : Nat} {rs : List Nat} {m : List (List Nat)} (h : Rows σ τ v w rs m) (n : Nat) : Rows σ (τ.bump n) v w rs m := ⟨h.grow, h.len, h.row⟩
theorem Rows.at {σ τ : AS} {v : Value} {w : Nat} {rs : List Nat} {m : List (List Nat)} (h : Rows σ τ v w rs m) : MatAt τ v m := by
  refine ⟨rs.map (whole · w), h.grow.at, by rw [List.length_map]; exact h.len, fun j h1 h2 => ?_⟩
  rw [List.length_map] at h1
  obtain ⟨_, _, q2, q3⟩ := h.row j h1
  have e1 : m.getD j [] = m[j] := by rw [List.getD_eq_getElem?_getD, List.getElem?_eq_getElem h2]; rfl
  rw [e1] at q2 q3
  rw [List.getElem_map]
  exact SlAt.mk q3 (by rw [List.length_map, q2]) (by rw [List.drop_zero, List.take_length])
/-- One more row. B: the box in which it is handed; N: where the new list lies. -/
theorem Rows.push {σ τ : AS} (hσ : Ok σ) (g : Mem σ τ) {v : Value} {w : Nat} {rs : List Nat} {m : List (List Nat)} (h : Rows σ τ v w rs m) {r B N : Nat} {l : List Nat} (hl : l.length = w) (hr : σ.next ≤ r) (hh : τ.heap r = some (.cells (l.map vb) false)) (hv : headOf v ≠ some r)
    (hB : τ.heap B = some (.cells [whole r w] false)) (hN : σ.next ≤ N) (hN' : N < τ.next) (hNr : N ≠ r) (hNrs : ∀ q ∈ rs, q ≠ N) (hlen : rs.length < 2 ^ 40) :
    ∃ v' τ', rAppend τ N 1 24 v (whole B 1) = some (v', τ') ∧ Mem σ τ' ∧ Rows σ τ' v' w (rs ++ [r]) (m ++ [l]) ∧ τ'.next = τ.next ∧ (∀ q, q ≠ N → headOf v ≠ some q → τ'.heap q = τ.heap q) ∧ headOf v' = some N := by
  obtain ⟨τ', hap, g', hn, hnx, hfr⟩ := app_growing (N := N) (bytes := 24) (x := whole B 1) (news := [whole r w]) hσ g h.grow hN hN' (SlAt.mk hB rfl rfl) rfl (whole_one _ _) (by simp) (by simp; omega)
  refine ⟨_, τ', hap, g', ⟨.inr ⟨N, hN, ?_, ?_⟩, by simp [h.len], fun j hj => ?_⟩, hnx, hfr, rfl⟩
  · simp only [List.map_append, List.map_cons, List.map_nil, List.length_append, List.length_map, List.length_cons, List.length_nil]
  · rw [List.map_append]; exact hn
  · have hj' : j < rs.length + 1 := by simpa using hj
    by_cases hji : j < rs.length
    · rw [List.getElem_append_left hji]
      obtain ⟨q1, q2, q3, q4⟩ := h.row j hji
      have hne := hNrs _ (List.getElem_mem hji)
      have e1 : (m ++ [l]).getD j [] = m.getD j [] := by rw [List.getD_eq_getElem?_getD, List.getD_eq_getElem?_getD, List.getElem?_append_left (by have := h.len; omega)]
      rw [e1]
      refine ⟨?_, q2, q3, by rw [hfr _ hne q1]; exact q4⟩
      intro e
      have e : N = rs[j] := by injection e
      exact hne e.symm
    · obtain rfl : j = rs.length := by omega
      rw [List.getElem_append_right (by omega)]
      simp only [Nat.sub_self, List.getElem_cons_zero]
      have e1 : (m ++ [l]).getD rs.length [] = l := by rw [List.getD_eq_getElem?_getD, List.getElem?_append_right (by have := h.len; omega), h.len, Nat.sub_self]; rfl
      rw [e1]
      refine ⟨?_, hr, hl, by rw [hfr _ (Ne.symm hNr) hv]; exact hh⟩
      intro e
      have e : N = r := by injection e
      exact hNr e

theorem mmul (hC : CProp (ACall Try.prog Base)) {rf : Nat} {rof : Bool} {va vm : Value} {a b : List (List Nat)} {w : Nat} (ha0 : 1 ≤ a.length) (ha1 : a.length ≤ 64) (har : ∀ r ∈ a, r.length = b.length) (hb0 : 1 ≤ b.length) (hb1 : b.length ≤ 64) (hw : ∀ r ∈ b, r.length = w) (hw0 : 1 ≤ w) (hw' : w ≤ 64) (hab : Bytes a) (hbb : Bytes b)
    {σ : AS} (hσ : Ok σ) (hf : σ.heap rf = some (.cells fieldCells rof)) (hva : MatAt σ va a) (hvm : MatAt σ vm b) {Q : Value → AS → Prop}
    (kQ : ∀ σ' v rs, Mem σ σ' → Rows σ σ' v w rs (a.map fun r => rowTo r b w b.length) → Q v σ') :
    ∃ v σ', ACall Try.prog Base 27 [.pointer (some ⟨rf, 0, none⟩), va, vm] σ v σ' ∧ Q v σ' := by
  have hva0 := hva
  have hvm0 := hvm
  obtain ⟨avs, has, hal, harows⟩ := hva
  obtain ⟨a0, acap, rfl⟩ := has.shape
  obtain ⟨bvs, hbs, hbl, hbrows⟩ := hvm
  obtain ⟨b0, bcap, rfl⟩ := hbs.shape
  refine call_rwp hC cf27 rfl hσ.wf ?_
  conv => whnf
  refine right hC (m := a) (by omega) (fun l hl => by rw [har l hl]; omega) (Mem.ok (σ := σ) ?_) (hva0.mono hσ ?_) ?_
  · repeat first | exact Mem.refl hσ | apply Mem.bump | refine Mem.put ?_ (by (try simp only [bump_next, put_next]); omega) (by (try simp only [bump_next, put_next]); omega)
  · repeat first | exact Mem.refl hσ | apply Mem.bump | refine Mem.put ?_ (by (try simp only [bump_next, put_next]); omega) (by (try simp only [bump_next, put_next]); omega)
  intro τ1 g1
  rw [rightB_of ha0 ha1 hb0 hb1 har]
  have g2 : Mem σ τ1 := Mem.trans (by repeat first | exact Mem.refl hσ | apply Mem.bump | refine Mem.put ?_ (by (try simp only [bump_next, put_next]); omega) (by (try simp only [bump_next, put_next]); omega)) g1
  conv => whnf
  refine right hC (m := b) (by omega) (fun l hl => by rw [hw l hl]; omega) g2.ok (hvm0.mono hσ g2) ?_
  intro τ2 g3
  rw [rightB_of hb0 hb1 hw0 hw' hw]
  have g4 := g2.trans g3
  conv => whnf
  obtain ⟨r, o, sp, c, ro, ra, rcap, rfl, hr, hci, _⟩ := mat_get has hal harows har (k := 0) (by omega)
  repeat (first | (refine br_true (inR_intro (by simp only [loI, hiI]; omega)) ?_; conv => whnf) | (refine br_true (by simp only [blt_dec, ble_dec, beq_dec, ltB_eq, leB_eq, decide_eq_true_eq, decide_eq_false_iff_not, Bool.and_eq_true, Bool.or_eq_true, beq_iff_eq, bne_iff_ne, beq_eq_false_iff_ne, bne_eq_false_iff_eq]; first | done | omega) ?_; conv => whnf))
  refine ld_intro (g4.old hσ hr) ?_
  conv => whnf
  refine at_intro hci ?_
  conv => whnf
  (refine br_false (by simp only [blt_dec, ble_dec, beq_dec, ltB_eq, leB_eq, decide_eq_true_eq, decide_eq_false_iff_not, Bool.and_eq_true, Bool.or_eq_true, beq_iff_eq, bne_iff_ne, beq_eq_false_iff_ne, bne_eq_false_iff_eq]; first | done | omega) ?_; conv => whnf)
  refine loop_intro (n := 46) (fun kk ws τ => ∃ (k : Nat) (rs : List Nat) (ov : Value), k ≤ a.length ∧ kk = a.length - k ∧ ws = [.pointer (some ⟨rf, 0, none⟩), .slice b0 bvs.length bcap, ov, .slice (some ⟨r, o, sp⟩) avs.length acap, vi avs.length, vi k] ∧ Mem σ τ ∧ rs.length = k ∧ Rows σ τ ov w rs ((a.take k).map fun r => rowTo r b w b.length)) a.length rfl ?_ ?_
  · conv => whnf
    refine ⟨0, [], _, by omega, rfl, rfl, ?_, rfl, Rows.nil _ _ _⟩
    repeat first | exact g4 | apply Mem.bump | refine Mem.put ?_ (by (try simp only [bump_next, put_next]); omega) (by (try simp only [bump_next, put_next]); omega)
  · rintro mm ws τ ⟨k, rs, ov, hk, rfl, rfl, g, hrs, hR⟩
    obtain ⟨oa, on, oc, rfl⟩ := hR.slice
    have hnx := g.next
    conv => whnf
    refine br_intro ?_ ?_ <;> intro h1 <;> simp only [blt_dec, ble_dec, beq_dec, ltB_eq, leB_eq, decide_eq_true_eq, decide_eq_false_iff_not, beq_iff_eq, bne_iff_ne, beq_eq_false_iff_ne, bne_eq_false_iff_eq] at h1
    · conv => whnf
      have hk0 : k < a.length := by omega
      obtain ⟨r1, o1, sp1, c1, ro1, ra1, rcap1, e1, hr1, hc1, hs1⟩ := mat_get has hal harows har hk0
      simp only [Option.some.injEq, Addr.mk.injEq] at e1
      obtain ⟨rfl, rfl, rfl⟩ := e1
      have hak : (a.getD k []).length = b.length := by rw [List.getD_eq_getElem?_getD, List.getElem?_eq_getElem hk0]; exact har _ (List.getElem_mem _)
      have hakb : ∀ x ∈ a.getD k [], x < 256 := by rw [List.getD_eq_getElem?_getD, List.getElem?_eq_getElem hk0]; exact hab _ (List.getElem_mem _)
      repeat (first | (refine br_true (inR_intro (by simp only [loI, hiI]; omega)) ?_; conv => whnf) | (refine br_true (by simp only [blt_dec, ble_dec, beq_dec, ltB_eq, leB_eq, decide_eq_true_eq, decide_eq_false_iff_not, Bool.and_eq_true, Bool.or_eq_true, beq_iff_eq, bne_iff_ne, beq_eq_false_iff_ne, bne_eq_false_iff_eq]; first | done | omega) ?_; conv => whnf))
      refine ld_intro (g.old hσ hr1) ?_
      conv => whnf
      refine at_intro hc1 ?_
      conv => whnf
      have okX : Mem σ (((τ.bump 1).bump 3).bump 8) := by repeat first | exact g | apply Mem.bump | refine Mem.put ?_ (by (try simp only [bump_next, put_next]); omega) (by (try simp only [bump_next, put_next]); omega)
      refine row hC (a := a.getD k []) hak (by omega) (by omega) hw (by omega) hakb hbb okX.ok (okX.old hσ hf) (hs1.mono hσ okX) (hvm0.mono hσ okX) ?_
      intro τ3 r' g5 hr' hh'
      simp only [bump_next] at hr'
      have g6 : Mem τ τ3 := Mem.trans (by repeat first | exact Mem.refl g.ok | apply Mem.bump | refine Mem.put ?_ (by (try simp only [bump_next, put_next]); omega) (by (try simp only [bump_next, put_next]); omega)) g5
      have hnx3 := g5.next
      simp only [bump_next] at hnx3
      have hr3 := g5.ok.lt hh'
      conv => whnf
      have hRx := hR.mono g.ok (Mem.put (r := τ.next + 1 + 3 + 5) (o := .cells [whole r' w] false) g6 (by omega) (by omega))
      have g7 : Mem σ (τ3.put (τ.next + 1 + 3 + 5) (.cells [whole r' w] false)) := (g.trans g6).put (by omega) (by omega)
      have hrsl : ∀ q ∈ rs, q < τ.next := fun q hq => by
        obtain ⟨j, hj, rfl⟩ := List.getElem_of_mem hq
        exact g.ok.lt (hR.row j hj).2.2.2
      have hne : headOf (.slice oa on oc) ≠ some r' := by
        rcases hR.grow with ⟨_, e⟩ | ⟨h, _, e, eh⟩
        · rw [e]; intro e; cases e
        · rw [e]; intro e
          have e : h = r' := by injection e
          have := g.ok.lt eh
          omega
      obtain ⟨v', τ4, hap, g8, hR4, hnx4, _, _⟩ := hRx.push hσ g7 (r := r') (B := τ.next + 1 + 3 + 5) (N := τ.next + 1 + 3 + 6) (l := rowTo (a.getD k []) b w (a.getD k []).length) (rowTo_len (a := a.getD k []) hw _ (by rw [hak]; exact Nat.le_refl _)) (by omega) (by rw [put_heap_ne (by omega)]; exact hh') hne (put_heap_eq _ _ _) (by omega) (by simp only [put_next]; omega) (by omega) (fun q hq => by have := hrsl q hq; omega) (by omega)
      obtain ⟨oa2, on2, oc2, rfl⟩ := hR4.slice
      refine ⟨_, _, hap, ?_⟩
      conv => whnf
      repeat (first | (refine br_true (inR_intro (by simp only [loI, hiI]; omega)) ?_; conv => whnf) | (refine br_true (by simp only [blt_dec, ble_dec, beq_dec, ltB_eq, leB_eq, decide_eq_true_eq, decide_eq_false_iff_not, Bool.and_eq_true, Bool.or_eq_true, beq_iff_eq, bne_iff_ne, beq_eq_false_iff_ne, bne_eq_false_iff_eq]; first | done | omega) ?_; conv => whnf))
      refine ⟨rfl, a.length - (k + 1), by omega, k + 1, rs ++ [r'], _, by omega, rfl, rfl, ?_, by simp [hrs], ?_⟩
      · repeat first | exact g8 | apply Mem.bump | refine Mem.put ?_ (by (try simp only [bump_next, put_next]); omega) (by (try simp only [bump_next, put_next]); omega)
      · rw [List.take_succ_eq_append_getElem hk0, List.map_append]
        have e1 : a.getD k [] = a[k] := by rw [List.getD_eq_getElem?_getD, List.getElem?_eq_getElem hk0]; rfl
        rw [e1] at hR4
        rw [har _ (List.getElem_mem hk0)] at hR4
        exact hR4.bump _
    · conv => whnf
      obtain rfl : k = a.length := by omega
      rw [List.take_length] at hR
      refine kQ _ _ rs ?_ ((hR.bump _).bump _)
      repeat first | exact g | apply Mem.bump | refine Mem.put ?_ (by (try simp only [bump_next, put_next]); omega) (by (try simp only [bump_next, put_next]); omega)
end
end Go.Corb.A

/- Matrices that have an inverse, by one that is known. Conditions: none. -/
set_option linter.unusedVariables false
set_option linter.unusedSimpArgs false
namespace Go.Corb.A
open Go Go.RowKit Go.Corb

theorem dot_rep (w : Nat) (z : Nat → Nat) : dot (List.replicate w 0) z = 0 := dot_zero _ _ fun j hj => by
  rw [List.getD_eq_getElem?_getD, List.getElem?_replicate]; split <;> exact zero_gmul _
/-- A sum of rows, sent on. -/
def comb (a : List Nat) (b : List (List Nat)) (z : Nat → Nat) : Nat → Nat
  | 0 => 0
  | k + 1 => comb a b z k ^^^ gmul (a.getD k 0) (dot (rowA b k) z)
theorem comb_lt {a : List Nat} {b : List (List Nat)} {z : Nat → Nat} : ∀ k, comb a b z k < 256
  | 0 => Nat.zero_lt_succ _
  | k + 1 => xor_lt8' (comb_lt k) (gmul_lt _ _)
theorem dot_rowTo {a : List Nat} {b : List (List Nat)} {w : Nat} (hab : ∀ x ∈ a, x < 256) (hw : ∀ r ∈ b, r.length = w) {z : Nat → Nat} (hz : ∀ j, z j < 256) : ∀ k, k ≤ b.length → dot (rowTo a b w k) z = comb a b z k
  | 0, _ => dot_rep w z
  | k + 1, h => by
    simp only [rowTo, comb, addR]
    rw [dot_addR _ (getD_lt hab k) _ _ _ (rowTo_bytes k) hz, dot_rowTo hab hw hz k (by omega)]
    rw [rowTo_len hw k (by omega)]
    exact hw _ (row_mem (by omega))
theorem comb_zero {a : List Nat} {b : List (List Nat)} {z : Nat → Nat} : ∀ k, (∀ i, i < k → dot (rowA b i) z = 0) → comb a b z k = 0
  | 0, _ => rfl
  | k + 1, h => by
    simp only [comb]
    rw [comb_zero k fun i hi => h i (by omega), h k (by omega), gmul_zero]; rfl
theorem comb_dot {b : List (List Nat)} {z y : Nat → Nat} : ∀ (k : Nat) (a : List Nat), a.length = k → (∀ i, i < k → dot (rowA b i) z = y i) → comb a b z k = dot a y
  | 0, a, ha, _ => by
    have : a = [] := List.eq_nil_of_length_eq_zero ha
    subst this; rfl
  | k + 1, a, ha, h => by
    have hne : a ≠ [] := by intro e; rw [e] at ha; cases ha
    obtain ⟨l, x, rfl⟩ : ∃ l x, a = l ++ [x] := ⟨a.dropLast, a.getLast hne, (List.dropLast_concat_getLast hne).symm⟩
    have hl : l.length = k := by simpa using ha
    rw [dot_append, hl]
    simp only [comb, dot]
    have e1 : (l ++ [x]).getD k 0 = x := by rw [List.getD_eq_getElem?_getD, List.getElem?_append_right (by omega), hl, Nat.sub_self]; rfl
    have e2 : comb (l ++ [x]) b z k = comb l b z k := by
      have : ∀ j, j ≤ k → comb (l ++ [x]) b z j = comb l b z j := by
        intro j
        induction j with
        | zero => intro _; rfl
        | succ j ih =>
          intro hj
          simp only [comb]
          rw [ih (by omega)]
          congr 2
          rw [List.getD_eq_getElem?_getD, List.getD_eq_getElem?_getD, List.getElem?_append_left (by omega)]
      exact this k (Nat.le_refl _)
    rw [e1, e2, comb_dot k l hl fun i hi => h i (by omega), h k (by omega), Nat.xor_zero, Nat.add_zero]

/-- C leads back. -/
def Left (n : Nat) (C A : List (List Nat)) : Prop := C.length = n ∧ Bytes C ∧ Wid n C ∧ ∀ i, i < n → rowTo (rowA C i) A n n = idRow n i
theorem left_back {n : Nat} {C A : List (List Nat)} (h : Left n C A) (hA : A.length = n) (hw : Wid n A) {x y : Nat → Nat} (hx : ∀ j, x j < 256) (hy : ∀ i, i < n → dot (rowA A i) x = y i) {i : Nat} (hi : i < n) : x i = dot (rowA C i) y := by
  obtain ⟨h1, h2, h3, h4⟩ := h
  have e := dot_rowTo (a := rowA C i) (b := A) (w := n) (h2 _ (row_mem (by omega))) (wid_to hw) hx n (by omega)
  rw [h4 i hi, dot_idRow hi _ (hx i)] at e
  rw [e]
  exact comb_dot n _ (h3 i (by omega)) hy
theorem left_sing {n : Nat} {C A : List (List Nat)} (h : Left n C A) (hA : A.length = n) (hw : Wid n A) : ¬ Sing n A := by
  rintro ⟨x, hx, ⟨a, ha, h1⟩, h0⟩
  have := left_back h hA hw hx (y := fun _ => 0) h0 ha
  rw [h1, dot_zero _ _ fun j _ => gmul_zero _] at this
  cases this
theorem left_sol {n : Nat} {C A Q : List (List Nat)} (h : Left n C A) (hA : A.length = n) (hw : Wid n A) (hs : Sol n A Q) (hQ : Q.length = n) (bQ : Bytes Q) (wQ : Wid n Q) : Q = C := by
  have key : ∀ r c, r < n → c < n → (rowA Q r).getD c 0 = (rowA C r).getD c 0 := by
    intro r c hr hc
    have hq : ∀ j, j < n → dot (rowA A j) (fun i => dot (rowA Q i) (uv c)) = uv c j := (hs _ _ (fun _ => dot_lt _ _) (uv_lt c)).2 fun _ _ => rfl
    have := left_back h hA hw (fun _ => dot_lt _ _) hq hr
    rw [dot_uv (bQ _ (row_mem (by omega))) (by rw [wQ r (by omega)]; exact hc), dot_uv (h.2.1 _ (row_mem (by rw [h.1]; omega))) (by rw [h.2.2.1 r (by rw [h.1]; omega)]; exact hc)] at this
    exact this
  apply List.ext_getElem (by rw [hQ, h.1])
  intro r h1 h2
  have e1 : Q[r] = rowA Q r := by rw [rowA, List.getD_eq_getElem?_getD, List.getElem?_eq_getElem h1]; rfl
  have e2 : C[r] = rowA C r := by rw [rowA, List.getD_eq_getElem?_getD, List.getElem?_eq_getElem h2]; rfl
  rw [e1, e2]
  have l1 := wQ r h1
  have l2 := h.2.2.1 r h2
  apply List.ext_getElem (by rw [l1, l2])
  intro c h3 h4
  have := key r c (by omega) (by omega)
  rw [List.getD_eq_getElem?_getD, List.getD_eq_getElem?_getD, List.getElem?_eq_getElem h3, List.getElem?_eq_getElem h4] at this
  exact this
end Go.Corb.A

/- The contract of known; the law MatrixRows. Conditions: none. -/
set_option linter.unusedVariables false
set_option linter.unusedSimpArgs false
namespace Go.Corb.A
open Go Go.RowKit Go.Proofs Go.Corb Go.IntWalk

def kA : List (List Nat) := [[1, 1], [0, 1]]
theorem kA_bytes : Bytes kA := by
  intro l hl x hx
  simp only [kA, List.mem_cons, List.not_mem_nil, or_false] at hl
  rcases hl with rfl | rfl <;> simp at hx <;> omega
theorem kA_wid : Wid 2 kA := by
  intro i hi
  have : i < 2 := hi
  rcases (show i = 0 ∨ i = 1 by omega) with rfl | rfl <;> rfl
theorem kA_left : Left 2 kA kA := by
  refine ⟨rfl, kA_bytes, kA_wid, fun i hi => ?_⟩
  rcases (show i = 0 ∨ i = 1 by omega) with rfl | rfl <;> kernel_rfl
theorem kA_mul : (kA.map fun r => rowTo r kA 2 2) = [[1, 0], [0, 1]] := by kernel_rfl

/-- What is there is there still. -/
def _root_.Go.Corb.Sub (σ τ : AS) : Prop := ∀ r o, σ.heap r = some o → τ.heap r = some o
theorem _root_.Go.Corb.Sub.refl (σ : AS) : Sub σ σ := fun _ _ h => h
theorem _root_.Go.Corb.Sub.trans {a b c : AS} (h : Sub a b) (k : Sub b c) : Sub a c := fun r o e => k r o (h r o e)
theorem _root_.Go.Corb.Mem.sub {σ τ : AS} (h : Mem σ τ) (hσ : Ok σ) : Sub σ τ := fun r o e => h.old hσ e
theorem _root_.Go.Corb.Sub.put {σ τ : AS} (h : Sub σ τ) {r : Nat} {o : AObj} (hr : τ.heap r = none) : Sub σ (τ.put r o) := fun q u e => by
  rw [put_heap_ne (fun e2 => by subst e2; rw [h _ _ e] at hr; cases hr)]
  exact h _ _ e
theorem _root_.Go.Corb.Sub.bump {σ τ : AS} (h : Sub σ τ) (n : Nat) : Sub σ (τ.bump n) := h
/-- A place that is kept for later. -/
theorem _root_.Go.Corb.Mem.free {σ τ : AS} {n r : Nat} (h : Mem (σ.bump n) τ) (hσ : Ok σ) (h1 : σ.next ≤ r) (h2 : r < σ.next + n) : τ.heap r = none := by
  rw [h.grow.heap r (by rw [bump_next]; exact h2)]
  exact hσ.wf r h1
theorem MatAt.sub {σ τ : AS} (e : Sub σ τ) {v : Value} {m : List (List Nat)} (h : MatAt σ v m) : MatAt τ v m := by
  obtain ⟨vs, h1, h2, h3⟩ := h
  exact ⟨vs, h1.same e, h2, fun i a b => (h3 i a b).same e⟩

section
variable {Base : CallRel}
set_option pp.deepTerms.threshold 8

theorem inverse' (hC : CProp (ACall Try.prog Base)) {v0 : Value} {m : List (List Nat)} {n rf : Nat} {rof : Bool} (hml : m.length = n) (hn : 1 ≤ n) (hn' : n ≤ 64) (hrl : ∀ l ∈ m, l.length = n) (hb : Bytes m) {σ : AS} (hσ : Ok σ) (hf : σ.heap rf = some (.cells fieldCells rof)) (hv0 : MatAt σ v0 m) {Q : Value → AS → Prop}
    (k1 : ∀ σ', Mem σ σ' → Sing n m → Q (.tuple [.slice none 0 0, .bool false].toArray) σ')
    (k2 : ∀ σ' v q, Mem σ σ' → MatAt σ' v q → q.length = n → Bytes q → (∀ l ∈ q, l.length = n) → Sol n m q → Q (.tuple [v, .bool true].toArray) σ') :
    ∃ v σ', ACall Try.prog Base 14 [.pointer (some ⟨rf, 0, none⟩), v0] σ v σ' ∧ Q v σ' := by
  have hw : Wid n m := wid_of hrl
  obtain ⟨b1, b2, b3⟩ := both_all hml hb hw
  refine inverse hC hml hn hn' hrl hb hσ hf hv0 ?_ ?_
  · intro σ' a m' g ha hg hz
    exact k1 σ' g (gj_sing hml hb hw hg ha hz)
  · intro σ' v m' g hg hm
    obtain ⟨c1, c2, c3, c4, c5⟩ := gj_all hg b1 b2 b3 (by omega) (Nat.le_refl _)
    refine k2 σ' v _ g hm (by rw [List.length_map]; exact c1) ?_ ?_ (gj_sol hml hb hw hg)
    · intro l hl x hx
      obtain ⟨l', hl', rfl⟩ := List.mem_map.1 hl
      exact c2 _ hl' x (List.mem_of_mem_drop hx)
    · intro l hl
      obtain ⟨l', hl', rfl⟩ := List.mem_map.1 hl
      rw [List.length_drop, wid_to c3 _ hl']; omega

theorem mat2 {σ : AS} {h r0 r1 n0 n1 : Nat} {b0 b1 b2 : Bool} {l0 l1 : List Nat} (hh : σ.heap h = some (.cells [whole r0 n0, whole r1 n1] b0)) (h0 : σ.heap r0 = some (.cells (l0.map vb) b1)) (h1 : σ.heap r1 = some (.cells (l1.map vb) b2)) (e0 : n0 = l0.length) (e1 : n1 = l1.length) : MatAt σ (whole h 2) [l0, l1] := by
  refine ⟨[whole r0 n0, whole r1 n1], SlAt.mk hh rfl rfl, rfl, fun i hi hi' => ?_⟩
  have : i < 2 := hi
  rcases (show i = 0 ∨ i = 1 by omega) with rfl | rfl
  · exact SlAt.mk h0 (by rw [List.length_map]; exact e0) (by rw [List.drop_zero]; exact List.take_length)
  · exact SlAt.mk h1 (by rw [List.length_map]; exact e1) (by rw [List.drop_zero]; exact List.take_length)

theorem known (hC : CProp (ACall Try.prog Base)) {σ : AS} (hσ : Ok σ) {Q : Value → AS → Prop}
    (kQ : ∀ σ', Mem σ σ' → Q (.bool true) σ') :
    ∃ v σ', ACall Try.prog Base 13 [] σ v σ' ∧ Q v σ' := by
  refine call_rwp hC cf13 rfl hσ.wf ?_
  conv => whnf
  refine new hC (Mem.ok (σ := σ) (by repeat first | exact Mem.refl hσ | apply Mem.bump | refine Mem.put ?_ (by (try simp only [bump_next, put_next]); omega) (by (try simp only [bump_next, put_next]); omega))) ?_
  intro τ1 rf g1 hrf hf
  have g2 : Mem σ τ1 := Mem.trans (by repeat first | exact Mem.refl hσ | apply Mem.bump | refine Mem.put ?_ (by (try simp only [bump_next, put_next]); omega) (by (try simp only [bump_next, put_next]); omega)) g1
  have hnx := g2.next
  conv => whnf
  have hM : Mem σ ((((((τ1.bump 4).put τ1.next (.cells ([1, 1].map vb) false)).put (τ1.next + 1) (.cells ([0, 1].map vb) false)).put (τ1.next + 2) (.cells [whole τ1.next 2, whole (τ1.next + 1) 2] false))).bump 8) := by repeat first | exact g2 | apply Mem.bump | refine Mem.put ?_ (by (try simp only [bump_next, put_next]); omega) (by (try simp only [bump_next, put_next]); omega)
  have hA : MatAt ((((((τ1.bump 4).put τ1.next (.cells ([1, 1].map vb) false)).put (τ1.next + 1) (.cells ([0, 1].map vb) false)).put (τ1.next + 2) (.cells [whole τ1.next 2, whole (τ1.next + 1) 2] false))).bump 8) (whole (τ1.next + 2) 2) kA := by
    refine mat2 (put_heap_eq _ _ _) (b1 := false) (b2 := false) ?_ ?_ rfl rfl
    · rw [bump_heap, put_heap_ne (by omega), put_heap_ne (by omega), put_heap_eq]
    · rw [bump_heap, put_heap_ne (by omega), put_heap_eq]
  have hf2 : ((((((τ1.bump 4).put τ1.next (.cells ([1, 1].map vb) false)).put (τ1.next + 1) (.cells ([0, 1].map vb) false)).put (τ1.next + 2) (.cells [whole τ1.next 2, whole (τ1.next + 1) 2] false))).bump 8).heap rf = some (.cells fieldCells false) := by
    have := g1.ok.lt hf
    rw [bump_heap, put_heap_ne (by omega), put_heap_ne (by omega), put_heap_ne (by omega)]; exact hf
  refine inverse' hC (m := kA) (n := 2) rfl (by omega) (by omega) (wid_to kA_wid) kA_bytes hM.ok hf2 hA ?_ ?_
  · intro σ' _ hs
    exact absurd hs (left_sing kA_left rfl kA_wid)
  intro τ2 v q g3 hq q1 q2 q3 hs
  obtain rfl := left_sol kA_left rfl kA_wid hs q1 q2 (wid_of q3)
  have g4 := hM.trans g3
  obtain ⟨qa, qn, qc, rfl⟩ : ∃ a n c, v = .slice a n c := by
    obtain ⟨vs, hs, _⟩ := hq
    obtain ⟨a, c, h⟩ := hs.shape
    exact ⟨_, _, _, h⟩
  conv => whnf
  have hk40 : ∀ l ∈ kA, l.length < 2 ^ 40 := fun l hl => by rw [wid_to kA_wid l hl]; omega
  have g5 : Mem τ2 (τ2.bump 17) := (Mem.refl g3.ok).bump 17
  refine same hC (m := kA) (m' := kA) (by decide) (by decide) hk40 hk40 g5.ok ((hA.mono hM.ok g3).mono g3.ok g5) (hq.mono g3.ok g5) ?_
  intro τ3 g6
  have g7 := g5.trans g6
  rw [show (kA == kA) = true from rfl]
  conv => whnf
  refine mmul hC (a := kA) (b := kA) (w := 2) (by decide) (by decide) (wid_to kA_wid) (by decide) (by decide) (wid_to kA_wid) (by decide) (by decide) kA_bytes kA_bytes g6.ok ((g3.trans g7).old hM.ok hf2) (hA.mono hM.ok (g3.trans g7)) (hq.mono g3.ok g7) ?_
  intro τ4 v4 rs g8 hR
  have hR := hR.at
  rw [show kA.length = 2 from rfl, kA_mul] at hR
  obtain ⟨ra, rn, rc, rfl⟩ : ∃ a n c, v4 = .slice a n c := by
    obtain ⟨vs, hs, _⟩ := hR
    obtain ⟨a, c, h⟩ := hs.shape
    exact ⟨_, _, _, h⟩
  conv => whnf
  have f0 := (g6.trans g8).free g3.ok (r := τ2.next + 11) (by omega) (by omega)
  have f1 := (g6.trans g8).free g3.ok (r := τ2.next + 12) (by omega) (by omega)
  have f2 := (g6.trans g8).free g3.ok (r := τ2.next + 13) (by omega) (by omega)
  have hnx4 := (g6.trans g8).next
  simp only [bump_next] at hnx4
  have g9 : Mem τ2 τ4 := g5.trans (g6.trans g8)
  have gE : Mem τ2 (((τ4.put (τ2.next + 11) (.cells ([1, 0].map vb) false)).put (τ2.next + 12) (.cells ([0, 1].map vb) false)).put (τ2.next + 13) (.cells [whole (τ2.next + 11) 2, whole (τ2.next + 12) 2] false)) := by repeat first | exact g9 | apply Mem.bump | refine Mem.put ?_ (by (try simp only [bump_next, put_next]); omega) (by (try simp only [bump_next, put_next]); omega)
  refine same hC (m := [[1, 0], [0, 1]]) (m' := [[1, 0], [0, 1]]) (by decide) (by decide) (by decide) (by decide) gE.ok (hR.sub ?_) ?_ ?_
  · exact ((((Sub.refl τ4).put f0).put (by rw [put_heap_ne (by omega)]; exact f1)).put (by rw [put_heap_ne (by omega), put_heap_ne (by omega)]; exact f2))
  · refine mat2 (put_heap_eq _ _ _) (b1 := false) (b2 := false) ?_ ?_ rfl rfl
    · rw [put_heap_ne (by omega), put_heap_ne (by omega), put_heap_eq]
    · rw [put_heap_ne (by omega), put_heap_eq]
  intro τ5 g10
  conv => whnf
  exact kQ _ (g4.trans (gE.trans g10))
end
end Go.Corb.A

/- The law MatrixRows over the abstract memory. Conditions: none. -/
set_option linter.unusedVariables false
set_option linter.unusedSimpArgs false
namespace Go.Corb.A
open Go Go.RowKit Go.Proofs Go.Corb Go.IntWalk

def RowsAt (σ : AS) (vs : List Value) (m : List (List Nat)) : Prop := vs.length = m.length ∧ ∀ i (h : i < vs.length) (h' : i < m.length), SlAt σ vs[i] (m[i].map vb)
theorem RowsAt.mono {σ τ : AS} (hσ : Ok σ) (g : Mem σ τ) {vs : List Value} {m : List (List Nat)} (h : RowsAt σ vs m) : RowsAt τ vs m := ⟨h.1, fun i a b => (h.2 i a b).mono hσ g⟩
theorem RowsAt.set {σ : AS} {vs : List Value} {m : List (List Nat)} (h : RowsAt σ vs m) (k : Nat) {x : Value} {row : List Nat} (hx : SlAt σ x (row.map vb)) : RowsAt σ (vs.set k x) (m.set k row) := by
  refine ⟨by simp [h.1], fun i h1 h2 => ?_⟩
  rw [List.length_set] at h1 h2
  rw [List.getElem_set, List.getElem_set]
  split
  · exact hx
  · exact h.2 i h1 h2
theorem RowsAt.get {σ : AS} {vs : List Value} {m : List (List Nat)} (h : RowsAt σ vs m) {i : Nat} (hi : i < m.length) : ∃ x, vs[i]? = some x ∧ (∃ a cap, x = .slice a (m.getD i []).length cap) ∧ SlAt σ x ((m.getD i []).map vb) := by
  have hi' : i < vs.length := by rw [h.1]; exact hi
  have e : m.getD i [] = m[i] := by rw [List.getD_eq_getElem?_getD, List.getElem?_eq_getElem hi]; rfl
  have h2 := h.2 i hi' hi
  rw [e]
  obtain ⟨a, cap, h3⟩ := h2.shape
  rw [List.length_map] at h3
  exact ⟨vs[i], List.getElem?_eq_getElem hi', ⟨a, cap, h3⟩, h2⟩
theorem RowsAt.one {σ : AS} {vs : List Value} {m : List (List Nat)} (h : RowsAt σ vs m) : vs.all (·.oneCell') = true := by
  rw [List.all_eq_true]
  intro x hx
  obtain ⟨i, hi, rfl⟩ := List.getElem_of_mem hx
  obtain ⟨a, cap, e⟩ := (h.2 i hi (by rw [← h.1]; exact hi)).shape
  rw [e]; rfl
theorem RowsAt.mat {σ : AS} {r n cap : Nat} {sp : Option Nat} {ro : Bool} {vs : List Value} {m : List (List Nat)} (h : RowsAt σ vs m) (hr : σ.heap r = some (.cells vs ro)) (hn : n = vs.length) : MatAt σ (.slice (some ⟨r, 0, sp⟩) n cap) m :=
  ⟨vs, SlAt.mk hr hn (by rw [List.drop_zero, List.take_length]), h.1, h.2⟩
theorem MatAt.rows {σ : AS} {v : Value} {m : List (List Nat)} (h : MatAt σ v m) : ∃ a vs cap, v = .slice a vs.length cap ∧ SlAt σ v vs ∧ RowsAt σ vs m := by
  obtain ⟨vs, h1, h2, h3⟩ := h
  obtain ⟨a, cap, e⟩ := h1.shape
  exact ⟨a, vs, cap, e, h1, h2, h3⟩

/-- A list of rows, appended to nothing. -/
theorem app_copy {τ : AS} {N B : Nat} {x : Value} {vs : List Value} {m : List (List Nat)} (hB : τ.heap B = some (.cells [] false)) (hx : SlAt τ x vs) (hr : RowsAt τ vs m) (hne : m ≠ []) (hb : m.length < 2 ^ 40) :
    rAppend τ N 1 24 (.slice (some ⟨B, 0, none⟩) 0 0) x = some (.slice (some ⟨N, 0, some 1⟩) m.length m.length, τ.put N (.cells vs false)) := by
  have hl := hr.1
  have hm : 0 < m.length := List.length_pos_iff.2 hne
  have := app_new (σ := τ) (N := N) (bytes := 24) (olds := []) (vs := vs) (s := .slice (some ⟨B, 0, none⟩) 0 0) (x := x) (SlAt.empty rfl) (fun r o sp len cap e => by
    simp only [Value.slice.injEq, Option.some.injEq, Addr.mk.injEq] at e
    obtain ⟨⟨_, _, rfl⟩, _, rfl⟩ := e
    exact ⟨rfl, by simp; omega⟩) rfl hx hr.one (by intro e; rw [e] at hl; simp at hl; omega) (by simp; omega)
  simpa [hl] using this

theorem tail_get {m : List (List Nat)} {i : Nat} (hi : i < m.length) (l : List (List Nat)) : True := trivial
theorem rowA_set {m : List (List Nat)} {k : Nat} (l : List Nat) (i : Nat) (hk : k < m.length) : rowA (m.set k l) i = if i = k then l else rowA m i := by
  simp only [rowA, List.getD_eq_getElem?_getD, List.getElem?_set]
  by_cases h : k = i
  · subst h; simp [hk]
  · rw [if_neg h, if_neg (fun e => h e.symm)]
theorem mem_set_len {m : List (List Nat)} {n k : Nat} {l : List Nat} (h : ∀ r ∈ m, r.length = n) (hl : l.length = n) : ∀ r ∈ m.set k l, r.length = n := by
  intro r hr
  rcases List.mem_or_eq_of_mem_set hr with h2 | rfl
  · exact h _ h2
  · exact hl

section
variable {Base : CallRel}
set_option pp.deepTerms.threshold 8

theorem pickN {x : Int} {m : Int} (hm : 0 < m) : ∃ a : Nat, x % m = (a : Int) ∧ (a : Int) < m := by
  have h1 := Int.emod_nonneg x (show m ≠ 0 by omega)
  have h2 := Int.emod_lt_of_pos x hm
  exact ⟨(x % m).toNat, by omega, by omega⟩

set_option maxHeartbeats 2000000 in
theorem matrixRows (hC : CProp (ACall Try.prog Base)) {n i k : Int} {vl : Value} {l : List Int} {σ : AS} (hσ : Ok σ) (hl : SlAt σ vl (l.map fun x => .int .i64 x)) {Q : Value → AS → Prop}
    (kQ : ∀ σ', Mem σ σ' → Q (.bool true) σ') :
    ∃ v σ', ACall Try.prog Base 3 [.int .i64 n, vl, .int .i64 i, .int .i64 k] σ v σ' ∧ Q v σ' := by
  obtain ⟨la, lcap, rfl⟩ := hl.shape
  rw [List.length_map] at hl ⊢
  refine call_rwp hC cf3 rfl hσ.wf ?_
  conv => whnf
  refine new hC (Mem.ok (σ := σ) (by repeat first | exact Mem.refl hσ | apply Mem.bump | refine Mem.put ?_ (by (try simp only [bump_next, put_next]); omega) (by (try simp only [bump_next, put_next]); omega))) ?_
  intro τ1 rf g1 hrf hf
  have g2 : Mem σ τ1 := Mem.trans (by repeat first | exact Mem.refl hσ | apply Mem.bump | refine Mem.put ?_ (by (try simp only [bump_next, put_next]); omega) (by (try simp only [bump_next, put_next]); omega)) g1
  conv => whnf
  refine pick hC (m := 5) (by omega) (by omega) (Mem.ok (σ := σ) (by repeat first | exact g2 | apply Mem.bump | refine Mem.put ?_ (by (try simp only [bump_next, put_next]); omega) (by (try simp only [bump_next, put_next]); omega))) ?_
  intro τ2 g3
  have g4 : Mem τ1 τ2 := Mem.trans (by repeat first | exact Mem.refl g1.ok | apply Mem.bump | refine Mem.put ?_ (by (try simp only [bump_next, put_next]); omega) (by (try simp only [bump_next, put_next]); omega)) g3
  obtain ⟨n0, hn0, hn0'⟩ := pickN (x := n) (m := 5) (by omega)
  rw [hn0]
  conv => whnf
  repeat (first | (refine br_true (inR_intro (by simp only [loI, hiI]; omega)) ?_; conv => whnf) | (refine br_true (by simp only [blt_dec, ble_dec, beq_dec, ltB_eq, leB_eq, decide_eq_true_eq, decide_eq_false_iff_not, Bool.and_eq_true, Bool.or_eq_true, beq_iff_eq, bne_iff_ne, beq_eq_false_iff_ne, bne_eq_false_iff_eq]; first | done | omega) ?_; conv => whnf))
  rw [show (2 : Int) + (n0 : Int) = ((2 + n0 : Nat) : Int) by omega]
  generalize hN : 2 + n0 = N
  have hN1 : 2 ≤ N := by omega
  have hN2 : N ≤ 6 := by omega
  clear hN hn0 hn0'
  have g5 := g2.trans g4
  have hf2 := g4.old g1.ok hf
  clear hf g1 g3 g4 hrf g2
  refine of hC (rows := N) (cols := N) (by omega) (by omega) (by omega) (by omega) (Mem.ok (σ := σ) (by repeat first | exact g5 | apply Mem.bump | refine Mem.put ?_ (by (try simp only [bump_next, put_next]); omega) (by (try simp only [bump_next, put_next]); omega))) (hl.mono hσ (by repeat first | exact g5 | apply Mem.bump | refine Mem.put ?_ (by (try simp only [bump_next, put_next]); omega) (by (try simp only [bump_next, put_next]); omega))) ?_
  intro τ3 va m g6 hm hml hmw hmb
  have g7 : Mem τ2 τ3 := Mem.trans (by repeat first | exact Mem.refl g5.ok | apply Mem.bump | refine Mem.put ?_ (by (try simp only [bump_next, put_next]); omega) (by (try simp only [bump_next, put_next]); omega)) g6
  have hf3 := g7.old g5.ok hf2
  have g8 := g5.trans g7
  clear g6 g7 hf2 g5
  obtain ⟨aa, vs, acap, rfl, hav, hrv⟩ := hm.rows
  conv => whnf
  refine pick hC (m := N) (by omega) (by omega) (Mem.ok (σ := σ) (by repeat first | exact g8 | apply Mem.bump | refine Mem.put ?_ (by (try simp only [bump_next, put_next]); omega) (by (try simp only [bump_next, put_next]); omega))) ?_
  intro τ4 g9
  have g10 : Mem τ3 τ4 := Mem.trans (by repeat first | exact Mem.refl g8.ok | apply Mem.bump | refine Mem.put ?_ (by (try simp only [bump_next, put_next]); omega) (by (try simp only [bump_next, put_next]); omega)) g9
  obtain ⟨i0, hi0, hi0'⟩ := pickN (x := i) (m := N) (by omega)
  rw [hi0]
  conv => whnf
  have g11 := g8.trans g10
  refine pick hC (m := N) (by omega) (by omega) (Mem.ok (σ := σ) (by repeat first | exact g11 | apply Mem.bump | refine Mem.put ?_ (by (try simp only [bump_next, put_next]); omega) (by (try simp only [bump_next, put_next]); omega))) ?_
  intro τ5 g12
  have g13 : Mem τ4 τ5 := Mem.trans (by repeat first | exact Mem.refl g11.ok | apply Mem.bump | refine Mem.put ?_ (by (try simp only [bump_next, put_next]); omega) (by (try simp only [bump_next, put_next]); omega)) g12
  obtain ⟨k0, hk0, hk0'⟩ := pickN (x := k) (m := N) (by omega)
  rw [hk0]
  conv => whnf
  have g14 := g11.trans g13
  refine known hC (Mem.ok (σ := σ) (by repeat first | exact g14 | apply Mem.bump | refine Mem.put ?_ (by (try simp only [bump_next, put_next]); omega) (by (try simp only [bump_next, put_next]); omega))) ?_
  intro τ6 g15
  have g16 : Mem τ5 τ6 := Mem.trans (by repeat first | exact Mem.refl g14.ok | apply Mem.bump | refine Mem.put ?_ (by (try simp only [bump_next, put_next]); omega) (by (try simp only [bump_next, put_next]); omega)) g15
  have g17 := g14.trans g16
  have g18 := g10.trans (g13.trans g16)
  have hav := hav.mono g8.ok g18
  have hrv := hrv.mono g8.ok g18
  have hf := g18.old g8.ok hf3
  clear hf3 g18 g9 g12 g15 g10 g13 g16 g14 g11 hi0 hk0 hm
  conv => whnf
  have hN0 : m ≠ [] := by intro e; rw [e] at hml; simp at hml; omega
  have hvl : vs.length = N := by rw [hrv.1, hml]
  refine br_intro ?_ ?_ <;> intro hik <;> simp only [blt_dec, ble_dec, beq_dec, ltB_eq, leB_eq, decide_eq_true_eq, decide_eq_false_iff_not, beq_iff_eq, bne_iff_ne, beq_eq_false_iff_ne, bne_eq_false_iff_eq] at hik
  · conv => whnf
    have g18 : Mem σ (τ6.bump 2) := by repeat first | exact g17 | apply Mem.bump | refine Mem.put ?_ (by (try simp only [bump_next, put_next]); omega) (by (try simp only [bump_next, put_next]); omega)
    refine known hC g18.ok ?_
    intro τ7 g19
    conv => whnf
    exact kQ _ (g18.trans g19)
  · conv => whnf
    have hik : i0 ≠ k0 := by intro e; subst e; exact hik rfl
    have hi1 : i0 < N := by omega
    have hk1 : k0 < N := by omega
    obtain ⟨xi, xi1, ⟨xia, xic, rfl⟩, xi3⟩ := hrv.get (i := i0) (by omega)
    obtain ⟨xk, xk1, ⟨xka, xkc, rfl⟩, xk3⟩ := hrv.get (i := k0) (by omega)
    obtain ⟨ar, ao, asp, ac, aro, e1, har, haci, hat⟩ := hav.idx (i := i0) (by omega)
    obtain rfl := e1
    have hack : ac[ao + k0 * 1]? = some (.slice xka (m.getD k0 []).length xkc) := by
      have : ((ac.drop ao).take vs.length)[k0]? = vs[k0]? := by rw [hat]
      rw [List.getElem?_take, if_pos (by omega), List.getElem?_drop, xk1] at this
      rw [Nat.mul_one]; exact this
    rw [← List.getElem?_eq_some_iff.2 ⟨_, rfl⟩, xi1] at haci
    have hmi : (m.getD i0 []).length = N := hmw _ (row_mem (by omega))
    have hmk : (m.getD k0 []).length = N := hmw _ (row_mem (by omega))
    rw [hmi] at xi1 xi3 haci
    rw [hmk] at xk1 xk3 hack
    have e0 : ∀ j : Nat, 0 + j * 1 = j := fun j => by omega
    -- rows alike
    have hnx := g17.next
    refine ⟨_, _, app_copy (m := m) (put_heap_eq _ _ _) (hav.mono g17.ok (by repeat first | exact Mem.refl g17.ok | apply Mem.bump | refine Mem.put ?_ (by (try simp only [bump_next, put_next]); omega) (by (try simp only [bump_next, put_next]); omega))) (hrv.mono g17.ok (by repeat first | exact Mem.refl g17.ok | apply Mem.bump | refine Mem.put ?_ (by (try simp only [bump_next, put_next]); omega) (by (try simp only [bump_next, put_next]); omega))) hN0 (by omega), ?_⟩
    rw [hml]
    conv => whnf
    repeat (first | (refine br_true (inR_intro (by simp only [loI, hiI]; omega)) ?_; conv => whnf) | (refine br_true (by simp only [blt_dec, ble_dec, beq_dec, ltB_eq, leB_eq, decide_eq_true_eq, decide_eq_false_iff_not, Bool.and_eq_true, Bool.or_eq_true, beq_iff_eq, bne_iff_ne, beq_eq_false_iff_ne, bne_eq_false_iff_eq]; first | done | omega) ?_; conv => whnf))
    refine ld_intro (Mem.old (σ := τ6) g17.ok (by repeat first | exact Mem.refl g17.ok | apply Mem.bump | refine Mem.put ?_ (by (try simp only [bump_next, put_next]); omega) (by (try simp only [bump_next, put_next]); omega)) har) ?_
    conv => whnf
    refine at_intro haci ?_
    conv => whnf
    repeat (first | (refine br_true (inR_intro (by simp only [loI, hiI]; omega)) ?_; conv => whnf) | (refine br_true (by simp only [blt_dec, ble_dec, beq_dec, ltB_eq, leB_eq, decide_eq_true_eq, decide_eq_false_iff_not, Bool.and_eq_true, Bool.or_eq_true, beq_iff_eq, bne_iff_ne, beq_eq_false_iff_ne, bne_eq_false_iff_eq]; first | done | omega) ?_; conv => whnf))
    refine wr_intro (c := vs) (put_heap_eq _ _ _) (Mem.noprot (σ := σ) hσ (by repeat first | exact g17 | apply Mem.bump | refine Mem.put ?_ (by (try simp only [bump_next, put_next]); omega) (by (try simp only [bump_next, put_next]); omega)) (by omega)) ?_
    conv => whnf
    repeat (first | (refine br_true (inR_intro (by simp only [loI, hiI]; omega)) ?_; conv => whnf) | (refine br_true (by simp only [blt_dec, ble_dec, beq_dec, ltB_eq, leB_eq, decide_eq_true_eq, decide_eq_false_iff_not, Bool.and_eq_true, Bool.or_eq_true, beq_iff_eq, bne_iff_ne, beq_eq_false_iff_ne, bne_eq_false_iff_eq, hvl]; first | done | omega) ?_; conv => whnf))
    rw [e0, wr_one _ _ _ (by omega)]
    have gB : Mem τ6 (((((τ6.bump 4).put (τ6.next + 0) (AObj.cells (zrow (Value.agg [Value.slice none 0 0].toArray) (0 * [Value.slice none 0 0].length)) false)).put (τ6.next + 2) (AObj.cells vs false)).bump 8).put (τ6.next + 2) (AObj.cells (vs.set k0 (Value.slice xia N xic)) false)) := by repeat first | exact Mem.refl g17.ok | apply Mem.bump | refine Mem.put ?_ (by (try simp only [bump_next, put_next]); omega) (by (try simp only [bump_next, put_next]); omega)
    have hrB := (hrv.mono g17.ok gB).set k0 (xi3.mono g17.ok gB)
    have hmB := (hrB.mono gB.ok (gB.ok |> Mem.refl |>.bump 8)).mat (n := N) (cap := N) (sp := some 1) (put_heap_eq _ _ _) (by rw [List.length_set]; omega)
    have wB := mem_set_len (k := k0) hmw hmi
    have bB := bytes_set (a := k0) hmb (l := m.getD i0 []) (fun x hx => hmb _ (row_mem (by omega)) x hx)
    have sB : ∀ q, ¬ Sol N (m.set k0 (m.getD i0 [])) q := fun q => alike_not (i := i0) (k := k0) hi1 hk1 hik (by rw [rowA_set _ _ (by omega), rowA_set _ _ (by omega), if_neg hik, if_pos rfl])
    refine inverse' hC (m := m.set k0 (m.getD i0 [])) (n := N) (by rw [List.length_set]; exact hml) (by omega) (by omega) wB bB (gB.bump 8).ok ((gB.bump 8).old g17.ok hf) hmB ?_ (fun σ' v q _ _ _ _ _ hs => absurd hs (sB q))
    intro τ7 g20 _
    have g21 : Mem τ6 τ7 := Mem.trans (gB.bump 8) g20
    have hav := hav.mono g17.ok g21
    have hrv := hrv.mono g17.ok g21
    have hf := g21.old g17.ok hf
    have har := g21.old g17.ok har
    have g22 := g17.trans g21
    have xi3 := xi3.mono g17.ok g21
    have xk3 := xk3.mono g17.ok g21
    clear gB hrB hmB g20 wB bB sB hnx
    conv => whnf
    -- a row of nothing
    refine ⟨_, _, app_copy (m := m) (put_heap_eq _ _ _) (hav.mono g22.ok (by repeat first | exact Mem.refl g22.ok | apply Mem.bump | refine Mem.put ?_ (by (try simp only [bump_next, put_next]); omega) (by (try simp only [bump_next, put_next]); omega))) (hrv.mono g22.ok (by repeat first | exact Mem.refl g22.ok | apply Mem.bump | refine Mem.put ?_ (by (try simp only [bump_next, put_next]); omega) (by (try simp only [bump_next, put_next]); omega))) hN0 (by omega), ?_⟩
    rw [hml]
    conv => whnf
    repeat (first | (refine br_true (inR_intro (by simp only [loI, hiI]; omega)) ?_; conv => whnf) | (refine br_true (by simp only [blt_dec, ble_dec, beq_dec, ltB_eq, leB_eq, decide_eq_true_eq, decide_eq_false_iff_not, Bool.and_eq_true, Bool.or_eq_true, beq_iff_eq, bne_iff_ne, beq_eq_false_iff_ne, bne_eq_false_iff_eq]; first | done | omega) ?_; conv => whnf))
    have hnx := g22.next
    refine wr_intro (c := vs) ?_ (Mem.noprot (σ := σ) hσ (by repeat first | exact g22 | apply Mem.bump | refine Mem.put ?_ (by (try simp only [bump_next, put_next]); omega) (by (try simp only [bump_next, put_next]); omega)) (by omega)) ?_
    · rw [put_heap_ne (by simp only [put_next, bump_next]; omega), bump_heap, put_heap_eq]
    conv => whnf
    repeat (first | (refine br_true (inR_intro (by simp only [loI, hiI]; omega)) ?_; conv => whnf) | (refine br_true (by simp only [blt_dec, ble_dec, beq_dec, ltB_eq, leB_eq, decide_eq_true_eq, decide_eq_false_iff_not, Bool.and_eq_true, Bool.or_eq_true, beq_iff_eq, bne_iff_ne, beq_eq_false_iff_ne, bne_eq_false_iff_eq, hvl]; first | done | omega) ?_; conv => whnf))
    rw [e0, wr_one _ _ _ (by omega), show zrow (Value.agg [Value.int IntKind.u8 0].toArray) (N * [Value.int IntKind.u8 0].length) = List.replicate N (vb 0) from zrow_rep (vb 0) N]
    have gB : Mem τ7 ((((((τ7.bump 4).put (τ7.next + 0) (AObj.cells (zrow (Value.agg [Value.slice none 0 0].toArray) (0 * [Value.slice none 0 0].length)) false)).put (τ7.next + 2) (AObj.cells vs false)).bump 6).put (τ7.next + 4 + 3) (AObj.cells (List.replicate N (vb 0)) false)).put (τ7.next + 2) (AObj.cells (vs.set k0 (whole (τ7.next + 4 + 3) N)) false)) := by repeat first | exact Mem.refl g22.ok | apply Mem.bump | refine Mem.put ?_ (by (try simp only [bump_next, put_next]); omega) (by (try simp only [bump_next, put_next]); omega)
    have hz : SlAt ((((((τ7.bump 4).put (τ7.next + 0) (AObj.cells (zrow (Value.agg [Value.slice none 0 0].toArray) (0 * [Value.slice none 0 0].length)) false)).put (τ7.next + 2) (AObj.cells vs false)).bump 6).put (τ7.next + 4 + 3) (AObj.cells (List.replicate N (vb 0)) false)).put (τ7.next + 2) (AObj.cells (vs.set k0 (whole (τ7.next + 4 + 3) N)) false)) (whole (τ7.next + 4 + 3) N) ((List.replicate N 0).map vb) := by
      refine SlAt.mk (c := List.replicate N (vb 0)) (ro := false) ?_ (by simp) (by simp)
      rw [put_heap_ne (by omega), put_heap_eq]
    have hrB := (hrv.mono g22.ok gB).set k0 hz
    have hmB := (hrB.mono gB.ok (gB.ok |> Mem.refl |>.bump 8)).mat (n := N) (cap := N) (sp := some 1) (put_heap_eq _ _ _) (by rw [List.length_set]; omega)
    have wB := mem_set_len (k := k0) hmw (l := List.replicate N 0) (by simp)
    have bB := bytes_set (a := k0) hmb (l := List.replicate N 0) (fun x hx => by have := List.eq_of_mem_replicate hx; omega)
    have sB : ∀ q, ¬ Sol N (m.set k0 (List.replicate N 0)) q := fun q => zero_not (k := k0) (c := N) hk1 (by rw [rowA_set _ _ (by omega), if_pos rfl])
    refine inverse' hC (m := m.set k0 (List.replicate N 0)) (n := N) (by rw [List.length_set]; exact hml) (by omega) (by omega) wB bB (gB.bump 8).ok ((gB.bump 8).old g22.ok hf) hmB ?_ (fun σ' v q _ _ _ _ _ hs => absurd hs (sB q))
    intro τ8 g23 _
    have g24 : Mem τ7 τ8 := Mem.trans (gB.bump 8) g23
    have hav := hav.mono g22.ok g24
    have hrv := hrv.mono g22.ok g24
    have hf := g24.old g22.ok hf
    have har := g24.old g22.ok har
    have g25 := g22.trans g24
    have xi3 := xi3.mono g22.ok g24
    have xk3 := xk3.mono g22.ok g24
    clear gB hrB hmB g23 wB bB sB hnx hz
    conv => whnf
    -- rows that change places
    refine ⟨_, _, app_copy (m := m) (put_heap_eq _ _ _) (hav.mono g25.ok (by repeat first | exact Mem.refl g25.ok | apply Mem.bump | refine Mem.put ?_ (by (try simp only [bump_next, put_next]); omega) (by (try simp only [bump_next, put_next]); omega))) (hrv.mono g25.ok (by repeat first | exact Mem.refl g25.ok | apply Mem.bump | refine Mem.put ?_ (by (try simp only [bump_next, put_next]); omega) (by (try simp only [bump_next, put_next]); omega))) hN0 (by omega), ?_⟩
    rw [hml]
    conv => whnf
    repeat (first | (refine br_true (inR_intro (by simp only [loI, hiI]; omega)) ?_; conv => whnf) | (refine br_true (by simp only [blt_dec, ble_dec, beq_dec, ltB_eq, leB_eq, decide_eq_true_eq, decide_eq_false_iff_not, Bool.and_eq_true, Bool.or_eq_true, beq_iff_eq, bne_iff_ne, beq_eq_false_iff_ne, bne_eq_false_iff_eq]; first | done | omega) ?_; conv => whnf))
    have hnx := g25.next
    refine ld_intro (Mem.old (σ := τ8) g25.ok (by repeat first | exact Mem.refl g25.ok | apply Mem.bump | refine Mem.put ?_ (by (try simp only [bump_next, put_next]); omega) (by (try simp only [bump_next, put_next]); omega)) har) ?_
    conv => whnf
    refine at_intro hack ?_
    conv => whnf
    repeat (first | (refine br_true (inR_intro (by simp only [loI, hiI]; omega)) ?_; conv => whnf) | (refine br_true (by simp only [blt_dec, ble_dec, beq_dec, ltB_eq, leB_eq, decide_eq_true_eq, decide_eq_false_iff_not, Bool.and_eq_true, Bool.or_eq_true, beq_iff_eq, bne_iff_ne, beq_eq_false_iff_ne, bne_eq_false_iff_eq]; first | done | omega) ?_; conv => whnf))
    refine ld_intro (Mem.old (σ := τ8) g25.ok (by repeat first | exact Mem.refl g25.ok | apply Mem.bump | refine Mem.put ?_ (by (try simp only [bump_next, put_next]); omega) (by (try simp only [bump_next, put_next]); omega)) har) ?_
    conv => whnf
    refine at_intro haci ?_
    conv => whnf
    repeat (first | (refine br_true (inR_intro (by simp only [loI, hiI]; omega)) ?_; conv => whnf) | (refine br_true (by simp only [blt_dec, ble_dec, beq_dec, ltB_eq, leB_eq, decide_eq_true_eq, decide_eq_false_iff_not, Bool.and_eq_true, Bool.or_eq_true, beq_iff_eq, bne_iff_ne, beq_eq_false_iff_ne, bne_eq_false_iff_eq]; first | done | omega) ?_; conv => whnf))
    refine wr_intro (c := vs) (put_heap_eq _ _ _) (Mem.noprot (σ := σ) hσ (by repeat first | exact g25 | apply Mem.bump | refine Mem.put ?_ (by (try simp only [bump_next, put_next]); omega) (by (try simp only [bump_next, put_next]); omega)) (by simp only [bump_next]; omega)) ?_
    conv => whnf
    repeat (first | (refine br_true (inR_intro (by simp only [loI, hiI]; omega)) ?_; conv => whnf) | (refine br_true (by simp only [blt_dec, ble_dec, beq_dec, ltB_eq, leB_eq, decide_eq_true_eq, decide_eq_false_iff_not, Bool.and_eq_true, Bool.or_eq_true, beq_iff_eq, bne_iff_ne, beq_eq_false_iff_ne, bne_eq_false_iff_eq, hvl]; first | done | omega) ?_; conv => whnf))
    rw [e0, wr_one _ _ _ (by omega)]
    refine wr_intro (c := vs.set i0 (.slice xka N xkc)) (put_heap_eq _ _ _) (Mem.noprot (σ := σ) hσ (by repeat first | exact g25 | apply Mem.bump | refine Mem.put ?_ (by (try simp only [bump_next, put_next]); omega) (by (try simp only [bump_next, put_next]); omega)) (by simp only [bump_next]; omega)) ?_
    conv => whnf
    repeat (first | (refine br_true (inR_intro (by simp only [loI, hiI]; omega)) ?_; conv => whnf) | (refine br_true (by simp only [blt_dec, ble_dec, beq_dec, ltB_eq, leB_eq, decide_eq_true_eq, decide_eq_false_iff_not, Bool.and_eq_true, Bool.or_eq_true, beq_iff_eq, bne_iff_ne, beq_eq_false_iff_ne, bne_eq_false_iff_eq, hvl, List.length_set]; first | done | omega) ?_; conv => whnf))
    rw [e0, wr_one _ _ _ (by rw [List.length_set]; omega)]
    have gB : Mem τ8 (((((((τ8.bump 4).bump 4).put ((τ8.bump 4).next + 0) (AObj.cells (zrow (Value.agg [Value.slice none 0 0].toArray) (0 * [Value.slice none 0 0].length)) false)).put ((τ8.bump 4).next + 2) (AObj.cells vs false)).bump 16).put ((τ8.bump 4).next + 2) (AObj.cells (vs.set i0 (Value.slice xka N xkc)) false)).put ((τ8.bump 4).next + 2) (AObj.cells ((vs.set i0 (Value.slice xka N xkc)).set k0 (Value.slice xia N xic)) false)) := by repeat first | exact Mem.refl g25.ok | apply Mem.bump | refine Mem.put ?_ (by (try simp only [bump_next, put_next]); omega) (by (try simp only [bump_next, put_next]); omega)
    have hrB := ((hrv.mono g25.ok gB).set i0 (xk3.mono g25.ok gB)).set k0 (xi3.mono g25.ok gB)
    have hmB := hrB.mat (n := N) (cap := N) (sp := some 1) (put_heap_eq _ _ _) (by rw [List.length_set, List.length_set]; omega)
    have wB := mem_set_len (k := k0) (mem_set_len (k := i0) hmw hmk) hmi
    have bB := bytes_set (a := k0) (bytes_set (a := i0) hmb (l := m.getD k0 []) (fun x hx => hmb _ (row_mem (by omega)) x hx)) (l := m.getD i0 []) (fun x hx => hmb _ (row_mem (by omega)) x hx)
    have rB : ∀ r, rowA ((m.set i0 (m.getD k0 [])).set k0 (m.getD i0 [])) r = rowA m (sw i0 k0 r) := fun r => swap_row (m := m) (a := i0) (p := k0) (by omega) (by omega) r
    have lB : ((m.set i0 (m.getD k0 [])).set k0 (m.getD i0 [])).length = N := by rw [List.length_set, List.length_set]; exact hml
    clear xi3 xk3 har haci hack xi1 xk1 hrB
    generalize (m.set i0 (m.getD k0 [])).set k0 (m.getD i0 []) = D at *
    generalize hst : (((((((τ8.bump 4).bump 4).put ((τ8.bump 4).next + 0) (AObj.cells (zrow (Value.agg [Value.slice none 0 0].toArray) (0 * [Value.slice none 0 0].length)) false)).put ((τ8.bump 4).next + 2) (AObj.cells vs false)).bump 16).put ((τ8.bump 4).next + 2) (AObj.cells (vs.set i0 (Value.slice xka N xkc)) false)).put ((τ8.bump 4).next + 2) (AObj.cells ((vs.set i0 (Value.slice xka N xkc)).set k0 (Value.slice xia N xic)) false)) = st at *
    have gS := gB.bump 8
    have hma : MatAt (st.bump 8) (.slice (some ⟨ar, ao, asp⟩) vs.length acap) m := ⟨vs, hav.mono g25.ok gS, (hrv.mono g25.ok gS).1, (hrv.mono g25.ok gS).2⟩
    have rB' : ∀ r, rowA m r = rowA D (sw i0 k0 r) := fun r => by rw [rB, sw_sw]
    refine inverse' hC (m := m) (n := N) hml (by omega) (by omega) hmw hmb gS.ok (gS.old g25.ok hf) hma ?_ ?_
    · intro τ9 g26 hsing
      have g27 := gS.trans g26
      have g28 := g26.bump 8
      conv => whnf
      refine inverse' hC (m := D) (n := N) lB (by omega) (by omega) wB bB g28.ok ((gS.trans g28).old g25.ok hf) ((hmB.mono gB.ok (Mem.bump (Mem.refl gB.ok) 8)).mono gS.ok g28) ?_ (fun σ' v q _ _ _ _ _ hs => absurd (sing_swap hi1 hk1 rB' hsing) (sol_sing hs))
      intro τ10 g29 _
      have g30 := (g25.trans gS).trans (g28.trans g29)
      conv => whnf
      refine loop_intro (n := 184) (fun mm ws τ => ws = [vi N, vi i0, vi k0, .slice none 0 0, .bool false, .slice none 0 0, vi 0] ∧ Mem σ τ) 0 rfl ?_ ?_
      · conv => whnf
        exact ⟨rfl, by repeat first | exact g30 | apply Mem.bump | refine Mem.put ?_ (by (try simp only [bump_next, put_next]); omega) (by (try simp only [bump_next, put_next]); omega)⟩
      · rintro mm ws τ ⟨rfl, g31⟩
        conv => whnf
        (refine br_true (by simp only [blt_dec, ble_dec, beq_dec, ltB_eq, leB_eq, decide_eq_true_eq, decide_eq_false_iff_not, Bool.and_eq_true, Bool.or_eq_true, beq_iff_eq, bne_iff_ne, beq_eq_false_iff_ne, bne_eq_false_iff_eq]; first | done | omega) ?_; conv => whnf)
        exact kQ _ (by repeat first | exact g31 | apply Mem.bump | refine Mem.put ?_ (by (try simp only [bump_next, put_next]); omega) (by (try simp only [bump_next, put_next]); omega))
    · intro τ9 v1 q1 g26 hv1 hq1 hqb1 hqw1 hsol1
      have g27 := gS.trans g26
      have g28 := g26.bump 8
      obtain ⟨qa, qs, qc, rfl, hqs, hqr⟩ := hv1.rows
      conv => whnf
      refine inverse' hC (m := D) (n := N) lB (by omega) (by omega) wB bB g28.ok ((gS.trans g28).old g25.ok hf) ((hmB.mono gB.ok (Mem.bump (Mem.refl gB.ok) 8)).mono gS.ok g28) (fun σ' _ hs => absurd (sing_swap hi1 hk1 rB hs) (sol_sing hsol1)) ?_
      intro τ10 v2 q2 g29 hv2 hq2 hqb2 hqw2 hsol2
      have g30 := (g25.trans gS).trans (g28.trans g29)
      obtain ⟨pa, ps, pc, rfl, hps, hpr⟩ := hv2.rows
      conv => whnf
      have hqsl : qs.length = N := by rw [hqr.1, hq1]
      have hpsl : ps.length = N := by rw [hpr.1, hq2]
      have h1 : Mem τ9 τ10 := ((Mem.refl g26.ok).bump 8).trans g29
      have hqs := hqs.mono g26.ok h1
      have hqr := hqr.mono g26.ok h1
      (refine br_false (by simp only [blt_dec, ble_dec, beq_dec, ltB_eq, leB_eq, decide_eq_true_eq, decide_eq_false_iff_not, Bool.and_eq_true, Bool.or_eq_true, beq_iff_eq, bne_iff_ne, beq_eq_false_iff_ne, bne_eq_false_iff_eq]; first | done | omega) ?_; conv => whnf)
      (refine br_false (by simp only [blt_dec, ble_dec, beq_dec, ltB_eq, leB_eq, decide_eq_true_eq, decide_eq_false_iff_not, Bool.and_eq_true, Bool.or_eq_true, beq_iff_eq, bne_iff_ne, beq_eq_false_iff_ne, bne_eq_false_iff_eq]; first | done | omega) ?_; conv => whnf)
      refine loop_intro (n := 184) (fun mm ws τ => ∃ r, r ≤ N ∧ mm = N - r ∧ ws = [vi N, vi i0, vi k0, .slice qa qs.length qc, .bool true, .slice pa ps.length pc, vi r] ∧ Mem τ10 τ) N rfl ?_ ?_
      · conv => whnf
        exact ⟨0, by omega, rfl, rfl, by repeat first | exact Mem.refl g30.ok | apply Mem.bump | refine Mem.put ?_ (by (try simp only [bump_next, put_next]); omega) (by (try simp only [bump_next, put_next]); omega)⟩
      · rintro mm ws τ ⟨r, hr, rfl, rfl, g31⟩
        conv => whnf
        refine br_intro ?_ ?_ <;> intro h2 <;> simp only [blt_dec, ble_dec, beq_dec, ltB_eq, leB_eq, decide_eq_true_eq, decide_eq_false_iff_not, beq_iff_eq, bne_iff_ne, beq_eq_false_iff_ne, bne_eq_false_iff_eq] at h2
        · have hr0 : r < N := by omega
          obtain ⟨qr, qo, qsp, qcc, qro, rfl, hqh, hqi, _⟩ := hqs.idx (i := r) (by omega)
          obtain ⟨pr, po, psp, pcc, pro, rfl, hph, hpi, _⟩ := hps.idx (i := r) (by omega)
          obtain ⟨y1, y11, ⟨y1a, y1c, rfl⟩, y13⟩ := hqr.get (i := r) (by omega)
          obtain ⟨y2, y21, ⟨y2a, y2c, rfl⟩, y23⟩ := hpr.get (i := r) (by omega)
          rw [List.getElem?_eq_getElem (by omega)] at y11 y21
          injection y11 with y11
          injection y21 with y21
          have w1 : (q1.getD r []).length = N := hqw1 _ (row_mem (by omega))
          have w2 : (q2.getD r []).length = N := hqw2 _ (row_mem (by omega))
          rw [w1] at y11 y13
          rw [w2] at y21 y23
          rw [y11] at hqi
          rw [y21] at hpi
          have wq1 : Wid N q1 := wid_of hqw1
          have wq2 : Wid N q2 := wid_of hqw2
          have s1 := sol_swap hi1 hk1 rB hsol1 hsol2 hqb1 hqb2 hq1 hq2 wq1 wq2 hr0 hk1
          have s2 := sol_swap hi1 hk1 rB hsol1 hsol2 hqb1 hqb2 hq1 hq2 wq1 wq2 hr0 hi1
          rw [show sw i0 k0 k0 = i0 by unfold sw; rw [if_pos rfl]] at s1
          rw [show sw i0 k0 i0 = k0 by unfold sw; rw [if_neg hik, if_pos rfl]] at s2
          obtain ⟨z1, zo1, zs1, zc1, zr1, rfl, zh1, zi1, zt1⟩ := y13.idx (i := i0) (by rw [List.length_map]; omega)
          obtain ⟨z2, zo2, zs2, zc2, zr2, rfl, zh2, zi2, zt2⟩ := y23.idx (i := i0) (by rw [List.length_map]; omega)
          obtain ⟨_, _, _, _, _, e1, zh1', zk1, _⟩ := y13.idx (i := k0) (by rw [List.length_map]; omega)
          obtain ⟨_, _, _, _, _, e2, zh2', zk2, _⟩ := y23.idx (i := k0) (by rw [List.length_map]; omega)
          simp only [Option.some.injEq, Addr.mk.injEq] at e1 e2
          obtain ⟨rfl, rfl, rfl⟩ := e1
          obtain ⟨rfl, rfl, rfl⟩ := e2
          rw [getD_map_vb (by omega)] at zi1 zi2 zk1 zk2
          have sub : ∀ r o n n', τ10.heap r = some o → ((τ.bump n).bump n').heap r = some o := fun r o n n' h => g31.old g30.ok h
          conv => whnf
          repeat (first | (refine br_true (inR_intro (by simp only [loI, hiI]; omega)) ?_; conv => whnf) | (refine br_true (by simp only [blt_dec, ble_dec, beq_dec, ltB_eq, leB_eq, decide_eq_true_eq, decide_eq_false_iff_not, Bool.and_eq_true, Bool.or_eq_true, beq_iff_eq, bne_iff_ne, beq_eq_false_iff_ne, bne_eq_false_iff_eq]; first | done | omega) ?_; conv => whnf))
          refine ld_intro (sub _ _ _ _ hqh) ?_
          conv => whnf
          refine at_intro hqi ?_
          conv => whnf
          (refine br_false (by simp only [blt_dec, ble_dec, beq_dec, ltB_eq, leB_eq, decide_eq_true_eq, decide_eq_false_iff_not, Bool.and_eq_true, Bool.or_eq_true, beq_iff_eq, bne_iff_ne, beq_eq_false_iff_ne, bne_eq_false_iff_eq]; first | done | omega) ?_; conv => whnf)
          repeat (first | (refine br_true (inR_intro (by simp only [loI, hiI]; omega)) ?_; conv => whnf) | (refine br_true (by simp only [blt_dec, ble_dec, beq_dec, ltB_eq, leB_eq, decide_eq_true_eq, decide_eq_false_iff_not, Bool.and_eq_true, Bool.or_eq_true, beq_iff_eq, bne_iff_ne, beq_eq_false_iff_ne, bne_eq_false_iff_eq]; first | done | omega) ?_; conv => whnf))
          refine ld_intro (sub _ _ _ _ hph) ?_
          conv => whnf
          refine at_intro hpi ?_
          conv => whnf
          (refine br_false (by simp only [blt_dec, ble_dec, beq_dec, ltB_eq, leB_eq, decide_eq_true_eq, decide_eq_false_iff_not, Bool.and_eq_true, Bool.or_eq_true, beq_iff_eq, bne_iff_ne, beq_eq_false_iff_ne, bne_eq_false_iff_eq]; first | done | omega) ?_; conv => whnf)
          repeat (first | (refine br_true (inR_intro (by simp only [loI, hiI]; omega)) ?_; conv => whnf) | (refine br_true (by simp only [blt_dec, ble_dec, beq_dec, ltB_eq, leB_eq, decide_eq_true_eq, decide_eq_false_iff_not, Bool.and_eq_true, Bool.or_eq_true, beq_iff_eq, bne_iff_ne, beq_eq_false_iff_ne, bne_eq_false_iff_eq]; first | done | omega) ?_; conv => whnf))
          refine ld_intro (sub _ _ _ _ hqh) ?_
          conv => whnf
          refine at_intro hqi ?_
          conv => whnf
          repeat (first | (refine br_true (inR_intro (by simp only [loI, hiI]; omega)) ?_; conv => whnf) | (refine br_true (by simp only [blt_dec, ble_dec, beq_dec, ltB_eq, leB_eq, decide_eq_true_eq, decide_eq_false_iff_not, Bool.and_eq_true, Bool.or_eq_true, beq_iff_eq, bne_iff_ne, beq_eq_false_iff_ne, bne_eq_false_iff_eq]; first | done | omega) ?_; conv => whnf))
          refine ld_intro (sub _ _ _ _ zh1) ?_
          conv => whnf
          refine at_intro zi1 ?_
          conv => whnf
          repeat (first | (refine br_true (inR_intro (by simp only [loI, hiI]; omega)) ?_; conv => whnf) | (refine br_true (by simp only [blt_dec, ble_dec, beq_dec, ltB_eq, leB_eq, decide_eq_true_eq, decide_eq_false_iff_not, Bool.and_eq_true, Bool.or_eq_true, beq_iff_eq, bne_iff_ne, beq_eq_false_iff_ne, bne_eq_false_iff_eq]; first | done | omega) ?_; conv => whnf))
          refine ld_intro (sub _ _ _ _ hph) ?_
          conv => whnf
          refine at_intro hpi ?_
          conv => whnf
          repeat (first | (refine br_true (inR_intro (by simp only [loI, hiI]; omega)) ?_; conv => whnf) | (refine br_true (by simp only [blt_dec, ble_dec, beq_dec, ltB_eq, leB_eq, decide_eq_true_eq, decide_eq_false_iff_not, Bool.and_eq_true, Bool.or_eq_true, beq_iff_eq, bne_iff_ne, beq_eq_false_iff_ne, bne_eq_false_iff_eq]; first | done | omega) ?_; conv => whnf))
          refine ld_intro (sub _ _ _ _ zh2') ?_
          conv => whnf
          refine at_intro zk2 ?_
          conv => whnf
          have s1' : ((q1.getD r []).getD i0 0 : Nat) = (q2.getD r []).getD k0 0 := s1.symm
          have s2' : ((q1.getD r []).getD k0 0 : Nat) = (q2.getD r []).getD i0 0 := s2.symm
          refine br_false (by rw [s1', bne_self_eq_false]) ?_
          conv => whnf
          repeat (first | (refine br_true (inR_intro (by simp only [loI, hiI]; omega)) ?_; conv => whnf) | (refine br_true (by simp only [blt_dec, ble_dec, beq_dec, ltB_eq, leB_eq, decide_eq_true_eq, decide_eq_false_iff_not, Bool.and_eq_true, Bool.or_eq_true, beq_iff_eq, bne_iff_ne, beq_eq_false_iff_ne, bne_eq_false_iff_eq]; first | done | omega) ?_; conv => whnf))
          refine ld_intro (sub _ _ _ _ hqh) ?_
          conv => whnf
          refine at_intro hqi ?_
          conv => whnf
          repeat (first | (refine br_true (inR_intro (by simp only [loI, hiI]; omega)) ?_; conv => whnf) | (refine br_true (by simp only [blt_dec, ble_dec, beq_dec, ltB_eq, leB_eq, decide_eq_true_eq, decide_eq_false_iff_not, Bool.and_eq_true, Bool.or_eq_true, beq_iff_eq, bne_iff_ne, beq_eq_false_iff_ne, bne_eq_false_iff_eq]; first | done | omega) ?_; conv => whnf))
          refine ld_intro (sub _ _ _ _ zh1') ?_
          conv => whnf
          refine at_intro zk1 ?_
          conv => whnf
          repeat (first | (refine br_true (inR_intro (by simp only [loI, hiI]; omega)) ?_; conv => whnf) | (refine br_true (by simp only [blt_dec, ble_dec, beq_dec, ltB_eq, leB_eq, decide_eq_true_eq, decide_eq_false_iff_not, Bool.and_eq_true, Bool.or_eq_true, beq_iff_eq, bne_iff_ne, beq_eq_false_iff_ne, bne_eq_false_iff_eq]; first | done | omega) ?_; conv => whnf))
          refine ld_intro (sub _ _ _ _ hph) ?_
          conv => whnf
          refine at_intro hpi ?_
          conv => whnf
          repeat (first | (refine br_true (inR_intro (by simp only [loI, hiI]; omega)) ?_; conv => whnf) | (refine br_true (by simp only [blt_dec, ble_dec, beq_dec, ltB_eq, leB_eq, decide_eq_true_eq, decide_eq_false_iff_not, Bool.and_eq_true, Bool.or_eq_true, beq_iff_eq, bne_iff_ne, beq_eq_false_iff_ne, bne_eq_false_iff_eq]; first | done | omega) ?_; conv => whnf))
          refine ld_intro (sub _ _ _ _ zh2) ?_
          conv => whnf
          refine at_intro zi2 ?_
          conv => whnf
          refine br_false (by rw [s2', bne_self_eq_false]) ?_
          conv => whnf
          repeat (first | (refine br_true (inR_intro (by simp only [loI, hiI]; omega)) ?_; conv => whnf) | (refine br_true (by simp only [blt_dec, ble_dec, beq_dec, ltB_eq, leB_eq, decide_eq_true_eq, decide_eq_false_iff_not, Bool.and_eq_true, Bool.or_eq_true, beq_iff_eq, bne_iff_ne, beq_eq_false_iff_ne, bne_eq_false_iff_eq]; first | done | omega) ?_; conv => whnf))
          refine ⟨rfl, N - (r + 1), by omega, r + 1, by omega, rfl, rfl, ?_⟩
          repeat first | exact g31 | apply Mem.bump | refine Mem.put ?_ (by (try simp only [bump_next, put_next]); omega) (by (try simp only [bump_next, put_next]); omega)
        · conv => whnf
          exact kQ _ (by repeat first | exact g30.trans g31 | apply Mem.bump | refine Mem.put ?_ (by (try simp only [bump_next, put_next]); omega) (by (try simp only [bump_next, put_next]); omega))
end
end Go.Corb.A

/- The abstract machine, part 32: from a call on the abstract memory to the model's call; arguments that are read. Conditions: none. -/
set_option linter.unusedVariables false
set_option linter.unusedSimpArgs false
namespace Go.Corb
open Go Go.RowKit

abbrev Imp := List (Option (List Value × RI))
def impHeap (L : Imp) : AS := { heap := fun r => (L[r]?.join).map fun p => .cells p.1 true, next := L.length, prot := fun _ => false }
def impMap (L : Imp) : RMap := fun r => (L[r]?.join).map (·.2)
def EntOK (W : World) (ρ : RMap) (p : List Value × RI) : Prop :=
  ∃ cs e fr, W.heap[p.2.blk]? = some (.cells cs e fr) ∧ cs.size = p.2.n ∧ p.2.base + p.1.length ≤ p.2.n ∧ ∀ j, j < p.1.length → VR ρ (p.1.getD j undef) (cs.getD (p.2.base + j) undef)

theorem imp_ok (L : Imp) : Ok (impHeap L) where
  wf := fun r hr => by
    have hr : L.length ≤ r := hr
    simp [impHeap, List.getElem?_eq_none hr]
  prot := fun _ _ => rfl

theorem imp_high (L : Imp) (r : Nat) (hr : (impHeap L).next ≤ r) : impMap L r = none := by
  have hr : L.length ≤ r := hr
  simp [impMap, List.getElem?_eq_none hr]

theorem imp_rel {W : World} {L : Imp} (h : ∀ (r : Nat) (p : List Value × RI), L[r]?.join = some p → EntOK W (impMap L) p) : Rel W.heap.size W (impMap L) (impHeap L) W where
  below := Below.refl _ _
  hB := Nat.le_refl _
  objs := fun r o hr => by
    simp only [impHeap] at hr
    obtain ⟨p, hp, rfl⟩ := Option.map_eq_some_iff.1 hr
    obtain ⟨cs, e, fr, h1, h2, h3, h4⟩ := h r p hp
    exact ⟨p.2, by simp [impMap, hp], cs, e, fr, h1, h2, h3, h4, fun h => (nomatch h)⟩
  sep := fun r q o u i k hr _ _ _ hro _ => by
    simp only [impHeap] at hr
    obtain ⟨p, hp, rfl⟩ := Option.map_eq_some_iff.1 hr
    cases hro
  lt := fun r i hr => by
    simp only [impMap] at hr
    obtain ⟨p, hp, rfl⟩ := Option.map_eq_some_iff.1 hr
    obtain ⟨cs, e, fr, h1, _⟩ := h r p hp
    exact (Array.getElem?_eq_some_iff.1 h1).1

section
variable {P : Program}
theorem law_calls (hm : P.follows .mixedOrders = true) {f : FuncId} {args : List Value} {args' : Array Value} {σ0 σ' : AS} {ρ0 : RMap} {W : World} {b : Bool}
    (h : ACall P (fun _ _ _ _ _ => False) f args σ0 (.bool b) σ') (hwf : σ0.wf) (hR : Rel W.heap.size W ρ0 σ0 W) (hρ : ∀ r, σ0.next ≤ r → ρ0 r = none)
    (hlen : args.length = args'.size) (hargs : ∀ j, VR ρ0 (args.getD j undef) (args'.getD j undef)) {fn : Func} (hf : P.funcs[f]? = some fn) (hb : fn.body.isSome = true) (hn : (fn.name == "runtime.NumGoroutine") = false) :
    Calls P f args' W fun e w' => e = .returned (.bool b) ∧ Below W.heap.size W w' := by
  have hC0 : CProp (fun _ _ _ _ _ => False : CallRel) := ⟨fun h _ => h.elim, fun h _ _ _ _ => h.elim⟩
  have hS0 : CSound P (fun _ _ _ _ _ => False : CallRel) := fun h => h.elim
  rcases acall_sound hm hC0 hS0 h hwf W.heap.size W ρ0 W args' hR hρ hlen hargs with ⟨_, hc⟩ | ⟨v', w', ρ', hv, _⟩
  · refine hc.mono fun e w' ⟨v', ρ', he, ha⟩ => ?_
    have := ha.val.bool_inv
    subst this
    exact ⟨he, ha.rel.below⟩
  · obtain ⟨c, hb⟩ := Option.isSome_iff_exists.1 hb
    have hn' : ¬ fn.name = "runtime.NumGoroutine" := by simpa using hn
    have he2 : (callFunc f args').run P W = .ok (.enter f args') W := by simp [callFunc, hf, hn', hb]
    rw [he2] at hv
    cases hv
end

/-- v is a slice of n elements, whose cells are c. -/
def RowAt (σ : AS) (v : Value) (n : Nat) (c : List Value) : Prop :=
  ∃ a cap, v = .slice a n cap ∧ (a = none → cap = 0 ∧ n = 0 ∧ c = []) ∧ (∀ p, a = some p → c ≠ [] → ∃ d ro, σ.heap p.block = some (.cells d ro) ∧ (d.drop p.off).take c.length = c)
theorem RowAt.sl {σ : AS} {v : Value} {n : Nat} {c : List Value} (h : RowAt σ v n c) (hn : n = c.length) : SlAt σ v c := by
  subst hn
  obtain ⟨a, cap, rfl, h1, h2⟩ := h
  exact ⟨a, cap, rfl, fun h => ⟨(h1 h).1, (h1 h).2.2⟩, h2⟩

/-- What an argument that is a slice of plain values comes to. -/
def ArgRow (W : World) (r : Nat) (v' : Value) (n : Nat) (c : List Value) (v : Value) (e : Option (List Value × RI)) : Prop :=
  (∀ ρ : RMap, (∀ p, e = some p → ρ r = some p.2) → VR ρ v v') ∧ (∀ ρ p, e = some p → EntOK W ρ p) ∧ ∀ σ : AS, (∀ p, e = some p → σ.heap r = some (.cells p.1 true)) → RowAt σ v n c

theorem cell_add {W : World} {a : Addr} {i : Nat} {z : Value} (h : W.cell? (a.add i) = some z) : ∃ cs e fr, W.heap[a.block]? = some (.cells cs e fr) ∧ cs[a.off + i]? = some z := by
  unfold World.cell? at h
  have hb : (a.add i).block = a.block := by unfold Addr.add; split <;> rfl
  have ho : (a.add i).off = a.off + i := by
    unfold Addr.add; split
    · rename_i h; subst h; rfl
    · rfl
  rw [hb, ho] at h
  split at h
  · rename_i c t fr hh
    split at h
    · cases h
    · exact ⟨_, _, _, hh, h⟩
  · cases h

theorem cell_spot {W : World} {a : Addr} {z : Value} (h : W.cell? (a.add 0) = some z) : a.spot = none := by
  unfold World.cell? at h
  have hb : a.add 0 = a := rfl
  rw [hb] at h
  split at h
  · split at h
    · cases h
    · rename_i hs; simpa using hs
  · cases h

/-- zs: all cells that it has room for; s: cells of an element. -/
theorem arg_row {W : World} (r : Nat) {v' : Value} {s n : Nat} (hs : 0 < s) {zs : List Value}
    (h : (v' = .slice none 0 0 ∧ n = 0 ∧ zs = []) ∨ ∃ a cap, v' = .slice (some a) n cap ∧ n ≤ cap ∧ zs.length = cap * s ∧ ∀ i, i < zs.length → W.cell? (a.add i) = some (zs.getD i undef))
    (hsc : ∀ z ∈ zs, scalarOK z = true) : ∃ v e, ArgRow W r v' n (zs.take (n * s)) v e := by
  rcases h with ⟨rfl, rfl, rfl⟩ | ⟨a, cap, rfl, hn, hz, hc⟩
  · exact ⟨.slice none 0 0, none, fun ρ _ => .sc _ rfl, fun ρ p h => (nomatch h), fun σ _ => ⟨none, 0, rfl, fun _ => ⟨rfl, rfl, by simp⟩, fun p h => (nomatch h)⟩⟩
  · by_cases h0 : cap = 0
    · subst h0
      obtain rfl : n = 0 := by omega
      have : zs = [] := List.eq_nil_of_length_eq_zero (by omega)
      subst this
      exact ⟨.slice (some ⟨r, 0, some 0⟩) 0 0, none, fun ρ _ => .wild _ _ _, fun ρ p h => (nomatch h), fun σ _ => ⟨_, _, rfl, fun h => (nomatch h), fun p _ h => absurd (by simp) h⟩⟩
    · have hz0 : 0 < zs.length := by rw [hz]; exact Nat.mul_pos (by omega) hs
      obtain ⟨cs, e, fr, hb, _⟩ := cell_add (hc 0 hz0)
      have hsp := cell_spot (hc 0 hz0)
      have hin : ∀ i, i < zs.length → cs[a.off + i]? = some (zs.getD i undef) := by
        intro i hi
        obtain ⟨cs2, e2, fr2, hb2, hcc⟩ := cell_add (hc i hi)
        rw [hb] at hb2
        simp only [Option.some.injEq, Obj.cells.injEq] at hb2
        obtain ⟨rfl, _, _⟩ := hb2
        exact hcc
      have hlast := (Array.getElem?_eq_some_iff.1 (hin (zs.length - 1) (by omega))).1
      refine ⟨.slice (some ⟨r, 0, none⟩) n cap, some (zs, ⟨a.block, a.off, cs.size⟩), fun ρ hρ => ?_, fun ρ p hp => ?_, fun σ hσ => ⟨_, _, rfl, fun h => (nomatch h), fun p hp _ => ?_⟩⟩
      · have := hρ _ rfl
        obtain ⟨ab, ao, asp⟩ := a
        simp only at hsp
        subst hsp
        exact VR.sl r 0 n cap _ this
      · injection hp with hp; subst hp
        refine ⟨cs, e, fr, hb, rfl, by simp only; omega, fun j hj => ?_⟩
        simp only at hj ⊢
        have e1 : cs.getD (a.off + j) undef = zs.getD j undef := by rw [Array.getD_eq_getD_getElem?, hin j hj]; rfl
        rw [e1]
        refine .sc _ (hsc _ ?_)
        rw [List.getD_eq_getElem?_getD, List.getElem?_eq_getElem hj]
        exact List.getElem_mem hj
      · injection hp with hp; subst hp
        exact ⟨zs, true, hσ _ rfl, by rw [List.drop_zero, List.length_take, Nat.min_eq_left (by rw [hz]; exact Nat.mul_le_mul_right _ hn)]⟩
end Go.Corb

/- The abstract machine, part 33: slices of numbers among a law's arguments. Conditions: none. -/
set_option linter.unusedVariables false
set_option linter.unusedSimpArgs false
namespace Go.Corb
open Go Go.RowKit Go.ChangeShapes Go.WideShapes

/-- A slice of numbers that a law is handed: what it reads as, and how long it is. -/
theorem slice_ints {H : Type} {enc : TypeId × Value → H} {P : Program} {W : World} {base : Nat} {held : Bool} {t e : TypeId} {k : IntKind} {a : Option Addr} {len cap : Nat} {d : DataW H} {ps : List MemPlace} {ts : List TypeId} {ds : List (DataW H)} {j B : Nat}
    (hsz : (DataW.weightsEach P ts ds).all (· ≤ reachBytes) = true) (ht : ts[j]? = some t) (hd : ds[j]? = some d) (hu : P.underlying t = some (.slice e)) (he : P.underlying e = some (.int k)) (hc : P.cellsOf e = 1) (hB : P.bytesOf e = B) (hp : 0 < B)
    (h : DataW.Trod enc P W base (fun _ => true) held t (.slice a len cap) d ps) :
    ∃ zs : List Int, ((Value.slice a len cap = .slice none 0 0 ∧ len = 0 ∧ zs = []) ∨ ∃ a' cap', Value.slice a len cap = .slice (some a') len cap' ∧ len ≤ cap' ∧ zs.length = cap' ∧ (∀ i, i < zs.length → W.cell? (a'.add i) = some (.int k (zs.getD i 0))) ∧ ∀ x ∈ zs, (Lit.int k x).wf = true) ∧ len ≤ 140737488351232 := by
  obtain ⟨fuel, hf⟩ := h
  rcases open_ints hu he hc hf with ⟨hcs, _⟩ | ⟨x, l, c, zs, hcs, _, hl, _, hz, hx, hcell, hwf⟩
  · simp [Value.cells] at hcs
    obtain ⟨rfl, rfl, rfl⟩ := hcs
    exact ⟨[], .inl ⟨rfl, rfl, rfl⟩, by omega⟩
  · simp [Value.cells] at hcs
    obtain ⟨rfl, rfl, rfl⟩ := hcs
    obtain ⟨hx, _⟩ := Prod.mk.inj hx
    subst hx
    have z := sized_slice hsz ht hd hu
    have hz : zs.length = cap := by simpa using hz
    rw [hB] at z
    simp only [lits, List.length_map, List.length_take, List.length_drop] at z
    refine ⟨zs, .inr ⟨x, cap, rfl, hl, hz, hcell, hwf⟩, ?_⟩
    have h1 : min len zs.length + (zs.length - len) = zs.length := by omega
    rw [h1] at z
    have h2 : zs.length ≤ zs.length * B := Nat.le_mul_of_pos_right _ hp
    have h3 : reachBytes = 140737488351232 := rfl
    omega
end Go.Corb
