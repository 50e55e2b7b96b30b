/- YtlpkklcjdolaiaaQCoderKnown6: the law CoderKnown, and what it rests on: part of our own texts, merged. Conditions: none. -/
import Derived.Test.YtlpkklcjdolaiaaQCoderKnown5
/- The law CoderDeltas over the abstract memory. Conditions: none. -/
set_option linter.unusedVariables false
set_option linter.unusedSimpArgs false
namespace Go.Corb.A
open Go Go.RowKit Go.Proofs Go.Corb Go.IntWalk

theorem _root_.Go.Corb.copy_in {σ : AS} {r o dl dcap : Nat} {sp : Option Nat} {c vs : List Value} {x : Value} (hr : σ.heap r = some (.cells c false)) (hp : σ.prot r = false) (hx : SlAt σ x vs) (h1 : vs.all (·.oneCell') = true) (hv : vs ≠ []) (hl : vs.length ≤ dl) (hc : o + vs.length ≤ c.length) :
    rCopy σ 1 (.slice (some ⟨r, o, sp⟩) dl dcap) x = some (.int .i64 (vs.length : Nat), σ.put r (.cells (wr c o vs) false)) := by
  obtain ⟨h2, hs⟩ := hx.src h1
  have hn : 0 < vs.length := List.length_pos_iff.2 hv
  simp only [rCopy, h2, Option.bind_some, Nat.min_eq_left hl, hs]
  rw [if_neg (by omega)]
  simp only [aPutAt, hr, Nat.zero_mul, Nat.add_zero]
  rw [if_pos ⟨hp, hc⟩]
  rfl
theorem delTo_row {idx : Nat} {old new : List Nat} {k i : Nat} (h : i < k) : rowA (delTo idx old new k) i = fillTo (delF idx old new i) 32 32 := by
  have h' : i < (List.range k).length := by simpa using h
  rw [delTo, rowA_map h', List.getD_eq_getElem?_getD, List.getElem?_range h]
  rfl
theorem vbs_one (l : List Nat) : (l.map vb).all (·.oneCell') = true := by rw [List.all_map, List.all_eq_true]; intros; rfl
theorem wr_patch {s x : List Nat} {o : Nat} (h : o + x.length ≤ s.length) : wr (s.map vb) o (x.map vb) = (patch s x o).map vb := by
  simp only [wr, patch, List.map_append, List.map_take, List.map_drop, List.length_map]

section
set_option pp.deepTerms.threshold 8

theorem coderDeltas (seed index now : Int) {σ : AS} (hσ : Ok σ) {Q : Value → AS → Prop} (k : ∀ σ', Mem σ σ' → Q (.bool true) σ') :
    ∃ v σ', ACall Try.prog PartsBase 5 [.int .i64 seed, .int .i64 index, .int .i64 now] σ v σ' ∧ Q v σ' := by
  refine call_rwp acall cf5 rfl hσ.wf ?_
  conv => whnf
  refine coderNew acall (Mem.ok (σ := σ) (by repeat first | exact Mem.refl hσ | apply Mem.bump | refine Mem.put ?_ (by (try simp only [bump_next, put_next]); omega) (by (try simp only [bump_next, put_next]); omega))) ?_
  intro τ1 rc g1 hrc hc
  have g1' : Mem σ τ1 := Mem.trans (by repeat first | exact Mem.refl hσ | apply Mem.bump | refine Mem.put ?_ (by (try simp only [bump_next, put_next]); omega) (by (try simp only [bump_next, put_next]); omega)) g1
  have ok1 := g1'.ok
  conv => whnf
  refine known5 (Mem.ok (σ := τ1) (by repeat first | exact Mem.refl ok1 | apply Mem.bump | refine Mem.put ?_ (by (try simp only [bump_next, put_next]); omega) (by (try simp only [bump_next, put_next]); omega))) ?_
  intro τ2 g2
  have g2' : Mem τ1 τ2 := Mem.trans (by repeat first | exact Mem.refl ok1 | apply Mem.bump | refine Mem.put ?_ (by (try simp only [bump_next, put_next]); omega) (by (try simp only [bump_next, put_next]); omega)) g2
  have ok2 := g2'.ok
  have hc := hc.mono ok1 g2'
  conv => whnf
  refine pick acall (m := 4) (by omega) (by omega) (Mem.ok (σ := τ2) (by repeat first | exact Mem.refl ok2 | apply Mem.bump | refine Mem.put ?_ (by (try simp only [bump_next, put_next]); omega) (by (try simp only [bump_next, put_next]); omega))) ?_
  intro τ3 g3
  have g3' : Mem τ2 τ3 := Mem.trans (by repeat first | exact Mem.refl ok2 | apply Mem.bump | refine Mem.put ?_ (by (try simp only [bump_next, put_next]); omega) (by (try simp only [bump_next, put_next]); omega)) g3
  have ok3 := g3'.ok
  have hc := hc.mono ok2 g3'
  obtain ⟨idx, hidx, hidx'⟩ := pickN (x := index) (m := 4) (by omega)
  rw [hidx]
  have hi4 : idx < 4 := by omega
  conv => whnf
  refine bytes acall (n := 128) (by decide) (by decide) (Mem.ok (σ := τ3) (by repeat first | exact Mem.refl ok3 | apply Mem.bump | refine Mem.put ?_ (by (try simp only [bump_next, put_next]); omega) (by (try simp only [bump_next, put_next]); omega))) ?_
  intro τ4 rs s g4 hrs sl sb hs
  have g4' : Mem τ3 τ4 := Mem.trans (by repeat first | exact Mem.refl ok3 | apply Mem.bump | refine Mem.put ?_ (by (try simp only [bump_next, put_next]); omega) (by (try simp only [bump_next, put_next]); omega)) g4
  have ok4 := g4'.ok
  have hc := hc.mono ok3 g4'
  conv => whnf
  refine encode (σ := τ4.bump 8) (Mem.ok (σ := τ4) (by repeat first | exact Mem.refl ok4 | apply Mem.bump | refine Mem.put ?_ (by (try simp only [bump_next, put_next]); omega) (by (try simp only [bump_next, put_next]); omega))) (hc.mono ok4 (by repeat first | exact Mem.refl ok4 | apply Mem.bump | refine Mem.put ?_ (by (try simp only [bump_next, put_next]); omega) (by (try simp only [bump_next, put_next]); omega))) (stripe_of sl sb (by exact hs) (.inl rfl)) ?_
  intro τ5 vp g5 hP
  have g5' : Mem τ4 τ5 := Mem.trans (by repeat first | exact Mem.refl ok4 | apply Mem.bump | refine Mem.put ?_ (by (try simp only [bump_next, put_next]); omega) (by (try simp only [bump_next, put_next]); omega)) g5
  have ok5 := g5'.ok
  have hc := hc.mono ok4 g5'
  have hs := g5'.old ok4 hs
  obtain ⟨Pr, Po, Psp, Pcap, Pc, Pro, rfl, Ph, Pli⟩ := mat_open hP (encM_len _) (by decide)
  conv => whnf
  refine bytes acall (n := 32) (by decide) (by decide) (Mem.ok (σ := τ5) (by repeat first | exact Mem.refl ok5 | apply Mem.bump | refine Mem.put ?_ (by (try simp only [bump_next, put_next]); omega) (by (try simp only [bump_next, put_next]); omega))) ?_
  intro τ6 rx x g6 hrx xl xb hx
  have g6' : Mem τ5 τ6 := Mem.trans (by repeat first | exact Mem.refl ok5 | apply Mem.bump | refine Mem.put ?_ (by (try simp only [bump_next, put_next]); omega) (by (try simp only [bump_next, put_next]); omega)) g6
  have ok6 := g6'.ok
  have hc := hc.mono ok5 g6'
  have hs := g6'.old ok5 hs
  have g06 := ((g1'.trans g2').trans (g3'.trans g4')).trans (g5'.trans g6')
  clear g1 g2 g3 g4 g5 g6 hrc hrs hrx
  conv => whnf
  repeat (first | (refine br_true (inR_intro (by simp only [loI, hiI]; omega)) ?_; conv => whnf) | (refine br_true (by simp only [blt_dec, ble_dec, beq_dec, ltB_eq, leB_eq, decide_eq_true_eq, decide_eq_false_iff_not, Bool.and_eq_true, Bool.or_eq_true, beq_iff_eq, bne_iff_ne, beq_eq_false_iff_ne, bne_eq_false_iff_eq]; first | done | omega) ?_; conv => whnf))
  refine delta (σ := τ6.bump 16) acall (old := (s.drop (idx * 32)).take 32) (new := x) (Mem.ok (σ := τ6) (by repeat first | exact Mem.refl ok6 | apply Mem.bump | refine Mem.put ?_ (by (try simp only [bump_next, put_next]); omega) (by (try simp only [bump_next, put_next]); omega))) (hc.mono ok6 (by repeat first | exact Mem.refl ok6 | apply Mem.bump | refine Mem.put ?_ (by (try simp only [bump_next, put_next]); omega) (by (try simp only [bump_next, put_next]); omega))) hi4 ?_ ?_ (by rw [List.length_take, List.length_drop]; omega) xl (fun v hv => sb v (List.mem_of_mem_drop (List.mem_of_mem_take hv))) xb ?_
  · have hl32 : ((s.drop (idx * 32)).take 32).length = 32 := by rw [List.length_take, List.length_drop]; omega
    refine SlAt.mk (by exact hs) ?_ ?_
    · show (idx + 1) * 32 - idx * 32 = _
      rw [List.length_map, hl32]; omega
    · show List.take _ (List.drop (sOff 128 (idx * 32) 0 1) _) = _
      rw [sOff, if_neg (by omega), show 0 + idx * 32 * 1 = idx * 32 by omega, List.length_map, hl32, ← List.map_drop, ← List.map_take]
  · exact SlAt.mk (by exact hx) (by rw [List.length_map, xl]) (by rw [List.drop_zero, List.take_length])
  intro τ7 vd g7 hD
  have g7' : Mem τ6 τ7 := Mem.trans (by repeat first | exact Mem.refl ok6 | apply Mem.bump | refine Mem.put ?_ (by (try simp only [bump_next, put_next]); omega) (by (try simp only [bump_next, put_next]); omega)) g7
  have ok7 := g7'.ok
  have hc := hc.mono ok6 g7'
  have hs := g7'.old ok6 hs
  have hx := g7'.old ok6 hx
  obtain ⟨Dr, Do, Dsp, Dcap, Dc, Dro, rfl, Dh, Dli⟩ := mat_open hD (delTo_len _ _ _ _) (by decide)
  conv => whnf
  refine ⟨_, _, app_new (olds := []) (vs := s.map vb) (SlAt.empty rfl) (fun r o sp len cap e => by
    simp only [Value.slice.injEq, Option.some.injEq, Addr.mk.injEq] at e
    obtain ⟨⟨_, _, rfl⟩, _, rfl⟩ := e
    exact ⟨rfl, by rw [List.length_map, sl]; decide⟩) rfl (SlAt.mk ((put_heap_ne (by have := ok7.lt hs; omega)).trans hs) (by rw [List.length_map, sl]) (by rw [List.drop_zero, List.take_length])) (by rw [List.all_map]; simp [vb]; intros; rfl) (by intro e; rw [List.map_eq_nil_iff] at e; rw [e] at sl; cases sl) (by rw [List.length_map, sl]; decide), ?_⟩
  rw [List.nil_append, List.length_nil, List.length_map, sl]
  conv => whnf
  repeat (first | (refine br_true (inR_intro (by simp only [loI, hiI]; omega)) ?_; conv => whnf) | (refine br_true (by simp only [blt_dec, ble_dec, beq_dec, ltB_eq, leB_eq, decide_eq_true_eq, decide_eq_false_iff_not, Bool.and_eq_true, Bool.or_eq_true, beq_iff_eq, bne_iff_ne, beq_eq_false_iff_ne, bne_eq_false_iff_eq]; first | done | omega) ?_; conv => whnf))
  refine ⟨⟨by decide, rfl, Nat.le_refl _⟩, ?_⟩
  conv => whnf
  repeat (first | (refine br_true (inR_intro (by simp only [loI, hiI]; omega)) ?_; conv => whnf) | (refine br_true (by simp only [blt_dec, ble_dec, beq_dec, ltB_eq, leB_eq, decide_eq_true_eq, decide_eq_false_iff_not, Bool.and_eq_true, Bool.or_eq_true, beq_iff_eq, bne_iff_ne, beq_eq_false_iff_ne, bne_eq_false_iff_eq]; first | done | omega) ?_; conv => whnf))
  have hx7 : (((((τ7.bump 4).put (τ7.next + 0) (.cells [] false)).put (τ7.next + 2) (.cells (s.map vb) false)).bump 6)).heap rx = some (.cells (x.map vb) false) := by
    rw [bump_heap, put_heap_ne (by have := ok7.lt hx; omega), put_heap_ne (by have := ok7.lt hx; omega)]; exact hx
  refine ⟨_, _, copy_in (c := s.map vb) (vs := x.map vb) (by rw [bump_heap, put_heap_eq]) (Mem.noprot (σ := τ7) ok7 (by repeat first | exact Mem.refl ok7 | apply Mem.bump | refine Mem.put ?_ (by (try simp only [bump_next, put_next]); omega) (by (try simp only [bump_next, put_next]); omega)) (by omega)) (SlAt.mk hx7 (by rw [List.length_map, xl]) (by rw [List.drop_zero, List.take_length])) (vbs_one _) (by intro e; rw [List.map_eq_nil_iff] at e; rw [e] at xl; cases xl) ?_ ?_, ?_⟩
  · rw [List.length_map, xl]
    show 32 ≤ 128 - idx * 32
    omega
  · rw [List.length_map, List.length_map, xl, sl]
    show 0 + idx * 32 * 1 + 32 ≤ 128
    omega
  have tl : (patch s x (idx * 32)).length = 128 := by rw [patch_len (by omega)]; exact sl
  have tb := patch_bytes (o := idx * 32) sb xb
  rw [show 0 + idx * 32 * 1 = idx * 32 by omega, wr_patch (by omega)]
  conv => whnf
  refine encode (l := patch s x (idx * 32)) (Mem.ok (σ := τ7) (by repeat first | exact Mem.refl ok7 | apply Mem.bump | refine Mem.put ?_ (by (try simp only [bump_next, put_next]); omega) (by (try simp only [bump_next, put_next]); omega))) (hc.mono ok7 (by repeat first | exact Mem.refl ok7 | apply Mem.bump | refine Mem.put ?_ (by (try simp only [bump_next, put_next]); omega) (by (try simp only [bump_next, put_next]); omega))) (stripe_of tl tb (by rw [bump_heap]; exact put_heap_eq _ _ _) (.inr rfl)) ?_
  intro τ8 vt g8 hT
  have g8' : Mem τ7 τ8 := Mem.trans (by repeat first | exact Mem.refl ok7 | apply Mem.bump | refine Mem.put ?_ (by (try simp only [bump_next, put_next]); omega) (by (try simp only [bump_next, put_next]); omega)) g8
  have ok8 := g8'.ok
  obtain ⟨Tr, To, Tsp, Tcap, Tc, Tro, rfl, Th, Tli⟩ := mat_open hT (encM_len _) (by decide)
  have g68 := g6'.trans (g7'.trans g8')
  have Ph := g68.old ok5 Ph
  have Dh := g8'.old ok7 Dh
  have gF := g06.trans (g7'.trans g8')
  clear g7 g8 hP hD hT hx hs hc hx7
  conv => whnf
  refine loop_intro (n := 157) (fun mm ws τ => ∃ (i : Nat), i ≤ 6 ∧ mm = 6 - i ∧ ws = [.slice (some ⟨Pr, Po, Psp⟩) 6 Pcap, .slice (some ⟨Dr, Do, Dsp⟩) 2 Dcap, .slice (some ⟨Tr, To, Tsp⟩) 6 Tcap, vi 6, vi i] ∧ Mem τ8 τ) 6 rfl ?_ ?_
  · conv => whnf
    exact ⟨0, by omega, rfl, rfl, by repeat first | exact Mem.refl ok8 | apply Mem.bump | refine Mem.put ?_ (by (try simp only [bump_next, put_next]); omega) (by (try simp only [bump_next, put_next]); omega)⟩
  rintro mm ws τ9 ⟨i, hi, rfl, rfl, g9⟩
  conv => whnf
  refine br_intro ?_ ?_ <;> intro h3 <;> simp only [blt_dec, ble_dec, beq_dec, ltB_eq, leB_eq, decide_eq_true_eq, decide_eq_false_iff_not, beq_iff_eq, bne_iff_ne, beq_eq_false_iff_ne, bne_eq_false_iff_eq] at h3
  · have hi0 : i < 6 := by omega
    obtain ⟨xP, yP, zP⟩ := Pli i hi0
    obtain ⟨rP, oP, pP, cP, eP, roP, rfl, hP, aP, _⟩ := row_open zP (rowA_enc_len sl hi0) (by decide)
    obtain ⟨xT, yT, zT⟩ := Tli i hi0
    obtain ⟨rT, oT, pT, cT, eT, roT, rfl, hT, aT, _⟩ := row_open zT (rowA_enc_len tl hi0) (by decide)
    conv => whnf
    repeat (first | (refine br_true (inR_intro (by simp only [loI, hiI]; omega)) ?_; conv => whnf) | (refine br_true (by simp only [blt_dec, ble_dec, beq_dec, ltB_eq, leB_eq, decide_eq_true_eq, decide_eq_false_iff_not, Bool.and_eq_true, Bool.or_eq_true, beq_iff_eq, bne_iff_ne, beq_eq_false_iff_ne, bne_eq_false_iff_eq]; first | done | omega) ?_; conv => whnf))
    refine ld_intro (g9.old ok8 Ph) ?_
    conv => whnf
    refine at_intro (yP) ?_
    conv => whnf
    repeat (first | (refine br_true (inR_intro (by simp only [loI, hiI]; omega)) ?_; conv => whnf) | (refine br_true (by simp only [blt_dec, ble_dec, beq_dec, ltB_eq, leB_eq, decide_eq_true_eq, decide_eq_false_iff_not, Bool.and_eq_true, Bool.or_eq_true, beq_iff_eq, bne_iff_ne, beq_eq_false_iff_ne, bne_eq_false_iff_eq]; first | done | omega) ?_; conv => whnf))
    refine ld_intro (g9.old ok8 Th) ?_
    conv => whnf
    refine at_intro (yT) ?_
    conv => whnf
    repeat (first | (refine br_true (inR_intro (by simp only [loI, hiI]; omega)) ?_; conv => whnf) | (refine br_true (by simp only [blt_dec, ble_dec, beq_dec, ltB_eq, leB_eq, decide_eq_true_eq, decide_eq_false_iff_not, Bool.and_eq_true, Bool.or_eq_true, beq_iff_eq, bne_iff_ne, beq_eq_false_iff_ne, bne_eq_false_iff_eq]; first | done | omega) ?_; conv => whnf))
    exact ⟨rfl, 6 - (i + 1), by omega, i + 1, by omega, rfl, rfl, by repeat first | exact g9 | apply Mem.bump | refine Mem.put ?_ (by (try simp only [bump_next, put_next]); omega) (by (try simp only [bump_next, put_next]); omega)⟩
  conv => whnf
  refine loop_intro (n := 157) (fun mm ws τ => ∃ (i : Nat), i ≤ 2 ∧ mm = 2 - i ∧ ws = [.slice (some ⟨Pr, Po, Psp⟩) 6 Pcap, .slice (some ⟨Dr, Do, Dsp⟩) 2 Dcap, .slice (some ⟨Tr, To, Tsp⟩) 6 Tcap, vi i] ∧ Mem τ8 τ) 2 rfl ?_ ?_
  · conv => whnf
    exact ⟨0, by omega, rfl, rfl, by repeat first | exact g9 | apply Mem.bump | refine Mem.put ?_ (by (try simp only [bump_next, put_next]); omega) (by (try simp only [bump_next, put_next]); omega)⟩
  rintro mm ws τ10 ⟨i, hi, rfl, rfl, g10⟩
  conv => whnf
  refine br_intro ?_ ?_ <;> intro h4 <;> simp only [blt_dec, ble_dec, beq_dec, ltB_eq, leB_eq, decide_eq_true_eq, decide_eq_false_iff_not, beq_iff_eq, bne_iff_ne, beq_eq_false_iff_ne, bne_eq_false_iff_eq] at h4
  · have hi0 : i < 2 := by omega
    have hi6 : 4 + i < 6 := by omega
    obtain ⟨xP, yP, zP⟩ := Pli (4 + i) hi6
    obtain ⟨rP, oP, pP, cP, eP, roP, rfl, hP, aP, _⟩ := row_open zP (rowA_enc_len sl hi6) (by decide)
    obtain ⟨xT, yT, zT⟩ := Tli (4 + i) hi6
    obtain ⟨rT, oT, pT, cT, eT, roT, rfl, hT, aT, _⟩ := row_open zT (rowA_enc_len tl hi6) (by decide)
    obtain ⟨xD, yD, zD⟩ := Dli i hi0
    obtain ⟨rD, oD, pD, cD, eD, roD, rfl, hD, aD, _⟩ := row_open zD (by rw [delTo_row hi0, fillTo_len]) (by decide)
    conv => whnf
    repeat (first | (refine br_true (inR_intro (by simp only [loI, hiI]; omega)) ?_; conv => whnf) | (refine br_true (by simp only [blt_dec, ble_dec, beq_dec, ltB_eq, leB_eq, decide_eq_true_eq, decide_eq_false_iff_not, Bool.and_eq_true, Bool.or_eq_true, beq_iff_eq, bne_iff_ne, beq_eq_false_iff_ne, bne_eq_false_iff_eq]; first | done | omega) ?_; conv => whnf))
    refine ld_intro (g10.old ok8 Dh) ?_
    conv => whnf
    refine at_intro (yD) ?_
    conv => whnf
    repeat (first | (refine br_true (inR_intro (by simp only [loI, hiI]; omega)) ?_; conv => whnf) | (refine br_true (by simp only [blt_dec, ble_dec, beq_dec, ltB_eq, leB_eq, decide_eq_true_eq, decide_eq_false_iff_not, Bool.and_eq_true, Bool.or_eq_true, beq_iff_eq, bne_iff_ne, beq_eq_false_iff_ne, bne_eq_false_iff_eq]; first | done | omega) ?_; conv => whnf))
    refine ld_intro (g10.old ok8 Dh) ?_
    conv => whnf
    refine at_intro (yD) ?_
    conv => whnf
    have hP := g68.old ok5 hP
    have hD := g8'.old ok7 hD
    refine loop_intro (n := 157) (fun mm ws τ => ∃ (j : Nat), j ≤ 32 ∧ mm = 32 - j ∧ ws = [.slice (some ⟨Pr, Po, Psp⟩) 6 Pcap, .slice (some ⟨Dr, Do, Dsp⟩) 2 Dcap, .slice (some ⟨Tr, To, Tsp⟩) 6 Tcap, vi i, vi 32, vi j] ∧ Mem τ8 τ) 32 rfl ?_ ?_
    · conv => whnf
      exact ⟨0, by omega, rfl, rfl, by repeat first | exact g10 | apply Mem.bump | refine Mem.put ?_ (by (try simp only [bump_next, put_next]); omega) (by (try simp only [bump_next, put_next]); omega)⟩
    rintro mm ws τ11 ⟨j, hj, rfl, rfl, g11⟩
    conv => whnf
    refine br_intro ?_ ?_ <;> intro h5 <;> simp only [blt_dec, ble_dec, beq_dec, ltB_eq, leB_eq, decide_eq_true_eq, decide_eq_false_iff_not, beq_iff_eq, bne_iff_ne, beq_eq_false_iff_ne, bne_eq_false_iff_eq] at h5
    · have hj0 : j < 32 := by omega
      conv => whnf
      repeat (first | (refine br_true (inR_intro (by simp only [loI, hiI]; omega)) ?_; conv => whnf) | (refine br_true (by simp only [blt_dec, ble_dec, beq_dec, ltB_eq, leB_eq, decide_eq_true_eq, decide_eq_false_iff_not, Bool.and_eq_true, Bool.or_eq_true, beq_iff_eq, bne_iff_ne, beq_eq_false_iff_ne, bne_eq_false_iff_eq]; first | done | omega) ?_; conv => whnf))
      refine ld_intro (g11.old ok8 Ph) ?_
      conv => whnf
      refine at_intro (yP) ?_
      conv => whnf
      repeat (first | (refine br_true (inR_intro (by simp only [loI, hiI]; omega)) ?_; conv => whnf) | (refine br_true (by simp only [blt_dec, ble_dec, beq_dec, ltB_eq, leB_eq, decide_eq_true_eq, decide_eq_false_iff_not, Bool.and_eq_true, Bool.or_eq_true, beq_iff_eq, bne_iff_ne, beq_eq_false_iff_ne, bne_eq_false_iff_eq]; first | done | omega) ?_; conv => whnf))
      refine ld_intro (g11.old ok8 hP) ?_
      conv => whnf
      refine at_intro (aP j hj0) ?_
      conv => whnf
      repeat (first | (refine br_true (inR_intro (by simp only [loI, hiI]; omega)) ?_; conv => whnf) | (refine br_true (by simp only [blt_dec, ble_dec, beq_dec, ltB_eq, leB_eq, decide_eq_true_eq, decide_eq_false_iff_not, Bool.and_eq_true, Bool.or_eq_true, beq_iff_eq, bne_iff_ne, beq_eq_false_iff_ne, bne_eq_false_iff_eq]; first | done | omega) ?_; conv => whnf))
      refine ld_intro (g11.old ok8 Dh) ?_
      conv => whnf
      refine at_intro (yD) ?_
      conv => whnf
      repeat (first | (refine br_true (inR_intro (by simp only [loI, hiI]; omega)) ?_; conv => whnf) | (refine br_true (by simp only [blt_dec, ble_dec, beq_dec, ltB_eq, leB_eq, decide_eq_true_eq, decide_eq_false_iff_not, Bool.and_eq_true, Bool.or_eq_true, beq_iff_eq, bne_iff_ne, beq_eq_false_iff_ne, bne_eq_false_iff_eq]; first | done | omega) ?_; conv => whnf))
      refine ld_intro (g11.old ok8 hD) ?_
      conv => whnf
      refine at_intro (aD j hj0) ?_
      conv => whnf
      repeat (first | (refine br_true (inR_intro (by simp only [loI, hiI]; omega)) ?_; conv => whnf) | (refine br_true (by simp only [blt_dec, ble_dec, beq_dec, ltB_eq, leB_eq, decide_eq_true_eq, decide_eq_false_iff_not, Bool.and_eq_true, Bool.or_eq_true, beq_iff_eq, bne_iff_ne, beq_eq_false_iff_ne, bne_eq_false_iff_eq]; first | done | omega) ?_; conv => whnf))
      refine ld_intro (g11.old ok8 Th) ?_
      conv => whnf
      refine at_intro (yT) ?_
      conv => whnf
      repeat (first | (refine br_true (inR_intro (by simp only [loI, hiI]; omega)) ?_; conv => whnf) | (refine br_true (by simp only [blt_dec, ble_dec, beq_dec, ltB_eq, leB_eq, decide_eq_true_eq, decide_eq_false_iff_not, Bool.and_eq_true, Bool.or_eq_true, beq_iff_eq, bne_iff_ne, beq_eq_false_iff_ne, bne_eq_false_iff_eq]; first | done | omega) ?_; conv => whnf))
      refine ld_intro (g11.old ok8 hT) ?_
      conv => whnf
      refine at_intro (aT j hj0) ?_
      conv => whnf
      have hdl : (rowA (delTo idx ((s.drop (idx * 32)).take 32) x 2) i).getD j 0 = delF idx ((s.drop (idx * 32)).take 32) x i j := by
        rw [delTo_row hi0, fillTo_get hj0, if_pos hj0]
      have hen := enc_delta (i := i) (j := j) (old := (s.drop (idx * 32)).take 32) sl xl sb xb hi4 hi0 hj0 (by rw [List.getD_eq_getElem?_getD, List.getElem?_take, if_pos hj0, List.getElem?_drop, List.getD_eq_getElem?_getD])
      rw [lock_eq, xor8 _ _ (getD_lt8 (encM_bytes s _ (row_mem (by rw [encM_len]; exact hi6))) j) (by rw [hdl]; exact gmul_lt _ _), hdl, hen, bne_self_eq_false]
      conv => whnf
      repeat (first | (refine br_true (inR_intro (by simp only [loI, hiI]; omega)) ?_; conv => whnf) | (refine br_true (by simp only [blt_dec, ble_dec, beq_dec, ltB_eq, leB_eq, decide_eq_true_eq, decide_eq_false_iff_not, Bool.and_eq_true, Bool.or_eq_true, beq_iff_eq, bne_iff_ne, beq_eq_false_iff_ne, bne_eq_false_iff_eq]; first | done | omega) ?_; conv => whnf))
      exact ⟨rfl, 32 - (j + 1), by omega, j + 1, by omega, rfl, rfl, by repeat first | exact g11 | apply Mem.bump | refine Mem.put ?_ (by (try simp only [bump_next, put_next]); omega) (by (try simp only [bump_next, put_next]); omega)⟩
    · conv => whnf
      repeat (first | (refine br_true (inR_intro (by simp only [loI, hiI]; omega)) ?_; conv => whnf) | (refine br_true (by simp only [blt_dec, ble_dec, beq_dec, ltB_eq, leB_eq, decide_eq_true_eq, decide_eq_false_iff_not, Bool.and_eq_true, Bool.or_eq_true, beq_iff_eq, bne_iff_ne, beq_eq_false_iff_ne, bne_eq_false_iff_eq]; first | done | omega) ?_; conv => whnf))
      exact ⟨rfl, 2 - (i + 1), by omega, i + 1, by omega, rfl, rfl, by repeat first | exact g11 | apply Mem.bump | refine Mem.put ?_ (by (try simp only [bump_next, put_next]); omega) (by (try simp only [bump_next, put_next]); omega)⟩
  · conv => whnf
    exact k _ (by repeat first | exact gF.trans g10 | apply Mem.bump | refine Mem.put ?_ (by (try simp only [bump_next, put_next]); omega) (by (try simp only [bump_next, put_next]); omega))
end
end Go.Corb.A

/- Four chunks tell the stripe. Conditions: none. -/
set_option linter.unusedVariables false
set_option linter.unusedSimpArgs false
namespace Go.Corb.A
open Go Go.RowKit Go.Proofs Go.Corb Go.IntWalk

theorem enc_inj {a b : List Nat} (ha : a.length = 128) (hb : b.length = 128) (ba : ∀ x ∈ a, x < 256) (bb : ∀ x ∈ b, x < 256) (p : Nat → Bool) (hp : (selB p 6).length = 4) (h : ∀ k, k < 6 → p k = true → rowA (encM a) k = rowA (encM b) k) : a = b := by
  obtain ⟨C, hC⟩ := sel_left hp
  have hs := selB_lt p 6
  have hAl : ((selB p 6).map (rowA genM)).length = 4 := by rw [List.length_map]; exact hp
  have hAw : Wid 4 ((selB p 6).map (rowA genM)) := wid_of (by
    intro r hr
    obtain ⟨i, hi, rfl⟩ := List.mem_map.1 hr
    exact genM_wid _ (row_mem (hs i hi).1))
  have key : ∀ k j, k < 4 → j < 32 → colv (partsM a) j k = colv (partsM b) j k := by
    intro k j hk hj
    have e : ∀ i, i < 4 → dot (rowA ((selB p 6).map (rowA genM)) i) (colv (partsM b) j) = dot (rowA ((selB p 6).map (rowA genM)) i) (colv (partsM a) j) := by
      intro i hi
      rw [rowA_map (by omega)]
      have hm : (selB p 6).getD i 0 ∈ selB p 6 := by
        rw [List.getD_eq_getElem?_getD, List.getElem?_eq_getElem (by omega)]; exact List.getElem_mem _
      have h6 := hs _ hm
      rw [← enc_get ha ba h6.1 hj, ← enc_get hb bb h6.1 hj, h _ h6.1 h6.2]
    have h1 := left_back hC hAl hAw (x := colv (partsM a) j) (y := fun i => dot (rowA ((selB p 6).map (rowA genM)) i) (colv (partsM a) j)) (colv_lt (partsM_bytes ba) j) (fun _ _ => rfl) hk
    have h2 := left_back hC hAl hAw (x := colv (partsM b) j) (y := fun i => dot (rowA ((selB p 6).map (rowA genM)) i) (colv (partsM a) j)) (colv_lt (partsM_bytes bb) j) (fun i hi => e i hi) hk
    rw [h1, h2]
  apply List.ext_getElem (by rw [ha, hb])
  intro i h1 h2
  have := key (i / 32) (i % 32) (by omega) (by omega)
  rw [colv_parts (by omega) (by omega), colv_parts (by omega) (by omega), show i / 32 * 32 + i % 32 = i by omega, List.getD_eq_getElem?_getD, List.getD_eq_getElem?_getD, List.getElem?_eq_getElem h1, List.getElem?_eq_getElem h2] at this
  exact this

theorem sel_but {a : Nat} (ha : a < 6) : (selB (fun k => k != a) 6).length = 4 := by
  rcases (show a = 0 ∨ a = 1 ∨ a = 2 ∨ a = 3 ∨ a = 4 ∨ a = 5 by omega) with rfl | rfl | rfl | rfl | rfl | rfl <;> rfl
theorem sel_but2 {a b : Nat} (ha : a < 6) (hb : b < 6) : (selB (fun k => k != a && k != b) 6).length = 4 := by
  rcases (show a = 0 ∨ a = 1 ∨ a = 2 ∨ a = 3 ∨ a = 4 ∨ a = 5 by omega) with rfl | rfl | rfl | rfl | rfl | rfl <;> rcases (show b = 0 ∨ b = 1 ∨ b = 2 ∨ b = 3 ∨ b = 4 ∨ b = 5 by omega) with rfl | rfl | rfl | rfl | rfl | rfl <;> rfl

/-- Where one row is another's, it is no stripe's. -/
theorem check_bad {s L : List Nat} {m : List (List Nat)} {a : Nat} (hs : s.length = 128) (bs : ∀ x ∈ s, x < 256) (hL : L.length = 128) (bL : ∀ x ∈ L, x < 256) (ha : a < 6) (h : ∀ k, k < 6 → k ≠ a → rowA m k = rowA (encM s) k) (h2 : rowA m a ≠ rowA (encM s) a) : (encM L == m) = false := by
  rw [beq_eq_false_iff_ne]
  intro e
  subst e
  have := enc_inj hL hs bL bs (fun k => k != a) (sel_but ha) (fun k hk hp => h k hk (by simpa using hp))
  subst this
  exact h2 rfl
end Go.Corb.A

/- Check, and the law CoderBack over the abstract memory. Conditions: none. -/
set_option linter.unusedVariables false
set_option linter.unusedSimpArgs false
namespace Go.Corb.A
open Go Go.RowKit Go.Proofs Go.Corb Go.IntWalk

section
set_option pp.deepTerms.threshold 8

theorem decL_bytes (q S : List (List Nat)) : ∀ x ∈ decL q S, x < 256 := by
  intro x hx
  obtain ⟨r, hr, hxr⟩ := List.mem_flatten.1 hx
  obtain ⟨a, _, rfl⟩ := List.mem_map.1 hr
  exact rowTo_bytes 4 x hxr

/-- Check, where four chunks are there at least. -/
theorem check {σ : AS} (hσ : Ok σ) {rc : Nat} (hc : CoderAt σ rc) {vm : Value} {m : List (List Nat)} (hm : MatAt σ vm m) (hml : m.length = 6) (hmw : chunk0 m) (hmb : Bytes m) (hsel : (sel m 6).length = 4) {Q : Value → AS → Prop}
    (kQ : ∀ σ' L, Mem σ σ' → L.length = 128 → (∀ x ∈ L, x < 256) → (∀ l : List Nat, l.length = 128 → (∀ x ∈ l, x < 256) → (∀ i ∈ sel m 6, rowA m i = rowA (encM l) i) → L = l) → Q (.bool (encM L == m)) σ') :
    ∃ v σ', ACall Try.prog PartsBase 24 [.pointer (some ⟨rc, 0, none⟩), vm] σ v σ' ∧ Q v σ' := by
  have hm0 := hm
  obtain ⟨ma, mv, mcap, rfl, hms, hmr⟩ := hm.rows
  refine call_rwp acall cf24 rfl hσ.wf ?_
  conv => whnf
  refine decode acall (σ := (σ.bump 1).bump 8) (Mem.ok (σ := σ) (by repeat first | exact Mem.refl hσ | apply Mem.bump | refine Mem.put ?_ (by (try simp only [bump_next, put_next]); omega) (by (try simp only [bump_next, put_next]); omega))) (hc.mono hσ (by repeat first | exact Mem.refl hσ | apply Mem.bump | refine Mem.put ?_ (by (try simp only [bump_next, put_next]); omega) (by (try simp only [bump_next, put_next]); omega))) (hm0.mono hσ (by repeat first | exact Mem.refl hσ | apply Mem.bump | refine Mem.put ?_ (by (try simp only [bump_next, put_next]); omega) (by (try simp only [bump_next, put_next]); omega))) hml hmw hmb hsel ?_
  intro τ1 v q g1 hv hsol ql qb qw hlen
  have hb := decL_bytes q ((sel m 6).map (rowA m))
  have hL : ∀ l : List Nat, l.length = 128 → (∀ x ∈ l, x < 256) → (∀ i ∈ sel m 6, rowA m i = rowA (encM l) i) → decL q ((sel m 6).map (rowA m)) = l := fun l hl hlb hi => dec_enc (s := sel m 6) hl hlb hsel (fun i hi => (selB_lt _ _ i hi).1) hi hsol ql qb qw
  generalize decL q ((sel m 6).map (rowA m)) = L at *
  obtain ⟨r, hr, rfl, hh⟩ := hv
  have g1' : Mem σ τ1 := Mem.trans (by repeat first | exact Mem.refl hσ | apply Mem.bump | refine Mem.put ?_ (by (try simp only [bump_next, put_next]); omega) (by (try simp only [bump_next, put_next]); omega)) g1
  have ok1 := g1'.ok
  have hc := hc.mono hσ g1'
  conv => whnf
  refine encode (σ := (τ1.bump 2).bump 8) (l := L) (Mem.ok (σ := τ1) (by repeat first | exact Mem.refl ok1 | apply Mem.bump | refine Mem.put ?_ (by (try simp only [bump_next, put_next]); omega) (by (try simp only [bump_next, put_next]); omega))) (hc.mono ok1 (by repeat first | exact Mem.refl ok1 | apply Mem.bump | refine Mem.put ?_ (by (try simp only [bump_next, put_next]); omega) (by (try simp only [bump_next, put_next]); omega))) (stripe_of hlen hb (by exact hh) (.inr rfl)) ?_
  intro τ2 vt g2 hT
  have g2' : Mem τ1 τ2 := Mem.trans (by repeat first | exact Mem.refl ok1 | apply Mem.bump | refine Mem.put ?_ (by (try simp only [bump_next, put_next]); omega) (by (try simp only [bump_next, put_next]); omega)) g2
  have ok2 := g2'.ok
  have hT0 := hT
  obtain ⟨ta, tv, tcap, rfl, hts, htr⟩ := hT.rows
  conv => whnf
  refine same acall (σ := τ2.bump 4) (m := encM L) (m' := m) (by rw [encM_len]; omega) (by omega) (fun l hl => by rw [encM_wid hlen l hl]; omega) (fun l hl => by rcases hmw l hl with h | h <;> omega) (Mem.ok (σ := τ2) (by repeat first | exact Mem.refl ok2 | apply Mem.bump | refine Mem.put ?_ (by (try simp only [bump_next, put_next]); omega) (by (try simp only [bump_next, put_next]); omega))) (hT0.mono ok2 (by repeat first | exact Mem.refl ok2 | apply Mem.bump | refine Mem.put ?_ (by (try simp only [bump_next, put_next]); omega) (by (try simp only [bump_next, put_next]); omega))) (hm0.mono hσ (by repeat first | exact g1'.trans g2' | apply Mem.bump | refine Mem.put ?_ (by (try simp only [bump_next, put_next]); omega) (by (try simp only [bump_next, put_next]); omega))) ?_
  intro τ3 g3
  have g3' : Mem τ2 τ3 := Mem.trans (by repeat first | exact Mem.refl ok2 | apply Mem.bump | refine Mem.put ?_ (by (try simp only [bump_next, put_next]); omega) (by (try simp only [bump_next, put_next]); omega)) g3
  conv => whnf
  exact kQ _ L (g1'.trans (g2'.trans g3')) hlen hb hL
end
end Go.Corb.A

/- The law CoderBack over the abstract memory. Conditions: none. -/
set_option linter.unusedVariables false
set_option linter.unusedSimpArgs false
namespace Go.Corb.A
open Go Go.RowKit Go.Proofs Go.Corb Go.IntWalk

theorem wr_at (c : List Value) (o : Nat) (v : Value) (h : o < c.length) : wr c (0 + o * 1) [v] = c.set o v := by rw [show 0 + o * 1 = o by omega, wr_one _ _ _ h]
theorem sel_all6 {m : List (List Nat)} (h : ∀ k, k < 6 → 0 < (rowA m k).length) : (sel m 6).length = 4 := by
  have : sel m 6 = selB (fun _ => true) 6 := selB_congr 6 fun k hk => by rw [there, decide_eq_true (h k hk)]
  rw [this]; rfl
theorem sel_enc {s : List Nat} (h : s.length = 128) : (sel (encM s) 6).length = 4 := sel_all6 fun k hk => by rw [rowA_enc_len h hk]; omega
theorem enc_chunk0 {s : List Nat} (h : s.length = 128) : chunk0 (encM s) := fun r hr => .inr (encM_wid h r hr)

section
set_option pp.deepTerms.threshold 8

/-- Check, of a stripe's chunks. -/
theorem check_good {σ : AS} (hσ : Ok σ) {rc : Nat} (hc : CoderAt σ rc) {vm : Value} {s : List Nat} (hm : MatAt σ vm (encM s)) (hs : s.length = 128) (bs : ∀ x ∈ s, x < 256) {Q : Value → AS → Prop} (kQ : ∀ σ', Mem σ σ' → Q (.bool true) σ') :
    ∃ v σ', ACall Try.prog PartsBase 24 [.pointer (some ⟨rc, 0, none⟩), vm] σ v σ' ∧ Q v σ' := by
  refine check hσ hc hm (encM_len s) (enc_chunk0 hs) (encM_bytes s) (sel_enc hs) ?_
  intro σ' L g hL bL h
  have e := h s hs bs fun _ _ => rfl
  subst e
  rw [beq_self_eq_true]
  exact kQ _ g

theorem coderBack (seed a b : Int) {σ : AS} (hσ : Ok σ) {Q : Value → AS → Prop} (k : ∀ σ', Mem σ σ' → Q (.bool true) σ') :
    ∃ v σ', ACall Try.prog PartsBase 7 [.int .i64 seed, .int .i64 a, .int .i64 b] σ v σ' ∧ Q v σ' := by
  refine call_rwp acall cf7 rfl hσ.wf ?_
  conv => whnf
  refine coderNew acall (Mem.ok (σ := σ) (by repeat first | exact Mem.refl hσ | apply Mem.bump | refine Mem.put ?_ (by (try simp only [bump_next, put_next]); omega) (by (try simp only [bump_next, put_next]); omega))) ?_
  intro τ1 rc g1 hrc hc
  have g1' : Mem σ τ1 := Mem.trans (by repeat first | exact Mem.refl hσ | apply Mem.bump | refine Mem.put ?_ (by (try simp only [bump_next, put_next]); omega) (by (try simp only [bump_next, put_next]); omega)) g1
  have ok1 := g1'.ok
  conv => whnf
  refine known5 (Mem.ok (σ := τ1) (by repeat first | exact Mem.refl ok1 | apply Mem.bump | refine Mem.put ?_ (by (try simp only [bump_next, put_next]); omega) (by (try simp only [bump_next, put_next]); omega))) ?_
  intro τ2 g2
  have g2' : Mem τ1 τ2 := Mem.trans (by repeat first | exact Mem.refl ok1 | apply Mem.bump | refine Mem.put ?_ (by (try simp only [bump_next, put_next]); omega) (by (try simp only [bump_next, put_next]); omega)) g2
  have ok2 := g2'.ok
  have hc := hc.mono ok1 g2'
  conv => whnf
  refine bytes acall (n := 128) (by decide) (by decide) (Mem.ok (σ := τ2) (by repeat first | exact Mem.refl ok2 | apply Mem.bump | refine Mem.put ?_ (by (try simp only [bump_next, put_next]); omega) (by (try simp only [bump_next, put_next]); omega))) ?_
  intro τ4 rs s g4 hrs sl sb hs
  have g4' : Mem τ2 τ4 := Mem.trans (by repeat first | exact Mem.refl ok2 | apply Mem.bump | refine Mem.put ?_ (by (try simp only [bump_next, put_next]); omega) (by (try simp only [bump_next, put_next]); omega)) g4
  have ok4 := g4'.ok
  have hc := hc.mono ok2 g4'
  conv => whnf
  refine encode (σ := τ4.bump 8) (Mem.ok (σ := τ4) (by repeat first | exact Mem.refl ok4 | apply Mem.bump | refine Mem.put ?_ (by (try simp only [bump_next, put_next]); omega) (by (try simp only [bump_next, put_next]); omega))) (hc.mono ok4 (by repeat first | exact Mem.refl ok4 | apply Mem.bump | refine Mem.put ?_ (by (try simp only [bump_next, put_next]); omega) (by (try simp only [bump_next, put_next]); omega))) (stripe_of sl sb (by exact hs) (.inl rfl)) ?_
  intro τ5 vp g5 hP
  have g5' : Mem τ4 τ5 := Mem.trans (by repeat first | exact Mem.refl ok4 | apply Mem.bump | refine Mem.put ?_ (by (try simp only [bump_next, put_next]); omega) (by (try simp only [bump_next, put_next]); omega)) g5
  have ok5 := g5'.ok
  have hc := hc.mono ok4 g5'
  have hs := g5'.old ok4 hs
  have g05 := (g1'.trans g2').trans (g4'.trans g5')
  obtain ⟨pa, pv, pcap, rfl, hps, hpr⟩ := hP.rows
  have pvl : pv.length = 6 := by rw [hpr.1, encM_len]
  conv => whnf
  (refine br_false (by simp only [blt_dec, ble_dec, beq_dec, ltB_eq, leB_eq, decide_eq_true_eq, decide_eq_false_iff_not, Bool.and_eq_true, Bool.or_eq_true, beq_iff_eq, bne_iff_ne, beq_eq_false_iff_ne, bne_eq_false_iff_eq]; first | done | omega) ?_; conv => whnf)
  refine check_good (σ := τ5.bump 13) (Mem.ok (σ := τ5) (by repeat first | exact Mem.refl ok5 | apply Mem.bump | refine Mem.put ?_ (by (try simp only [bump_next, put_next]); omega) (by (try simp only [bump_next, put_next]); omega))) (hc.mono ok5 (by repeat first | exact Mem.refl ok5 | apply Mem.bump | refine Mem.put ?_ (by (try simp only [bump_next, put_next]); omega) (by (try simp only [bump_next, put_next]); omega))) (hP.mono ok5 (by repeat first | exact Mem.refl ok5 | apply Mem.bump | refine Mem.put ?_ (by (try simp only [bump_next, put_next]); omega) (by (try simp only [bump_next, put_next]); omega))) sl sb ?_
  intro τ6 g6
  have g6' : Mem τ5 τ6 := Mem.trans (by repeat first | exact Mem.refl ok5 | apply Mem.bump | refine Mem.put ?_ (by (try simp only [bump_next, put_next]); omega) (by (try simp only [bump_next, put_next]); omega)) g6
  have ok6 := g6'.ok
  have hc := hc.mono ok5 g6'
  have hs := g6'.old ok5 hs
  have hps := hps.mono ok5 g6'
  have hpr := hpr.mono ok5 g6'
  have g06 := g05.trans g6'
  clear g1 g2 g4 g5 g6 hrc hrs
  conv => whnf
  refine ⟨_, _, app_copy (m := encM s) (put_heap_eq _ _ _) (hps.mono ok6 (by repeat first | exact Mem.refl ok6 | apply Mem.bump | refine Mem.put ?_ (by (try simp only [bump_next, put_next]); omega) (by (try simp only [bump_next, put_next]); omega))) (hpr.mono ok6 (by repeat first | exact Mem.refl ok6 | apply Mem.bump | refine Mem.put ?_ (by (try simp only [bump_next, put_next]); omega) (by (try simp only [bump_next, put_next]); omega))) (by intro e; have := encM_len s; rw [e] at this; cases this) (by rw [encM_len]; omega), ?_⟩
  rw [encM_len]
  conv => whnf
  have gN : Mem τ6 ((((τ6.bump 4).put (τ6.next + 0) (.cells (zrow (Value.agg [Value.slice none 0 0].toArray) (0 * [Value.slice none 0 0].length)) false)).put (τ6.next + 2) (.cells pv false)).bump 5) := by repeat first | exact Mem.refl ok6 | apply Mem.bump | refine Mem.put ?_ (by (try simp only [bump_next, put_next]); omega) (by (try simp only [bump_next, put_next]); omega)
  refine pick acall (m := 6) (by omega) (by omega) gN.ok ?_
  intro τ7 g7
  obtain ⟨a0, ha0, ha0'⟩ := pickN (x := a) (m := 6) (by omega)
  rw [ha0]
  have ha6 : a0 < 6 := by omega
  have hN7 : τ7.heap (τ6.next + 2) = some (.cells pv false) := g7.old gN.ok (by rw [bump_heap, put_heap_eq])
  have g67 : Mem τ6 τ7 := gN.trans g7
  have g07 := g06.trans g67
  have hn6 := g06.next
  clear gN g7
  have ok7 := g67.ok
  conv => whnf
  repeat (first | (refine br_true (inR_intro (by simp only [loI, hiI]; omega)) ?_; conv => whnf) | (refine br_true (by simp only [blt_dec, ble_dec, beq_dec, ltB_eq, leB_eq, decide_eq_true_eq, decide_eq_false_iff_not, Bool.and_eq_true, Bool.or_eq_true, beq_iff_eq, bne_iff_ne, beq_eq_false_iff_ne, bne_eq_false_iff_eq]; first | done | omega) ?_; conv => whnf))
  refine wr_intro hN7 (Mem.noprot hσ g07 (by omega)) ?_
  refine br_true (by first | rfl | decide) ?_
  repeat (first | (refine br_true (inR_intro (by simp only [loI, hiI]; omega)) ?_; conv => whnf) | (refine br_true (by simp only [blt_dec, ble_dec, beq_dec, ltB_eq, leB_eq, decide_eq_true_eq, decide_eq_false_iff_not, Bool.and_eq_true, Bool.or_eq_true, beq_iff_eq, bne_iff_ne, beq_eq_false_iff_ne, bne_eq_false_iff_eq, pvl]; first | done | omega) ?_; conv => whnf))
  generalize hw : wr pv _ _ = p1
  obtain rfl : p1 = pv.set a0 (.slice none 0 0) := by rw [← hw]; exact wr_at _ a0 _ (by omega)
  have gM : Mem τ6 ((τ7.put (τ6.next + 2) (.cells (pv.set a0 (.slice none 0 0)) false)).bump 5) := Mem.bump (g67.put (by omega) (ok7.lt hN7)) 5
  refine pick acall (m := 6) (by omega) (by omega) gM.ok ?_
  intro τ8 g8
  obtain ⟨b0, hb0, hb0'⟩ := pickN (x := b) (m := 6) (by omega)
  rw [hb0]
  have hb6 : b0 < 6 := by omega
  have hN8 : τ8.heap (τ6.next + 2) = some (.cells (pv.set a0 (.slice none 0 0)) false) := g8.old gM.ok (by rw [bump_heap]; exact put_heap_eq _ _ _)
  have g68 : Mem τ6 τ8 := gM.trans g8
  have g08 := g06.trans g68
  have ok8 := g68.ok
  clear gM g8 hw
  conv => whnf
  repeat (first | (refine br_true (inR_intro (by simp only [loI, hiI]; omega)) ?_; conv => whnf) | (refine br_true (by simp only [blt_dec, ble_dec, beq_dec, ltB_eq, leB_eq, decide_eq_true_eq, decide_eq_false_iff_not, Bool.and_eq_true, Bool.or_eq_true, beq_iff_eq, bne_iff_ne, beq_eq_false_iff_ne, bne_eq_false_iff_eq]; first | done | omega) ?_; conv => whnf))
  refine wr_intro hN8 (Mem.noprot hσ g08 (by omega)) ?_
  refine br_true (by first | rfl | decide) ?_
  repeat (first | (refine br_true (inR_intro (by simp only [loI, hiI]; omega)) ?_; conv => whnf) | (refine br_true (by simp only [blt_dec, ble_dec, beq_dec, ltB_eq, leB_eq, decide_eq_true_eq, decide_eq_false_iff_not, Bool.and_eq_true, Bool.or_eq_true, beq_iff_eq, bne_iff_ne, beq_eq_false_iff_ne, bne_eq_false_iff_eq, List.length_set, pvl]; first | done | omega) ?_; conv => whnf))
  generalize hw : wr (pv.set a0 (.slice none 0 0)) _ _ = p2
  obtain rfl : p2 = (pv.set a0 (.slice none 0 0)).set b0 (.slice none 0 0) := by rw [← hw]; exact wr_at _ b0 _ (by rw [List.length_set]; omega)
  have gM : Mem τ6 ((τ8.put (τ6.next + 2) (.cells ((pv.set a0 (.slice none 0 0)).set b0 (.slice none 0 0)) false)).bump 8) := Mem.bump (g68.put (by omega) (ok8.lt hN8)) 8
  refine decode_good acall (m := ((encM s).set a0 []).set b0 []) gM.ok (hc.mono ok6 gM) (RowsAt.mat (((hpr.mono ok6 gM).set a0 (SlAt.nil _)).set b0 (SlAt.nil _)) (by rw [bump_heap]; exact put_heap_eq _ _ _) (by rw [List.length_set, List.length_set, pvl])) (by rw [List.length_set, List.length_set, encM_len]) sl sb (fun k => k != a0 && k != b0) ?_ (sel_but2 ha6 hb6) ?_
  · intro k hk
    rw [rowA_set _ _ (by rw [List.length_set, encM_len]; omega), rowA_set _ _ (by rw [encM_len]; omega)]
    by_cases h1 : k = b0
    · subst h1; simp
    · by_cases h2 : k = a0
      · subst h2; simp
      · rw [if_neg h1, if_neg h2, if_pos (by simp [h1, h2])]
  intro τ9 r9 g9 hr9 h9
  have g69 := gM.trans g9
  conv => whnf
  refine ld_intro h9 ?_
  refine str_step sl (by decide) (all_of sl) ?_
  conv => whnf
  refine ld_intro (g69.old ok6 hs) ?_
  refine str_step sl (by decide) (all_of sl) ?_
  conv => whnf
  rw [beq_self_eq_true]
  conv => whnf
  exact k _ (by repeat first | exact g06.trans g69 | apply Mem.bump | refine Mem.put ?_ (by (try simp only [bump_next, put_next]); omega) (by (try simp only [bump_next, put_next]); omega))
end
end Go.Corb.A

/- The law CoderChecks over the abstract memory. Conditions: none. -/
set_option linter.unusedVariables false
set_option linter.unusedSimpArgs false
namespace Go.Corb.A
open Go Go.RowKit Go.Proofs Go.Corb Go.IntWalk

theorem u8_wf {n : Int} (h : (Lit.int .u8 n).wf = true) : ∃ m : Nat, n = m ∧ m < 256 := by
  simp only [Lit.wf, Bool.and_eq_true, decide_eq_true_eq] at h
  have h1 : IntKind.u8.min = 0 := rfl
  have h2 : IntKind.u8.max = 255 := rfl
  exact ⟨n.toNat, by omega, by omega⟩
theorem app_row {τ : AS} {N B : Nat} {x : Value} {l : List Nat} {n : Nat} (hx : SlAt τ x (l.map vb)) (hl : l.length = n) (hn : 0 < n) (hb : n < 2 ^ 40) :
    rAppend τ N 1 1 (.slice (some ⟨B, 0, none⟩) 0 0) x = some (.slice (some ⟨N, 0, some 1⟩) n n, τ.put N (.cells (l.map vb) false)) := by
  have := app_new (σ := τ) (N := N) (bytes := 1) (olds := []) (vs := l.map vb) (s := .slice (some ⟨B, 0, none⟩) 0 0) (x := x) (SlAt.empty rfl) (fun r o sp len cap e => by
    simp only [Value.slice.injEq, Option.some.injEq, Addr.mk.injEq] at e
    obtain ⟨⟨_, _, rfl⟩, _, rfl⟩ := e
    exact ⟨rfl, by rw [List.length_map]; simp; omega⟩) rfl hx (vbs_one _) (by intro e; rw [List.map_eq_nil_iff] at e; rw [e] at hl; simp at hl; omega) (by rw [List.length_map]; simp; omega)
  simp only [List.length_nil, Nat.zero_add, List.nil_append, List.length_map, hl] at this
  exact this

/-- One byte of row a turned. -/
def turnM (s : List Nat) (a k b : Nat) : List (List Nat) := (encM s).set a ((rowA (encM s) a).set k ((rowA (encM s) a).getD k 0 ^^^ b))
theorem turnM_len (s : List Nat) (a k b : Nat) : (turnM s a k b).length = 6 := by rw [turnM, List.length_set, encM_len]
theorem turn_row {s : List Nat} {a k b i : Nat} (ha : a < 6) : rowA (turnM s a k b) i = if i = a then (rowA (encM s) a).set k ((rowA (encM s) a).getD k 0 ^^^ b) else rowA (encM s) i := by
  rw [turnM, rowA_set _ _ (by rw [encM_len]; exact ha)]
theorem row_of_mem {m : List (List Nat)} {n : Nat} (h : m.length = n) {r : List Nat} (hr : r ∈ m) : ∃ k, k < n ∧ r = rowA m k := by
  obtain ⟨k, hk, rfl⟩ := List.getElem_of_mem hr
  exact ⟨k, by omega, by rw [rowA, List.getD_eq_getElem?_getD, List.getElem?_eq_getElem hk]; rfl⟩
theorem turn_rlen {s : List Nat} (hs : s.length = 128) {a k b i : Nat} (ha : a < 6) (hi : i < 6) : (rowA (turnM s a k b) i).length = 32 := by
  rw [turn_row ha]
  split
  · rw [List.length_set]; exact rowA_enc_len hs ha
  · exact rowA_enc_len hs hi
theorem turn_bytes {s : List Nat} {a k b : Nat} (ha : a < 6) (hb : b < 256) : Bytes (turnM s a k b) := by
  refine bytes_set (encM_bytes s) fun x hx => ?_
  have hB := encM_bytes s _ (row_mem (show a < (encM s).length from ha))
  rcases List.mem_or_eq_of_mem_set hx with h | rfl
  · exact hB x h
  · exact xor_lt8 (getD_lt8 hB k) hb
theorem xor_ne {a b : Nat} (h : b ≠ 0) : a ^^^ b ≠ a := by
  intro e
  apply h
  have := congrArg (fun x => a ^^^ x) e
  simp only [xor_cancel, Nat.xor_self] at this
  exact this
theorem turn_same {s : List Nat} (hs : s.length = 128) {a k : Nat} (ha : a < 6) (hk : k < 32) : turnM s a k 0 = encM s := by
  have hl := rowA_enc_len hs ha
  rw [turnM, Nat.xor_zero, List.getD_eq_getElem?_getD, List.getElem?_eq_getElem (by omega), Option.getD_some, List.set_getElem_self]
  have e : rowA (encM s) a = (encM s)[a]'(by rw [encM_len]; exact ha) := by rw [rowA, List.getD_eq_getElem?_getD, List.getElem?_eq_getElem]; rfl
  rw [e, List.set_getElem_self]
theorem turn_check {s L : List Nat} (hs : s.length = 128) (bs : ∀ x ∈ s, x < 256) (hL : L.length = 128) (bL : ∀ x ∈ L, x < 256) {a k b : Nat} (ha : a < 6) (hk : k < 32)
    (h : ∀ l : List Nat, l.length = 128 → (∀ x ∈ l, x < 256) → (∀ i ∈ sel (turnM s a k b) 6, rowA (turnM s a k b) i = rowA (encM l) i) → L = l) : (encM L == turnM s a k b) = decide (b = 0) := by
  by_cases hb : b = 0
  · subst hb
    rw [turn_same hs ha hk] at h ⊢
    rw [h s hs bs fun _ _ => rfl, beq_self_eq_true]; rfl
  · rw [decide_eq_false hb]
    refine check_bad hs bs hL bL ha (fun i hi hia => by rw [turn_row ha, if_neg hia]) ?_
    rw [turn_row ha, if_pos rfl]
    intro e
    have := congrArg (fun l => l.getD k 0) e
    have hl := rowA_enc_len hs ha
    have e2 : ((rowA (encM s) a).set k ((rowA (encM s) a).getD k 0 ^^^ b)).getD k 0 = (rowA (encM s) a).getD k 0 ^^^ b := by
      rw [List.getD_eq_getElem?_getD, List.getElem?_set_self (by omega), Option.getD_some]
    rw [e2] at this
    exact xor_ne hb this

section
set_option pp.deepTerms.threshold 8

theorem coderChecks (seed a kk by0 : Int) (hby : (Lit.int .u8 by0).wf = true) {σ : AS} (hσ : Ok σ) {Q : Value → AS → Prop} (k : ∀ σ', Mem σ σ' → Q (.bool true) σ') :
    ∃ v σ', ACall Try.prog PartsBase 8 [.int .i64 seed, .int .i64 a, .int .i64 kk, .int .u8 by0] σ v σ' ∧ Q v σ' := by
  refine call_rwp acall cf8 rfl hσ.wf ?_
  conv => whnf
  refine coderNew acall (Mem.ok (σ := σ) (by repeat first | exact Mem.refl hσ | apply Mem.bump | refine Mem.put ?_ (by (try simp only [bump_next, put_next]); omega) (by (try simp only [bump_next, put_next]); omega))) ?_
  intro τ1 rc g1 hrc hc
  have g1' : Mem σ τ1 := Mem.trans (by repeat first | exact Mem.refl hσ | apply Mem.bump | refine Mem.put ?_ (by (try simp only [bump_next, put_next]); omega) (by (try simp only [bump_next, put_next]); omega)) g1
  have ok1 := g1'.ok
  conv => whnf
  refine known5 (Mem.ok (σ := τ1) (by repeat first | exact Mem.refl ok1 | apply Mem.bump | refine Mem.put ?_ (by (try simp only [bump_next, put_next]); omega) (by (try simp only [bump_next, put_next]); omega))) ?_
  intro τ2 g2
  have g2' : Mem τ1 τ2 := Mem.trans (by repeat first | exact Mem.refl ok1 | apply Mem.bump | refine Mem.put ?_ (by (try simp only [bump_next, put_next]); omega) (by (try simp only [bump_next, put_next]); omega)) g2
  have ok2 := g2'.ok
  have hc := hc.mono ok1 g2'
  conv => whnf
  refine bytes acall (n := 128) (by decide) (by decide) (Mem.ok (σ := τ2) (by repeat first | exact Mem.refl ok2 | apply Mem.bump | refine Mem.put ?_ (by (try simp only [bump_next, put_next]); omega) (by (try simp only [bump_next, put_next]); omega))) ?_
  intro τ4 rs s g4 hrs sl sb hs
  have g4' : Mem τ2 τ4 := Mem.trans (by repeat first | exact Mem.refl ok2 | apply Mem.bump | refine Mem.put ?_ (by (try simp only [bump_next, put_next]); omega) (by (try simp only [bump_next, put_next]); omega)) g4
  have ok4 := g4'.ok
  have hc := hc.mono ok2 g4'
  conv => whnf
  refine encode (σ := τ4.bump 8) (Mem.ok (σ := τ4) (by repeat first | exact Mem.refl ok4 | apply Mem.bump | refine Mem.put ?_ (by (try simp only [bump_next, put_next]); omega) (by (try simp only [bump_next, put_next]); omega))) (hc.mono ok4 (by repeat first | exact Mem.refl ok4 | apply Mem.bump | refine Mem.put ?_ (by (try simp only [bump_next, put_next]); omega) (by (try simp only [bump_next, put_next]); omega))) (stripe_of sl sb (by exact hs) (.inl rfl)) ?_
  intro τ5 vp g5 hP
  have g5' : Mem τ4 τ5 := Mem.trans (by repeat first | exact Mem.refl ok4 | apply Mem.bump | refine Mem.put ?_ (by (try simp only [bump_next, put_next]); omega) (by (try simp only [bump_next, put_next]); omega)) g5
  have ok5 := g5'.ok
  have hc := hc.mono ok4 g5'
  have hs := g5'.old ok4 hs
  have g05 := (g1'.trans g2').trans (g4'.trans g5')
  obtain ⟨pa, pv, pcap, rfl, hps, hpr⟩ := hP.rows
  have pvl : pv.length = 6 := by rw [hpr.1, encM_len]
  conv => whnf
  (refine br_false (by simp only [blt_dec, ble_dec, beq_dec, ltB_eq, leB_eq, decide_eq_true_eq, decide_eq_false_iff_not, Bool.and_eq_true, Bool.or_eq_true, beq_iff_eq, bne_iff_ne, beq_eq_false_iff_ne, bne_eq_false_iff_eq]; first | done | omega) ?_; conv => whnf)
  refine pick acall (m := 6) (by omega) (by omega) (Mem.ok (σ := τ5) (by repeat first | exact Mem.refl ok5 | apply Mem.bump | refine Mem.put ?_ (by (try simp only [bump_next, put_next]); omega) (by (try simp only [bump_next, put_next]); omega))) ?_
  intro τ6 g6
  have g6' : Mem τ5 τ6 := Mem.trans (by repeat first | exact Mem.refl ok5 | apply Mem.bump | refine Mem.put ?_ (by (try simp only [bump_next, put_next]); omega) (by (try simp only [bump_next, put_next]); omega)) g6
  have ok6 := g6'.ok
  obtain ⟨a0, ha0, ha0'⟩ := pickN (x := a) (m := 6) (by omega)
  rw [ha0]
  have ha6 : a0 < 6 := by omega
  have hc := hc.mono ok5 g6'
  have hs := g6'.old ok5 hs
  have hps := hps.mono ok5 g6'
  have hpr := hpr.mono ok5 g6'
  have g06 := g05.trans g6'
  clear g1 g2 g4 g5 g6 hrc hrs hP
  obtain ⟨xv, xv1, _, xv3⟩ := hpr.get (i := a0) (by rw [encM_len]; omega)
  have hrl : (rowA (encM s) a0).length = 32 := rowA_enc_len sl ha6
  obtain ⟨xr, xo, xsp, xcap, xc, xro, rfl, xh, xa, xt⟩ := row_open xv3 hrl (by decide)
  obtain ⟨pr, po, psp, pc, pro, rfl, ph, hpi, _⟩ := hps.idx (i := a0) (by omega)
  rw [← List.getElem?_eq_getElem, xv1] at hpi
  conv => whnf
  repeat (first | (refine br_true (inR_intro (by simp only [loI, hiI]; omega)) ?_; conv => whnf) | (refine br_true (by simp only [blt_dec, ble_dec, beq_dec, ltB_eq, leB_eq, decide_eq_true_eq, decide_eq_false_iff_not, Bool.and_eq_true, Bool.or_eq_true, beq_iff_eq, bne_iff_ne, beq_eq_false_iff_ne, bne_eq_false_iff_eq]; first | done | omega) ?_; conv => whnf))
  refine ld_intro (ph) ?_
  conv => whnf
  refine at_intro (hpi) ?_
  conv => whnf
  have hn6 := g06.next
  refine ⟨_, _, app_copy (m := encM s) (put_heap_eq _ _ _) (hps.mono ok6 (by repeat first | exact Mem.refl ok6 | apply Mem.bump | refine Mem.put ?_ (by (try simp only [bump_next, put_next]); omega) (by (try simp only [bump_next, put_next]); omega))) (hpr.mono ok6 (by repeat first | exact Mem.refl ok6 | apply Mem.bump | refine Mem.put ?_ (by (try simp only [bump_next, put_next]); omega) (by (try simp only [bump_next, put_next]); omega))) (by intro e; have := encM_len s; rw [e] at this; cases this) (by rw [encM_len]; omega), ?_⟩
  rw [encM_len]
  conv => whnf
  repeat (first | (refine br_true (inR_intro (by simp only [loI, hiI]; omega)) ?_; conv => whnf) | (refine br_true (by simp only [blt_dec, ble_dec, beq_dec, ltB_eq, leB_eq, decide_eq_true_eq, decide_eq_false_iff_not, Bool.and_eq_true, Bool.or_eq_true, beq_iff_eq, bne_iff_ne, beq_eq_false_iff_ne, bne_eq_false_iff_eq, pvl]; first | done | omega) ?_; conv => whnf))
  refine ld_intro (Mem.old (σ := τ6) ok6 (by repeat first | exact Mem.refl ok6 | apply Mem.bump | refine Mem.put ?_ (by (try simp only [bump_next, put_next]); omega) (by (try simp only [bump_next, put_next]); omega)) ph) ?_
  conv => whnf
  refine at_intro (hpi) ?_
  conv => whnf
  refine ⟨_, _, app_row (xv3.mono ok6 (by repeat first | exact Mem.refl ok6 | apply Mem.bump | refine Mem.put ?_ (by (try simp only [bump_next, put_next]); omega) (by (try simp only [bump_next, put_next]); omega))) hrl (by decide) (by decide), ?_⟩
  conv => whnf
  repeat (first | (refine br_true (inR_intro (by simp only [loI, hiI]; omega)) ?_; conv => whnf) | (refine br_true (by simp only [blt_dec, ble_dec, beq_dec, ltB_eq, leB_eq, decide_eq_true_eq, decide_eq_false_iff_not, Bool.and_eq_true, Bool.or_eq_true, beq_iff_eq, bne_iff_ne, beq_eq_false_iff_ne, bne_eq_false_iff_eq, pvl]; first | done | omega) ?_; conv => whnf))
  refine wr_intro (c := pv) (by rw [put_heap_ne (by (try simp only [bump_next, put_next]); omega), put_heap_ne (by (try simp only [bump_next, put_next]); omega), bump_heap, put_heap_eq]) (Mem.noprot (σ := σ) hσ (by repeat first | exact g06 | apply Mem.bump | refine Mem.put ?_ (by (try simp only [bump_next, put_next]); omega) (by (try simp only [bump_next, put_next]); omega)) (by simp only [bump_next]; omega)) ?_
  refine br_true (by first | rfl | decide) ?_
  repeat (first | (refine br_true (inR_intro (by simp only [loI, hiI]; omega)) ?_; conv => whnf) | (refine br_true (by simp only [blt_dec, ble_dec, beq_dec, ltB_eq, leB_eq, decide_eq_true_eq, decide_eq_false_iff_not, Bool.and_eq_true, Bool.or_eq_true, beq_iff_eq, bne_iff_ne, beq_eq_false_iff_ne, bne_eq_false_iff_eq, pvl]; first | done | omega) ?_; conv => whnf))
  generalize hw : wr pv _ _ = p1
  obtain rfl : p1 = pv.set a0 (.slice (some ⟨τ6.next + 6 + 4 + 7, 0, some 1⟩) 32 32) := by rw [← hw]; exact wr_at _ a0 _ (by omega)
  clear hw
  generalize hZ : AS.put _ _ (AObj.cells (pv.set a0 _) false) = Z
  have gZ : Mem τ6 Z := by rw [← hZ]; repeat first | exact Mem.refl ok6 | apply Mem.bump | refine Mem.put ?_ (by (try simp only [bump_next, put_next]); omega) (by (try simp only [bump_next, put_next]); omega)
  have hZB : Z.heap (τ6.next + 6 + 2) = some (.cells (pv.set a0 (.slice (some ⟨τ6.next + 6 + 4 + 7, 0, some 1⟩) 32 32)) false) := by rw [← hZ]; exact put_heap_eq _ _ _
  have hZR : Z.heap (τ6.next + 6 + 4 + 7) = some (.cells ((rowA (encM s) a0).map vb) false) := by rw [← hZ, put_heap_ne (by (try simp only [bump_next, put_next]); omega)]; exact put_heap_eq _ _ _
  clear hZ
  have okZ := gZ.ok
  have hnZ := okZ.lt hZR
  have hat : (pv.set a0 (.slice (some ⟨τ6.next + 6 + 4 + 7, 0, some 1⟩) 32 32))[0 + a0 * 1]? = some (.slice (some ⟨τ6.next + 6 + 4 + 7, 0, some 1⟩) 32 32) := by rw [show 0 + a0 * 1 = a0 by omega, List.getElem?_set_self (by omega)]
  refine ld_intro hZB ?_
  conv => whnf
  refine at_intro hat ?_
  conv => whnf
  have okX : Ok (Z.bump 12) := Mem.ok (σ := Z) (by repeat first | exact Mem.refl okZ | apply Mem.bump | refine Mem.put ?_ (by (try simp only [bump_next, put_next]); omega) (by (try simp only [bump_next, put_next]); omega))
  have hNBl := okZ.lt hZB
  refine pick acall (m := 32) (by omega) (by omega) (Ok.wp okX (fun r hr => protL_false (okX.prot r hr) ?_)) ?_
  · intro q hq hq1
    simp only [List.mem_cons, List.not_mem_nil, or_false] at hq
    simp only [bump_next] at hr
    rcases hq with rfl
    simp [rdF, bump_next] <;> omega
  intro τ7 g7
  have g8 := Mem.unwp (σ := Z.bump 12) okX g7
  obtain ⟨k0, hk0, hk0'⟩ := pickN (x := kk) (m := 32) (by omega)
  rw [hk0]
  have hk32 : k0 < 32 := by omega
  obtain ⟨bv, hbv, hbl⟩ := u8_wf hby
  subst hbv
  conv => whnf
  generalize (τ7.wp (Z.bump 12).prot) = τ8 at *
  have g9 : Mem Z τ8 := Mem.trans (by repeat first | exact Mem.refl okZ | apply Mem.bump | refine Mem.put ?_ (by (try simp only [bump_next, put_next]); omega) (by (try simp only [bump_next, put_next]); omega)) g8
  have g10 := gZ.trans g9
  have ok8 := g10.ok
  repeat (first | (refine br_true (inR_intro (by simp only [loI, hiI]; omega)) ?_; conv => whnf) | (refine br_true (by simp only [blt_dec, ble_dec, beq_dec, ltB_eq, leB_eq, decide_eq_true_eq, decide_eq_false_iff_not, Bool.and_eq_true, Bool.or_eq_true, beq_iff_eq, bne_iff_ne, beq_eq_false_iff_ne, bne_eq_false_iff_eq]; first | done | omega) ?_; conv => whnf))
  have h8R := g9.old okZ hZR
  have h8B := g9.old okZ hZB
  refine ld_intro h8R ?_
  conv => whnf
  refine at_intro (map_vb_get hrl hk32) ?_
  conv => whnf
  rw [lock_eq, xor8 _ _ (getD_lt8 (encM_bytes s _ (row_mem (by rw [encM_len]; exact ha6))) k0) hbl]
  repeat (first | (refine br_true (inR_intro (by simp only [loI, hiI]; omega)) ?_; conv => whnf) | (refine br_true (by simp only [blt_dec, ble_dec, beq_dec, ltB_eq, leB_eq, decide_eq_true_eq, decide_eq_false_iff_not, Bool.and_eq_true, Bool.or_eq_true, beq_iff_eq, bne_iff_ne, beq_eq_false_iff_ne, bne_eq_false_iff_eq]; first | done | omega) ?_; conv => whnf))
  refine wr_intro h8R (protL_false (g10.noprot ok6 (by omega)) ?_) ?_
  · intro q hq hq1
    simp only [List.mem_cons, List.not_mem_nil, or_false] at hq
    rcases hq with rfl
    simp at hq1
  refine br_true (by first | rfl | decide) ?_
  repeat (first | (refine br_true (inR_intro (by simp only [loI, hiI]; omega)) ?_; conv => whnf) | (refine br_true (by simp only [blt_dec, ble_dec, beq_dec, ltB_eq, leB_eq, decide_eq_true_eq, decide_eq_false_iff_not, Bool.and_eq_true, Bool.or_eq_true, beq_iff_eq, bne_iff_ne, beq_eq_false_iff_ne, bne_eq_false_iff_eq, List.length_map, hrl]; first | done | omega) ?_; conv => whnf))
  generalize hw : wr ((rowA (encM s) a0).map vb) _ _ = w1
  obtain rfl : w1 = ((rowA (encM s) a0).set k0 ((rowA (encM s) a0).getD k0 0 ^^^ bv)).map vb := by
    rw [← hw, List.map_set]; exact wr_at _ k0 _ (by rw [List.length_map]; omega)
  clear hw
  generalize hY : AS.wp _ _ = Y
  have gY : Mem τ6 Y := by rw [← hY]; exact g10.put_wp (by omega) (ok8.lt h8R)
  have hYR : Y.heap (τ6.next + 6 + 4 + 7) = some (.cells (((rowA (encM s) a0).set k0 ((rowA (encM s) a0).getD k0 0 ^^^ bv)).map vb) false) := by rw [← hY]; exact put_heap_eq _ _ _
  have hYB : Y.heap (τ6.next + 6 + 2) = some (.cells (pv.set a0 (.slice (some ⟨τ6.next + 6 + 4 + 7, 0, some 1⟩) 32 32)) false) := by rw [← hY]; exact (put_heap_ne (by omega)).trans h8B
  clear hY
  have okY := gY.ok
  have hrows : RowsAt Y (pv.set a0 (.slice (some ⟨τ6.next + 6 + 4 + 7, 0, some 1⟩) 32 32)) (turnM s a0 k0 bv) := (hpr.mono ok6 gY).set a0 (SlAt.mk hYR (by rw [List.length_map, List.length_set, hrl]) (by rw [List.drop_zero, List.take_length]))
  have hc6 := hc
  have hs6 := hs
  have hc := hc.mono ok6 gY
  have hs := gY.old ok6 hs
  refine check (Mem.ok (σ := Y) (by repeat first | exact Mem.refl okY | apply Mem.bump | refine Mem.put ?_ (by (try simp only [bump_next, put_next]); omega) (by (try simp only [bump_next, put_next]); omega))) (hc.mono okY (by repeat first | exact Mem.refl okY | apply Mem.bump | refine Mem.put ?_ (by (try simp only [bump_next, put_next]); omega) (by (try simp only [bump_next, put_next]); omega))) (m := turnM s a0 k0 bv) ((hrows.mono okY (by repeat first | exact Mem.refl okY | apply Mem.bump | refine Mem.put ?_ (by (try simp only [bump_next, put_next]); omega) (by (try simp only [bump_next, put_next]); omega))).mat (by exact hYB) (by rw [List.length_set, pvl])) (turnM_len _ _ _ _) ?_ (turn_bytes ha6 hbl) (sel_all6 fun i hi => by rw [turn_rlen sl ha6 hi]; omega) ?_
  · intro r hr
    obtain ⟨i, hi, rfl⟩ := row_of_mem (turnM_len _ _ _ _) hr
    exact .inr (turn_rlen sl ha6 hi)
  intro τ9 L g11 hL bL hLs
  rw [turn_check sl sb hL bL ha6 hk32 hLs]
  have g12 : Mem Y τ9 := Mem.trans (by repeat first | exact Mem.refl okY | apply Mem.bump | refine Mem.put ?_ (by (try simp only [bump_next, put_next]); omega) (by (try simp only [bump_next, put_next]); omega)) g11
  have ok9 := g12.ok
  have hc := hc.mono okY g12
  have hs := g12.old okY hs
  have h9B := g12.old okY hYB
  have g69 := gY.trans g12
  clear gZ g7 g8 g9 g10 g11 hZB hZR
  conv => whnf
  rw [show ((bv : Int) == 0) = decide (bv = 0) by rw [Bool.eq_iff_iff]; simp]
  generalize decide (bv = 0) = t
  cases t
  all_goals
    conv => whnf
    repeat (first | (refine br_true (inR_intro (by simp only [loI, hiI]; omega)) ?_; conv => whnf) | (refine br_true (by simp only [blt_dec, ble_dec, beq_dec, ltB_eq, leB_eq, decide_eq_true_eq, decide_eq_false_iff_not, Bool.and_eq_true, Bool.or_eq_true, beq_iff_eq, bne_iff_ne, beq_eq_false_iff_ne, bne_eq_false_iff_eq]; first | done | omega) ?_; conv => whnf))
    refine wr_intro h9B (Mem.noprot (σ := σ) hσ (by repeat first | exact g06.trans g69 | apply Mem.bump | refine Mem.put ?_ (by (try simp only [bump_next, put_next]); omega) (by (try simp only [bump_next, put_next]); omega)) (by simp only [bump_next]; omega)) ?_
    refine br_true (by first | rfl | decide) ?_
    repeat (first | (refine br_true (inR_intro (by simp only [loI, hiI]; omega)) ?_; conv => whnf) | (refine br_true (by simp only [blt_dec, ble_dec, beq_dec, ltB_eq, leB_eq, decide_eq_true_eq, decide_eq_false_iff_not, Bool.and_eq_true, Bool.or_eq_true, beq_iff_eq, bne_iff_ne, beq_eq_false_iff_ne, bne_eq_false_iff_eq, List.length_set, pvl]; first | done | omega) ?_; conv => whnf))
    generalize hw : wr (pv.set a0 _) _ _ = p2
    obtain rfl : p2 = (pv.set a0 (.slice (some ⟨τ6.next + 6 + 4 + 7, 0, some 1⟩) 32 32)).set a0 (.slice none 0 0) := by rw [← hw]; exact wr_at _ a0 _ (by rw [List.length_set]; omega)
    clear hw
    have hNB9 := ok9.lt h9B
    have gV : Mem τ6 (((τ9.bump 4).put (τ6.next + 6 + 2) (.cells ((pv.set a0 (.slice (some ⟨τ6.next + 6 + 4 + 7, 0, some 1⟩) 32 32)).set a0 (.slice none 0 0)) false)).bump 8) := by repeat first | exact g69 | apply Mem.bump | refine Mem.put ?_ (by (try simp only [bump_next, put_next]); omega) (by (try simp only [bump_next, put_next]); omega)
    have hrow2 : ∀ i, rowA ((turnM s a0 k0 bv).set a0 []) i = if (i != a0) = true then rowA (encM s) i else [] := by
      intro i
      rw [rowA_set _ _ (by rw [turnM_len]; exact ha6)]
      by_cases h1 : i = a0
      · subst h1; simp
      · rw [if_neg h1, turn_row ha6, if_neg h1, if_pos (by simpa using h1)]
    have hm2 : MatAt (((τ9.bump 4).put (τ6.next + 6 + 2) (.cells ((pv.set a0 (.slice (some ⟨τ6.next + 6 + 4 + 7, 0, some 1⟩) 32 32)).set a0 (.slice none 0 0)) false)).bump 8) (.slice (some ⟨τ6.next + 6 + 2, 0, some 1⟩) 6 6) ((turnM s a0 k0 bv).set a0 []) := by
      have := (((hpr.mono ok6 gV).set a0 (x := .slice none 0 0) (row := []) (SlAt.nil _))).mat (r := τ6.next + 6 + 2) (n := 6) (cap := 6) (sp := some 1) (ro := false) (by rw [bump_heap, List.set_set]; exact put_heap_eq _ _ _) (by rw [List.length_set, pvl])
      rw [show (turnM s a0 k0 bv).set a0 [] = (encM s).set a0 [] by rw [turnM, List.set_set]]
      exact this
    refine decode_good acall (m := (turnM s a0 k0 bv).set a0 []) gV.ok (hc6.mono ok6 gV) hm2 (by rw [List.length_set, turnM_len]) sl sb (fun i => i != a0) (fun i _ => hrow2 i) (sel_but ha6) ?_
    intro τ10 r10 g13 hr10 h10
    have g610 := gV.trans g13
    conv => whnf
    refine ld_intro h10 ?_
    refine str_step sl (by decide) (all_of sl) ?_
    conv => whnf
    refine ld_intro (g610.old ok6 hs6) ?_
    refine str_step sl (by decide) (all_of sl) ?_
    conv => whnf
    rw [beq_self_eq_true]
    conv => whnf
    have ok10 := g610.ok
    refine check (Mem.ok (σ := τ10) (by repeat first | exact Mem.refl ok10 | apply Mem.bump | refine Mem.put ?_ (by (try simp only [bump_next, put_next]); omega) (by (try simp only [bump_next, put_next]); omega))) (hc6.mono ok6 (by repeat first | exact g610 | apply Mem.bump | refine Mem.put ?_ (by (try simp only [bump_next, put_next]); omega) (by (try simp only [bump_next, put_next]); omega))) (hm2.mono gV.ok (by repeat first | exact g13 | apply Mem.bump | refine Mem.put ?_ (by (try simp only [bump_next, put_next]); omega) (by (try simp only [bump_next, put_next]); omega))) (by rw [List.length_set, turnM_len]) ?_ ?_ ?_ ?_
    · intro r hr
      obtain ⟨i, hi, rfl⟩ := row_of_mem (by rw [List.length_set, turnM_len]) hr
      rw [hrow2]
      split
      · exact .inr (rowA_enc_len sl hi)
      · exact .inl rfl
    · exact bytes_set (turn_bytes ha6 hbl) fun x hx => by simp at hx
    · rw [show sel ((turnM s a0 k0 bv).set a0 []) 6 = selB (fun i => i != a0) 6 from selB_congr 6 fun i hi => by
        rw [there, hrow2]
        cases (i != a0) with
        | true => rw [if_pos rfl, rowA_enc_len sl hi]; rfl
        | false => rw [if_neg (by simp)]; rfl]
      exact sel_but ha6
    intro τ11 L2 g14 hL2 bL2 _
    rw [check_bad sl sb hL2 bL2 ha6 (fun i hi hia => by rw [hrow2, if_pos (by simpa using hia)]) (by rw [hrow2, if_neg (by simp)]; intro e; have := rowA_enc_len sl ha6; rw [← e] at this; simp at this)]
    conv => whnf
    have g1011 : Mem τ10 τ11 := Mem.trans (by repeat first | exact Mem.refl ok10 | apply Mem.bump | refine Mem.put ?_ (by (try simp only [bump_next, put_next]); omega) (by (try simp only [bump_next, put_next]); omega)) g14
    exact k _ (by repeat first | exact (g06.trans g610).trans g1011 | apply Mem.bump | refine Mem.put ?_ (by (try simp only [bump_next, put_next]); omega) (by (try simp only [bump_next, put_next]); omega))
end
end Go.Corb.A

/- Refusals of the coder. Conditions: none. -/
set_option linter.unusedVariables false
set_option linter.unusedSimpArgs false
namespace Go.Corb.A
open Go Go.RowKit Go.Proofs Go.Corb Go.IntWalk

section
variable {Base : CallRel}
set_option pp.deepTerms.threshold 8

/-- Inverse, of a matrix that is not square. -/
theorem inverse_no (hC : CProp (ACall Try.prog Base)) {v0 : Value} {m : List (List Nat)} {rf w : Nat} (hml : m.length < 64) (hw : m.length ≠ w) (hw1 : 1 ≤ w) (hw' : w ≤ 64) (hrl : ∀ l ∈ m, l.length = w) {σ : AS} (hσ : Ok σ) (hv0 : MatAt σ v0 m) {Q : Value → AS → Prop}
    (k1 : ∀ σ', Mem σ σ' → Q (.tuple [.slice none 0 0, .bool false].toArray) σ') :
    ∃ v σ', ACall Try.prog Base 14 [.pointer (some ⟨rf, 0, none⟩), v0] σ v σ' ∧ Q v σ' := by
  have hv := hv0
  obtain ⟨vs, hs, hl, hrows⟩ := hv0
  obtain ⟨a0, cap0, rfl⟩ := hs.shape
  refine call_rwp hC cf14 rfl hσ.wf ?_
  conv => whnf
  refine right hC (m := m) (by omega) (fun l hl => by rw [hrl l hl]; omega) (Mem.ok (σ := σ) (by repeat first | exact Mem.refl hσ | apply Mem.bump | refine Mem.put ?_ (by (try simp only [bump_next, put_next]); omega) (by (try simp only [bump_next, put_next]); omega))) (hv.mono hσ (by repeat first | exact Mem.refl hσ | apply Mem.bump | refine Mem.put ?_ (by (try simp only [bump_next, put_next]); omega) (by (try simp only [bump_next, put_next]); omega))) ?_
  intro τ1 g1
  have g2 : Mem σ τ1 := Mem.trans (by repeat first | exact Mem.refl hσ | apply Mem.bump | refine Mem.put ?_ (by (try simp only [bump_next, put_next]); omega) (by (try simp only [bump_next, put_next]); omega)) g1
  by_cases h0 : m.length = 0
  · rw [show rightB m = false by unfold rightB; rw [decide_eq_false (by omega)]; rfl]
    conv => whnf
    exact k1 _ (by repeat first | exact g2 | apply Mem.bump | refine Mem.put ?_ (by (try simp only [bump_next, put_next]); omega) (by (try simp only [bump_next, put_next]); omega))
  · have hm0 : 0 < m.length := by omega
    have e0 : (m.getD 0 []).length = w := by
      rw [List.getD_eq_getElem?_getD, List.getElem?_eq_getElem hm0]
      exact hrl _ (List.getElem_mem _)
    have hr : rightB m = true := by
      unfold rightB
      rw [e0, decide_eq_true (by omega), decide_eq_true (by omega)]
      simp only [Bool.true_and, List.all_eq_true, beq_iff_eq]
      exact hrl
    rw [hr]
    obtain ⟨r, o, sp, c, ro, rfl, hr1, hci, _⟩ := hs.idx (i := 0) (by omega)
    obtain ⟨a1, cap1, e1⟩ := (hrows 0 (by omega) (by omega)).shape
    rw [e1, List.length_map, hrl _ (List.getElem_mem hm0)] at hci
    conv => whnf
    repeat (first | (refine br_true (inR_intro (by simp only [loI, hiI]; omega)) ?_; conv => whnf) | (refine br_true (by simp only [blt_dec, ble_dec, beq_dec, ltB_eq, leB_eq, decide_eq_true_eq, decide_eq_false_iff_not, Bool.and_eq_true, Bool.or_eq_true, beq_iff_eq, bne_iff_ne, beq_eq_false_iff_ne, bne_eq_false_iff_eq]; first | done | omega) ?_; conv => whnf))
    refine ld_intro (g2.old hσ hr1) ?_
    conv => whnf
    refine at_intro hci ?_
    conv => whnf
    (refine br_true (by simp only [blt_dec, ble_dec, beq_dec, ltB_eq, leB_eq, decide_eq_true_eq, decide_eq_false_iff_not, Bool.and_eq_true, Bool.or_eq_true, beq_iff_eq, bne_iff_ne, beq_eq_false_iff_ne, bne_eq_false_iff_eq]; first | done | omega) ?_; conv => whnf)
    exact k1 _ (by repeat first | exact g2 | apply Mem.bump | refine Mem.put ?_ (by (try simp only [bump_next, put_next]); omega) (by (try simp only [bump_next, put_next]); omega))

theorem decode_few (hC : CProp (ACall Try.prog Base)) {σ : AS} (hσ : Ok σ) {rc : Nat} (hc : CoderAt σ rc) {vm : Value} {m : List (List Nat)} (hm : MatAt σ vm m) (hml : m.length = 6) (hmw : chunk0 m) (hmb : Bytes m) (hsel : (sel m 6).length < 4) {Q : Value → AS → Prop}
    (kQ : ∀ σ', Mem σ σ' → Q (.tuple [.slice none 0 0, .bool false].toArray) σ') :
    ∃ v σ', ACall Try.prog Base 22 [.pointer (some ⟨rc, 0, none⟩), vm] σ v σ' ∧ Q v σ' := by
  have hm0 := hm
  obtain ⟨ma, mv, mcap, rfl, hms, hmr⟩ := hm.rows
  obtain ⟨rf, rof, ro, h, rcap, h1, h2, h3, _⟩ := hc
  have hmvl : mv.length = 6 := by rw [hmr.1, hml]
  obtain ⟨ga, gv, gcap, ge, hgs, hgr⟩ := h3.rows
  have hgl : gv.length = 6 := hgr.1
  have hwl : ∀ k, (rowA m k).length = 0 ∨ (rowA m k).length = 32 := by
    intro k
    by_cases hk : k < m.length
    · exact hmw _ (row_mem hk)
    · left; rw [rowA, List.getD_eq_getElem?_getD, List.getElem?_eq_none (by omega)]; rfl
  refine call_rwp hC cf22 rfl hσ.wf ?_
  conv => whnf
  refine containsFunc hC (m := m) (by omega) (Mem.ok (σ := σ) (by repeat first | exact Mem.refl hσ | apply Mem.bump | refine Mem.put ?_ (by (try simp only [bump_next, put_next]); omega) (by (try simp only [bump_next, put_next]); omega))) (hm0.mono hσ (by repeat first | exact Mem.refl hσ | apply Mem.bump | refine Mem.put ?_ (by (try simp only [bump_next, put_next]); omega) (by (try simp only [bump_next, put_next]); omega))) (fun i => decide ((rowA m i).length ≠ 0 ∧ (rowA m i).length ≠ 32)) ?_ ?_
  · intro i x τ hi g hx Q k
    have e : m[i] = rowA m i := by rw [rowA, List.getD_eq_getElem?_getD, List.getElem?_eq_getElem hi]; rfl
    rw [e] at hx
    exact decode1 hC g.ok hx (by rcases hwl i with h | h <;> omega) k
  intro τ1 g1
  have g2 : Mem σ τ1 := Mem.trans (by repeat first | exact Mem.refl hσ | apply Mem.bump | refine Mem.put ?_ (by (try simp only [bump_next, put_next]); omega) (by (try simp only [bump_next, put_next]); omega)) g1
  have hany : (List.range m.length).any (fun i => decide ((rowA m i).length ≠ 0 ∧ (rowA m i).length ≠ 32)) = false := by
    rw [List.any_eq_false]
    intro i _
    have := hwl i
    rw [decide_eq_true_eq]; omega
  rw [hany]
  conv => whnf
  (refine br_false (by simp only [blt_dec, ble_dec, beq_dec, ltB_eq, leB_eq, decide_eq_true_eq, decide_eq_false_iff_not, Bool.and_eq_true, Bool.or_eq_true, beq_iff_eq, bne_iff_ne, beq_eq_false_iff_ne, bne_eq_false_iff_eq]; first | done | omega) ?_; conv => whnf)
  refine loop_intro (n := 75) (fun mm ws τ => ∃ (k : Nat) (rv sv : Value) (rvals svals : List Value), k ≤ 6 ∧ mm = 6 - k ∧ ws = [.pointer (some ⟨rc, 0, none⟩), rv, sv, .slice ma mv.length mcap, vi mv.length, vi k] ∧ Mem σ τ ∧ Growing σ τ rv rvals ∧ Growing σ τ sv svals ∧ (∀ q, headOf rv = some q → headOf sv ≠ some q) ∧
    RowsAt σ rvals ((sel m k).map (rowA genM)) ∧ RowsAt σ svals ((sel m k).map (rowA m))) 6 rfl ?_ ?_
  · conv => whnf
    exact ⟨0, _, _, [], [], by omega, rfl, rfl, by repeat first | exact g2 | apply Mem.bump | refine Mem.put ?_ (by (try simp only [bump_next, put_next]); omega) (by (try simp only [bump_next, put_next]); omega), .inl ⟨rfl, rfl⟩, .inl ⟨rfl, rfl⟩, fun q h => (nomatch h), RowsAt.nil _, RowsAt.nil _⟩
  · rintro mm ws τ ⟨k, rv, sv, rvals, svals, hk, rfl, rfl, g, hGr, hGs, hne, hrr, hrs⟩
    have hrl : rvals.length = (sel m k).length := by rw [hrr.1, List.length_map]
    have hsl : svals.length = (sel m k).length := by rw [hrs.1, List.length_map]
    have hnx := g.next
    have hs4 := selB_len (there m) k
    have hhr : ∀ q, headOf rv = some q → q < τ.next := fun q e => g.ok.lt (hGr.head e).2
    have hhs : ∀ q, headOf sv = some q → q < τ.next := fun q e => g.ok.lt (hGs.head e).2
    obtain ⟨ra, rcap', hrv⟩ := hGr.len
    obtain ⟨sa, scap', hsv⟩ := hGs.len
    subst hrv
    subst hsv
    conv => whnf
    refine br_intro ?_ ?_ <;> intro h5 <;> simp only [blt_dec, ble_dec, beq_dec, ltB_eq, leB_eq, decide_eq_true_eq, decide_eq_false_iff_not, beq_iff_eq, bne_iff_ne, beq_eq_false_iff_ne, bne_eq_false_iff_eq] at h5
    · have hk0 : k < 6 := by omega
      obtain ⟨xv, xv1, ⟨xa, xc, rfl⟩, xv3⟩ := hmr.get (i := k) (by omega)
      obtain ⟨mr, mo, msp, mc, mro, rfl, hmh, hmi, _⟩ := hms.idx (i := k) (by omega)
      rw [← List.getElem?_eq_some_iff.2 ⟨_, rfl⟩, xv1] at hmi
      conv => whnf
      repeat (first | (refine br_true (inR_intro (by simp only [loI, hiI]; omega)) ?_; conv => whnf) | (refine br_true (by simp only [blt_dec, ble_dec, beq_dec, ltB_eq, leB_eq, decide_eq_true_eq, decide_eq_false_iff_not, Bool.and_eq_true, Bool.or_eq_true, beq_iff_eq, bne_iff_ne, beq_eq_false_iff_ne, bne_eq_false_iff_eq]; first | done | omega) ?_; conv => whnf))
      refine ld_intro (g.old hσ hmh) ?_
      conv => whnf
      refine at_intro hmi ?_
      conv => whnf
      have hth : there m k = decide (0 < (m.getD k []).length) := rfl
      have hsucc : sel m (k + 1) = if there m k && decide ((sel m k).length < 4) then sel m k ++ [k] else sel m k := rfl
      refine br_intro ?_ ?_ <;> intro h6 <;> simp only [blt_dec, ble_dec, beq_dec, ltB_eq, leB_eq, decide_eq_true_eq, decide_eq_false_iff_not, beq_iff_eq, bne_iff_ne, beq_eq_false_iff_ne, bne_eq_false_iff_eq] at h6
      · conv => whnf
        refine br_intro ?_ ?_ <;> intro h7 <;> simp only [blt_dec, ble_dec, beq_dec, ltB_eq, leB_eq, decide_eq_true_eq, decide_eq_false_iff_not, beq_iff_eq, bne_iff_ne, beq_eq_false_iff_ne, bne_eq_false_iff_eq] at h7
        · conv => whnf
          refine ld_intro (g.old hσ h1) ?_
          conv => whnf
          obtain ⟨yv, yv1, ⟨ya, yc, rfl⟩, yv3⟩ := hgr.get (i := k) hk0
          obtain ⟨gr, go, gsp, gc, gro, ge1, hgh, hgi, _⟩ := hgs.idx (i := k) (by omega)
          simp only [Option.some.injEq, Addr.mk.injEq] at ge1
          obtain ⟨rfl, rfl, rfl⟩ := ge1
          rw [← List.getElem?_eq_some_iff.2 ⟨_, rfl⟩, yv1] at hgi
          repeat (first | (refine br_true (inR_intro (by simp only [loI, hiI]; omega)) ?_; conv => whnf) | (refine br_true (by simp only [blt_dec, ble_dec, beq_dec, ltB_eq, leB_eq, decide_eq_true_eq, decide_eq_false_iff_not, Bool.and_eq_true, Bool.or_eq_true, beq_iff_eq, bne_iff_ne, beq_eq_false_iff_ne, bne_eq_false_iff_eq]; first | done | omega) ?_; conv => whnf))
          refine ld_intro (g.old hσ hgh) ?_
          conv => whnf
          refine at_intro hgi ?_
          conv => whnf
          have gA : Mem σ ((((τ.bump 1).bump 5).bump 8).bump 16 |>.put (τ.next + 1 + 5 + 8 + 8) (.cells [.slice ya (genM.getD k []).length yc] false)) := by repeat first | exact g | apply Mem.bump | refine Mem.put ?_ (by (try simp only [bump_next, put_next]); omega) (by (try simp only [bump_next, put_next]); omega)
          have hGrA : Growing σ ((((τ.bump 1).bump 5).bump 8).bump 16 |>.put (τ.next + 1 + 5 + 8 + 8) (.cells [.slice ya (genM.getD k []).length yc] false)) (.slice ra rvals.length rcap') rvals := hGr.keep fun q e => put_heap_ne (by have := hhr q e; omega)
          obtain ⟨τa, hapa, ga', hna, hnxa, hfra⟩ := app_growing (N := τ.next + 1 + 5 + 8 + 9) (bytes := 24) (x := .slice (some ⟨τ.next + 1 + 5 + 8 + 8, 0, none⟩) 1 1) (news := [.slice ya (genM.getD k []).length yc]) hσ gA hGrA (by omega) (by simp only [put_next, bump_next]; omega) (SlAt.mk (put_heap_eq _ _ _) rfl rfl) rfl hrr.one (by simp) (by simp; omega)
          refine ⟨_, _, hapa, ?_⟩
          simp only [put_next, bump_next] at hnxa
          conv => whnf
          have gB : Mem σ (τa.put (τ.next + 1 + 5 + 8 + 12) (.cells [.slice xa (m.getD k []).length xc] false)) := ga'.put (by omega) (by omega)
          have hGsB : Growing σ (τa.put (τ.next + 1 + 5 + 8 + 12) (.cells [.slice xa (m.getD k []).length xc] false)) (.slice sa svals.length scap') svals := hGs.keep fun q e => by
            have hq := hhs q e
            rw [put_heap_ne (by omega), hfra q (by omega) (fun e2 => hne q e2 e), put_heap_ne (by omega)]
            rfl
          obtain ⟨τb, hapb, gb', hnb, hnxb, hfrb⟩ := app_growing (N := τ.next + 1 + 5 + 8 + 13) (bytes := 24) (x := .slice (some ⟨τ.next + 1 + 5 + 8 + 12, 0, none⟩) 1 1) (news := [.slice xa (m.getD k []).length xc]) hσ gB hGsB (by omega) (by simp only [put_next]; omega) (SlAt.mk (put_heap_eq _ _ _) rfl rfl) rfl hrs.one (by simp) (by simp; omega)
          refine ⟨_, _, hapb, ?_⟩
          conv => whnf
          repeat (first | (refine br_true (inR_intro (by simp only [loI, hiI]; omega)) ?_; conv => whnf) | (refine br_true (by simp only [blt_dec, ble_dec, beq_dec, ltB_eq, leB_eq, decide_eq_true_eq, decide_eq_false_iff_not, Bool.and_eq_true, Bool.or_eq_true, beq_iff_eq, bne_iff_ne, beq_eq_false_iff_ne, bne_eq_false_iff_eq]; first | done | omega) ?_; conv => whnf))
          rw [hth, decide_eq_true (by omega), decide_eq_true (by omega)] at hsucc
          rw [show (true && true) = true from rfl, if_pos rfl] at hsucc
          refine ⟨rfl, 6 - (k + 1), by omega, k + 1, .slice (some ⟨τ.next + 1 + 5 + 8 + 9, 0, some 1⟩) (rvals.length + 1) (rvals.length + 1), .slice (some ⟨τ.next + 1 + 5 + 8 + 13, 0, some 1⟩) (svals.length + 1) (svals.length + 1), rvals ++ [.slice ya (genM.getD k []).length yc], svals ++ [.slice xa (m.getD k []).length xc], by omega, rfl, rfl, by repeat first | exact gb' | apply Mem.bump | refine Mem.put ?_ (by (try simp only [bump_next, put_next]); omega) (by (try simp only [bump_next, put_next]); omega), .inr ⟨τ.next + 1 + 5 + 8 + 9, by omega, by rw [List.length_append]; rfl, ?_⟩, .inr ⟨τ.next + 1 + 5 + 8 + 13, by omega, by rw [List.length_append]; rfl, by rw [bump_heap]; exact hnb⟩, ?_, ?_, ?_⟩
          · rw [bump_heap, hfrb _ (by omega) (fun e => by have := hhs _ e; omega), put_heap_ne (by omega)]
            exact hna
          · intro q e e2
            have e : τ.next + 1 + 5 + 8 + 9 = q := by injection e
            have e2 : τ.next + 1 + 5 + 8 + 13 = q := by injection e2
            omega
          · rw [hsucc, List.map_append]; exact hrr.append (RowsAt.one1 yv3)
          · rw [hsucc, List.map_append]; exact hrs.append (RowsAt.one1 xv3)
        · conv => whnf
          repeat (first | (refine br_true (inR_intro (by simp only [loI, hiI]; omega)) ?_; conv => whnf) | (refine br_true (by simp only [blt_dec, ble_dec, beq_dec, ltB_eq, leB_eq, decide_eq_true_eq, decide_eq_false_iff_not, Bool.and_eq_true, Bool.or_eq_true, beq_iff_eq, bne_iff_ne, beq_eq_false_iff_ne, bne_eq_false_iff_eq]; first | done | omega) ?_; conv => whnf))
          rw [hth, decide_eq_true (by omega), decide_eq_false (by omega)] at hsucc
          rw [show (true && false) = false from rfl, if_neg (by simp)] at hsucc
          refine ⟨rfl, 6 - (k + 1), by omega, k + 1, _, _, rvals, svals, by omega, rfl, rfl, by repeat first | exact g | apply Mem.bump | refine Mem.put ?_ (by (try simp only [bump_next, put_next]); omega) (by (try simp only [bump_next, put_next]); omega), hGr, hGs, hne, ?_, ?_⟩
          · rw [hsucc]; exact hrr
          · rw [hsucc]; exact hrs
      · conv => whnf
        repeat (first | (refine br_true (inR_intro (by simp only [loI, hiI]; omega)) ?_; conv => whnf) | (refine br_true (by simp only [blt_dec, ble_dec, beq_dec, ltB_eq, leB_eq, decide_eq_true_eq, decide_eq_false_iff_not, Bool.and_eq_true, Bool.or_eq_true, beq_iff_eq, bne_iff_ne, beq_eq_false_iff_ne, bne_eq_false_iff_eq]; first | done | omega) ?_; conv => whnf))
        rw [hth, decide_eq_false (by omega)] at hsucc
        rw [Bool.false_and, if_neg (by simp)] at hsucc
        refine ⟨rfl, 6 - (k + 1), by omega, k + 1, _, _, rvals, svals, by omega, rfl, rfl, by repeat first | exact g | apply Mem.bump | refine Mem.put ?_ (by (try simp only [bump_next, put_next]); omega) (by (try simp only [bump_next, put_next]); omega), hGr, hGs, hne, ?_, ?_⟩
        · rw [hsucc]; exact hrr
        · rw [hsucc]; exact hrs
    · obtain rfl : k = 6 := by omega
      have hselt : ∀ i ∈ sel m 6, i < 6 ∧ there m i = true := selB_lt _ _
      have gE : Mem σ ((τ.bump 1).bump 11) := by repeat first | exact g | apply Mem.bump | refine Mem.put ?_ (by (try simp only [bump_next, put_next]); omega) (by (try simp only [bump_next, put_next]); omega)
      have hrows : MatAt ((τ.bump 1).bump 11) (.slice ra rvals.length rcap') ((sel m 6).map (rowA genM)) := ⟨rvals, hGr.at, (hrr.mono hσ gE).1, (hrr.mono hσ gE).2⟩
      conv => whnf
      refine ld_intro (g.old hσ h1) ?_
      conv => whnf
      refine inverse_no hC (m := (sel m 6).map (rowA genM)) (w := 4) (by rw [List.length_map]; omega) (by rw [List.length_map]; omega) (by omega) (by omega) ?_ gE.ok hrows ?_
      · intro r hr
        obtain ⟨i, hi, rfl⟩ := List.mem_map.1 hr
        exact genM_wid _ (row_mem (hselt i hi).1)
      intro τ2 g2
      conv => whnf
      exact kQ _ (by repeat first | exact gE.trans g2 | apply Mem.bump | refine Mem.put ?_ (by (try simp only [bump_next, put_next]); omega) (by (try simp only [bump_next, put_next]); omega))

theorem decode_wrong (hC : CProp (ACall Try.prog Base)) {σ : AS} (hσ : Ok σ) {rc : Nat} {vm : Value} {m : List (List Nat)} (hm : MatAt σ vm m) (hml : m.length < 2 ^ 40) (hrl : ∀ l ∈ m, l.length < 2 ^ 40)
    (hbad : m.length ≠ 6 ∨ ∃ k, k < m.length ∧ (rowA m k).length ≠ 0 ∧ (rowA m k).length ≠ 32) {Q : Value → AS → Prop}
    (kQ : ∀ σ', Mem σ σ' → Q (.tuple [.slice none 0 0, .bool false].toArray) σ') :
    ∃ v σ', ACall Try.prog Base 22 [.pointer (some ⟨rc, 0, none⟩), vm] σ v σ' ∧ Q v σ' := by
  have hm0 := hm
  obtain ⟨ma, mv, mcap, rfl, hms, hmr⟩ := hm.rows
  have hmvl : mv.length = m.length := hmr.1
  refine call_rwp hC cf22 rfl hσ.wf ?_
  conv => whnf
  refine containsFunc hC (m := m) hml (Mem.ok (σ := σ) (by repeat first | exact Mem.refl hσ | apply Mem.bump | refine Mem.put ?_ (by (try simp only [bump_next, put_next]); omega) (by (try simp only [bump_next, put_next]); omega))) (hm0.mono hσ (by repeat first | exact Mem.refl hσ | apply Mem.bump | refine Mem.put ?_ (by (try simp only [bump_next, put_next]); omega) (by (try simp only [bump_next, put_next]); omega))) (fun i => decide ((rowA m i).length ≠ 0 ∧ (rowA m i).length ≠ 32)) ?_ ?_
  · intro i x τ hi g hx Q k
    have e : m[i] = rowA m i := by rw [rowA, List.getD_eq_getElem?_getD, List.getElem?_eq_getElem hi]; rfl
    have := hrl _ (List.getElem_mem hi)
    rw [e] at hx this
    exact decode1 hC g.ok hx this k
  intro τ1 g1
  have g2 : Mem σ τ1 := Mem.trans (by repeat first | exact Mem.refl hσ | apply Mem.bump | refine Mem.put ?_ (by (try simp only [bump_next, put_next]); omega) (by (try simp only [bump_next, put_next]); omega)) g1
  generalize ht : (List.range m.length).any _ = t
  conv => whnf
  refine br_intro ?_ ?_ <;> intro h6 <;> simp only [blt_dec, ble_dec, beq_dec, ltB_eq, leB_eq, decide_eq_true_eq, decide_eq_false_iff_not, beq_iff_eq, bne_iff_ne, beq_eq_false_iff_ne, bne_eq_false_iff_eq] at h6
  · conv => whnf
    exact kQ _ (by repeat first | exact g2 | apply Mem.bump | refine Mem.put ?_ (by (try simp only [bump_next, put_next]); omega) (by (try simp only [bump_next, put_next]); omega))
  · have ht : t = true := by
      rw [← ht, List.any_eq_true]
      rcases hbad with h | ⟨k, h1, h2⟩
      · omega
      · exact ⟨k, List.mem_range.2 h1, decide_eq_true h2⟩
    subst ht
    conv => whnf
    exact kQ _ (by repeat first | exact g2 | apply Mem.bump | refine Mem.put ?_ (by (try simp only [bump_next, put_next]); omega) (by (try simp only [bump_next, put_next]); omega))

theorem check_no {σ : AS} (hσ : Ok σ) {rc : Nat} {vm : Value} {Q : Value → AS → Prop} (hv : ∃ a n c, vm = .slice a n c)
    (hD : ∀ (τ : AS), Mem σ τ → ∀ R : Value → AS → Prop, (∀ σ', Mem τ σ' → R (.tuple [.slice none 0 0, .bool false].toArray) σ') → ∃ v σ', ACall Try.prog PartsBase 22 [.pointer (some ⟨rc, 0, none⟩), vm] τ v σ' ∧ R v σ')
    (kQ : ∀ σ', Mem σ σ' → Q (.bool false) σ') :
    ∃ v σ', ACall Try.prog PartsBase 24 [.pointer (some ⟨rc, 0, none⟩), vm] σ v σ' ∧ Q v σ' := by
  obtain ⟨a, n, c, rfl⟩ := hv
  refine call_rwp acall cf24 rfl hσ.wf ?_
  conv => whnf
  refine hD _ (by repeat first | exact Mem.refl hσ | apply Mem.bump | refine Mem.put ?_ (by (try simp only [bump_next, put_next]); omega) (by (try simp only [bump_next, put_next]); omega)) _ ?_
  intro τ1 g1
  have g2 : Mem σ τ1 := Mem.trans (by repeat first | exact Mem.refl hσ | apply Mem.bump | refine Mem.put ?_ (by (try simp only [bump_next, put_next]); omega) (by (try simp only [bump_next, put_next]); omega)) g1
  conv => whnf
  exact kQ _ (by repeat first | exact g2 | apply Mem.bump | refine Mem.put ?_ (by (try simp only [bump_next, put_next]); omega) (by (try simp only [bump_next, put_next]); omega))

theorem encode_bad (hC : CProp (ACall Try.prog Base)) {σ : AS} (hσ : Ok σ) {rc : Nat} {a : Option Addr} {n cap : Nat} (hn : n ≠ 128) {Q : Value → AS → Prop} (kQ : ∀ σ', Mem σ σ' → Q (.tuple [.slice none 0 0, vi 1].toArray) σ') :
    ∃ v σ', ACall Try.prog Base 18 [.pointer (some ⟨rc, 0, none⟩), .slice a n cap] σ v σ' ∧ Q v σ' := by
  refine call_rwp hC cf18 rfl hσ.wf ?_
  conv => whnf
  (refine br_true (by simp only [blt_dec, ble_dec, beq_dec, ltB_eq, leB_eq, decide_eq_true_eq, decide_eq_false_iff_not, Bool.and_eq_true, Bool.or_eq_true, beq_iff_eq, bne_iff_ne, beq_eq_false_iff_ne, bne_eq_false_iff_eq]; first | done | omega) ?_; conv => whnf)
  exact kQ _ (by repeat first | exact Mem.refl hσ | apply Mem.bump | refine Mem.put ?_ (by (try simp only [bump_next, put_next]); omega) (by (try simp only [bump_next, put_next]); omega))

theorem delta_idx (hC : CProp (ACall Try.prog Base)) {σ : AS} (hσ : Ok σ) {rc : Nat} {a a' : Option Addr} {n cap n' cap' : Nat} {Q : Value → AS → Prop} (kQ : ∀ σ', Mem σ σ' → Q (.tuple [.slice none 0 0, vi 1].toArray) σ') :
    ∃ v σ', ACall Try.prog Base 19 [.pointer (some ⟨rc, 0, none⟩), vi 4, .slice a n cap, .slice a' n' cap'] σ v σ' ∧ Q v σ' := by
  refine call_rwp hC cf19 rfl hσ.wf ?_
  conv => whnf
  exact kQ _ (by repeat first | exact Mem.refl hσ | apply Mem.bump | refine Mem.put ?_ (by (try simp only [bump_next, put_next]); omega) (by (try simp only [bump_next, put_next]); omega))

theorem delta_len (hC : CProp (ACall Try.prog Base)) {σ : AS} (hσ : Ok σ) {rc : Nat} {a a' : Option Addr} {n cap n' cap' : Nat} (hn : n ≠ 32) {Q : Value → AS → Prop} (kQ : ∀ σ', Mem σ σ' → Q (.tuple [.slice none 0 0, vi 1].toArray) σ') :
    ∃ v σ', ACall Try.prog Base 19 [.pointer (some ⟨rc, 0, none⟩), vi 0, .slice a n cap, .slice a' n' cap'] σ v σ' ∧ Q v σ' := by
  refine call_rwp hC cf19 rfl hσ.wf ?_
  conv => whnf
  (refine br_true (by simp only [blt_dec, ble_dec, beq_dec, ltB_eq, leB_eq, decide_eq_true_eq, decide_eq_false_iff_not, Bool.and_eq_true, Bool.or_eq_true, beq_iff_eq, bne_iff_ne, beq_eq_false_iff_ne, bne_eq_false_iff_eq]; first | done | omega) ?_; conv => whnf)
  exact kQ _ (by repeat first | exact Mem.refl hσ | apply Mem.bump | refine Mem.put ?_ (by (try simp only [bump_next, put_next]); omega) (by (try simp only [bump_next, put_next]); omega))

theorem row_no (hC : CProp (ACall Try.prog Base)) {σ : AS} (hσ : Ok σ) {rc : Nat} (hc : CoderAt σ rc) {i : Int} (hi : i < 0 ∨ 6 ≤ i) {Q : Value → AS → Prop} (kQ : ∀ σ', Mem σ σ' → Q (.slice none 0 0) σ') :
    ∃ v σ', ACall Try.prog Base 25 [.pointer (some ⟨rc, 0, none⟩), .int .i64 i] σ v σ' ∧ Q v σ' := by
  obtain ⟨rf, rof, ro, h, rcap, hc1, hc2, hc3, hcap⟩ := hc
  refine call_rwp hC cf25 rfl hσ.wf ?_
  conv => whnf
  refine br_intro ?_ ?_ <;> intro h1 <;> simp only [blt_dec, ble_dec, beq_dec, ltB_eq, leB_eq, decide_eq_true_eq, decide_eq_false_iff_not, beq_iff_eq, bne_iff_ne, beq_eq_false_iff_ne, bne_eq_false_iff_eq] at h1
  · conv => whnf
    exact kQ _ (by repeat first | exact Mem.refl hσ | apply Mem.bump | refine Mem.put ?_ (by (try simp only [bump_next, put_next]); omega) (by (try simp only [bump_next, put_next]); omega))
  · conv => whnf
    refine ld_intro hc1 ?_
    conv => whnf
    (refine br_true (by simp only [blt_dec, ble_dec, beq_dec, ltB_eq, leB_eq, decide_eq_true_eq, decide_eq_false_iff_not, Bool.and_eq_true, Bool.or_eq_true, beq_iff_eq, bne_iff_ne, beq_eq_false_iff_ne, bne_eq_false_iff_eq]; first | done | omega) ?_; conv => whnf)
    exact kQ _ (by repeat first | exact Mem.refl hσ | apply Mem.bump | refine Mem.put ?_ (by (try simp only [bump_next, put_next]); omega) (by (try simp only [bump_next, put_next]); omega))

theorem row_ok (hC : CProp (ACall Try.prog Base)) {σ : AS} (hσ : Ok σ) {rc : Nat} (hc : CoderAt σ rc) {i : Nat} (hi : i < 6) {Q : Value → AS → Prop} (kQ : ∀ σ' r, Mem σ σ' → σ'.heap r = some (.cells ((rowA genM i).map vb) false) → Q (.slice (some ⟨r, 0, some 1⟩) 4 4) σ') :
    ∃ v σ', ACall Try.prog Base 25 [.pointer (some ⟨rc, 0, none⟩), vi i] σ v σ' ∧ Q v σ' := by
  obtain ⟨rf, rof, ro, h, rcap, hc1, hc2, hc3, hcap⟩ := hc
  obtain ⟨gr, go, gsp, gcap, gc, gro, ge, gh, gli⟩ := mat_open hc3 (show genM.length = 6 from rfl) (by decide)
  simp only [Value.slice.injEq, Option.some.injEq, Addr.mk.injEq] at ge
  obtain ⟨⟨rfl, rfl, rfl⟩, _, rfl⟩ := ge
  obtain ⟨x, hx1, hx2⟩ := gli i hi
  have hl : (rowA genM i).length = 4 := genM_wid _ (row_mem (show i < genM.length from hi))
  obtain ⟨a, c, rfl⟩ := hx2.shape
  refine call_rwp hC cf25 rfl hσ.wf ?_
  conv => whnf
  refine ld_intro hc1 ?_
  conv => whnf
  (refine br_false (by simp only [blt_dec, ble_dec, beq_dec, ltB_eq, leB_eq, decide_eq_true_eq, decide_eq_false_iff_not, Bool.and_eq_true, Bool.or_eq_true, beq_iff_eq, bne_iff_ne, beq_eq_false_iff_ne, bne_eq_false_iff_eq]; first | done | omega) ?_; conv => whnf)
  refine ld_intro hc1 ?_
  conv => whnf
  repeat (first | (refine br_true (inR_intro (by simp only [loI, hiI]; omega)) ?_; conv => whnf) | (refine br_true (by simp only [blt_dec, ble_dec, beq_dec, ltB_eq, leB_eq, decide_eq_true_eq, decide_eq_false_iff_not, Bool.and_eq_true, Bool.or_eq_true, beq_iff_eq, bne_iff_ne, beq_eq_false_iff_ne, bne_eq_false_iff_eq]; first | done | omega) ?_; conv => whnf))
  refine ld_intro gh ?_
  conv => whnf
  refine at_intro hx1 ?_
  conv => whnf
  refine clone hC (l := rowA genM i) (by omega) (Mem.ok (σ := σ) (by repeat first | exact Mem.refl hσ | apply Mem.bump | refine Mem.put ?_ (by (try simp only [bump_next, put_next]); omega) (by (try simp only [bump_next, put_next]); omega))) (hx2.mono hσ (by repeat first | exact Mem.refl hσ | apply Mem.bump | refine Mem.put ?_ (by (try simp only [bump_next, put_next]); omega) (by (try simp only [bump_next, put_next]); omega))) (by intro e; rw [e] at hl; simp at hl) ?_
  intro τ2 v g2 hF
  have g3 : Mem σ τ2 := Mem.trans (by repeat first | exact Mem.refl hσ | apply Mem.bump | refine Mem.put ?_ (by (try simp only [bump_next, put_next]); omega) (by (try simp only [bump_next, put_next]); omega)) g2
  rcases hF with ⟨e, _⟩ | ⟨r2, _, rfl, hr2⟩
  · rw [e] at hl; simp at hl
  · rw [hl]
    conv => whnf
    exact kQ _ r2 (by repeat first | exact g3 | apply Mem.bump | refine Mem.put ?_ (by (try simp only [bump_next, put_next]); omega) (by (try simp only [bump_next, put_next]); omega)) hr2
end
end Go.Corb.A

/- The law CoderKnown over the abstract memory. Conditions: none. -/
set_option linter.unusedVariables false
set_option linter.unusedSimpArgs false
namespace Go.Corb.A
open Go Go.RowKit Go.Proofs Go.Corb Go.IntWalk

theorem rows_open {σ τ : AS} {v : Value} {w n : Nat} {rs : List Nat} {m : List (List Nat)} (h : Rows σ τ v w rs m) (hn : m.length = n) (hn0 : 0 < n) :
    ∃ r, v = .slice (some ⟨r, 0, some 1⟩) n n ∧ τ.heap r = some (.cells (rs.map (whole · w)) false) ∧ rs.length = n ∧ ∀ k, k < n → ∃ q, (rs.map (whole · w))[0 + k * 1]? = some (whole q w) ∧ τ.heap q = some (.cells ((rowA m k).map vb) false) := by
  have hl : rs.length = n := by rw [h.len, hn]
  rcases h.grow with ⟨e, _⟩ | ⟨r, _, rfl, hr⟩
  · rw [List.map_eq_nil_iff] at e; rw [e] at hl; simp at hl; omega
  · refine ⟨r, by rw [List.length_map, hl], hr, hl, fun k hk => ⟨rs[k]'(by omega), ?_, (h.row k (by omega)).2.2.2⟩⟩
    rw [show 0 + k * 1 = k by omega, List.getElem?_map, List.getElem?_eq_getElem (by omega)]; rfl

theorem _root_.Go.Corb.del_heap_ne {σ : AS} {r q : Nat} (h : q ≠ r) : (σ.del r).heap q = σ.heap q := by simp [AS.del, h]
theorem rows_at {σ τ : AS} {v : Value} {w : Nat} {rs : List Nat} {m : List (List Nat)} (h : Rows σ τ v w rs m) : RowsAt τ (rs.map (whole · w)) m := by
  refine ⟨by rw [List.length_map, h.len], fun i h1 h2 => ?_⟩
  rw [List.length_map] at h1
  obtain ⟨_, _, h3, h4⟩ := h.row i h1
  have e : m.getD i [] = m[i] := by rw [List.getD_eq_getElem?_getD, List.getElem?_eq_getElem h2]; rfl
  rw [e] at h3 h4
  rw [List.getElem_map]
  exact SlAt.mk h4 (by rw [List.length_map, h3]) (by rw [List.drop_zero, List.take_length])
theorem RowsAt.take {σ : AS} {vs : List Value} {m : List (List Nat)} (h : RowsAt σ vs m) (n : Nat) : RowsAt σ (vs.take n) (m.take n) := by
  refine ⟨by rw [List.length_take, List.length_take, h.1], fun i h1 h2 => ?_⟩
  rw [List.getElem_take, List.getElem_take]
  exact h.2 _ _ _

section
set_option pp.deepTerms.threshold 8

theorem encodeR {σ : AS} (hσ : Ok σ) {rc : Nat} (hc : CoderAt σ rc) {vs : Value} {l : List Nat} (hs : StripeAt σ vs l) {Q : Value → AS → Prop}
    (kQ : ∀ σ' v σ0 rs, Mem σ σ' → Rows σ0 σ' v 32 rs (encM l) → Q (.tuple [v, vi 0].toArray) σ') :
    ∃ v σ', ACall Try.prog PartsBase 18 [.pointer (some ⟨rc, 0, none⟩), vs] σ v σ' ∧ Q v σ' := by
  obtain ⟨hl, hb, r, o, sp, cap, rfl, hcap, hsp, hsl⟩ := hs
  obtain ⟨rf, rof, ro, h, rcap, h1, h2, h3, _⟩ := hc
  refine call_rwp acall cf18 rfl hσ.wf ?_
  conv => whnf
  refine ld_intro h1 ?_
  conv => whnf
  refine ld_intro h1 ?_
  conv => whnf
  refine parts (M := 4) (by omega) (by omega) (by omega) hsp ?_
  conv => whnf
  have gS : Mem σ (((((σ.bump 2).bump 3).bump 13).bump 1).put (σ.next + 2 + 3 + 13) (.cells ((List.range 4).map fun k => .slice (some ⟨r, o + k * 32, none⟩) 32 32) false)) := by repeat first | exact Mem.refl hσ | apply Mem.bump | refine Mem.put ?_ (by (try simp only [bump_next, put_next]); omega) (by (try simp only [bump_next, put_next]); omega)
  have okX : Ok ((((((σ.bump 2).bump 3).bump 13).bump 1).put (σ.next + 2 + 3 + 13) (.cells ((List.range 4).map fun k => .slice (some ⟨r, o + k * 32, none⟩) 32 32) false)).wp (protL [(9, 3), (9, 7)] [] 13 (((σ.bump 2).bump 3).bump 13).prot 10)) := Ok.wp gS.ok (fun r hr => protL_false (gS.ok.prot r hr) (fun q hq hq1 => by simp only [List.mem_cons, List.not_mem_nil, or_false] at hq; rcases hq with rfl | rfl <;> simp at hq1))
  refine mmul acall (a := genM) (b := partsM l) (w := 32) (by decide) (by decide) (by rw [partsM_len]; exact genM_wid) (by rw [partsM_len]; omega) (by rw [partsM_len]; omega) (partsM_wid hl) (by omega) (by omega) genM_bytes (partsM_bytes hb) (Ok.wp gS.ok (fun r hr => protL_false (gS.ok.prot r hr) (fun q hq hq1 => by simp only [List.mem_cons, List.not_mem_nil, or_false] at hq; rcases hq with rfl | rfl <;> simp at hq1))) (gS.old hσ h2) (h3.mono hσ gS) (parts_mat hl (hsl.mono hσ gS) (put_heap_eq _ _ _)) ?_
  intro τ1 v rs g1 hR
  have g2 := Mem.unwp gS.ok g1
  obtain ⟨va, vn, vc, rfl⟩ := hR.slice
  conv => whnf
  rw [partsM_len] at hR
  exact kQ _ _ _ rs (gS.trans g2) ⟨hR.grow, hR.len, hR.row⟩

theorem coderKnown {σ : AS} (hσ : Ok σ) {Q : Value → AS → Prop} (k : ∀ σ', Mem σ σ' → Q (.bool true) σ') :
    ∃ v σ', ACall Try.prog PartsBase 9 [] σ v σ' ∧ Q v σ' := by
  refine call_rwp acall cf9 rfl hσ.wf ?_
  conv => whnf
  refine coderNew acall (Mem.ok (σ := σ) (by repeat first | exact Mem.refl hσ | apply Mem.bump | refine Mem.put ?_ (by (try simp only [bump_next, put_next]); omega) (by (try simp only [bump_next, put_next]); omega))) ?_
  intro τ1 rc g1 hrc hc
  have g1' : Mem σ τ1 := Mem.trans (by repeat first | exact Mem.refl hσ | apply Mem.bump | refine Mem.put ?_ (by (try simp only [bump_next, put_next]); omega) (by (try simp only [bump_next, put_next]); omega)) g1
  have ok1 := g1'.ok
  conv => whnf
  refine known5 (Mem.ok (σ := τ1) (by repeat first | exact Mem.refl ok1 | apply Mem.bump | refine Mem.put ?_ (by (try simp only [bump_next, put_next]); omega) (by (try simp only [bump_next, put_next]); omega))) ?_
  intro τ2 g2
  have g2' : Mem τ1 τ2 := Mem.trans (by repeat first | exact Mem.refl ok1 | apply Mem.bump | refine Mem.put ?_ (by (try simp only [bump_next, put_next]); omega) (by (try simp only [bump_next, put_next]); omega)) g2
  have ok2 := g2'.ok
  have hc := hc.mono ok1 g2'
  conv => whnf
  refine encode_bad acall (n := 127) (Mem.ok (σ := τ2) (by repeat first | exact Mem.refl ok2 | apply Mem.bump | refine Mem.put ?_ (by (try simp only [bump_next, put_next]); omega) (by (try simp only [bump_next, put_next]); omega))) (by decide) ?_
  intro τ3 g3
  have g3' : Mem τ2 τ3 := Mem.trans (by repeat first | exact Mem.refl ok2 | apply Mem.bump | refine Mem.put ?_ (by (try simp only [bump_next, put_next]); omega) (by (try simp only [bump_next, put_next]); omega)) g3
  have ok3 := g3'.ok
  have hc := hc.mono ok2 g3'
  conv => whnf
  refine bytes acall (seed := 5) (n := 128) (by decide) (by decide) (Mem.ok (σ := τ3) (by repeat first | exact Mem.refl ok3 | apply Mem.bump | refine Mem.put ?_ (by (try simp only [bump_next, put_next]); omega) (by (try simp only [bump_next, put_next]); omega))) ?_
  intro τ4 rs s g4 hrs sl sb hs
  have g4' : Mem τ3 τ4 := Mem.trans (by repeat first | exact Mem.refl ok3 | apply Mem.bump | refine Mem.put ?_ (by (try simp only [bump_next, put_next]); omega) (by (try simp only [bump_next, put_next]); omega)) g4
  have ok4 := g4'.ok
  have hc := hc.mono ok3 g4'
  conv => whnf
  refine encodeR (σ := τ4) ok4 hc (stripe_of sl sb hs (.inl rfl)) ?_
  intro τ5 vp σ0 prs g5 hP
  have ok5 := g5.ok
  have hc := hc.mono ok4 g5
  have g05 := (g1'.trans g2').trans ((g3'.trans g4').trans g5)
  have hM := hP.at
  have hRA := rows_at hP
  obtain ⟨pr, rfl, ph, pl, prow⟩ := rows_open hP (encM_len s) (by decide)
  have hm5 := g05.next
  clear g1 g2 g3 g4 hrs hrc hs
  conv => whnf
  refine loop_intro (n := 203) (fun mm ws τ => ∃ (i : Nat), i ≤ 6 ∧ mm = 6 - i ∧ ws = [.pointer (some ⟨rc, 0, none⟩), vi 1, .slice (some ⟨pr, 0, some 1⟩) 6 6, vi 6, vi i] ∧ Mem τ5 τ) 6 rfl ?_ ?_
  · conv => whnf
    exact ⟨0, by omega, rfl, rfl, by repeat first | exact Mem.refl ok5 | apply Mem.bump | refine Mem.put ?_ (by (try simp only [bump_next, put_next]); omega) (by (try simp only [bump_next, put_next]); omega)⟩
  rintro mm ws τ6 ⟨i, hi, rfl, rfl, g6⟩
  conv => whnf
  refine br_intro ?_ ?_ <;> intro h3 <;> simp only [blt_dec, ble_dec, beq_dec, ltB_eq, leB_eq, decide_eq_true_eq, decide_eq_false_iff_not, beq_iff_eq, bne_iff_ne, beq_eq_false_iff_ne, bne_eq_false_iff_eq] at h3
  · have hi0 : i < 6 := by omega
    obtain ⟨q, hq, _⟩ := prow i hi0
    conv => whnf
    repeat (first | (refine br_true (inR_intro (by simp only [loI, hiI]; omega)) ?_; conv => whnf) | (refine br_true (by simp only [blt_dec, ble_dec, beq_dec, ltB_eq, leB_eq, decide_eq_true_eq, decide_eq_false_iff_not, Bool.and_eq_true, Bool.or_eq_true, beq_iff_eq, bne_iff_ne, beq_eq_false_iff_ne, bne_eq_false_iff_eq]; first | done | omega) ?_; conv => whnf))
    refine ld_intro (g6.old ok5 ph) ?_
    conv => whnf
    refine at_intro (hq) ?_
    conv => whnf
    repeat (first | (refine br_true (inR_intro (by simp only [loI, hiI]; omega)) ?_; conv => whnf) | (refine br_true (by simp only [blt_dec, ble_dec, beq_dec, ltB_eq, leB_eq, decide_eq_true_eq, decide_eq_false_iff_not, Bool.and_eq_true, Bool.or_eq_true, beq_iff_eq, bne_iff_ne, beq_eq_false_iff_ne, bne_eq_false_iff_eq]; first | done | omega) ?_; conv => whnf))
    exact ⟨rfl, 6 - (i + 1), by omega, i + 1, by omega, rfl, rfl, by repeat first | exact g6 | apply Mem.bump | refine Mem.put ?_ (by (try simp only [bump_next, put_next]); omega) (by (try simp only [bump_next, put_next]); omega)⟩
  clear h3 hi
  obtain ⟨q0, a0, b0⟩ := prow 0 (by decide)
  obtain ⟨q1, a1, b1⟩ := prow 1 (by decide)
  obtain ⟨q2, a2, b2⟩ := prow 2 (by decide)
  obtain ⟨q3, a3, b3⟩ := prow 3 (by decide)
  obtain ⟨q4, a4, b4⟩ := prow 4 (by decide)
  obtain ⟨q5, a5, b5⟩ := prow 5 (by decide)
  have hn6 := g6.next
  have ok6 := g6.ok
  have sl32 : ∀ {τ : AS} {q k : Nat} {sp : Option Nat}, k < 6 → τ.heap q = some (.cells ((rowA (encM s) k).map vb) false) → SlAt τ (.slice (some ⟨q, 0, sp⟩) 32 32) ((rowA (encM s) k).map vb) := fun hk h => SlAt.mk h (by rw [List.length_map, rowA_enc_len sl hk]) (by rw [List.drop_zero, List.take_length])
  conv => whnf
  refine ld_intro (g6.old ok5 ph) ?_
  conv => whnf
  refine at_intro (a0) ?_
  conv => whnf
  refine ld_intro (g6.old ok5 ph) ?_
  conv => whnf
  refine at_intro (a2) ?_
  conv => whnf
  refine ld_intro (g6.old ok5 ph) ?_
  conv => whnf
  refine at_intro (a4) ?_
  conv => whnf
  generalize hZ : AS.put _ _ (AObj.cells [_, _, _, _, _, _] false) = Z
  have gZ : Mem τ6 Z := by rw [← hZ]; repeat first | exact Mem.refl ok6 | apply Mem.bump | refine Mem.put ?_ (by (try simp only [bump_next, put_next]); omega) (by (try simp only [bump_next, put_next]); omega)
  have hZh : Z.heap (τ6.next + 1 + 11) = some (.cells [whole q0 32, .slice none 0 0, whole q2 32, .slice (some ⟨τ6.next + 1 + 7, 0, none⟩) 0 0, whole q4 32, .slice none 0 0] false) := by rw [← hZ]; exact put_heap_eq _ _ _
  clear hZ
  have g5Z := g6.trans gZ
  have hrow0 : ∀ i, i < 6 → rowA [rowA (encM s) 0, [], rowA (encM s) 2, [], rowA (encM s) 4, []] i = if (i == 0 || i == 2 || i == 4) = true then rowA (encM s) i else [] := by
    intro i hi
    rcases (show i = 0 ∨ i = 1 ∨ i = 2 ∨ i = 3 ∨ i = 4 ∨ i = 5 by omega) with rfl | rfl | rfl | rfl | rfl | rfl <;> rfl
  have hsel0 : sel [rowA (encM s) 0, [], rowA (encM s) 2, [], rowA (encM s) 4, []] 6 = [0, 2, 4] := by
    have : sel [rowA (encM s) 0, [], rowA (encM s) 2, [], rowA (encM s) 4, []] 6 = selB (fun i => i == 0 || i == 2 || i == 4) 6 := selB_congr 6 fun i hi => by
      rw [there, hrow0 i hi]
      cases (i == 0 || i == 2 || i == 4) with
      | true => rw [if_pos rfl, rowA_enc_len sl hi]; rfl
      | false => rw [if_neg (by simp)]; rfl
    rw [this]; rfl
  refine decode_few acall (m := [rowA (encM s) 0, [], rowA (encM s) 2, [], rowA (encM s) 4, []]) gZ.ok (hc.mono ok5 g5Z) (RowsAt.mat (RowsAt.cons (sl32 (by decide) (g5Z.old ok5 b0)) (RowsAt.cons (SlAt.nil _) (RowsAt.cons (sl32 (by decide) (g5Z.old ok5 b2)) (RowsAt.cons (SlAt.empty rfl) (RowsAt.cons (sl32 (by decide) (g5Z.old ok5 b4)) (RowsAt.one1 (SlAt.nil _))))))) hZh rfl) rfl ?_ ?_ (by rw [hsel0]; decide) ?_
  · intro r hr
    obtain ⟨i, hi, rfl⟩ := row_of_mem (n := 6) rfl hr
    rw [hrow0 i hi]
    split
    · exact .inr (rowA_enc_len sl hi)
    · exact .inl rfl
  · intro r hr x hx
    obtain ⟨i, hi, rfl⟩ := row_of_mem (n := 6) rfl hr
    rw [hrow0 i hi] at hx
    split at hx
    · exact encM_bytes s _ (row_mem (by rw [encM_len]; exact hi)) x hx
    · simp at hx
  intro τ7 g7
  have g57 := g5Z.trans g7
  have ok7 := g57.ok
  clear gZ g7 hZh hsel0 hrow0
  conv => whnf
  refine ⟨⟨by decide, rfl, by decide⟩, ?_⟩
  conv => whnf
  repeat (first | (refine br_true (inR_intro (by simp only [loI, hiI]; omega)) ?_; conv => whnf) | (refine br_true (by simp only [blt_dec, ble_dec, beq_dec, ltB_eq, leB_eq, decide_eq_true_eq, decide_eq_false_iff_not, Bool.and_eq_true, Bool.or_eq_true, beq_iff_eq, bne_iff_ne, beq_eq_false_iff_ne, bne_eq_false_iff_eq]; first | done | omega) ?_; conv => whnf))
  have h5l : ((encM s).take 5).length = 5 := by rw [List.length_take, encM_len]; rfl
  have hm5 : ∀ {τ : AS} {sp : Option Nat} {cap : Nat}, Mem τ5 τ → MatAt τ (.slice (some ⟨pr, 0, sp⟩) 5 cap) ((encM s).take 5) := fun {τ sp cap} g => ⟨(prs.map (whole · 32)).take 5, SlAt.mk (g.old ok5 ph) (by rw [List.length_take, List.length_map, pl]; rfl) (by rw [List.drop_zero, List.length_take, List.length_map, pl]; rfl), ((hRA.mono ok5 g).take 5).1, ((hRA.mono ok5 g).take 5).2⟩
  have h5r : ∀ l ∈ (encM s).take 5, l.length < 2 ^ 40 := fun l hl => by rw [encM_wid sl l (List.mem_of_mem_take hl)]; decide
  refine decode_wrong acall (m := (encM s).take 5) (Mem.ok (σ := τ7) (by repeat first | exact Mem.refl ok7 | apply Mem.bump | refine Mem.put ?_ (by (try simp only [bump_next, put_next]); omega) (by (try simp only [bump_next, put_next]); omega))) (hm5 (by repeat first | exact g57 | apply Mem.bump | refine Mem.put ?_ (by (try simp only [bump_next, put_next]); omega) (by (try simp only [bump_next, put_next]); omega))) (by rw [h5l]; decide) h5r (.inl (by rw [h5l]; decide)) ?_
  intro τ8 g8
  have g78 : Mem τ7 τ8 := Mem.trans (by repeat first | exact Mem.refl ok7 | apply Mem.bump | refine Mem.put ?_ (by (try simp only [bump_next, put_next]); omega) (by (try simp only [bump_next, put_next]); omega)) g8
  have g58 := g57.trans g78
  have ok8 := g58.ok
  conv => whnf
  refine ld_intro (g58.old ok5 ph) ?_
  conv => whnf
  refine at_intro (a0) ?_
  conv => whnf
  refine ld_intro (g58.old ok5 ph) ?_
  conv => whnf
  refine at_intro (a1) ?_
  conv => whnf
  refine ld_intro (g58.old ok5 ph) ?_
  conv => whnf
  refine at_intro (a2) ?_
  conv => whnf
  refine ld_intro (g58.old ok5 ph) ?_
  conv => whnf
  refine at_intro (a3) ?_
  conv => whnf
  refine ld_intro (g58.old ok5 ph) ?_
  conv => whnf
  refine at_intro (a4) ?_
  conv => whnf
  generalize hZ : AS.put _ _ (AObj.cells [_, _, _, _, _, _] false) = Z
  have gZ : Mem τ8 Z := by rw [← hZ]; repeat first | exact Mem.refl ok8 | apply Mem.bump | refine Mem.put ?_ (by (try simp only [bump_next, put_next]); omega) (by (try simp only [bump_next, put_next]); omega)
  have hZh : Z.heap (τ8.next + 17) = some (.cells [whole q0 32, whole q1 32, whole q2 32, whole q3 32, .slice (some ⟨q4, 0, none⟩) 5 32, .slice none 0 0] false) := by rw [← hZ]; exact put_heap_eq _ _ _
  clear hZ
  have g5Z := g58.trans gZ
  have hcut : ((rowA (encM s) 4).take 5).length = 5 := by rw [List.length_take, rowA_enc_len sl (by decide)]; rfl
  refine decode_wrong acall (m := [rowA (encM s) 0, rowA (encM s) 1, rowA (encM s) 2, rowA (encM s) 3, (rowA (encM s) 4).take 5, []]) gZ.ok (RowsAt.mat (RowsAt.cons (sl32 (by decide) (g5Z.old ok5 b0)) (RowsAt.cons (sl32 (by decide) (g5Z.old ok5 b1)) (RowsAt.cons (sl32 (by decide) (g5Z.old ok5 b2)) (RowsAt.cons (sl32 (by decide) (g5Z.old ok5 b3)) (RowsAt.cons (SlAt.mk (g5Z.old ok5 b4) (by rw [List.length_map, hcut]) ?_) (RowsAt.one1 (SlAt.nil _))))))) hZh rfl) (by show 6 < 2 ^ 40; decide) ?_ (.inr ⟨4, by show 4 < 6; decide, by rw [show rowA [rowA (encM s) 0, rowA (encM s) 1, rowA (encM s) 2, rowA (encM s) 3, (rowA (encM s) 4).take 5, []] 4 = (rowA (encM s) 4).take 5 from rfl, hcut]; decide⟩) ?_
  · rw [List.drop_zero, List.length_map, hcut, List.map_take]
  · intro r hr
    simp only [List.mem_cons, List.not_mem_nil, or_false] at hr
    rcases hr with rfl | rfl | rfl | rfl | rfl | rfl
    · rw [rowA_enc_len sl (by decide)]; decide
    · rw [rowA_enc_len sl (by decide)]; decide
    · rw [rowA_enc_len sl (by decide)]; decide
    · rw [rowA_enc_len sl (by decide)]; decide
    · rw [hcut]; decide
    · decide
  intro τ9 g9
  have g59 := g5Z.trans g9
  have ok9 := g59.ok
  clear gZ g9 hZh
  conv => whnf
  have hn9 := g59.next
  refine ⟨_, _, app_copy (m := encM s) (put_heap_eq _ _ _) (SlAt.mk (c := prs.map (whole · 32)) (ro := false) (Mem.old (σ := τ9) ok9 (by repeat first | exact Mem.refl ok9 | apply Mem.bump | refine Mem.put ?_ (by (try simp only [bump_next, put_next]); omega) (by (try simp only [bump_next, put_next]); omega)) (g59.old ok5 ph)) (by rw [List.length_map, pl]) (by rw [List.drop_zero, List.take_length])) (hRA.mono ok5 (by repeat first | exact g59 | apply Mem.bump | refine Mem.put ?_ (by (try simp only [bump_next, put_next]); omega) (by (try simp only [bump_next, put_next]); omega))) (by intro e; have := encM_len s; rw [e] at this; cases this) (by rw [encM_len]; decide), ?_⟩
  rw [encM_len]
  generalize hZ : AS.put (AS.put _ _ _) _ (AObj.cells (prs.map _) false) = Z
  have gZ : Mem τ9 Z := by rw [← hZ]; repeat first | exact Mem.refl ok9 | apply Mem.bump | refine Mem.put ?_ (by (try simp only [bump_next, put_next]); omega) (by (try simp only [bump_next, put_next]); omega)
  have hZB : Z.heap (τ9.next + 2) = some (.cells (prs.map (whole · 32)) false) := by rw [← hZ]; exact put_heap_eq _ _ _
  clear hZ
  have g5Z := g59.trans gZ
  have okZ := g5Z.ok
  have hnZ := okZ.lt hZB
  have hl5 := rowA_enc_len sl (show 5 < 6 by decide)
  conv => whnf
  refine ld_intro (g5Z.old ok5 ph) ?_
  conv => whnf
  refine at_intro (a5) ?_
  conv => whnf
  refine ld_intro (g5Z.old ok5 ph) ?_
  conv => whnf
  refine at_intro (a5) ?_
  conv => whnf
  refine ld_intro (g5Z.old ok5 b5) ?_
  conv => whnf
  refine at_intro (map_vb_get (i := 31) hl5 (by decide)) ?_
  conv => whnf
  have hl31 : ((rowA (encM s) 5).take 31).length = 31 := by rw [List.length_take, hl5]; rfl
  refine ⟨_, _, app_row (l := (rowA (encM s) 5).take 31) (n := 31) (SlAt.mk (c := (rowA (encM s) 5).map vb) (ro := false) (Mem.old (σ := Z) okZ (τ := (Z.bump 17).put (Z.next + 1) (.cells (zrow (Value.agg [Value.int .u8 0].toArray) (0 * [Value.int .u8 0].length)) false)) (by repeat first | exact Mem.refl okZ | apply Mem.bump | refine Mem.put ?_ (by (try simp only [bump_next, put_next]); omega) (by (try simp only [bump_next, put_next]); omega)) (g5Z.old ok5 b5)) (by rw [List.length_map, hl31]) (by show List.take _ (List.drop 0 _) = _; rw [List.drop_zero, List.length_map, hl31, List.map_take])) hl31 (by decide) (by decide), ?_⟩
  conv => whnf
  generalize hxv : lock (IntKind.u8.wrap _) = xv
  obtain rfl : xv = (((rowA (encM s) 5).getD 31 0 ^^^ 1 : Nat) : Int) := by
    rw [← hxv, lock_eq]; exact xor8 _ 1 (getD_lt8 (encM_bytes s _ (row_mem (show 5 < (encM s).length by rw [encM_len]; decide))) 31) (by decide)
  clear hxv
  have app14 : ∀ {σ : AS}, σ.heap (Z.next + 6) = some (.cells (((rowA (encM s) 5).take 31).map vb) false) → σ.prot (Z.next + 6) = false → σ.heap (Z.next + 13) = some (.cells [vb ((rowA (encM s) 5).getD 31 0 ^^^ 1)] false) →
      rAppend σ (Z.next + 14) 1 1 (.slice (some ⟨Z.next + 6, 0, some 1⟩) 31 31) (.slice (some ⟨Z.next + 13, 0, none⟩) 1 1) = some (.slice (some ⟨Z.next + 14, 0, some 1⟩) 32 32, (σ.del (Z.next + 6)).put (Z.next + 14) (.cells ((((rowA (encM s) 5).take 31).map vb) ++ [vb ((rowA (encM s) 5).getD 31 0 ^^^ 1)]) false)) := by
    intro σ h1 h2 h3
    have hone := vbs_one ((rowA (encM s) 5).take 31)
    have hl : (((rowA (encM s) 5).take 31).map vb).length = 31 := by rw [List.length_map, hl31]
    generalize ((rowA (encM s) 5).take 31).map vb = c at *
    have := app_over (N := Z.next + 14) (bytes := 1) (len := 31) (cap := 31) (vs := [vb ((rowA (encM s) 5).getD 31 0 ^^^ 1)]) (x := .slice (some ⟨Z.next + 13, 0, none⟩) 1 1) h1 h2 (by omega) (by rw [List.take_of_length_le (by omega)]; exact hone) (SlAt.mk h3 rfl rfl) rfl (by simp) (by simp)
    rw [List.take_of_length_le (by omega)] at this
    exact this
  refine ⟨_, _, app14 ?_ ?_ ?_, ?_⟩
  · exact (put_heap_ne (by omega)).trans (put_heap_eq _ _ _)
  · refine protL_false (okZ.prot _ (by omega)) ?_
    intro q hq hq1
    simp only [List.mem_cons, List.not_mem_nil, or_false] at hq
    rcases hq with rfl | rfl <;> simp at hq1
  · exact put_heap_eq _ _ _
  conv => whnf
  repeat (first | (refine br_true (inR_intro (by simp only [loI, hiI]; omega)) ?_; conv => whnf) | (refine br_true (by simp only [blt_dec, ble_dec, beq_dec, ltB_eq, leB_eq, decide_eq_true_eq, decide_eq_false_iff_not, Bool.and_eq_true, Bool.or_eq_true, beq_iff_eq, bne_iff_ne, beq_eq_false_iff_ne, bne_eq_false_iff_eq, List.length_map, pl]; first | done | omega) ?_; conv => whnf))
  refine wr_intro (c := prs.map (whole · 32)) ((put_heap_ne (by omega)).trans ((del_heap_ne (by omega)).trans ((put_heap_ne (by omega)).trans ((put_heap_ne (by omega)).trans ((put_heap_ne (by omega)).trans hZB))))) (protL_false ((Mem.noprot (σ := σ) hσ ((g05.trans g5Z)) (by omega))) ?_) ?_
  · intro q hq hq1
    simp only [List.mem_cons, List.not_mem_nil, or_false] at hq
    rcases hq with rfl | rfl <;> simp at hq1
  refine br_true (by first | rfl | decide) ?_
  repeat (first | (refine br_true (inR_intro (by simp only [loI, hiI]; omega)) ?_; conv => whnf) | (refine br_true (by simp only [blt_dec, ble_dec, beq_dec, ltB_eq, leB_eq, decide_eq_true_eq, decide_eq_false_iff_not, Bool.and_eq_true, Bool.or_eq_true, beq_iff_eq, bne_iff_ne, beq_eq_false_iff_ne, bne_eq_false_iff_eq, List.length_map, pl]; first | done | omega) ?_; conv => whnf))
  generalize hw : wr (prs.map _) _ _ = p1
  obtain rfl : p1 = (prs.map (whole · 32)).set 5 (.slice (some ⟨Z.next + 14, 0, some 1⟩) 32 32) := by rw [← hw]; exact wr_at _ 5 _ (by rw [List.length_map, pl]; decide)
  clear hw
  generalize hY : AS.wp (AS.put _ (τ9.next + 2) _) _ = Y
  have hYo : ∀ q, q ≠ τ9.next + 2 → q < Z.next ∨ Z.next + 17 ≤ q → Y.heap q = Z.heap q := by
    intro q h1 h2
    rw [← hY]
    exact (put_heap_ne h1).trans ((put_heap_ne (by omega)).trans ((del_heap_ne (by omega)).trans ((put_heap_ne (by omega)).trans ((put_heap_ne (by omega)).trans (put_heap_ne (by omega))))))
  have hYB : Y.heap (τ9.next + 2) = some (.cells ((prs.map (whole · 32)).set 5 (.slice (some ⟨Z.next + 14, 0, some 1⟩) 32 32)) false) := by rw [← hY]; exact put_heap_eq _ _ _
  have hYR : Y.heap (Z.next + 14) = some (.cells ((((rowA (encM s) 5).take 31).map vb) ++ [vb ((rowA (encM s) 5).getD 31 0 ^^^ 1)]) false) := by rw [← hY]; exact (put_heap_ne (by omega)).trans (put_heap_eq _ _ _)
  have hYn : Y.next = Z.next + 17 := by rw [← hY]; rfl
  have hYp : Y.prot = Z.prot := by rw [← hY]; rfl
  clear hY app14
  have gY : Mem τ9 Y := ⟨⟨by have := gZ.next; omega, by rw [hYp]; exact gZ.grow.prot, fun r hr => by rw [hYo r (by omega) (.inl (by have := gZ.next; omega))]; exact gZ.grow.heap r hr⟩, ⟨fun r hr => by rw [hYo r (by omega) (.inr (by omega))]; exact okZ.wf r (by omega), fun r hr => by rw [hYp]; exact okZ.prot r (by omega)⟩⟩
  have g5Y := g59.trans gY
  have okY := gY.ok
  have hturn : (((rowA (encM s) 5).take 31).map vb) ++ [vb ((rowA (encM s) 5).getD 31 0 ^^^ 1)] = ((rowA (encM s) 5).set 31 ((rowA (encM s) 5).getD 31 0 ^^^ 1)).map vb := by
    rw [List.set_eq_take_append_cons_drop, if_pos (by rw [hl5]; decide), List.map_append, List.map_cons, List.drop_eq_nil_of_le (by rw [hl5]; decide)]; rfl
  rw [hturn] at hYR
  have hbad : MatAt Y (.slice (some ⟨τ9.next + 2, 0, some 1⟩) 6 6) (turnM s 5 31 1) := RowsAt.mat ((hRA.mono ok5 g5Y).set 5 (SlAt.mk hYR (by rw [List.length_map, List.length_set, hl5]) (by rw [List.drop_zero, List.take_length]))) hYB (by rw [List.length_set, List.length_map, pl])
  have g05Y := g05.trans g5Y
  clear gZ g5Z hZB hYo hYp hYR hYB hturn
  refine ld_intro (g5Y.old ok5 ph) ?_
  conv => whnf
  refine at_intro (a0) ?_
  conv => whnf
  refine ld_intro (g5Y.old ok5 ph) ?_
  conv => whnf
  refine at_intro (a1) ?_
  conv => whnf
  refine delta_idx acall (Mem.ok (σ := Y) (by repeat first | exact Mem.refl okY | apply Mem.bump | refine Mem.put ?_ (by (try simp only [bump_next, put_next]); omega) (by (try simp only [bump_next, put_next]); omega))) ?_
  intro τ10 g10
  have gY10 : Mem Y τ10 := Mem.trans (by repeat first | exact Mem.refl okY | apply Mem.bump | refine Mem.put ?_ (by (try simp only [bump_next, put_next]); omega) (by (try simp only [bump_next, put_next]); omega)) g10
  have g510 := g5Y.trans gY10
  have ok10 := g510.ok
  conv => whnf
  refine ld_intro (g510.old ok5 ph) ?_
  conv => whnf
  refine at_intro (a0) ?_
  conv => whnf
  refine ld_intro (g510.old ok5 ph) ?_
  conv => whnf
  refine at_intro (a1) ?_
  conv => whnf
  refine delta_len acall (n := 3) (Mem.ok (σ := τ10) (by repeat first | exact Mem.refl ok10 | apply Mem.bump | refine Mem.put ?_ (by (try simp only [bump_next, put_next]); omega) (by (try simp only [bump_next, put_next]); omega))) (by decide) ?_
  intro τ11 g11
  have gY11 : Mem Y τ11 := gY10.trans (Mem.trans (by repeat first | exact Mem.refl ok10 | apply Mem.bump | refine Mem.put ?_ (by (try simp only [bump_next, put_next]); omega) (by (try simp only [bump_next, put_next]); omega)) g11)
  have g511 := g5Y.trans gY11
  have ok11 := g511.ok
  conv => whnf
  refine check_good (σ := τ11.bump 65) (Mem.ok (σ := τ11) (by repeat first | exact Mem.refl ok11 | apply Mem.bump | refine Mem.put ?_ (by (try simp only [bump_next, put_next]); omega) (by (try simp only [bump_next, put_next]); omega))) (hc.mono ok5 (by repeat first | exact g511 | apply Mem.bump | refine Mem.put ?_ (by (try simp only [bump_next, put_next]); omega) (by (try simp only [bump_next, put_next]); omega))) (hM.mono ok5 (by repeat first | exact g511 | apply Mem.bump | refine Mem.put ?_ (by (try simp only [bump_next, put_next]); omega) (by (try simp only [bump_next, put_next]); omega))) sl sb ?_
  intro τ12 g12
  have gY12 : Mem Y τ12 := gY11.trans (Mem.trans (by repeat first | exact Mem.refl ok11 | apply Mem.bump | refine Mem.put ?_ (by (try simp only [bump_next, put_next]); omega) (by (try simp only [bump_next, put_next]); omega)) g12)
  have ok12 := gY12.ok
  conv => whnf
  refine check ok12 (hc.mono ok5 (g5Y.trans gY12)) (hbad.mono okY gY12) (turnM_len _ _ _ _) ?_ (turn_bytes (by decide) (by decide)) (sel_all6 fun i hi => by rw [turn_rlen sl (by decide) hi]; decide) ?_
  · intro r hr
    obtain ⟨i, hi, rfl⟩ := row_of_mem (turnM_len _ _ _ _) hr
    exact .inr (turn_rlen sl (by decide) hi)
  intro τ13 L g13 hL bL hLs
  rw [turn_check sl sb hL bL (by decide) (by decide) hLs]
  have gY13 := gY12.trans g13
  have ok13 := gY13.ok
  conv => whnf
  refine ⟨⟨by decide, rfl, by decide⟩, ?_⟩
  conv => whnf
  repeat (first | (refine br_true (inR_intro (by simp only [loI, hiI]; omega)) ?_; conv => whnf) | (refine br_true (by simp only [blt_dec, ble_dec, beq_dec, ltB_eq, leB_eq, decide_eq_true_eq, decide_eq_false_iff_not, Bool.and_eq_true, Bool.or_eq_true, beq_iff_eq, bne_iff_ne, beq_eq_false_iff_ne, bne_eq_false_iff_eq]; first | done | omega) ?_; conv => whnf))
  refine check_no ok13 ⟨_, _, _, rfl⟩ (fun τ g R kR => decode_wrong acall (m := (encM s).take 5) g.ok (hm5 ((g5Y.trans gY13).trans g)) (by rw [h5l]; decide) h5r (.inl (by rw [h5l]; decide)) kR) ?_
  intro τ14 g14
  have gY14 := gY13.trans g14
  have ok14 := gY14.ok
  conv => whnf
  refine row_ok acall (i := 5) ok14 (hc.mono ok5 (g5Y.trans gY14)) (by decide) ?_
  intro τ15 r15 g15 h15
  have gY15 := gY14.trans g15
  have ok15 := gY15.ok
  conv => whnf
  refine ld_intro h15 ?_
  refine str_step (l := rowA genM 5) rfl (by decide) (all_of rfl) ?_
  rw [show bsOf (rowA genM 5) = [1, 2, 4, 8] from rfl]
  conv => whnf
  generalize hb : (ByteArray.toList _ == ByteArray.toList _) = t
  obtain rfl : t = true := by rw [← hb]; exact beq_self_eq_true _
  conv => whnf
  refine row_ok acall (i := 1) ok15 (hc.mono ok5 (g5Y.trans gY15)) (by decide) ?_
  intro τ16 r16 g16 h16
  have gY16 := gY15.trans g16
  have ok16 := gY16.ok
  conv => whnf
  refine ld_intro h16 ?_
  refine str_step (l := rowA genM 1) rfl (by decide) (all_of rfl) ?_
  rw [show bsOf (rowA genM 1) = [0, 1, 0, 0] from rfl]
  conv => whnf
  generalize hb1 : (ByteArray.toList _ == ByteArray.toList _) = t
  obtain rfl : t = true := by rw [← hb1]; exact beq_self_eq_true _
  conv => whnf
  refine row_no acall ok16 (hc.mono ok5 (g5Y.trans gY16)) (by decide) ?_
  intro τ17 g17
  have gY17 := gY16.trans g17
  have ok17 := gY17.ok
  conv => whnf
  refine row_no acall ok17 (hc.mono ok5 (g5Y.trans gY17)) (by decide) ?_
  intro τ18 g18
  have gY18 := gY17.trans g18
  conv => whnf
  exact k _ (by repeat first | exact g05Y.trans gY18 | apply Mem.bump | refine Mem.put ?_ (by (try simp only [bump_next, put_next]); omega) (by (try simp only [bump_next, put_next]); omega))
end
end Go.Corb.A

/- The abstract machine, part 34: from a call on the abstract memory to the model's call, with contracts given. Conditions: none. -/
set_option linter.unusedVariables false
set_option linter.unusedSimpArgs false
namespace Go.Corb
open Go Go.RowKit
theorem law_callsB {P : Program} (hm : P.follows .mixedOrders = true) {Base : CallRel} (hC0 : CProp Base) (hS0 : CSound P Base) {f : FuncId} {args : List Value} {args' : Array Value} {σ0 σ' : AS} {ρ0 : RMap} {W : World} {b : Bool}
    (h : ACall P Base f args σ0 (.bool b) σ') (hwf : σ0.wf) (hR : Rel W.heap.size W ρ0 σ0 W) (hρ : ∀ r, σ0.next ≤ r → ρ0 r = none)
    (hlen : args.length = args'.size) (hargs : ∀ j, VR ρ0 (args.getD j undef) (args'.getD j undef)) {fn : Func} (hf : P.funcs[f]? = some fn) (hb : fn.body.isSome = true) (hn : (fn.name == "runtime.NumGoroutine") = false) :
    Calls P f args' W fun e w' => e = .returned (.bool b) ∧ Below W.heap.size W w' := by
  rcases acall_sound hm hC0 hS0 h hwf W.heap.size W ρ0 W args' hR hρ hlen hargs with ⟨_, hc⟩ | ⟨v', w', ρ', hv, _⟩
  · refine hc.mono fun e w' ⟨v', ρ', he, ha⟩ => ?_
    have := ha.val.bool_inv
    subst this
    exact ⟨he, ha.rel.below⟩
  · obtain ⟨c, hb⟩ := Option.isSome_iff_exists.1 hb
    have hn' : ¬ fn.name = "runtime.NumGoroutine" := by simpa using hn
    have he2 : (callFunc f args').run P W = .ok (.enter f args') W := by simp [callFunc, hf, hn', hb]
    rw [he2] at hv
    cases hv
end Go.Corb
