/- YtlpkklcjdolaiaaQCoderDeltas6: the law CoderDeltas, and what it rests on: part of our own texts, merged. Conditions: none. -/
import Derived.Test.YtlpkklcjdolaiaaQCoderDeltas5
/- The law CoderDeltas over the abstract memory. Conditions: none. -/
set_option linter.unusedVariables false
set_option linter.unusedSimpArgs false
namespace Go.Corb.A
open Go Go.RowKit Go.Proofs Go.Corb Go.IntWalk

theorem _root_.Go.Corb.copy_in {σ : AS} {r o dl dcap : Nat} {sp : Option Nat} {c vs : List Value} {x : Value} (hr : σ.heap r = some (.cells c false)) (hp : σ.prot r = false) (hx : SlAt σ x vs) (h1 : vs.all (·.oneCell') = true) (hv : vs ≠ []) (hl : vs.length ≤ dl) (hc : o + vs.length ≤ c.length) :
    rCopy σ 1 (.slice (some ⟨r, o, sp⟩) dl dcap) x = some (.int .i64 (vs.length : Nat), σ.put r (.cells (wr c o vs) false)) := by
  obtain ⟨h2, hs⟩ := hx.src h1
  have hn : 0 < vs.length := List.length_pos_iff.2 hv
  simp only [rCopy, h2, Option.bind_some, Nat.min_eq_left hl, hs]
  rw [if_neg (by omega)]
  simp only [aPutAt, hr, Nat.zero_mul, Nat.add_zero]
  rw [if_pos ⟨hp, hc⟩]
  rfl
theorem delTo_row {idx : Nat} {old new : List Nat} {k i : Nat} (h : i < k) : rowA (delTo idx old new k) i = fillTo (delF idx old new i) 32 32 := by
  have h' : i < (List.range k).length := by simpa using h
  rw [delTo, rowA_map h', List.getD_eq_getElem?_getD, List.getElem?_range h]
  rfl
theorem vbs_one (l : List Nat) : (l.map vb).all (·.oneCell') = true := by rw [List.all_map, List.all_eq_true]; intros; rfl
theorem wr_patch {s x : List Nat} {o : Nat} (h : o + x.length ≤ s.length) : wr (s.map vb) o (x.map vb) = (patch s x o).map vb := by
  simp only [wr, patch, List.map_append, List.map_take, List.map_drop, List.length_map]

section
set_option pp.deepTerms.threshold 8

theorem coderDeltas (seed index now : Int) {σ : AS} (hσ : Ok σ) {Q : Value → AS → Prop} (k : ∀ σ', Mem σ σ' → Q (.bool true) σ') :
    ∃ v σ', ACall Try.prog PartsBase 5 [.int .i64 seed, .int .i64 index, .int .i64 now] σ v σ' ∧ Q v σ' := by
  refine call_rwp acall cf5 rfl hσ.wf ?_
  conv => whnf
  refine coderNew acall (Mem.ok (σ := σ) (by repeat first | exact Mem.refl hσ | apply Mem.bump | refine Mem.put ?_ (by (try simp only [bump_next, put_next]); omega) (by (try simp only [bump_next, put_next]); omega))) ?_
  intro τ1 rc g1 hrc hc
  have g1' : Mem σ τ1 := Mem.trans (by repeat first | exact Mem.refl hσ | apply Mem.bump | refine Mem.put ?_ (by (try simp only [bump_next, put_next]); omega) (by (try simp only [bump_next, put_next]); omega)) g1
  have ok1 := g1'.ok
  conv => whnf
  refine known5 (Mem.ok (σ := τ1) (by repeat first | exact Mem.refl ok1 | apply Mem.bump | refine Mem.put ?_ (by (try simp only [bump_next, put_next]); omega) (by (try simp only [bump_next, put_next]); omega))) ?_
  intro τ2 g2
  have g2' : Mem τ1 τ2 := Mem.trans (by repeat first | exact Mem.refl ok1 | apply Mem.bump | refine Mem.put ?_ (by (try simp only [bump_next, put_next]); omega) (by (try simp only [bump_next, put_next]); omega)) g2
  have ok2 := g2'.ok
  have hc := hc.mono ok1 g2'
  conv => whnf
  refine pick acall (m := 4) (by omega) (by omega) (Mem.ok (σ := τ2) (by repeat first | exact Mem.refl ok2 | apply Mem.bump | refine Mem.put ?_ (by (try simp only [bump_next, put_next]); omega) (by (try simp only [bump_next, put_next]); omega))) ?_
  intro τ3 g3
  have g3' : Mem τ2 τ3 := Mem.trans (by repeat first | exact Mem.refl ok2 | apply Mem.bump | refine Mem.put ?_ (by (try simp only [bump_next, put_next]); omega) (by (try simp only [bump_next, put_next]); omega)) g3
  have ok3 := g3'.ok
  have hc := hc.mono ok2 g3'
  obtain ⟨idx, hidx, hidx'⟩ := pickN (x := index) (m := 4) (by omega)
  rw [hidx]
  have hi4 : idx < 4 := by omega
  conv => whnf
  refine bytes acall (n := 128) (by decide) (by decide) (Mem.ok (σ := τ3) (by repeat first | exact Mem.refl ok3 | apply Mem.bump | refine Mem.put ?_ (by (try simp only [bump_next, put_next]); omega) (by (try simp only [bump_next, put_next]); omega))) ?_
  intro τ4 rs s g4 hrs sl sb hs
  have g4' : Mem τ3 τ4 := Mem.trans (by repeat first | exact Mem.refl ok3 | apply Mem.bump | refine Mem.put ?_ (by (try simp only [bump_next, put_next]); omega) (by (try simp only [bump_next, put_next]); omega)) g4
  have ok4 := g4'.ok
  have hc := hc.mono ok3 g4'
  conv => whnf
  refine encode (σ := τ4.bump 8) (Mem.ok (σ := τ4) (by repeat first | exact Mem.refl ok4 | apply Mem.bump | refine Mem.put ?_ (by (try simp only [bump_next, put_next]); omega) (by (try simp only [bump_next, put_next]); omega))) (hc.mono ok4 (by repeat first | exact Mem.refl ok4 | apply Mem.bump | refine Mem.put ?_ (by (try simp only [bump_next, put_next]); omega) (by (try simp only [bump_next, put_next]); omega))) (stripe_of sl sb (by exact hs) (.inl rfl)) ?_
  intro τ5 vp g5 hP
  have g5' : Mem τ4 τ5 := Mem.trans (by repeat first | exact Mem.refl ok4 | apply Mem.bump | refine Mem.put ?_ (by (try simp only [bump_next, put_next]); omega) (by (try simp only [bump_next, put_next]); omega)) g5
  have ok5 := g5'.ok
  have hc := hc.mono ok4 g5'
  have hs := g5'.old ok4 hs
  obtain ⟨Pr, Po, Psp, Pcap, Pc, Pro, rfl, Ph, Pli⟩ := mat_open hP (encM_len _) (by decide)
  conv => whnf
  refine bytes acall (n := 32) (by decide) (by decide) (Mem.ok (σ := τ5) (by repeat first | exact Mem.refl ok5 | apply Mem.bump | refine Mem.put ?_ (by (try simp only [bump_next, put_next]); omega) (by (try simp only [bump_next, put_next]); omega))) ?_
  intro τ6 rx x g6 hrx xl xb hx
  have g6' : Mem τ5 τ6 := Mem.trans (by repeat first | exact Mem.refl ok5 | apply Mem.bump | refine Mem.put ?_ (by (try simp only [bump_next, put_next]); omega) (by (try simp only [bump_next, put_next]); omega)) g6
  have ok6 := g6'.ok
  have hc := hc.mono ok5 g6'
  have hs := g6'.old ok5 hs
  have g06 := ((g1'.trans g2').trans (g3'.trans g4')).trans (g5'.trans g6')
  clear g1 g2 g3 g4 g5 g6 hrc hrs hrx
  conv => whnf
  repeat (first | (refine br_true (inR_intro (by simp only [loI, hiI]; omega)) ?_; conv => whnf) | (refine br_true (by simp only [blt_dec, ble_dec, beq_dec, ltB_eq, leB_eq, decide_eq_true_eq, decide_eq_false_iff_not, Bool.and_eq_true, Bool.or_eq_true, beq_iff_eq, bne_iff_ne, beq_eq_false_iff_ne, bne_eq_false_iff_eq]; first | done | omega) ?_; conv => whnf))
  refine delta (σ := τ6.bump 16) acall (old := (s.drop (idx * 32)).take 32) (new := x) (Mem.ok (σ := τ6) (by repeat first | exact Mem.refl ok6 | apply Mem.bump | refine Mem.put ?_ (by (try simp only [bump_next, put_next]); omega) (by (try simp only [bump_next, put_next]); omega))) (hc.mono ok6 (by repeat first | exact Mem.refl ok6 | apply Mem.bump | refine Mem.put ?_ (by (try simp only [bump_next, put_next]); omega) (by (try simp only [bump_next, put_next]); omega))) hi4 ?_ ?_ (by rw [List.length_take, List.length_drop]; omega) xl (fun v hv => sb v (List.mem_of_mem_drop (List.mem_of_mem_take hv))) xb ?_
  · have hl32 : ((s.drop (idx * 32)).take 32).length = 32 := by rw [List.length_take, List.length_drop]; omega
    refine SlAt.mk (by exact hs) ?_ ?_
    · show (idx + 1) * 32 - idx * 32 = _
      rw [List.length_map, hl32]; omega
    · show List.take _ (List.drop (sOff 128 (idx * 32) 0 1) _) = _
      rw [sOff, if_neg (by omega), show 0 + idx * 32 * 1 = idx * 32 by omega, List.length_map, hl32, ← List.map_drop, ← List.map_take]
  · exact SlAt.mk (by exact hx) (by rw [List.length_map, xl]) (by rw [List.drop_zero, List.take_length])
  intro τ7 vd g7 hD
  have g7' : Mem τ6 τ7 := Mem.trans (by repeat first | exact Mem.refl ok6 | apply Mem.bump | refine Mem.put ?_ (by (try simp only [bump_next, put_next]); omega) (by (try simp only [bump_next, put_next]); omega)) g7
  have ok7 := g7'.ok
  have hc := hc.mono ok6 g7'
  have hs := g7'.old ok6 hs
  have hx := g7'.old ok6 hx
  obtain ⟨Dr, Do, Dsp, Dcap, Dc, Dro, rfl, Dh, Dli⟩ := mat_open hD (delTo_len _ _ _ _) (by decide)
  conv => whnf
  refine ⟨_, _, app_new (olds := []) (vs := s.map vb) (SlAt.empty rfl) (fun r o sp len cap e => by
    simp only [Value.slice.injEq, Option.some.injEq, Addr.mk.injEq] at e
    obtain ⟨⟨_, _, rfl⟩, _, rfl⟩ := e
    exact ⟨rfl, by rw [List.length_map, sl]; decide⟩) rfl (SlAt.mk ((put_heap_ne (by have := ok7.lt hs; omega)).trans hs) (by rw [List.length_map, sl]) (by rw [List.drop_zero, List.take_length])) (by rw [List.all_map]; simp [vb]; intros; rfl) (by intro e; rw [List.map_eq_nil_iff] at e; rw [e] at sl; cases sl) (by rw [List.length_map, sl]; decide), ?_⟩
  rw [List.nil_append, List.length_nil, List.length_map, sl]
  conv => whnf
  repeat (first | (refine br_true (inR_intro (by simp only [loI, hiI]; omega)) ?_; conv => whnf) | (refine br_true (by simp only [blt_dec, ble_dec, beq_dec, ltB_eq, leB_eq, decide_eq_true_eq, decide_eq_false_iff_not, Bool.and_eq_true, Bool.or_eq_true, beq_iff_eq, bne_iff_ne, beq_eq_false_iff_ne, bne_eq_false_iff_eq]; first | done | omega) ?_; conv => whnf))
  refine ⟨⟨by decide, rfl, Nat.le_refl _⟩, ?_⟩
  conv => whnf
  repeat (first | (refine br_true (inR_intro (by simp only [loI, hiI]; omega)) ?_; conv => whnf) | (refine br_true (by simp only [blt_dec, ble_dec, beq_dec, ltB_eq, leB_eq, decide_eq_true_eq, decide_eq_false_iff_not, Bool.and_eq_true, Bool.or_eq_true, beq_iff_eq, bne_iff_ne, beq_eq_false_iff_ne, bne_eq_false_iff_eq]; first | done | omega) ?_; conv => whnf))
  have hx7 : (((((τ7.bump 4).put (τ7.next + 0) (.cells [] false)).put (τ7.next + 2) (.cells (s.map vb) false)).bump 6)).heap rx = some (.cells (x.map vb) false) := by
    rw [bump_heap, put_heap_ne (by have := ok7.lt hx; omega), put_heap_ne (by have := ok7.lt hx; omega)]; exact hx
  refine ⟨_, _, copy_in (c := s.map vb) (vs := x.map vb) (by rw [bump_heap, put_heap_eq]) (Mem.noprot (σ := τ7) ok7 (by repeat first | exact Mem.refl ok7 | apply Mem.bump | refine Mem.put ?_ (by (try simp only [bump_next, put_next]); omega) (by (try simp only [bump_next, put_next]); omega)) (by omega)) (SlAt.mk hx7 (by rw [List.length_map, xl]) (by rw [List.drop_zero, List.take_length])) (vbs_one _) (by intro e; rw [List.map_eq_nil_iff] at e; rw [e] at xl; cases xl) ?_ ?_, ?_⟩
  · rw [List.length_map, xl]
    show 32 ≤ 128 - idx * 32
    omega
  · rw [List.length_map, List.length_map, xl, sl]
    show 0 + idx * 32 * 1 + 32 ≤ 128
    omega
  have tl : (patch s x (idx * 32)).length = 128 := by rw [patch_len (by omega)]; exact sl
  have tb := patch_bytes (o := idx * 32) sb xb
  rw [show 0 + idx * 32 * 1 = idx * 32 by omega, wr_patch (by omega)]
  conv => whnf
  refine encode (l := patch s x (idx * 32)) (Mem.ok (σ := τ7) (by repeat first | exact Mem.refl ok7 | apply Mem.bump | refine Mem.put ?_ (by (try simp only [bump_next, put_next]); omega) (by (try simp only [bump_next, put_next]); omega))) (hc.mono ok7 (by repeat first | exact Mem.refl ok7 | apply Mem.bump | refine Mem.put ?_ (by (try simp only [bump_next, put_next]); omega) (by (try simp only [bump_next, put_next]); omega))) (stripe_of tl tb (by rw [bump_heap]; exact put_heap_eq _ _ _) (.inr rfl)) ?_
  intro τ8 vt g8 hT
  have g8' : Mem τ7 τ8 := Mem.trans (by repeat first | exact Mem.refl ok7 | apply Mem.bump | refine Mem.put ?_ (by (try simp only [bump_next, put_next]); omega) (by (try simp only [bump_next, put_next]); omega)) g8
  have ok8 := g8'.ok
  obtain ⟨Tr, To, Tsp, Tcap, Tc, Tro, rfl, Th, Tli⟩ := mat_open hT (encM_len _) (by decide)
  have g68 := g6'.trans (g7'.trans g8')
  have Ph := g68.old ok5 Ph
  have Dh := g8'.old ok7 Dh
  have gF := g06.trans (g7'.trans g8')
  clear g7 g8 hP hD hT hx hs hc hx7
  conv => whnf
  refine loop_intro (n := 157) (fun mm ws τ => ∃ (i : Nat), i ≤ 6 ∧ mm = 6 - i ∧ ws = [.slice (some ⟨Pr, Po, Psp⟩) 6 Pcap, .slice (some ⟨Dr, Do, Dsp⟩) 2 Dcap, .slice (some ⟨Tr, To, Tsp⟩) 6 Tcap, vi 6, vi i] ∧ Mem τ8 τ) 6 rfl ?_ ?_
  · conv => whnf
    exact ⟨0, by omega, rfl, rfl, by repeat first | exact Mem.refl ok8 | apply Mem.bump | refine Mem.put ?_ (by (try simp only [bump_next, put_next]); omega) (by (try simp only [bump_next, put_next]); omega)⟩
  rintro mm ws τ9 ⟨i, hi, rfl, rfl, g9⟩
  conv => whnf
  refine br_intro ?_ ?_ <;> intro h3 <;> simp only [blt_dec, ble_dec, beq_dec, ltB_eq, leB_eq, decide_eq_true_eq, decide_eq_false_iff_not, beq_iff_eq, bne_iff_ne, beq_eq_false_iff_ne, bne_eq_false_iff_eq] at h3
  · have hi0 : i < 6 := by omega
    obtain ⟨xP, yP, zP⟩ := Pli i hi0
    obtain ⟨rP, oP, pP, cP, eP, roP, rfl, hP, aP, _⟩ := row_open zP (rowA_enc_len sl hi0) (by decide)
    obtain ⟨xT, yT, zT⟩ := Tli i hi0
    obtain ⟨rT, oT, pT, cT, eT, roT, rfl, hT, aT, _⟩ := row_open zT (rowA_enc_len tl hi0) (by decide)
    conv => whnf
    repeat (first | (refine br_true (inR_intro (by simp only [loI, hiI]; omega)) ?_; conv => whnf) | (refine br_true (by simp only [blt_dec, ble_dec, beq_dec, ltB_eq, leB_eq, decide_eq_true_eq, decide_eq_false_iff_not, Bool.and_eq_true, Bool.or_eq_true, beq_iff_eq, bne_iff_ne, beq_eq_false_iff_ne, bne_eq_false_iff_eq]; first | done | omega) ?_; conv => whnf))
    refine ld_intro (g9.old ok8 Ph) ?_
    conv => whnf
    refine at_intro (yP) ?_
    conv => whnf
    repeat (first | (refine br_true (inR_intro (by simp only [loI, hiI]; omega)) ?_; conv => whnf) | (refine br_true (by simp only [blt_dec, ble_dec, beq_dec, ltB_eq, leB_eq, decide_eq_true_eq, decide_eq_false_iff_not, Bool.and_eq_true, Bool.or_eq_true, beq_iff_eq, bne_iff_ne, beq_eq_false_iff_ne, bne_eq_false_iff_eq]; first | done | omega) ?_; conv => whnf))
    refine ld_intro (g9.old ok8 Th) ?_
    conv => whnf
    refine at_intro (yT) ?_
    conv => whnf
    repeat (first | (refine br_true (inR_intro (by simp only [loI, hiI]; omega)) ?_; conv => whnf) | (refine br_true (by simp only [blt_dec, ble_dec, beq_dec, ltB_eq, leB_eq, decide_eq_true_eq, decide_eq_false_iff_not, Bool.and_eq_true, Bool.or_eq_true, beq_iff_eq, bne_iff_ne, beq_eq_false_iff_ne, bne_eq_false_iff_eq]; first | done | omega) ?_; conv => whnf))
    exact ⟨rfl, 6 - (i + 1), by omega, i + 1, by omega, rfl, rfl, by repeat first | exact g9 | apply Mem.bump | refine Mem.put ?_ (by (try simp only [bump_next, put_next]); omega) (by (try simp only [bump_next, put_next]); omega)⟩
  conv => whnf
  refine loop_intro (n := 157) (fun mm ws τ => ∃ (i : Nat), i ≤ 2 ∧ mm = 2 - i ∧ ws = [.slice (some ⟨Pr, Po, Psp⟩) 6 Pcap, .slice (some ⟨Dr, Do, Dsp⟩) 2 Dcap, .slice (some ⟨Tr, To, Tsp⟩) 6 Tcap, vi i] ∧ Mem τ8 τ) 2 rfl ?_ ?_
  · conv => whnf
    exact ⟨0, by omega, rfl, rfl, by repeat first | exact g9 | apply Mem.bump | refine Mem.put ?_ (by (try simp only [bump_next, put_next]); omega) (by (try simp only [bump_next, put_next]); omega)⟩
  rintro mm ws τ10 ⟨i, hi, rfl, rfl, g10⟩
  conv => whnf
  refine br_intro ?_ ?_ <;> intro h4 <;> simp only [blt_dec, ble_dec, beq_dec, ltB_eq, leB_eq, decide_eq_true_eq, decide_eq_false_iff_not, beq_iff_eq, bne_iff_ne, beq_eq_false_iff_ne, bne_eq_false_iff_eq] at h4
  · have hi0 : i < 2 := by omega
    have hi6 : 4 + i < 6 := by omega
    obtain ⟨xP, yP, zP⟩ := Pli (4 + i) hi6
    obtain ⟨rP, oP, pP, cP, eP, roP, rfl, hP, aP, _⟩ := row_open zP (rowA_enc_len sl hi6) (by decide)
    obtain ⟨xT, yT, zT⟩ := Tli (4 + i) hi6
    obtain ⟨rT, oT, pT, cT, eT, roT, rfl, hT, aT, _⟩ := row_open zT (rowA_enc_len tl hi6) (by decide)
    obtain ⟨xD, yD, zD⟩ := Dli i hi0
    obtain ⟨rD, oD, pD, cD, eD, roD, rfl, hD, aD, _⟩ := row_open zD (by rw [delTo_row hi0, fillTo_len]) (by decide)
    conv => whnf
    repeat (first | (refine br_true (inR_intro (by simp only [loI, hiI]; omega)) ?_; conv => whnf) | (refine br_true (by simp only [blt_dec, ble_dec, beq_dec, ltB_eq, leB_eq, decide_eq_true_eq, decide_eq_false_iff_not, Bool.and_eq_true, Bool.or_eq_true, beq_iff_eq, bne_iff_ne, beq_eq_false_iff_ne, bne_eq_false_iff_eq]; first | done | omega) ?_; conv => whnf))
    refine ld_intro (g10.old ok8 Dh) ?_
    conv => whnf
    refine at_intro (yD) ?_
    conv => whnf
    repeat (first | (refine br_true (inR_intro (by simp only [loI, hiI]; omega)) ?_; conv => whnf) | (refine br_true (by simp only [blt_dec, ble_dec, beq_dec, ltB_eq, leB_eq, decide_eq_true_eq, decide_eq_false_iff_not, Bool.and_eq_true, Bool.or_eq_true, beq_iff_eq, bne_iff_ne, beq_eq_false_iff_ne, bne_eq_false_iff_eq]; first | done | omega) ?_; conv => whnf))
    refine ld_intro (g10.old ok8 Dh) ?_
    conv => whnf
    refine at_intro (yD) ?_
    conv => whnf
    have hP := g68.old ok5 hP
    have hD := g8'.old ok7 hD
    refine loop_intro (n := 157) (fun mm ws τ => ∃ (j : Nat), j ≤ 32 ∧ mm = 32 - j ∧ ws = [.slice (some ⟨Pr, Po, Psp⟩) 6 Pcap, .slice (some ⟨Dr, Do, Dsp⟩) 2 Dcap, .slice (some ⟨Tr, To, Tsp⟩) 6 Tcap, vi i, vi 32, vi j] ∧ Mem τ8 τ) 32 rfl ?_ ?_
    · conv => whnf
      exact ⟨0, by omega, rfl, rfl, by repeat first | exact g10 | apply Mem.bump | refine Mem.put ?_ (by (try simp only [bump_next, put_next]); omega) (by (try simp only [bump_next, put_next]); omega)⟩
    rintro mm ws τ11 ⟨j, hj, rfl, rfl, g11⟩
    conv => whnf
    refine br_intro ?_ ?_ <;> intro h5 <;> simp only [blt_dec, ble_dec, beq_dec, ltB_eq, leB_eq, decide_eq_true_eq, decide_eq_false_iff_not, beq_iff_eq, bne_iff_ne, beq_eq_false_iff_ne, bne_eq_false_iff_eq] at h5
    · have hj0 : j < 32 := by omega
      conv => whnf
      repeat (first | (refine br_true (inR_intro (by simp only [loI, hiI]; omega)) ?_; conv => whnf) | (refine br_true (by simp only [blt_dec, ble_dec, beq_dec, ltB_eq, leB_eq, decide_eq_true_eq, decide_eq_false_iff_not, Bool.and_eq_true, Bool.or_eq_true, beq_iff_eq, bne_iff_ne, beq_eq_false_iff_ne, bne_eq_false_iff_eq]; first | done | omega) ?_; conv => whnf))
      refine ld_intro (g11.old ok8 Ph) ?_
      conv => whnf
      refine at_intro (yP) ?_
      conv => whnf
      repeat (first | (refine br_true (inR_intro (by simp only [loI, hiI]; omega)) ?_; conv => whnf) | (refine br_true (by simp only [blt_dec, ble_dec, beq_dec, ltB_eq, leB_eq, decide_eq_true_eq, decide_eq_false_iff_not, Bool.and_eq_true, Bool.or_eq_true, beq_iff_eq, bne_iff_ne, beq_eq_false_iff_ne, bne_eq_false_iff_eq]; first | done | omega) ?_; conv => whnf))
      refine ld_intro (g11.old ok8 hP) ?_
      conv => whnf
      refine at_intro (aP j hj0) ?_
      conv => whnf
      repeat (first | (refine br_true (inR_intro (by simp only [loI, hiI]; omega)) ?_; conv => whnf) | (refine br_true (by simp only [blt_dec, ble_dec, beq_dec, ltB_eq, leB_eq, decide_eq_true_eq, decide_eq_false_iff_not, Bool.and_eq_true, Bool.or_eq_true, beq_iff_eq, bne_iff_ne, beq_eq_false_iff_ne, bne_eq_false_iff_eq]; first | done | omega) ?_; conv => whnf))
      refine ld_intro (g11.old ok8 Dh) ?_
      conv => whnf
      refine at_intro (yD) ?_
      conv => whnf
      repeat (first | (refine br_true (inR_intro (by simp only [loI, hiI]; omega)) ?_; conv => whnf) | (refine br_true (by simp only [blt_dec, ble_dec, beq_dec, ltB_eq, leB_eq, decide_eq_true_eq, decide_eq_false_iff_not, Bool.and_eq_true, Bool.or_eq_true, beq_iff_eq, bne_iff_ne, beq_eq_false_iff_ne, bne_eq_false_iff_eq]; first | done | omega) ?_; conv => whnf))
      refine ld_intro (g11.old ok8 hD) ?_
      conv => whnf
      refine at_intro (aD j hj0) ?_
      conv => whnf
      repeat (first | (refine br_true (inR_intro (by simp only [loI, hiI]; omega)) ?_; conv => whnf) | (refine br_true (by simp only [blt_dec, ble_dec, beq_dec, ltB_eq, leB_eq, decide_eq_true_eq, decide_eq_false_iff_not, Bool.and_eq_true, Bool.or_eq_true, beq_iff_eq, bne_iff_ne, beq_eq_false_iff_ne, bne_eq_false_iff_eq]; first | done | omega) ?_; conv => whnf))
      refine ld_intro (g11.old ok8 Th) ?_
      conv => whnf
      refine at_intro (yT) ?_
      conv => whnf
      repeat (first | (refine br_true (inR_intro (by simp only [loI, hiI]; omega)) ?_; conv => whnf) | (refine br_true (by simp only [blt_dec, ble_dec, beq_dec, ltB_eq, leB_eq, decide_eq_true_eq, decide_eq_false_iff_not, Bool.and_eq_true, Bool.or_eq_true, beq_iff_eq, bne_iff_ne, beq_eq_false_iff_ne, bne_eq_false_iff_eq]; first | done | omega) ?_; conv => whnf))
      refine ld_intro (g11.old ok8 hT) ?_
      conv => whnf
      refine at_intro (aT j hj0) ?_
      conv => whnf
      have hdl : (rowA (delTo idx ((s.drop (idx * 32)).take 32) x 2) i).getD j 0 = delF idx ((s.drop (idx * 32)).take 32) x i j := by
        rw [delTo_row hi0, fillTo_get hj0, if_pos hj0]
      have hen := enc_delta (i := i) (j := j) (old := (s.drop (idx * 32)).take 32) sl xl sb xb hi4 hi0 hj0 (by rw [List.getD_eq_getElem?_getD, List.getElem?_take, if_pos hj0, List.getElem?_drop, List.getD_eq_getElem?_getD])
      rw [lock_eq, xor8 _ _ (getD_lt8 (encM_bytes s _ (row_mem (by rw [encM_len]; exact hi6))) j) (by rw [hdl]; exact gmul_lt _ _), hdl, hen, bne_self_eq_false]
      conv => whnf
      repeat (first | (refine br_true (inR_intro (by simp only [loI, hiI]; omega)) ?_; conv => whnf) | (refine br_true (by simp only [blt_dec, ble_dec, beq_dec, ltB_eq, leB_eq, decide_eq_true_eq, decide_eq_false_iff_not, Bool.and_eq_true, Bool.or_eq_true, beq_iff_eq, bne_iff_ne, beq_eq_false_iff_ne, bne_eq_false_iff_eq]; first | done | omega) ?_; conv => whnf))
      exact ⟨rfl, 32 - (j + 1), by omega, j + 1, by omega, rfl, rfl, by repeat first | exact g11 | apply Mem.bump | refine Mem.put ?_ (by (try simp only [bump_next, put_next]); omega) (by (try simp only [bump_next, put_next]); omega)⟩
    · conv => whnf
      repeat (first | (refine br_true (inR_intro (by simp only [loI, hiI]; omega)) ?_; conv => whnf) | (refine br_true (by simp only [blt_dec, ble_dec, beq_dec, ltB_eq, leB_eq, decide_eq_true_eq, decide_eq_false_iff_not, Bool.and_eq_true, Bool.or_eq_true, beq_iff_eq, bne_iff_ne, beq_eq_false_iff_ne, bne_eq_false_iff_eq]; first | done | omega) ?_; conv => whnf))
      exact ⟨rfl, 2 - (i + 1), by omega, i + 1, by omega, rfl, rfl, by repeat first | exact g11 | apply Mem.bump | refine Mem.put ?_ (by (try simp only [bump_next, put_next]); omega) (by (try simp only [bump_next, put_next]); omega)⟩
  · conv => whnf
    exact k _ (by repeat first | exact gF.trans g10 | apply Mem.bump | refine Mem.put ?_ (by (try simp only [bump_next, put_next]); omega) (by (try simp only [bump_next, put_next]); omega))
end
end Go.Corb.A

/- The abstract machine, part 34: from a call on the abstract memory to the model's call, with contracts given. Conditions: none. -/
set_option linter.unusedVariables false
set_option linter.unusedSimpArgs false
namespace Go.Corb
open Go Go.RowKit
theorem law_callsB {P : Program} (hm : P.follows .mixedOrders = true) {Base : CallRel} (hC0 : CProp Base) (hS0 : CSound P Base) {f : FuncId} {args : List Value} {args' : Array Value} {σ0 σ' : AS} {ρ0 : RMap} {W : World} {b : Bool}
    (h : ACall P Base f args σ0 (.bool b) σ') (hwf : σ0.wf) (hR : Rel W.heap.size W ρ0 σ0 W) (hρ : ∀ r, σ0.next ≤ r → ρ0 r = none)
    (hlen : args.length = args'.size) (hargs : ∀ j, VR ρ0 (args.getD j undef) (args'.getD j undef)) {fn : Func} (hf : P.funcs[f]? = some fn) (hb : fn.body.isSome = true) (hn : (fn.name == "runtime.NumGoroutine") = false) :
    Calls P f args' W fun e w' => e = .returned (.bool b) ∧ Below W.heap.size W w' := by
  rcases acall_sound hm hC0 hS0 h hwf W.heap.size W ρ0 W args' hR hρ hlen hargs with ⟨_, hc⟩ | ⟨v', w', ρ', hv, _⟩
  · refine hc.mono fun e w' ⟨v', ρ', he, ha⟩ => ?_
    have := ha.val.bool_inv
    subst this
    exact ⟨he, ha.rel.below⟩
  · obtain ⟨c, hb⟩ := Option.isSome_iff_exists.1 hb
    have hn' : ¬ fn.name = "runtime.NumGoroutine" := by simpa using hn
    have he2 : (callFunc f args').run P W = .ok (.enter f args') W := by simp [callFunc, hf, hn', hb]
    rw [he2] at hv
    cases hv
end Go.Corb
