/-
  Texts joined: Rl Rm Rn Ro.
-/
import Derived.Test.YtpnbahmhdhjndaaGreatKe25

section
set_option linter.unusedSimpArgs false
set_option linter.unusedVariables false
namespace Go.Proofs.YtpnbahmhdhjndaaGreat
open Go.Abs Go.Sand
theorem dcheck63_ok (xs : List Int) (n : Int) (hx : xs.length ≤ 9223372036854775807) : PC Tryz.prog 14 [.is xs, .i n] (.i (dcheck xs n)) [] := by
  refine PC_of_W cfn14 ?_
  by_cases h1 : n < 1
  · simp -implicitDefEqProofs (disch := omega) [c14, List.getElem?_cons_zero, List.getElem?_cons_succ, wrap_id, h1]
    (refine fin0 trivial rfl ?_; simp -implicitDefEqProofs (disch := omega) [List.getElem?_cons_zero, List.getElem?_cons_succ, idx, wrap_id, dcheck, h1])
  by_cases h2 : 12 < n
  · simp -implicitDefEqProofs (disch := omega) [c14, List.getElem?_cons_zero, List.getElem?_cons_succ, wrap_id, h1, h2]
    (refine fin0 trivial rfl ?_; simp -implicitDefEqProofs (disch := omega) [List.getElem?_cons_zero, List.getElem?_cons_succ, idx, wrap_id, dcheck, h1, h2])
  by_cases h3 : (xs.length : Int) = n
  rotate_left
  · simp -implicitDefEqProofs (disch := omega) [c14, List.getElem?_cons_zero, List.getElem?_cons_succ, wrap_id, h1, h2, h3]
    (refine fin0 trivial rfl ?_; simp -implicitDefEqProofs (disch := omega) [List.getElem?_cons_zero, List.getElem?_cons_succ, idx, wrap_id, dcheck, h1, h2, h3])
  subst h3
  simp -implicitDefEqProofs (disch := omega) [c14, List.getElem?_cons_zero, List.getElem?_cons_succ, wrap_id, h1, h2]
  refine loopW xs.length (fun k s => s = ⟨[(5, .i k), (0, .p (.is xs)), (1, .i xs.length)], []⟩ ∧ xs.all inB = (xs.drop k).all inB) (wk_norm [] [5, 0, 1] rfl rfl) ⟨rfl, rfl⟩ ?_
  rintro k s hk ⟨rfl, hI⟩
  by_cases hlt : k < xs.length
  · have hd := drop_all inB xs k hlt
    simp -implicitDefEqProofs (disch := omega) [List.getElem?_cons_zero, List.getElem?_cons_succ, wrap_id, hlt]
    refine HC_of_PC rfl (in_ok _) ?_
    simp -implicitDefEqProofs (disch := omega) [List.getElem?_cons_zero, List.getElem?_cons_succ, wrap_id]
    cases hv : inB xs[k]
    · rw [hv] at hd
      simp -implicitDefEqProofs (disch := omega) [List.getElem?_cons_zero, List.getElem?_cons_succ, wrap_id]
      (refine fin0 trivial rfl ?_; simp -implicitDefEqProofs (disch := omega) [List.getElem?_cons_zero, List.getElem?_cons_succ, idx, wrap_id, dcheck, h1, h2, hI, hd])
    · rw [hv] at hd
      simp -implicitDefEqProofs (disch := omega) [List.getElem?_cons_zero, List.getElem?_cons_succ, wrap_id]
      exact round_end [] [5, 0, 1] hlt rfl ⟨rfl, by rw [hI, hd]; rfl⟩
  · simp -implicitDefEqProofs (disch := omega) [List.getElem?_cons_zero, List.getElem?_cons_succ, wrap_id, hlt]
    (refine fin0 trivial rfl ?_; simp -implicitDefEqProofs (disch := omega) [List.getElem?_cons_zero, List.getElem?_cons_succ, idx, wrap_id, dcheck, h1, h2, hI, List.drop_of_length_le (Nat.le_of_not_lt hlt)])
theorem edge63_ok (N : Int) (es : List Ed) (k : Nat) (hk : k < es.length) (hel : es.length ≤ 9223372036854775807) : PC Tryz.prog 77 [G N es, .i k] (.i (edAt N es k hk)) [] := by
  refine PC_of_W cfn77 ?_
  simp -implicitDefEqProofs (disch := omega) [c77, List.getElem?_cons_zero, List.getElem?_cons_succ, wrap_id, hk]
  refine HC_of_PC rfl (rvertex_ok _ _ _) ?_
  simp -implicitDefEqProofs (disch := omega) [List.getElem?_cons_zero, List.getElem?_cons_succ, wrap_id]
  cases h1 : vtx N es[k].a
  · simp -implicitDefEqProofs (disch := omega) [List.getElem?_cons_zero, List.getElem?_cons_succ, wrap_id]
    (refine fin0 trivial rfl ?_; simp -implicitDefEqProofs (disch := omega) [List.getElem?_cons_zero, List.getElem?_cons_succ, idx, wrap_id, edAt, edgeErr, h1])
  simp -implicitDefEqProofs (disch := omega) [List.getElem?_cons_zero, List.getElem?_cons_succ, wrap_id]
  refine HC_of_PC rfl (rvertex_ok _ _ _) ?_
  simp -implicitDefEqProofs (disch := omega) [List.getElem?_cons_zero, List.getElem?_cons_succ, wrap_id]
  cases h2 : vtx N es[k].b
  · simp -implicitDefEqProofs (disch := omega) [List.getElem?_cons_zero, List.getElem?_cons_succ, wrap_id]
    (refine fin0 trivial rfl ?_; simp -implicitDefEqProofs (disch := omega) [List.getElem?_cons_zero, List.getElem?_cons_succ, idx, wrap_id, edAt, edgeErr, h1, h2])
  by_cases h3 : es[k].m < 1
  · simp -implicitDefEqProofs (disch := omega) [List.getElem?_cons_zero, List.getElem?_cons_succ, wrap_id, h3]
    (refine fin0 trivial rfl ?_; simp -implicitDefEqProofs (disch := omega) [List.getElem?_cons_zero, List.getElem?_cons_succ, idx, wrap_id, edAt, edgeErr, h1, h2, h3])
  by_cases h4 : 50 < es[k].m
  · simp -implicitDefEqProofs (disch := omega) [List.getElem?_cons_zero, List.getElem?_cons_succ, wrap_id, h3, h4]
    (refine fin0 trivial rfl ?_; simp -implicitDefEqProofs (disch := omega) [List.getElem?_cons_zero, List.getElem?_cons_succ, idx, wrap_id, edAt, edgeErr, h1, h2, h3, h4])
  by_cases h5 : es[k].b < es[k].a
  · simp -implicitDefEqProofs (disch := omega) [List.getElem?_cons_zero, List.getElem?_cons_succ, wrap_id, h3, h4, h5]
    (refine fin0 trivial rfl ?_; simp -implicitDefEqProofs (disch := omega) [List.getElem?_cons_zero, List.getElem?_cons_succ, idx, wrap_id, edAt, edgeErr, h1, h2, h3, h4, h5])
  have hv := vtx_iff.1 h1
  rcases Nat.eq_zero_or_pos k with h0 | h0
  · subst h0
    simp -implicitDefEqProofs (disch := omega) [List.getElem?_cons_zero, List.getElem?_cons_succ, wrap_id, h3, h4, h5]
    have hb : behind (-1) (-1) es[0].a es[0].b = true := by simp [behind]; omega
    (refine fin0 trivial rfl ?_; simp -implicitDefEqProofs (disch := omega) [List.getElem?_cons_zero, List.getElem?_cons_succ, idx, wrap_id, edAt, edgeErr, h1, h2, h3, h4, h5, prvA, prvB, hb])
  · obtain ⟨j, rfl⟩ : ∃ j, k = j + 1 := ⟨k - 1, by omega⟩
    have hj : j < es.length := by omega
    have hA : prvA es (j + 1) = es[j].a := prvA_succ hj
    have hB : prvB es (j + 1) = es[j].b := prvB_succ hj
    have e1 : ((j : Int) + 1 - 1) = j := by omega
    by_cases h6 : es[j + 1].a < es[j].a
    · have hb : behind es[j].a es[j].b es[j + 1].a es[j + 1].b = false := by simp [behind]; omega
      simp -implicitDefEqProofs (disch := omega) [List.getElem?_cons_zero, List.getElem?_cons_succ, wrap_id, h3, h4, h5, h6, e1, hj]
      (refine fin0 trivial rfl ?_; simp -implicitDefEqProofs (disch := omega) [List.getElem?_cons_zero, List.getElem?_cons_succ, idx, wrap_id, edAt, edgeErr, h1, h2, h3, h4, h5, hA, hB, hb])
    by_cases h7 : es[j + 1].a = es[j].a
    · by_cases h8 : es[j + 1].b ≤ es[j].b
      · have hb : behind es[j].a es[j].b es[j + 1].a es[j + 1].b = false := by simp [behind]; omega
        rw [h7] at hb h5 h6 h1
        simp -implicitDefEqProofs (disch := omega) [List.getElem?_cons_zero, List.getElem?_cons_succ, wrap_id, h3, h4, h5, h6, h7, h8, e1, hj]
        (refine fin0 trivial rfl ?_; simp -implicitDefEqProofs (disch := omega) [List.getElem?_cons_zero, List.getElem?_cons_succ, idx, wrap_id, edAt, edgeErr, h1, h2, h3, h4, h5, hA, hB, h7, hb])
      · have hb : behind es[j].a es[j].b es[j + 1].a es[j + 1].b = true := by simp [behind]; omega
        rw [h7] at hb h5 h6 h1
        simp -implicitDefEqProofs (disch := omega) [List.getElem?_cons_zero, List.getElem?_cons_succ, wrap_id, h3, h4, h5, h6, h7, h8, e1, hj]
        (refine fin0 trivial rfl ?_; simp -implicitDefEqProofs (disch := omega) [List.getElem?_cons_zero, List.getElem?_cons_succ, idx, wrap_id, edAt, edgeErr, h1, h2, h3, h4, h5, hA, hB, h7, hb])
    · have hb : behind es[j].a es[j].b es[j + 1].a es[j + 1].b = true := by simp [behind]; omega
      simp -implicitDefEqProofs (disch := omega) [List.getElem?_cons_zero, List.getElem?_cons_succ, wrap_id, h3, h4, h5, h6, h7, e1, hj]
      (refine fin0 trivial rfl ?_; simp -implicitDefEqProofs (disch := omega) [List.getElem?_cons_zero, List.getElem?_cons_succ, idx, wrap_id, edAt, edgeErr, h1, h2, h3, h4, h5, hA, hB, hb])
theorem rcheck63_ok (N : Int) (es : List Ed) (hel : es.length ≤ 9223372036854775807) : PC Tryz.prog 44 [G N es] (.i (gcheck N es)) [] := by
  refine PC_of_W cfn44 ?_
  by_cases h1 : N < 1
  · simp -implicitDefEqProofs (disch := omega) [c44, List.getElem?_cons_zero, List.getElem?_cons_succ, wrap_id, h1]
    (refine fin0 trivial rfl ?_; simp -implicitDefEqProofs (disch := omega) [List.getElem?_cons_zero, List.getElem?_cons_succ, idx, wrap_id, gcheck, h1])
  by_cases h2 : 12 < N
  · simp -implicitDefEqProofs (disch := omega) [c44, List.getElem?_cons_zero, List.getElem?_cons_succ, wrap_id, h1, h2]
    (refine fin0 trivial rfl ?_; simp -implicitDefEqProofs (disch := omega) [List.getElem?_cons_zero, List.getElem?_cons_succ, idx, wrap_id, gcheck, h1, h2])
  simp -implicitDefEqProofs (disch := omega) [c44, List.getElem?_cons_zero, List.getElem?_cons_succ, wrap_id, h1, h2]
  refine loopW es.length (fun k s => s = ⟨[(3, .i k), (1, .ptr 0 1 0 0)], [.box (.p (G N es))]⟩ ∧ gloop N es (-1) (-1) = gloop N (es.drop k) (prvA es k) (prvB es k)) (wk_norm [0] [3, 1] rfl rfl) ⟨rfl, rfl⟩ ?_
  rintro k s hk ⟨rfl, hI⟩
  by_cases hlt : k < es.length
  · have hd := gloop_drop N es k hlt
    simp -implicitDefEqProofs (disch := omega) [List.getElem?_cons_zero, List.getElem?_cons_succ, wrap_id, hlt]
    refine HC_of_PC rfl (edge63_ok N es k hlt hel) ?_
    by_cases he : edAt N es k hlt = 0
    · simp -implicitDefEqProofs (disch := omega) [List.getElem?_cons_zero, List.getElem?_cons_succ, wrap_id, he]
      exact round_end [0] [3, 1] hlt rfl ⟨rfl, by rw [hI, hd, he]; rfl⟩
    · simp -implicitDefEqProofs (disch := omega) [List.getElem?_cons_zero, List.getElem?_cons_succ, wrap_id, he]
      (refine fin0 trivial rfl ?_; simp -implicitDefEqProofs (disch := omega) [List.getElem?_cons_zero, List.getElem?_cons_succ, idx, wrap_id, gcheck, h1, h2, hI, hd, he])
  · simp -implicitDefEqProofs (disch := omega) [List.getElem?_cons_zero, List.getElem?_cons_succ, wrap_id, hlt]
    (refine fin0 trivial rfl ?_; simp -implicitDefEqProofs (disch := omega) [List.getElem?_cons_zero, List.getElem?_cons_succ, idx, wrap_id, gcheck, h1, h2, hI, gloop, List.drop_of_length_le (Nat.le_of_not_lt hlt)])
theorem RP.len {S : Nat → Prop} {w : World} {l : List PV} {v : Value} (h : RP S w (.sl l) v) : l.length ≤ 9223372036854775807 := by
  cases h with
  | sl l A cap sz c h1 h2 hs ha hr => omega
theorem PC_g {P : Program} {f : FuncId} {N : Int} {es : List Ed} {ps : List PV} {r : AV} {HR : List AO} (h : es.length ≤ 9223372036854775807 → PC P f (G N es :: ps) r HR) : PC P f (G N es :: ps) r HR := by
  intro w S vs hvs
  refine h ?_ w S vs hvs
  have hl := hvs.1
  have h0 := hvs.2 0 (by simp) (by rw [hl]; simp)
  rw [List.getElem_cons_zero] at h0
  generalize vs[0]'(by rw [hl]; simp) = v at h0
  cases h0 with
  | agg l cs hl ho hr =>
    have h1 := hr 1 (by simp) (by rw [hl]; simp)
    have := RP.len (l := es.map edP) h1
    simpa using this
theorem PC_d0 {P : Program} {f : FuncId} {d : List Int} {ps : List PV} {r : AV} {HR : List AO} (h : d.length ≤ 9223372036854775807 → PC P f (.is d :: ps) r HR) : PC P f (.is d :: ps) r HR := by
  intro w S vs hvs
  refine h ?_ w S vs hvs
  have hl := hvs.1
  have h0 := hvs.2 0 (by simp) (by rw [hl]; simp)
  rw [List.getElem_cons_zero] at h0
  have := RP.len (l := d.map PV.i) h0
  simpa using this
theorem good_few {n : Int} {es : List Ed} (h : GoodG n es) : es.length ≤ 144 := by
  have hr := h.right
  have h12 := h.n12
  have ha := h.asc
  have h1 := len_below 144 (es.map fun x => (12 * x.a + x.b).toNat) ?_ ?_
  · simpa using h1
  · refine List.Pairwise.map _ (fun x y hxy => ?_) (List.Pairwise.and_mem.1 ha)
    obtain ⟨hx, hy, hlt⟩ := hxy
    have h2 := hr x hx
    have h3 := hr y hy
    have := h2.a0
    have := h3.a0
    have := h2.ab
    have := h3.ab
    have := h2.bn
    have := h3.bn
    unfold ltE at hlt
    omega
  · intro c hc
    obtain ⟨x, hx, rfl⟩ := List.mem_map.1 hc
    have h2 := hr x hx
    have := h2.a0
    have := h2.ab
    have := h2.bn
    omega
theorem rcheckU_ok (N : Int) (es : List Ed) : PC Tryz.prog 44 [G N es] (.i (gcheck N es)) [] := PC_g fun h => rcheck63_ok N es h
theorem dcheckU_ok (xs : List Int) (n : Int) : PC Tryz.prog 14 [.is xs, .i n] (.i (dcheck xs n)) [] := PC_d0 fun h => dcheck63_ok xs n h
theorem rj25_ok (N : Int) (es : List Ed) : PC Tryz.prog 19 [G N es] (.i (connE N es)) [] := by
  refine PC_of_W cfn19 ?_
  simp -implicitDefEqProofs (disch := omega) [c19, List.getElem?_cons_zero, List.getElem?_cons_succ, wrap_id]
  refine HC_of_PC rfl (rcheckU_ok N es) ?_
  by_cases hg : gcheck N es = 0
  · have hgg := gcheck_ok hg
    have h1 := hgg.n1
    have h12 := hgg.n12
    have hel := good_few hgg
    obtain ⟨n, rfl⟩ : ∃ n : Nat, N = n := ⟨N.toNat, by omega⟩
    simp -implicitDefEqProofs (disch := omega) [List.getElem?_cons_zero, List.getElem?_cons_succ, wrap_id, hg]
    refine HC_of_PC rfl (rconn_ok n es (by omega) hgg.right (by omega)) ?_
    by_cases hp : partsN es n = 1
    · simp -implicitDefEqProofs (disch := omega) [List.getElem?_cons_zero, List.getElem?_cons_succ, wrap_id, hp]
      (refine fin0 trivial rfl ?_; simp -implicitDefEqProofs (disch := omega) [List.getElem?_cons_zero, List.getElem?_cons_succ, idx, wrap_id, connE, hg, hp])
    · simp -implicitDefEqProofs (disch := omega) [List.getElem?_cons_zero, List.getElem?_cons_succ, wrap_id, hp]
      (refine fin0 trivial rfl ?_; simp -implicitDefEqProofs (disch := omega) [List.getElem?_cons_zero, List.getElem?_cons_succ, idx, wrap_id, connE, hg, hp])
  · simp -implicitDefEqProofs (disch := omega) [List.getElem?_cons_zero, List.getElem?_cons_succ, wrap_id, hg]
    (refine fin0 trivial rfl ?_; simp -implicitDefEqProofs (disch := omega) [List.getElem?_cons_zero, List.getElem?_cons_succ, idx, wrap_id, connE, hg])
/-- The first error of a connected graph with a divisor. -/
def cdE (N : Int) (es : List Ed) (d : List Int) : Int := if connE N es ≠ 0 then connE N es else dcheck d N
theorem g35_ok (N : Int) (es : List Ed) (d : List Int) : PC Tryz.prog 47 [G N es, .is d] (.i (cdE N es d)) [] := by
  refine PC_of_W cfn47 ?_
  simp -implicitDefEqProofs (disch := omega) [c47, List.getElem?_cons_zero, List.getElem?_cons_succ, wrap_id]
  refine HC_of_PC rfl (rj25_ok N es) ?_
  by_cases hg : connE N es = 0
  · simp -implicitDefEqProofs (disch := omega) [List.getElem?_cons_zero, List.getElem?_cons_succ, wrap_id, hg]
    refine HC_of_PC rfl (dcheckU_ok d N) ?_
    simp -implicitDefEqProofs (disch := omega) [List.getElem?_cons_zero, List.getElem?_cons_succ, wrap_id]
    (refine fin0 trivial rfl ?_; simp -implicitDefEqProofs (disch := omega) [List.getElem?_cons_zero, List.getElem?_cons_succ, idx, wrap_id, cdE, hg])
  · simp -implicitDefEqProofs (disch := omega) [List.getElem?_cons_zero, List.getElem?_cons_succ, wrap_id, hg]
    (refine fin0 trivial rfl ?_; simp -implicitDefEqProofs (disch := omega) [List.getElem?_cons_zero, List.getElem?_cons_succ, idx, wrap_id, cdE, hg])
def in100 (x : Int) : Bool := decide (-100 ≤ x ∧ x ≤ 100)
/-- Small numbers, or no divisor. -/
def lowB (N : Int) (d : List Int) : Bool := decide (d.length ≤ 100) && (decide (dcheck d N ≠ 0) || d.all in100)
theorem rlow_ok (N : Int) (es : List Ed) (d : List Int) : PC Tryz.prog 80 [G N es, .is d] (.b (lowB N d)) [] := by
  refine PC_of_W cfn80 ?_
  by_cases h1 : (100 : Int) < d.length
  · have h1' : ¬ d.length ≤ 100 := by omega
    simp -implicitDefEqProofs (disch := omega) [c80, List.getElem?_cons_zero, List.getElem?_cons_succ, wrap_id, h1]
    (refine fin0 trivial rfl ?_; simp -implicitDefEqProofs (disch := omega) [List.getElem?_cons_zero, List.getElem?_cons_succ, idx, wrap_id, lowB, h1'])
  have h1' : d.length ≤ 100 := by omega
  simp -implicitDefEqProofs (disch := omega) [c80, List.getElem?_cons_zero, List.getElem?_cons_succ, wrap_id, h1]
  refine HC_of_PC rfl (dcheckU_ok d N) ?_
  by_cases h2 : dcheck d N = 0
  rotate_left
  · simp -implicitDefEqProofs (disch := omega) [List.getElem?_cons_zero, List.getElem?_cons_succ, wrap_id, h2]
    (refine fin0 trivial rfl ?_; simp -implicitDefEqProofs (disch := omega) [List.getElem?_cons_zero, List.getElem?_cons_succ, idx, wrap_id, lowB, h1', h2])
  simp -implicitDefEqProofs (disch := omega) [List.getElem?_cons_zero, List.getElem?_cons_succ, wrap_id, h2]
  refine loopW d.length (fun k s => s = ⟨[(5, .i k), (1, .p (.is d))], []⟩ ∧ d.all in100 = (d.drop k).all in100) (wk_norm [] [5, 1] rfl rfl) ⟨rfl, rfl⟩ ?_
  rintro k s hk ⟨rfl, hI⟩
  by_cases hlt : k < d.length
  · rw [drop_all in100 d k hlt] at hI
    by_cases h3 : d[k] < -100
    · have hv : in100 d[k] = false := by simp [in100]; omega
      simp -implicitDefEqProofs (disch := omega) [List.getElem?_cons_zero, List.getElem?_cons_succ, wrap_id, hlt, h3]
      (refine fin0 trivial rfl ?_; simp -implicitDefEqProofs (disch := omega) [List.getElem?_cons_zero, List.getElem?_cons_succ, idx, wrap_id, lowB, h1', h2, hI, hv])
    by_cases h4 : 100 < d[k]
    · have hv : in100 d[k] = false := by simp [in100]; omega
      simp -implicitDefEqProofs (disch := omega) [List.getElem?_cons_zero, List.getElem?_cons_succ, wrap_id, hlt, h3, h4]
      (refine fin0 trivial rfl ?_; simp -implicitDefEqProofs (disch := omega) [List.getElem?_cons_zero, List.getElem?_cons_succ, idx, wrap_id, lowB, h1', h2, hI, hv])
    · have hv : in100 d[k] = true := by simp [in100]; omega
      simp -implicitDefEqProofs (disch := omega) [List.getElem?_cons_zero, List.getElem?_cons_succ, wrap_id, hlt, h3, h4]
      exact round_end [] [5, 1] hlt rfl ⟨rfl, by rw [hI, hv]; rfl⟩
  · simp -implicitDefEqProofs (disch := omega) [List.getElem?_cons_zero, List.getElem?_cons_succ, wrap_id, hlt]
    (refine fin0 trivial rfl ?_; simp -implicitDefEqProofs (disch := omega) [List.getElem?_cons_zero, List.getElem?_cons_succ, idx, wrap_id, lowB, h1', h2, hI, List.drop_of_length_le (Nat.le_of_not_lt hlt)])
theorem all100 {d : List Int} (h : d.all in100 = true) : AbsLe 100 d := fun v => by
  by_cases hv : v < d.length
  · have := List.all_eq_true.1 h _ (List.getElem_mem hv)
    simp only [in100, decide_eq_true_eq] at this
    rw [getD_get hv]
    omega
  · rw [List.getD_eq_getElem?_getD, List.getElem?_eq_none (by omega)]
    simp
/-- A small graph, with a small divisor of a degree up to c, or none. -/
def fewB (N : Int) (es : List Ed) (d : List Int) (c : Int) : Bool := smallG N es 5 7 && decide (d.length ≤ 100) && (decide (cdE N es d ≠ 0) || (lowB N d && decide (sumI d ≤ c)))
theorem few38_ok (N : Int) (es : List Ed) (d : List Int) (c : Int) : PC Tryz.prog 46 [G N es, .is d, .i c] (.b (fewB N es d c)) [] := by
  refine PC_of_W cfn46 ?_
  simp -implicitDefEqProofs (disch := omega) [c46, List.getElem?_cons_zero, List.getElem?_cons_succ, wrap_id]
  refine HC_of_PC rfl (few20_ok N es) ?_
  cases hs : smallG N es 5 7
  · simp -implicitDefEqProofs (disch := omega) [List.getElem?_cons_zero, List.getElem?_cons_succ, wrap_id]
    (refine fin0 trivial rfl ?_; simp -implicitDefEqProofs (disch := omega) [List.getElem?_cons_zero, List.getElem?_cons_succ, idx, wrap_id, fewB, hs])
  by_cases h1 : (100 : Int) < d.length
  · have h1' : ¬ d.length ≤ 100 := by omega
    simp -implicitDefEqProofs (disch := omega) [List.getElem?_cons_zero, List.getElem?_cons_succ, wrap_id, h1]
    (refine fin0 trivial rfl ?_; simp -implicitDefEqProofs (disch := omega) [List.getElem?_cons_zero, List.getElem?_cons_succ, idx, wrap_id, fewB, hs, h1'])
  have h1' : d.length ≤ 100 := by omega
  simp -implicitDefEqProofs (disch := omega) [List.getElem?_cons_zero, List.getElem?_cons_succ, wrap_id, h1]
  refine HC_of_PC rfl (g35_ok N es d) ?_
  by_cases h2 : cdE N es d = 0
  rotate_left
  · simp -implicitDefEqProofs (disch := omega) [List.getElem?_cons_zero, List.getElem?_cons_succ, wrap_id, h2]
    (refine fin0 trivial rfl ?_; simp -implicitDefEqProofs (disch := omega) [List.getElem?_cons_zero, List.getElem?_cons_succ, idx, wrap_id, fewB, hs, h1', h2])
  simp -implicitDefEqProofs (disch := omega) [List.getElem?_cons_zero, List.getElem?_cons_succ, wrap_id, h2]
  refine HC_of_PC rfl (rlow_ok N es d) ?_
  cases h3 : lowB N d
  · simp -implicitDefEqProofs (disch := omega) [List.getElem?_cons_zero, List.getElem?_cons_succ, wrap_id]
    (refine fin0 trivial rfl ?_; simp -implicitDefEqProofs (disch := omega) [List.getElem?_cons_zero, List.getElem?_cons_succ, idx, wrap_id, fewB, hs, h1', h2, h3])
  have hd : dcheck d N = 0 := by
    unfold cdE at h2
    split at h2
    · rename_i h; exact absurd h2 h
    · exact h2
  have hb : AbsLe 100 d := by
    simp only [lowB, hd, Bool.and_eq_true, decide_eq_true_eq, ne_eq, not_true_eq_false, decide_false, Bool.false_or] at h3
    exact all100 h3.2
  simp -implicitDefEqProofs (disch := omega) [List.getElem?_cons_zero, List.getElem?_cons_succ, wrap_id]
  refine HC_of_PC rfl (total_ok d (by omega) (hb.mono (by omega))) ?_
  simp -implicitDefEqProofs (disch := omega) [List.getElem?_cons_zero, List.getElem?_cons_succ, wrap_id]
  (refine fin0 trivial rfl ?_; simp -implicitDefEqProofs (disch := omega) [List.getElem?_cons_zero, List.getElem?_cons_succ, idx, wrap_id, fewB, hs, h1', h2, h3])
end Go.Proofs.YtpnbahmhdhjndaaGreat
end
section
set_option linter.unusedSimpArgs false
set_option linter.unusedVariables false
namespace Go.Proofs.YtpnbahmhdhjndaaGreat
open Go.Abs Go.Sand
theorem canL_snoc (k : Nat) (es : List Ed) : canL (k + 1) es = canL k es ++ [valS es k - 2] := by simp [canL, List.range_succ]
theorem k39_ok (n : Nat) (es : List Ed) (hg : GoodG n es) : PC Tryz.prog 82 [G n es] (.os 0 0 n) [rowZ (canL n es)] := by
  have hel := good_few hg
  have hn := hg.n12
  have hr := hg.right
  refine PC_of_W cfn82 ?_
  simp -implicitDefEqProofs (disch := omega) [c82, List.getElem?_cons_zero, List.getElem?_cons_succ, wrap_id]
  refine loopW n (fun k st => st = ⟨[(4, .i k), (3, .os 1 0 k), (1, .ptr 0 1 0 0)], [.box (.p (G n es)), rowZ (canL k es)]⟩) ((Wk_nil 3 1 3 rfl).trans (wk_norm [0, 1] [4, 3, 1] rfl rfl)) rfl ?_
  rintro k st hk rfl
  by_cases hlt : k < n
  · have hv := valTo_all hr hg.asc k ⟨by omega, by omega⟩
    have hb := valS_bd hr k
    have hs := canL_snoc k es
    have hl := canL_len k es
    obtain ⟨C, hC⟩ : ∃ C, C = canL k es := ⟨_, rfl⟩
    rw [← hC] at hs hl ⊢
    simp -implicitDefEqProofs (disch := omega) [List.getElem?_cons_zero, List.getElem?_cons_succ, wrap_id, hlt]
    refine HC_of_PC rfl (rval_ok n k es (by omega) hr (by omega)) ?_
    rw [hv]
    have hC1 : k ≤ 1048575 := by omega
    simp -implicitDefEqProofs (disch := omega) [List.getElem?_cons_zero, List.getElem?_cons_succ, wrap_id, hl, hC1]
    exact round_end [0, 1] [4, 3, 1] hlt rfl (by rw [hs]; simp [rowZ, Abs.norm, Abs.get, AV.ren, Abs.idx, hl])
  · have hke : k = n := by omega
    subst hke
    simp -implicitDefEqProofs (disch := omega) [List.getElem?_cons_zero, List.getElem?_cons_succ, wrap_id, hlt]
    exact fin1 [1] trivial rfl (by rfl) ⟨rfl, rfl⟩
theorem plus_ok (a b : List Int) {n : Nat} (hn : n ≤ 12) (ha : a.length = n) (hb : b.length = n) (Ba : AbsLe 1048576 a) (Bb : AbsLe 1048576 b) : PC Tryz.prog 81 [.is a, .is b, .i (-1)] (.os 0 0 n) [rowZ (zpK (fun x y => x + -y) a b n)] := by
  have e0 : rowZ (zpK (fun x y => x + -y) a b 0) = .row (List.replicate n (PV.v (.int .i64 0))) 1 3 false := by rw [zpK_zero, rowZ, ha, List.map_replicate]
  have hn2 : n ≤ 1048576 := by omega
  refine PC_of_W cfn81 ?_
  simp -implicitDefEqProofs (disch := omega) [c81, List.getElem?_cons_zero, List.getElem?_cons_succ, wrap_id, ha, hn2]
  refine loopW n (fun k st => st = ⟨[(8, .i k), (7, .os 0 0 n), (0, .p (.is a)), (1, .p (.is b)), (2, .i (-1))], [rowZ (zpK (fun x y => x + -y) a b k)]⟩) (wk_norm [0] [8, 7, 0, 1, 2] rfl rfl) (by show _ = _; rw [e0]; rfl) ?_
  rintro k st hk rfl
  by_cases hkn : k < n
  · have hzl := zpK_len (fun x y => x + -y) a b k
    have hzs := zpK_set (fun x y => x + -y) a b (k := k) (by omega)
    obtain ⟨Z, hZ⟩ : ∃ Z, Z = zpK (fun x y => x + -y) a b k := ⟨_, rfl⟩
    rw [← hZ] at hzl hzs ⊢
    have hka : k < a.length := by omega
    have hkb : k < b.length := by omega
    have h1 := Ba.get hka
    have h2 := Bb.get hkb
    rw [getD_get hka, getD_get hkb] at hzs
    have hzn : Z.length = n := by omega
    simp -implicitDefEqProofs (disch := omega) [List.getElem?_cons_zero, List.getElem?_cons_succ, wrap_id, hkn, ha, hb, hka, hkb, hzn]
    exact round_end [0] [8, 7, 0, 1, 2] hkn rfl (by rw [← hzs, rowZ, List.map_set]; simp [rowZ, Abs.norm, Abs.get, AV.ren, Abs.idx])
  · have hke : k = n := by omega
    subst hke
    simp -implicitDefEqProofs (disch := omega) [List.getElem?_cons_zero, List.getElem?_cons_succ, wrap_id, hkn, ha]
    exact fin1 [0] trivial rfl (by rfl) ⟨rfl, rfl⟩
end Go.Proofs.YtpnbahmhdhjndaaGreat
end
section
set_option linter.unusedSimpArgs false
set_option linter.unusedVariables false
namespace Go.Proofs.YtpnbahmhdhjndaaGreat
open Go.Abs Go.Sand
/-- The canonical divisor less another. -/
def restL (n : Nat) (es : List Ed) (d : List Int) : List Int := zpK (fun x y => x + -y) (canL n es) d n
theorem restL_len (n : Nat) (es : List Ed) (d : List Int) : (restL n es d).length = n := by unfold restL; rw [zpK_len, canL_len]
theorem canL_abs {n : Nat} {es : List Ed} (hg : GoodG n es) : AbsLe 10000 (canL n es) := fun v => by
  by_cases hv : v < (canL n es).length
  · have hb := valS_bd hg.right v
    have := good_few hg
    rw [getD_get hv]
    simp only [canL, List.getElem_map, List.getElem_range]
    omega
  · rw [List.getD_eq_getElem?_getD, List.getElem?_eq_none (by omega)]
    simp
theorem rest_ok (n : Nat) (es : List Ed) (hg : GoodG n es) (d : List Int) (hd : d.length = n) (hb : AbsLe 1048576 d) : PC Tryz.prog 48 [G n es, .is d] (.os 0 0 n) [rowZ (restL n es d)] := by
  have hn := hg.n12
  have hl := canL_len n es
  refine PC_of_W cfn48 ?_
  simp -implicitDefEqProofs (disch := omega) [c48, List.getElem?_cons_zero, List.getElem?_cons_succ, wrap_id]
  refine HC_of_PC rfl (k39_ok n es hg) ?_
  simp -implicitDefEqProofs (disch := omega) [List.getElem?_cons_zero, List.getElem?_cons_succ, wrap_id]
  refine HC_of_PC (by simp [views, view, viewC, ownEls, hl]) (plus_ok (canL n es) d (n := n) (by omega) hl hd ((canL_abs hg).mono (by omega)) hb) ?_
  simp -implicitDefEqProofs (disch := omega) [List.getElem?_cons_zero, List.getElem?_cons_succ, wrap_id]
  exact fin1 [2] trivial rfl (by rfl) ⟨rfl, rfl⟩
/-- A small curve: its divisor and the rest of the canonical one are small. -/
def cfewB (N : Int) (es : List Ed) (d : List Int) (c : Int) : Bool := fewB N es d c && (decide (cdE N es d ≠ 0) || fewB N es (restL N.toNat es d) c)
theorem cdE_zero {N : Int} {es : List Ed} {d : List Int} (h : cdE N es d = 0) : connE N es = 0 ∧ dcheck d N = 0 := by
  unfold cdE at h
  split at h
  · rename_i h1; exact absurd h h1
  · rename_i h1; exact ⟨Decidable.not_not.1 h1, h⟩
theorem dcheck_at {d : List Int} {n : Nat} (h : dcheck d n = 0) : d.length = n ∧ AbsLe 1048576 d := by
  unfold dcheck at h
  split at h
  · cases h
  split at h
  · cases h
  split at h
  · rename_i h1 h2 h3
    simp only [ne_eq, Decidable.not_not] at h2
    refine ⟨by omega, fun v => ?_⟩
    by_cases hv : v < d.length
    · have := List.all_eq_true.1 h3 _ (List.getElem_mem hv)
      simp only [inB, decide_eq_true_eq] at this
      rw [getD_get hv]; omega
    · rw [List.getD_eq_getElem?_getD, List.getElem?_eq_none (by omega)]
      simp
  · cases h
theorem cfew_ok (N : Int) (es : List Ed) (d : List Int) (c : Int) : PC Tryz.prog 20 [G N es, .is d, .i c] (.b (cfewB N es d c)) [] := by
  refine PC_of_W cfn20 ?_
  simp -implicitDefEqProofs (disch := omega) [c20, List.getElem?_cons_zero, List.getElem?_cons_succ, wrap_id]
  refine HC_of_PC rfl (few38_ok N es d c) ?_
  cases h1 : fewB N es d c
  · simp -implicitDefEqProofs (disch := omega) [List.getElem?_cons_zero, List.getElem?_cons_succ, wrap_id]
    (refine fin0 trivial rfl ?_; simp -implicitDefEqProofs (disch := omega) [List.getElem?_cons_zero, List.getElem?_cons_succ, idx, wrap_id, cfewB, h1])
  simp -implicitDefEqProofs (disch := omega) [List.getElem?_cons_zero, List.getElem?_cons_succ, wrap_id]
  refine HC_of_PC rfl (g35_ok N es d) ?_
  by_cases h2 : cdE N es d = 0
  rotate_left
  · simp -implicitDefEqProofs (disch := omega) [List.getElem?_cons_zero, List.getElem?_cons_succ, wrap_id, h2]
    (refine fin0 trivial rfl ?_; simp -implicitDefEqProofs (disch := omega) [List.getElem?_cons_zero, List.getElem?_cons_succ, idx, wrap_id, cfewB, h1, h2])
  obtain ⟨hc, hd⟩ := cdE_zero h2
  have hg := gcheck_ok (conn_good hc).1
  have hn1 := hg.n1
  obtain ⟨n, rfl⟩ : ∃ n : Nat, N = n := ⟨N.toNat, by omega⟩
  obtain ⟨hdl, hdb⟩ := dcheck_at hd
  have hrl := restL_len n es d
  simp -implicitDefEqProofs (disch := omega) [List.getElem?_cons_zero, List.getElem?_cons_succ, wrap_id, h2]
  refine HC_of_PC rfl (rest_ok n es hg d hdl hdb) ?_
  simp -implicitDefEqProofs (disch := omega) [List.getElem?_cons_zero, List.getElem?_cons_succ, wrap_id]
  refine HC_of_PC (by simp [views, view, viewC, ownEls, hrl]) (few38_ok n es (restL n es d) c) ?_
  simp -implicitDefEqProofs (disch := omega) [List.getElem?_cons_zero, List.getElem?_cons_succ, wrap_id]
  (refine fin0 trivial rfl ?_; simp -implicitDefEqProofs (disch := omega) [List.getElem?_cons_zero, List.getElem?_cons_succ, idx, wrap_id, cfewB, h1, h2])
/-- What runs on curves. -/
def curveB (N : Int) (es : List Ed) (d : List Int) (c : Int) : Bool := decide (connE N es = 0) && decide (dcheck d N = 0) && cfewB N es d c
theorem curve_at {N : Int} {es : List Ed} {d : List Int} {c : Int} (h : curveB N es d c = true) : ∃ n : Nat, N = n ∧ Sm n es ∧ d.length = n ∧ AbsLe 100 d ∧ sumI d ≤ c := by
  simp only [curveB, cfewB, fewB, Bool.and_eq_true, decide_eq_true_eq] at h
  obtain ⟨⟨hc, hd⟩, ⟨⟨hs, -⟩, hl⟩, -⟩ := h
  have hcd : cdE N es d = 0 := by unfold cdE; rw [if_neg (by simp [hc]), hd]
  simp only [hcd, ne_eq, not_true_eq_false, decide_false, Bool.false_or, Bool.and_eq_true, decide_eq_true_eq] at hl
  obtain ⟨hl, hsum⟩ := hl
  have hg := (conn_good hc).1
  have hgg := gcheck_ok hg
  have hn1 := hgg.n1
  obtain ⟨n, rfl⟩ : ∃ n : Nat, N = n := ⟨N.toNat, by omega⟩
  obtain ⟨hdl, hdb⟩ := dcheck_at hd
  simp only [lowB, hd, ne_eq, not_true_eq_false, decide_false, Bool.false_or, Bool.and_eq_true, decide_eq_true_eq] at hl
  simp only [smallG, hg, ne_eq, not_true_eq_false, decide_false, Bool.false_or, Bool.and_eq_true, decide_eq_true_eq] at hs
  exact ⟨n, rfl, ⟨hc, by omega, by omega, by omega⟩, hdl, all100 hl.2, hsum⟩
end Go.Proofs.YtpnbahmhdhjndaaGreat
end
section
set_option linter.unusedSimpArgs false
set_option linter.unusedVariables false
namespace Go.Proofs.YtpnbahmhdhjndaaGreat
open Go.Abs Go.Sand
theorem pown2_ok (a b : List Int) (ha : dcheck a a.length = 0) (hb : dcheck b b.length = 0) (hab : a.length = b.length) (hl : a.length ≤ 1000) : PC Tryz.prog 75 [.sl [.is a, .is b]] (.i 0) [] := by
  have hab' : (b.length : Int) = a.length := by omega
  have hab'' : b.length = a.length := hab.symm
  refine PC_of_W cfn75 ?_
  simp -implicitDefEqProofs (disch := omega) [c75, List.getElem?_cons_zero, List.getElem?_cons_succ, wrap_id]
  refine loopW 2 (fun k s => s = ⟨[(10, .i k), (9, .i 2), (8, .p (.sl [.is a, .is b])), (0, .p (.sl [.is a, .is b]))], []⟩) (wk_norm [] [10, 9, 8, 0] rfl rfl) rfl ?_
  rintro k s hk rfl
  match k, hk with
  | 0, _ =>
    simp -implicitDefEqProofs (disch := omega) [List.getElem?_cons_zero, List.getElem?_cons_succ, wrap_id]
    refine HC_of_PC rfl (chk_ok a a.length (by omega)) ?_
    rw [ha]
    simp -implicitDefEqProofs (disch := omega) [List.getElem?_cons_zero, List.getElem?_cons_succ, wrap_id]
    exact round_end [] [10, 9, 8, 0] (by decide) rfl rfl
  | 1, _ =>
    simp -implicitDefEqProofs (disch := omega) [List.getElem?_cons_zero, List.getElem?_cons_succ, wrap_id]
    refine HC_of_PC rfl (chk_ok b b.length (by omega)) ?_
    rw [hb]
    simp -implicitDefEqProofs (disch := omega) [List.getElem?_cons_zero, List.getElem?_cons_succ, wrap_id]
    exact round_end [] [10, 9, 8, 0] (by decide) rfl rfl
  | 2, _ =>
    simp -implicitDefEqProofs (disch := omega) [List.getElem?_cons_zero, List.getElem?_cons_succ, wrap_id]
    refine loopW 2 (fun k s => s = ⟨[(24, .i k), (23, .i 2), (22, .p (.sl [.is a, .is b])), (0, .p (.sl [.is a, .is b]))], []⟩) (wk_norm [] [24, 23, 22, 0] rfl rfl) rfl ?_
    rintro k s hk rfl
    match k, hk with
    | 0, _ =>
      simp -implicitDefEqProofs (disch := omega) [List.getElem?_cons_zero, List.getElem?_cons_succ, wrap_id]
      exact round_end [] [24, 23, 22, 0] (by decide) rfl rfl
    | 1, _ =>
      simp -implicitDefEqProofs (disch := omega) [List.getElem?_cons_zero, List.getElem?_cons_succ, wrap_id, hab'']
      exact round_end [] [24, 23, 22, 0] (by decide) rfl rfl
    | 2, _ =>
      simp -implicitDefEqProofs (disch := omega) [List.getElem?_cons_zero, List.getElem?_cons_succ, wrap_id]
      (refine fin0 trivial rfl ?_; simp -implicitDefEqProofs (disch := omega) [List.getElem?_cons_zero, List.getElem?_cons_succ, idx, wrap_id])
theorem sub1_ok (x y : Int) (hx : -1048576 ≤ x ∧ x ≤ 1048576) (hy : -1048576 ≤ y ∧ y ≤ 1048576) : PC Tryz.prog 43 [.i x, .i y] (.i (x - y)) [] := by
  refine PC_of_W cfn43 ?_
  simp -implicitDefEqProofs (disch := omega) [c43, List.getElem?_cons_zero, List.getElem?_cons_succ, wrap_id]
  (refine fin0 trivial rfl ?_; simp -implicitDefEqProofs (disch := omega) [List.getElem?_cons_zero, List.getElem?_cons_succ, idx, wrap_id])
/-- The difference. -/
def subL (a b : List Int) : List Int := zpK (fun x y => x - y) a b a.length
theorem subL_len (a b : List Int) : (subL a b).length = a.length := zpK_len _ _ _ _
theorem subL_get (a b : List Int) {i : Nat} (h : i < a.length) : (subL a b).getD i 0 = a.getD i 0 - b.getD i 0 := zpK_get _ a b h
section
variable {R : AV → List AO → Prop}
set_option maxRecDepth 10000 in
theorem eachSub_ok (a b : List Int) (n : Nat) (h1 : 1 ≤ n) (h2 : n ≤ 12) (ha : a.length = n) (hb : b.length = n) (ha2 : AbsLe 500000 a) (hb2 : AbsLe 500000 b) (hR : R (.tup [.p (.is (subL a b)), .i 0]) []) :
    HC Tryz.prog false 42 [.p (.is a), .p (.is b), .fn (.func 43) [] []] [] R := by
  have hn6 : n ≤ 1048576 := by omega
  have ca := dcheck_zero (by omega) ha (ha2.mono (by omega))
  have cb := dcheck_zero (by omega) hb (hb2.mono (by omega))
  have e0 : rowZ (zpK (fun x y => x - y) a b 0) = .row (List.replicate n (PV.v (.int .i64 0))) 1 3 false := by rw [zpK_zero, rowZ, ha, List.map_replicate]
  refine HC_of_W (af := _) ((by exact cfn42 : cfn _ _ _ = some _)) ?_
  simp -implicitDefEqProofs (disch := omega) [c42, List.getElem?_cons_zero, List.getElem?_cons_succ, wrap_id]
  refine HC_of_PC rfl (pown2_ok a b (by rw [ha]; exact ca) (by rw [hb]; exact cb) (by omega) (by omega)) ?_
  simp -implicitDefEqProofs (disch := omega) [List.getElem?_cons_zero, List.getElem?_cons_succ, wrap_id, ha, hn6]
  refine loopW n (fun k st => st = ⟨[(23, .i k), (22, .i n), (9, .os 0 0 n), (2, .fn (.func 43) [] []), (1, .p (.is b)), (0, .p (.is a))], [rowZ (zpK (fun x y => x - y) a b k)]⟩) (Wk_norm [1] [23, 22, 9, 2, 1, 0] rfl) (by show _ = _; rw [e0]; rfl) ?_
  rintro k st hk rfl
  have hl := zpK_len (fun x y => x - y) a b k
  rw [ha] at hl
  by_cases hlt : k < n
  · have hka : k < a.length := by omega
    have hkb : k < b.length := by omega
    have hga := getD_get hka
    have hgb := getD_get hkb
    have ba := ha2.get hka
    have bb := hb2.get hkb
    have hset := zpK_set (fun x y => x - y) a b hka
    have hl2 := zpK_len (fun x y => x - y) a b (k + 1)
    rw [ha] at hl2
    rw [hga, hgb] at hset
    have hset' := congrArg (List.map PV.i) hset
    rw [List.map_set] at hset'
    obtain ⟨Z, hZ⟩ : ∃ Z, Z = zpK (fun x y => x - y) a b k := ⟨_, rfl⟩
    obtain ⟨Y, hY⟩ : ∃ Y, Y = zpK (fun x y => x - y) a b (k + 1) := ⟨_, rfl⟩
    rw [← hZ] at hl hset hset' ⊢
    rw [← hY] at hl2 hset hset'
    have hYk : Y[k]? = some (a[k] - b[k]) := by rw [← hset, List.getElem?_set_self (by omega)]
    have hin : inB (a[k] - b[k]) = true := inB_iff.2 (by omega)
    have hgE : ∀ h, Y[k]'h = a[k] - b[k] := fun h => by rw [List.getElem?_eq_getElem h] at hYk; exact Option.some.inj hYk
    simp -implicitDefEqProofs (disch := omega) [List.getElem?_cons_zero, List.getElem?_cons_succ, wrap_id, hlt, hka, hkb, hl]
    refine ⟨by kernel_rfl, ?_⟩
    refine HC_of_PC rfl (sub1_ok a[k] b[k] (by omega) (by omega)) ?_
    simp -implicitDefEqProofs (disch := omega) [List.getElem?_cons_zero, List.getElem?_cons_succ, wrap_id, hlt, hka, hkb, hl, hset', hl2, hgE]
    refine HC_of_PC rfl (within_ok (a[k] - b[k])) ?_
    simp -implicitDefEqProofs (disch := omega) [List.getElem?_cons_zero, List.getElem?_cons_succ, wrap_id, hin]
    exact round_end [0] [23, 22, 9, 2, 1, 0] hlt rfl (by rw [hY]; rfl)
  · have hkn : k = n := by omega
    have hsl := subL_len a b
    subst hkn
    have e : zpK (fun x y => x - y) a b k = subL a b := by unfold subL; rw [ha]
    rw [e]
    simp -implicitDefEqProofs (disch := omega) [List.getElem?_cons_zero, List.getElem?_cons_succ, wrap_id]
    exact finR [] trivial rfl rfl (by simpa [renH, AV.ren, renL, Abs.idx, ha, hsl, rowZ] using hR)
end
theorem csub_ok (a b : List Int) (n : Nat) (h1 : 1 ≤ n) (h2 : n ≤ 12) (ha : a.length = n) (hb : b.length = n) (ha2 : AbsLe 500000 a) (hb2 : AbsLe 500000 b) :
    PC Tryz.prog 18 [.is a, .is b] (.tup [.p (.is (subL a b)), .i 0]) [] := by
  refine PC_of_W cfn18 ?_
  simp -implicitDefEqProofs (disch := omega) [c18, List.getElem?_cons_zero, List.getElem?_cons_succ, wrap_id]
  refine eachSub_ok a b n h1 h2 ha hb ha2 hb2 ?_
  simp -implicitDefEqProofs (disch := omega) [List.getElem?_cons_zero, List.getElem?_cons_succ, wrap_id]
  (refine fin0 trivial rfl ?_; simp -implicitDefEqProofs (disch := omega) [List.getElem?_cons_zero, List.getElem?_cons_succ, idx, wrap_id])
section
variable {n : Nat} {es : List Ed} (hs : Sm n es)
include hs
end
end Go.Proofs.YtpnbahmhdhjndaaGreat
end
