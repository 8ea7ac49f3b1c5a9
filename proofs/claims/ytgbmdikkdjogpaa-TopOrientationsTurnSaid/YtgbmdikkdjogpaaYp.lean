/-
  Contracts: a range over the single edges at a vertex, with an invariant; breadth first, plain.
-/
import Derived.Test.YtgbmdikkdjogpaaYo
set_option linter.unusedSimpArgs false
set_option linter.unusedVariables false
namespace Go.Proofs.Ytgbmdikkdjogpaa
open Go.Abs Go.Sand

section
variable {n : Nat} {es : List Ed} (hr : ∀ x ∈ es, Right n x) (hn : n ≤ 12) (hel : es.length ≤ 1000) {v : Int} (hv : 0 ≤ v ∧ v < n)
include hr hn hel hv
theorem links_rangeJ {o xi vi lp : Nat} {J : Nat → List AO → Prop} {H0 : List AO} {L : AO} {K : AV → List AO → Prop} {m : AV} {rest : List AV} (h0 : J 0 H0) (hA : H0[o]? = some (.box (.agg (m :: .p (.sl (es.map edP)) :: rest)))) (h1 : H0[xi]? = some (.box (.ptr o 1 0 0)))
    (h2 : ∀ k H, J k H → H[vi]? = some (.box (.i v))) (h3 : ∀ k H, J k H → H[lp]? = some L) (hL : L.len = 1) (hap : ∀ k H Z, J k H → J k (H ++ Z))
    (hsk : ∀ k (hk : k < es.length) H, incB v es[k] = false → J k H → J (k + 1) H)
    (hy : ∀ k (hk : k < es.length) H (K' : AV → List AO → Prop), incB v es[k] = true → J k H → (∀ H', J (k + 1) H' → K' (.b true) H') → HY Try.prog lp [.i (es[k].a + es[k].b - v), .i es[k].m] H K')
    (hK : ∀ r H, J es.length H → K r H) : HC Try.prog false 93 [.yl lp, .ptr xi 1 0 0, .ptr vi 1 0 0] H0 K := by
  have h2' := h2 0 H0 h0
  refine HC_of_W (af := _) ((by exact cfn93 : cfn _ _ _ = some _)) ?_
  simp -implicitDefEqProofs (disch := omega) [c93, List.getElem?_cons_zero, List.getElem?_cons_succ, wrap_id, h1, hA]
  refine loopW es.length (fun k s => ∃ H, J k H ∧ s = ⟨[(13, .i k), (12, .i es.length), (11, .p (.sl (es.map edP))), (0, .yl lp), (1, .ptr xi 1 0 0), (2, .ptr vi 1 0 0)], H⟩) (Wk_keep [13, 12, 11, 0, 1, 2]) ⟨H0, h0, rfl⟩ ?_
  rintro k s hk ⟨H1, hJ, rfl⟩
  by_cases hlt : k < es.length
  rotate_left
  · have hke : k = es.length := by omega
    subst hke
    simp -implicitDefEqProofs (disch := omega) [List.getElem?_cons_zero, List.getElem?_cons_succ, wrap_id]
    exact finH trivial rfl (hK _ H1 hJ)
  have hJy := fun y => hap k H1 [y] hJ
  have g2 : ∀ y, (H1 ++ [y])[vi]? = some (.box (.i v)) := fun y => h2 k _ (hJy y)
  have g3 : ∀ y, (H1 ++ [y])[lp]? = some L := fun y => h3 k _ (hJy y)
  have f1 : ∀ y, (H1 ++ [y])[H1.length]? = some y := fun y => by simp
  have f3 : ∀ y z, (H1 ++ [y]).set H1.length z = H1 ++ [z] := fun y z => by simp
  obtain ⟨r1, r2, r3, r4, r5, r6, r7⟩ := hr es[k] (List.getElem_mem hlt)
  have hyk := hy k hlt
  have hskk := hsk k hlt
  by_cases hi : incB v es[k] = true
  · have hab : decide (es[k].a = es[k].b) = false := by
      simp only [incB, decide_eq_true_eq] at hi
      exact decide_eq_false hi.1
    by_cases ha : es[k].a = v
    · have ha' : decide (es[k].a = v) = true := decide_eq_true ha
      simp -implicitDefEqProofs (disch := omega) [List.getElem?_cons_zero, List.getElem?_cons_succ, wrap_id, hlt, g2, g3, f1, f3, hab, ha']
      refine ⟨hL, hyk _ _ hi (hJy _) fun H' hJ' => ?_⟩
      simp -implicitDefEqProofs (disch := omega) [List.getElem?_cons_zero, List.getElem?_cons_succ, wrap_id]
      exact round_keep [13, 12, 11, 0, 1, 2] hlt ⟨H', hJ', rfl⟩
    · have ha' : decide (es[k].a = v) = false := decide_eq_false ha
      have hb' : decide (es[k].b = v) = true := by
        simp only [incB, decide_eq_true_eq] at hi
        exact decide_eq_true (hi.2.resolve_left ha)
      simp -implicitDefEqProofs (disch := omega) [List.getElem?_cons_zero, List.getElem?_cons_succ, wrap_id, hlt, g2, g3, f1, f3, hab, ha', hb']
      refine ⟨hL, hyk _ _ hi (hJy _) fun H' hJ' => ?_⟩
      simp -implicitDefEqProofs (disch := omega) [List.getElem?_cons_zero, List.getElem?_cons_succ, wrap_id]
      exact round_keep [13, 12, 11, 0, 1, 2] hlt ⟨H', hJ', rfl⟩
  · have hi' : incB v es[k] = false := by simpa using hi
    have hsame := fun y => hskk _ hi' (hJy y)
    by_cases hab : es[k].a = es[k].b
    · have hab' : decide (es[k].a = es[k].b) = true := decide_eq_true hab
      simp -implicitDefEqProofs (disch := omega) [List.getElem?_cons_zero, List.getElem?_cons_succ, wrap_id, hlt, g2, g3, f1, f3, hab']
      exact round_keep [13, 12, 11, 0, 1, 2] hlt ⟨_, hsame _, rfl⟩
    · have hab' : decide (es[k].a = es[k].b) = false := decide_eq_false hab
      have ha' : decide (es[k].a = v) = false := decide_eq_false fun e => hi (by rw [incB]; exact decide_eq_true ⟨hab, .inl e⟩)
      have hb' : decide (es[k].b = v) = false := decide_eq_false fun e => hi (by rw [incB]; exact decide_eq_true ⟨hab, .inr e⟩)
      simp -implicitDefEqProofs (disch := omega) [List.getElem?_cons_zero, List.getElem?_cons_succ, wrap_id, hlt, g2, g3, f1, f3, hab', ha', hb']
      exact round_keep [13, 12, 11, 0, 1, 2] hlt ⟨_, hsame _, rfl⟩
end
end Go.Proofs.Ytgbmdikkdjogpaa
