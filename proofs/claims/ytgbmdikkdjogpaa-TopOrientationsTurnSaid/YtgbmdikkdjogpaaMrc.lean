/-
  Contracts: scripts, firing, borrowing, in both.
-/
import Derived.Test.YtgbmdikkdjogpaaMrb
set_option linter.unusedSimpArgs false
namespace Go.Proofs.Ytgbmdikkdjogpaa
open Go.Abs Go.Sand

theorem subE_ok {N : Int} {es : List Ed} {d set : List Int} (h : subE N es d set = 0) : givenE N es d = 0 ∧ subErr N (-1) set = 0 := by
  unfold subE at h
  split at h
  · rename_i hn; exact absurd h hn
  · rename_i hn; exact ⟨by simpa using hn, h⟩
section
variable (N : Int) (es : List Ed) (d s set : List Int) (he : es.length ≤ 1000) (hd : d.length ≤ 4611686018427387904) (hs : s.length ≤ 4611686018427387904) (hset : set.length ≤ 4611686018427387904)
include he hd
def fireM (es : List Ed) (N : Int) (set : List Int) (t : Int) (d : List Int) : List Int := movedE es (ofL N.toNat set t) d
end
end Go.Proofs.Ytgbmdikkdjogpaa
/-
  Contracts: is a firing legal?
-/
set_option linter.unusedSimpArgs false
namespace Go.Proofs.Ytgbmdikkdjogpaa
open Go.Abs Go.Sand

theorem first_at : ∀ (xs : List Int) (v : Int), v ∈ xs → ∃ i, ∃ h : i < xs.length, xs[i] = v ∧ ∀ j, ∀ hj : j < i, xs[j] ≠ v
  | x :: xs, v, h => by
    by_cases e : x = v
    · exact ⟨0, by simp, e, fun j hj => by omega⟩
    · obtain ⟨i, hi, h1, h2⟩ := first_at xs v ((List.mem_cons.1 h).resolve_left fun h => e h.symm)
      refine ⟨i + 1, by simpa using hi, h1, fun j hj => ?_⟩
      cases j with
      | zero => exact e
      | succ j => exact h2 j (by omega)
theorem index_ok (xs : List Int) (v : Int) (hx : xs.length ≤ 4611686018427387904) : ∃ i : Int, (0 ≤ i ↔ v ∈ xs) ∧ PC Try.prog 43 [.is xs, .i v] (.i i) [] := by
  by_cases hm : v ∈ xs
  · obtain ⟨i, hi, hv, hlo⟩ : ∃ i, ∃ h : i < xs.length, xs[i] = v ∧ ∀ j, ∀ hj : j < i, xs[j] ≠ v := first_at xs v hm
    refine ⟨i, by simp [hm], ?_⟩
    refine PC_of_W cfn43 ?_
    simp -implicitDefEqProofs (disch := omega) [c43, List.getElem?_cons_zero, List.getElem?_cons_succ, wrap_id]
    refine loopW xs.length (fun k s => s = ⟨[(8, .i k), (7, .i xs.length), (6, .p (.is xs)), (0, .p (.is xs)), (1, .i v)], []⟩ ∧ k ≤ i) (Wk_keep [8, 7, 6, 0, 1]) ⟨rfl, by omega⟩ ?_
    rintro k s hk ⟨rfl, hI⟩
    have hlt : k < xs.length := by omega
    by_cases hki : k = i
    · subst hki
      simp -implicitDefEqProofs (disch := omega) [List.getElem?_cons_zero, List.getElem?_cons_succ, wrap_id, hlt, hv]
      (refine fin0 trivial rfl ?_; simp -implicitDefEqProofs (disch := omega) [List.getElem?_cons_zero, List.getElem?_cons_succ, idx, wrap_id])
    · have hne := hlo k (by omega)
      have hne' : ¬ v = xs[k] := fun h => hne h.symm
      simp -implicitDefEqProofs (disch := omega) [List.getElem?_cons_zero, List.getElem?_cons_succ, wrap_id, hlt, hne']
      exact round_keep [8, 7, 6, 0, 1] hlt ⟨rfl, by omega⟩
  · refine ⟨-1, by simp [hm], ?_⟩
    refine PC_of_W cfn43 ?_
    simp -implicitDefEqProofs (disch := omega) [c43, List.getElem?_cons_zero, List.getElem?_cons_succ, wrap_id]
    refine loopW xs.length (fun k s => s = ⟨[(8, .i k), (7, .i xs.length), (6, .p (.is xs)), (0, .p (.is xs)), (1, .i v)], []⟩) (Wk_keep [8, 7, 6, 0, 1]) rfl ?_
    rintro k s hk rfl
    by_cases hlt : k < xs.length
    · have hne' : ¬ v = xs[k] := fun h => hm (h ▸ List.getElem_mem hlt)
      simp -implicitDefEqProofs (disch := omega) [List.getElem?_cons_zero, List.getElem?_cons_succ, wrap_id, hlt, hne']
      exact round_keep [8, 7, 6, 0, 1] hlt rfl
    · simp -implicitDefEqProofs (disch := omega) [List.getElem?_cons_zero, List.getElem?_cons_succ, wrap_id, hlt]
      (refine fin0 trivial rfl ?_; simp -implicitDefEqProofs (disch := omega) [List.getElem?_cons_zero, List.getElem?_cons_succ, idx, wrap_id])
theorem contains_ok (xs : List Int) (v : Int) (hx : xs.length ≤ 4611686018427387904) : PC Try.prog 23 [.is xs, .i v] (.b (decide (v ∈ xs))) [] := by
  obtain ⟨i, hi, hc⟩ := index_ok xs v hx
  refine PC_of_W cfn23 ?_
  simp -implicitDefEqProofs (disch := omega) [c23, List.getElem?_cons_zero, List.getElem?_cons_succ, wrap_id]
  refine HC_of_PC rfl (hc) ?_
  simp -implicitDefEqProofs (disch := omega) [List.getElem?_cons_zero, List.getElem?_cons_succ, wrap_id]
  (refine fin0 trivial rfl ?_; simp -implicitDefEqProofs (disch := omega) [List.getElem?_cons_zero, List.getElem?_cons_succ, idx, wrap_id, hi])
section
variable {f : FuncId} {fs cs : List AV} {H : List AO} {p : Int → Bool} {R : AV → List AO → Prop}
end
end Go.Proofs.Ytgbmdikkdjogpaa
/-
  Contracts: is the firing of a set legal?
-/
set_option linter.unusedSimpArgs false
namespace Go.Proofs.Ytgbmdikkdjogpaa
open Go.Abs Go.Sand

theorem leaves_snoc (es : List Ed) (set : List Int) (k : Nat) (h : k < es.length) : leaves (es.take (k + 1)) set = (leaves (es.take k) set || (decide (es[k].a ∈ set) != decide (es[k].b ∈ set))) := by
  unfold leaves
  rw [List.take_succ_eq_append_getElem h, List.any_append]
  simp
theorem lost_bd {n : Nat} {es : List Ed} (h : ∀ x ∈ es, Right n x) (he : es.length ≤ 1000) (set : List Int) (k p : Nat) (hp : p < n) (hl : p < (lostL n (es.take k) set).length) : 0 ≤ (lostL n (es.take k) set)[p] ∧ (lostL n (es.take k) set)[p] ≤ 50000 := by
  have h1 := lostV_bd (n := n) (es := es.take k) (fun x hx => h x (List.mem_of_mem_take hx)) set p
  have h2 := lostL_getD n (es.take k) set p hp
  have h3 : (es.take k).length ≤ 1000 := by rw [List.length_take]; omega
  rw [getD_get hl] at h2
  rw [h2]
  omega
end Go.Proofs.Ytgbmdikkdjogpaa
/-
  Contracts: playing, in package firing.
-/
set_option linter.unusedSimpArgs false
namespace Go.Proofs.Ytgbmdikkdjogpaa
open Go.Abs Go.Sand

theorem finR {m0 : Nat} {rs : List ARes} {R : AV → List AO → Prop} {s : St} {x : AV} {e : AExit} (σ : List Nat) (he : match e with | .exit _ => False | _ => True) (h : resOf s rs = some x) (hσ : okσ σ m0 s.H = true) (hR : R (x.ren s.H (idx σ 0)) (renH σ s.H)) :
    Abs.Fin m0 rs R e s := ⟨he, .inl ⟨s, x, σ, Wk.refl _ _, h, hσ, hR⟩⟩
theorem cloneP_ok (xs : List Int) (hx : xs.length ≤ 1000000) : PC Try.prog 68 [.is xs] (.p (.is xs)) [] := by
  refine PC_of_W cfn68 ?_
  simp -implicitDefEqProofs (disch := omega) [c68, List.getElem?_cons_zero, List.getElem?_cons_succ, wrap_id, stepK_eqn, eqnP]
  have hx' : xs.length ≤ 1048576 := by omega
  refine ⟨?_, ?_⟩
  · rintro rfl
    refine finW (Wk_nil0 2 rfl) ?_
    (refine fin0 trivial rfl ?_; simp -implicitDefEqProofs (disch := omega) [List.getElem?_cons_zero, List.getElem?_cons_succ, idx, wrap_id])
  · simp -implicitDefEqProofs (disch := omega) [List.getElem?_cons_zero, List.getElem?_cons_succ, wrap_id, hx']
    (refine fin0 trivial rfl ?_; simp -implicitDefEqProofs (disch := omega) [List.getElem?_cons_zero, List.getElem?_cons_succ, idx, wrap_id])
abbrev HG (n : Nat) (es : List Ed) (d : List Int) : List AO := [.box (.p (.agg [.i n, .sl (es.map edP), .is d]))]
abbrev HN (N : Int) (es : List Ed) : List AO := [.box (.p (G N es))]
end Go.Proofs.Ytgbmdikkdjogpaa
