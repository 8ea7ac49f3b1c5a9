/-
  Texts joined: Zh Zj Wd.
-/
import Derived.Test.YtamiekhoaggpkaaKa23

section
set_option linter.unusedSimpArgs false
set_option linter.unusedVariables false
namespace Go.Proofs.Ytamiekhoaggpkaa
open Go.Abs Go.Sand
/-- In a graph of one part each vertex has another one beside it, if there is another one. -/
theorem val_pos {n : Nat} {es : List Ed} (hg : GoodG n es) (hp : partsN es n = 1) {v w : Nat} (hv : v < n) (hw : w < n) (hne : w ≠ v) : 1 ≤ valTo es v n := by
  have hn := hg.n12
  refine Classical.byContradiction fun hlt => ?_
  have h0 : valTo es v n = 0 := by have := valTo_nn hg v n; omega
  rw [valTo_all hg.right hg.asc v ⟨by omega, by omega⟩] at h0
  have hz : ∀ x ∈ es, val1 v x = 0 := by
    have key : ∀ l : List Ed, (∀ x ∈ l, 1 ≤ x.m) → valS l v = 0 → ∀ x ∈ l, val1 v x = 0 := by
      intro l
      induction l with
      | nil => intro _ _ x hx; cases hx
      | cons y l ih =>
        intro hm h x hx
        have e : valS (y :: l) v = val1 v y + valS l v := by simp [valS, sumI]
        have h1 : 0 ≤ val1 v y := by unfold val1; have := hm y (by simp); split <;> omega
        have h2 : 0 ≤ valS l v := by
          have : ∀ l : List Ed, (∀ x ∈ l, 1 ≤ x.m) → 0 ≤ valS l v := by
            intro l
            induction l with
            | nil => intro _; simp [valS, sumI]
            | cons y l ih =>
              intro hm
              have e : valS (y :: l) v = val1 v y + valS l v := by simp [valS, sumI]
              have h1 : 0 ≤ val1 v y := by unfold val1; have := hm y (by simp); split <;> omega
              have := ih fun x hx => hm x (by simp [hx])
              omega
          exact this l fun x hx => hm x (by simp [hx])
        rcases List.mem_cons.1 hx with rfl | hx
        · omega
        · exact ih (fun x hx => hm x (by simp [hx])) (by omega) x hx
    exact key es (fun x hx => (hg.right x hx).m1) h0
  have hcl : ∀ u u', cls es u = cls es u' → (u = v ↔ u' = v) := by
    intro u u' h
    have := cls_closed (n := n) (es := es) (fun y => y = v) (fun x hx => by
      have hx0 := hz x hx
      have r := hg.right x hx
      have h1 := r.m1
      have h2 := r.a0
      have h3 := r.b0
      unfold val1 at hx0
      split at hx0
      · omega
      · rename_i hh; omega) es.length (Nat.le_refl _) u u'
    rw [List.take_length] at this
    exact this h
  have hF := ufJ_forest (n := n) (by omega) hg.right es.length (Nat.le_refl _)
  rw [List.take_length] at hF
  have root : ∀ u, u < n → cls es u ∈ rootsL es n := fun u hu => by
    obtain ⟨h1, h2⟩ := hF.le u (by omega)
    refine List.mem_filter.2 ⟨List.mem_range.2 ?_, decide_eq_true h2⟩
    show (ufJ es).2 u < n
    omega
  obtain ⟨r, hr⟩ := List.length_eq_one_iff.1 hp
  have h1 := root v hv
  have h2 := root w hw
  rw [hr] at h1 h2
  have h3 : cls es v = cls es w := by rw [List.mem_singleton.1 h1, List.mem_singleton.1 h2]
  exact hne ((hcl v w h3).1 rfl)
def rootE (N : Int) (es : List Ed) (q : Int) : Int := if gcheck N es ≠ 0 then gcheck N es else if partsN es N.toNat = 1 then (if vtx N q = true then 0 else 2) else 13
def negB (q : Int) (d : List Int) : Bool := (List.range d.length).any fun v => decide ((v : Int) ≠ q) && decide (d.getD v 0 < 0)
def stE (N : Int) (es : List Ed) (q : Int) (d : List Int) : Int := if rootE N es q ≠ 0 then rootE N es q else if dcheck d N ≠ 0 then dcheck d N else if negB q d = true then 2 else 0
theorem root_ok {N q : Int} {es : List Ed} (h : rootE N es q = 0) : ∃ n : Nat, N = n ∧ gcheck n es = 0 ∧ GoodG n es ∧ partsN es n = 1 ∧ 0 ≤ q ∧ q < n ∧ 1 ≤ n ∧ n ≤ 12 := by
  unfold rootE at h
  split at h
  · rename_i h1; exact absurd h h1
  · rename_i h1
    have h1 := Decidable.not_not.1 h1
    have hg := gcheck_ok h1
    have hn1 := hg.n1
    have hn12 := hg.n12
    obtain ⟨n, rfl⟩ : ∃ n : Nat, N = n := ⟨N.toNat, by omega⟩
    split at h
    · rename_i h2
      split at h
      · rename_i h3
        have h3' : 0 ≤ q ∧ q < n := by simpa [vtx] using h3
        exact ⟨n, rfl, h1, hg, by simpa using h2, h3'.1, h3'.2, by omega, by omega⟩
      · cases h
    · cases h
structure StOk (n : Nat) (es : List Ed) (q : Int) (d : List Int) : Prop where
  gc : gcheck n es = 0
  g : GoodG n es
  parts : partsN es n = 1
  q0 : 0 ≤ q
  qn : q < n
  n1 : 1 ≤ n
  n12 : n ≤ 12
  c : Conf n q d
  v : ∀ v, v < n → (v : Int) ≠ q → 1 ≤ valTo es v n
theorem sink_val {n : Nat} {es : List Ed} {q : Int} (hg : GoodG n es) (hp : partsN es n = 1) (h0 : 0 ≤ q) (h1 : q < n) : ∀ v, v < n → (v : Int) ≠ q → 1 ≤ valTo es v n := fun v hv hq => val_pos hg hp (w := q.toNat) hv (by omega) (by omega)
theorem st_ok {N q : Int} {es : List Ed} {d : List Int} (h : stE N es q d = 0) : ∃ n : Nat, N = n ∧ StOk n es q d := by
  unfold stE at h
  split at h
  · rename_i h1; exact absurd h h1
  · rename_i h1
    have h1 := Decidable.not_not.1 h1
    obtain ⟨n, rfl, hgc, hg, hp, hq0, hqn, hn1, hn⟩ := root_ok h1
    split at h
    · rename_i h2; exact absurd h h2
    · rename_i h2
      have h2 := Decidable.not_not.1 h2
      split at h
      · cases h
      · rename_i h3
        have hgv : givenE n es d = 0 := by rw [givenE, if_neg (by simp [hgc]), h2]
        obtain ⟨n', e', -, hl, hb, -, -⟩ := given_ok hgv
        have hl' : d.length = n := by omega
        refine ⟨n, rfl, hgc, hg, hp, hq0, hqn, hn1, hn, ⟨hl', hb.more (by omega), fun v hv hq => ?_⟩, sink_val hg hp hq0 hqn⟩
        have : negB q d = false := by cases hh : negB q d; rfl; exact absurd hh h3
        unfold negB at this
        have := (List.any_eq_false.1 this) v (List.mem_range.2 (by omega))
        simp only [Bool.and_eq_true, decide_eq_true_eq, not_and] at this
        have := this hq
        omega
/-- The first k vertices are not in debt. -/
def NN (q : Int) (d : List Int) (k : Nat) : Prop := ∀ u, u < k → ¬ ((u : Int) ≠ q ∧ d.getD u 0 < 0)
theorem NN.succ {q : Int} {d : List Int} {k : Nat} (h : NN q d k) (h2 : ¬ ((k : Int) ≠ q ∧ d.getD k 0 < 0)) : NN q d (k + 1) := fun u hu => by
  rcases Nat.lt_or_ge u k with h3 | h3
  · exact h u h3
  · have e : u = k := by omega
    subst e; exact h2
theorem negB_take {q : Int} {d : List Int} {k : Nat} (hk : k < d.length) (h2 : (k : Int) ≠ q ∧ d.getD k 0 < 0) : negB q d = true := by
  unfold negB
  refine List.any_eq_true.2 ⟨k, List.mem_range.2 hk, ?_⟩
  rw [decide_eq_true h2.1, decide_eq_true h2.2]; rfl
theorem negB_none {q : Int} {d : List Int} (h : NN q d d.length) : negB q d = false := by
  unfold negB
  refine List.any_eq_false.2 fun u hu => ?_
  have := h u (List.mem_range.1 hu)
  simp only [Bool.and_eq_true, decide_eq_true_eq]
  exact this
section
variable (N : Int) (es : List Ed) (q : Int) (d : List Int) (hel : es.length ≤ 900) (hd : d.length ≤ 1000)
include hel
theorem rooted_ok : PC Try.prog 82 [G N es, .i q] (.i (rootE N es q)) [] := by
  refine PC_of_W cfn82 ?_
  simp -implicitDefEqProofs (disch := omega) [c82, List.getElem?_cons_zero, List.getElem?_cons_succ, wrap_id]
  by_cases hg : gcheck N es = 0
  · have hgg := gcheck_ok hg
    have hn1 := hgg.n1
    have hn12 := hgg.n12
    obtain ⟨n, rfl⟩ : ∃ n : Nat, N = n := ⟨N.toNat, by omega⟩
    refine HC_of_PC rfl (connected_ok n es hel hg) ?_
    by_cases hp : (rootsL es n).length = 1
    · have hp' : partsN es n = 1 := hp
      by_cases h1 : q < 0
      · have e : vtx n q = false := by simp [vtx]; omega
        simp -implicitDefEqProofs (disch := omega) [List.getElem?_cons_zero, List.getElem?_cons_succ, wrap_id, hp, h1]
        (refine fin0 trivial rfl ?_; simp -implicitDefEqProofs (disch := omega) [List.getElem?_cons_zero, List.getElem?_cons_succ, idx, wrap_id, rootE, hg, hp', e])
      · by_cases h2 : (n : Int) ≤ q
        · have e : vtx n q = false := by simp [vtx]; omega
          simp -implicitDefEqProofs (disch := omega) [List.getElem?_cons_zero, List.getElem?_cons_succ, wrap_id, hp, h1, h2]
          (refine fin0 trivial rfl ?_; simp -implicitDefEqProofs (disch := omega) [List.getElem?_cons_zero, List.getElem?_cons_succ, idx, wrap_id, rootE, hg, hp', e])
        · have e : vtx n q = true := by simp [vtx]; omega
          simp -implicitDefEqProofs (disch := omega) [List.getElem?_cons_zero, List.getElem?_cons_succ, wrap_id, hp, h1, h2]
          (refine fin0 trivial rfl ?_; simp -implicitDefEqProofs (disch := omega) [List.getElem?_cons_zero, List.getElem?_cons_succ, idx, wrap_id, rootE, hg, hp', e])
    · have hp' : ¬ partsN es n = 1 := hp
      simp -implicitDefEqProofs (disch := omega) [List.getElem?_cons_zero, List.getElem?_cons_succ, wrap_id, hp]
      (refine fin0 trivial rfl ?_; simp -implicitDefEqProofs (disch := omega) [List.getElem?_cons_zero, List.getElem?_cons_succ, idx, wrap_id, rootE, hg, hp'])
  · refine HC_of_PC rfl (connected_err N es hel hg) ?_
    simp -implicitDefEqProofs (disch := omega) [List.getElem?_cons_zero, List.getElem?_cons_succ, wrap_id, hg]
    (refine fin0 trivial rfl ?_; simp -implicitDefEqProofs (disch := omega) [List.getElem?_cons_zero, List.getElem?_cons_succ, idx, wrap_id, rootE, hg])
include hd
theorem scheck_ok : PC Try.prog 42 [G N es, .i q, .is d] (.i (stE N es q d)) [] := by
  refine PC_of_W cfn42 ?_
  simp -implicitDefEqProofs (disch := omega) [c42, List.getElem?_cons_zero, List.getElem?_cons_succ, wrap_id]
  refine HC_of_PC rfl (rooted_ok N es q hel) ?_
  by_cases h1 : rootE N es q = 0
  · simp -implicitDefEqProofs (disch := omega) [List.getElem?_cons_zero, List.getElem?_cons_succ, wrap_id, h1]
    refine HC_of_PC rfl (chk_ok d N (by omega)) ?_
    by_cases h2 : dcheck d N = 0
    · simp -implicitDefEqProofs (disch := omega) [List.getElem?_cons_zero, List.getElem?_cons_succ, wrap_id, h2]
      refine loopW d.length (fun k s => s = ⟨[(26, .i k), (25, .i d.length), (24, .p (.is d)), (1, .i q)], []⟩ ∧ NN q d k) (wk_norm [] [26, 25, 24, 1] rfl rfl) ⟨rfl, fun u hu => by omega⟩ ?_
      rintro k s hk ⟨rfl, hI⟩
      by_cases hlt : k < d.length
      · have hg := getD_get hlt
        by_cases h3 : (k : Int) = q
        · have hI' := hI.succ (fun h => h.1 h3)
          have h3' : ((k : Int) = q) = True := eq_true h3
          simp -implicitDefEqProofs (disch := omega) [List.getElem?_cons_zero, List.getElem?_cons_succ, wrap_id, hlt, h3']
          exact round_end [] [26, 25, 24, 1] hlt rfl ⟨rfl, hI'⟩
        · by_cases h4 : d[k] < 0
          · have hr := negB_take (q := q) hlt ⟨h3, by rw [hg]; exact h4⟩
            simp -implicitDefEqProofs (disch := omega) [List.getElem?_cons_zero, List.getElem?_cons_succ, wrap_id, hlt, h3, h4]
            (refine fin0 trivial rfl ?_; simp -implicitDefEqProofs (disch := omega) [List.getElem?_cons_zero, List.getElem?_cons_succ, idx, wrap_id, stE, h1, h2, hr])
          · have hI' := hI.succ (fun h => h4 (by rw [← hg]; exact h.2))
            simp -implicitDefEqProofs (disch := omega) [List.getElem?_cons_zero, List.getElem?_cons_succ, wrap_id, hlt, h3, h4]
            exact round_end [] [26, 25, 24, 1] hlt rfl ⟨rfl, hI'⟩
      · have hkd : k = d.length := by omega
        subst hkd
        have hr := negB_none hI
        simp -implicitDefEqProofs (disch := omega) [List.getElem?_cons_zero, List.getElem?_cons_succ, wrap_id, hlt]
        (refine fin0 trivial rfl ?_; simp -implicitDefEqProofs (disch := omega) [List.getElem?_cons_zero, List.getElem?_cons_succ, idx, wrap_id, stE, h1, h2, hr])
    · simp -implicitDefEqProofs (disch := omega) [List.getElem?_cons_zero, List.getElem?_cons_succ, wrap_id, h2]
      (refine fin0 trivial rfl ?_; simp -implicitDefEqProofs (disch := omega) [List.getElem?_cons_zero, List.getElem?_cons_succ, idx, wrap_id, stE, h1, h2])
  · simp -implicitDefEqProofs (disch := omega) [List.getElem?_cons_zero, List.getElem?_cons_succ, wrap_id, h1]
    (refine fin0 trivial rfl ?_; simp -implicitDefEqProofs (disch := omega) [List.getElem?_cons_zero, List.getElem?_cons_succ, idx, wrap_id, stE, h1])
end
end Go.Proofs.Ytamiekhoaggpkaa
end
section
set_option linter.unusedSimpArgs false
set_option linter.unusedVariables false
namespace Go.Proofs.Ytamiekhoaggpkaa
open Go.Abs Go.Sand
theorem rconn19_ok (n : Nat) (es : List Ed) (hn : n ≤ 12) (hr : ∀ x ∈ es, Right n x) (hel : es.length ≤ 900) : PC Try.prog 66 [G n es] (.b (decide (partsN es n = 1))) [] := by
  have hq : (((partsN es n : Nat) : Int) = 1) = (partsN es n = 1) := by simp only [eq_iff_iff]; omega
  refine PC_of_W cfn66 ?_
  simp -implicitDefEqProofs (disch := omega) [c66, List.getElem?_cons_zero, List.getElem?_cons_succ, wrap_id]
  refine HC_of_PC rfl (rparts_ok n es hn hr hel) ?_
  simp -implicitDefEqProofs (disch := omega) [List.getElem?_cons_zero, List.getElem?_cons_succ, wrap_id]
  (refine fin0 trivial rfl ?_; simp -implicitDefEqProofs (disch := omega) [List.getElem?_cons_zero, List.getElem?_cons_succ, idx, wrap_id, hq])
theorem rrooted_ok (N : Int) (es : List Ed) (q : Int) (hel : es.length ≤ 900) : PC Try.prog 83 [G N es, .i q] (.i (rootE N es q)) [] := by
  refine PC_of_W cfn83 ?_
  simp -implicitDefEqProofs (disch := omega) [c83, List.getElem?_cons_zero, List.getElem?_cons_succ, wrap_id]
  refine HC_of_PC rfl (rcheck_ok N es (by omega)) ?_
  by_cases hg : gcheck N es = 0
  · have hgg := gcheck_ok hg
    have hn1 := hgg.n1
    have hn12 := hgg.n12
    obtain ⟨n, rfl⟩ : ∃ n : Nat, N = n := ⟨N.toNat, by omega⟩
    simp -implicitDefEqProofs (disch := omega) [List.getElem?_cons_zero, List.getElem?_cons_succ, wrap_id, hg]
    refine HC_of_PC rfl (rconn19_ok n es (by omega) hgg.right hel) ?_
    by_cases hp : partsN es n = 1
    · simp -implicitDefEqProofs (disch := omega) [List.getElem?_cons_zero, List.getElem?_cons_succ, wrap_id, hp]
      refine HC_of_PC rfl (rvertex_ok n q es) ?_
      cases hv : vtx n q
      · simp -implicitDefEqProofs (disch := omega) [List.getElem?_cons_zero, List.getElem?_cons_succ, wrap_id, hv]
        (refine fin0 trivial rfl ?_; simp -implicitDefEqProofs (disch := omega) [List.getElem?_cons_zero, List.getElem?_cons_succ, idx, wrap_id, rootE, hg, hp, hv])
      · simp -implicitDefEqProofs (disch := omega) [List.getElem?_cons_zero, List.getElem?_cons_succ, wrap_id, hv]
        (refine fin0 trivial rfl ?_; simp -implicitDefEqProofs (disch := omega) [List.getElem?_cons_zero, List.getElem?_cons_succ, idx, wrap_id, rootE, hg, hp, hv])
    · simp -implicitDefEqProofs (disch := omega) [List.getElem?_cons_zero, List.getElem?_cons_succ, wrap_id, hp]
      (refine fin0 trivial rfl ?_; simp -implicitDefEqProofs (disch := omega) [List.getElem?_cons_zero, List.getElem?_cons_succ, idx, wrap_id, rootE, hg, hp])
  · simp -implicitDefEqProofs (disch := omega) [List.getElem?_cons_zero, List.getElem?_cons_succ, wrap_id, hg]
    (refine fin0 trivial rfl ?_; simp -implicitDefEqProofs (disch := omega) [List.getElem?_cons_zero, List.getElem?_cons_succ, idx, wrap_id, rootE, hg])
theorem dcheck_len {N : Int} {d : List Int} (h : dcheck d N = 0) (hN : 0 ≤ N) : (d.length : Int) = N := by
  unfold dcheck at h
  split at h
  · cases h
  · split at h
    · cases h
    · rename_i h2; omega
section
variable (N : Int) (es : List Ed) (q : Int) (d : List Int) (hel : es.length ≤ 900) (hd : d.length ≤ 1000)
include hel hd
theorem r19check_ok : PC Try.prog 47 [G N es, .i q, .is d] (.i (stE N es q d)) [] := by
  refine PC_of_W cfn47 ?_
  simp -implicitDefEqProofs (disch := omega) [c47, List.getElem?_cons_zero, List.getElem?_cons_succ, wrap_id]
  refine HC_of_PC rfl (rrooted_ok N es q hel) ?_
  by_cases h1 : rootE N es q = 0
  · simp -implicitDefEqProofs (disch := omega) [List.getElem?_cons_zero, List.getElem?_cons_succ, wrap_id, h1]
    refine HC_of_PC rfl (dcheck_ok d N (by omega)) ?_
    by_cases h2 : dcheck d N = 0
    · obtain ⟨n, rfl, -, -, -, -, -, -, hn⟩ := root_ok h1
      have hdl := dcheck_len h2 (by omega)
      have hdn : d.length = n := by omega
      simp -implicitDefEqProofs (disch := omega) [List.getElem?_cons_zero, List.getElem?_cons_succ, wrap_id, h2]
      refine loopW n (fun k s => s = ⟨[(9, .i k), (3, .ptr 0 1 0 0), (2, .p (.is d)), (1, .i q)], [.box (.p (G n es))]⟩ ∧ NN q d k) (wk_norm [0] [9, 3, 2, 1] rfl rfl) ⟨rfl, fun u hu => by omega⟩ ?_
      rintro k s hk ⟨rfl, hI⟩
      by_cases hlt : k < n
      · have hkd : k < d.length := by omega
        have hg := getD_get hkd
        by_cases h3 : (k : Int) = q
        · have hI' := hI.succ (fun h => h.1 h3)
          have h3' : ((k : Int) = q) = True := eq_true h3
          simp -implicitDefEqProofs (disch := omega) [List.getElem?_cons_zero, List.getElem?_cons_succ, wrap_id, hlt, h3']
          exact round_end [0] [9, 3, 2, 1] hlt rfl ⟨rfl, hI'⟩
        · by_cases h4 : d[k] < 0
          · have hr := negB_take (q := q) hkd ⟨h3, by rw [hg]; exact h4⟩
            simp -implicitDefEqProofs (disch := omega) [List.getElem?_cons_zero, List.getElem?_cons_succ, wrap_id, hlt, h3, h4, hkd]
            (refine fin0 trivial rfl ?_; simp -implicitDefEqProofs (disch := omega) [List.getElem?_cons_zero, List.getElem?_cons_succ, idx, wrap_id, stE, h1, h2, hr])
          · have hI' := hI.succ (fun h => h4 (by rw [← hg]; exact h.2))
            simp -implicitDefEqProofs (disch := omega) [List.getElem?_cons_zero, List.getElem?_cons_succ, wrap_id, hlt, h3, h4, hkd]
            exact round_end [0] [9, 3, 2, 1] hlt rfl ⟨rfl, hI'⟩
      · have hkn : k = n := by omega
        subst hkn
        have hr := negB_none (q := q) (d := d) (by rw [hdn]; exact hI)
        simp -implicitDefEqProofs (disch := omega) [List.getElem?_cons_zero, List.getElem?_cons_succ, wrap_id, hlt]
        (refine fin0 trivial rfl ?_; simp -implicitDefEqProofs (disch := omega) [List.getElem?_cons_zero, List.getElem?_cons_succ, idx, wrap_id, stE, h1, h2, hr])
    · simp -implicitDefEqProofs (disch := omega) [List.getElem?_cons_zero, List.getElem?_cons_succ, wrap_id, h2]
      (refine fin0 trivial rfl ?_; simp -implicitDefEqProofs (disch := omega) [List.getElem?_cons_zero, List.getElem?_cons_succ, idx, wrap_id, stE, h1, h2])
  · simp -implicitDefEqProofs (disch := omega) [List.getElem?_cons_zero, List.getElem?_cons_succ, wrap_id, h1]
    (refine fin0 trivial rfl ?_; simp -implicitDefEqProofs (disch := omega) [List.getElem?_cons_zero, List.getElem?_cons_succ, idx, wrap_id, stE, h1])
end
theorem lisL_len (k : Nat) (f : Nat → Int) : (lisL k f).length = k := by simp [lisL]
theorem lisL_succ (k : Nat) (f : Nat → Int) : lisL (k + 1) f = lisL k f ++ [f k] := by simp [lisL, List.range_succ]
section
variable (n : Nat) (es : List Ed) (q : Int) (d : List Int) (hel : es.length ≤ 900) (hg : GoodG n es) (hd : d.length = n)
include hel hg
theorem valences_ok : PC Try.prog 49 [G n es] (.p (.is (valsL n es))) [] := by
  have hn := hg.n12
  refine PC_of_W cfn49 ?_
  simp -implicitDefEqProofs (disch := omega) [c49, List.getElem?_cons_zero, List.getElem?_cons_succ, wrap_id]
  refine loopW n (fun k s => s = ⟨[(4, .i k), (3, .os 1 0 k), (1, .ptr 0 1 0 0)], [.box (.p (G n es)), rowI (lisL k fun v : Nat => valTo es v n)]⟩)
    ((Wk_nil 3 1 3 rfl).trans (Wk_keep [4, 3, 1])) rfl ?_
  rintro k s hk rfl
  by_cases hlt : k < n
  · have hk1 : k ≤ 1048575 := by omega
    have hll := lisL_len k fun v : Nat => valTo es v n
    simp -implicitDefEqProofs (disch := omega) [List.getElem?_cons_zero, List.getElem?_cons_succ, wrap_id, hlt, hll]
    refine HC_of_PC rfl (rval_ok n k es (by omega) hg.right (by omega)) ?_
    simp -implicitDefEqProofs (disch := omega) [List.getElem?_cons_zero, List.getElem?_cons_succ, wrap_id, hk1, hll]
    exact round_end [0, 1] [4, 3, 1] hlt rfl (by rw [lisL_succ]; simp [Abs.norm, Abs.get, AV.ren, Abs.idx])
  · have hkn : k = n := by omega
    subst hkn
    have hll := lisL_len k fun v : Nat => valTo es v k
    have e : valsL k es = lisL k fun v : Nat => valTo es v k := rfl
    simp -implicitDefEqProofs (disch := omega) [List.getElem?_cons_zero, List.getElem?_cons_succ, wrap_id]
    (refine fin0 trivial rfl ?_; simp -implicitDefEqProofs (disch := omega) [List.getElem?_cons_zero, List.getElem?_cons_succ, idx, wrap_id, e, hll])
include hd
end
end Go.Proofs.Ytamiekhoaggpkaa
end
section
set_option linter.unusedSimpArgs false
set_option linter.unusedVariables false
namespace Go.Proofs.Ytamiekhoaggpkaa
open Go.Abs Go.Sand
def setR (R : Nat → Nat → Int) (a b : Nat) (x : Int) : Nat → Nat → Int := fun i j => if i = a ∧ j = b then x else R i j
def setV (V : Nat → Int) (a : Nat) (x : Int) : Nat → Int := fun i => if i = a then x else V i
theorem lisL_put {n : Nat} {V : Nat → Int} {a : Nat} {x : Int} (ha : a < n) : ((lisL n V).map PV.i).set a (PV.i x) = (lisL n (setV V a x)).map PV.i := by
  rw [← List.map_set]
  congr 1
  refine List.ext_getElem (by simp [lisL]) fun i h1 h2 => ?_
  rw [List.getElem_set]
  simp only [lisL, List.getElem_map, List.getElem_range, setV]
  by_cases h : a = i
  · subst h; simp
  · rw [if_neg h, if_neg (Ne.symm h)]
theorem tabR_put {n : Nat} {R : Nat → Nat → Int} {a b : Nat} {x : Int} (ha : a < n) (hb : b < n) : (tabR n R).set a (.row (((lisL n (R a)).map PV.i).set b (PV.i x)) 1 3 false) = tabR n (setR R a b x) := by
  rw [lisL_put hb]
  refine List.ext_getElem? fun i => ?_
  by_cases hi : i < n
  · rw [List.getElem?_set, tabR_len, tabR_get hi, tabR_get hi]
    by_cases h : a = i
    · subst h
      rw [if_pos rfl, if_pos ha, rowI]
      have e : setV (R a) b x = setR R a b x a := by funext j; simp [setV, setR]
      rw [e]
    · rw [if_neg h]
      have e : R i = setR R a b x i := by
        funext j
        rw [setR, if_neg (by rintro ⟨h1, -⟩; exact h h1.symm)]
      rw [e]
  · rw [List.getElem?_eq_none (by simp [tabR_len]; omega), List.getElem?_eq_none (by simp [tabR_len]; omega)]
theorem betw_snoc {x : Ed} : ∀ {l : List Ed}, (l ++ [x]).Pairwise ltE → ∀ lo hi : Int, betw (l ++ [x]) lo hi = betw l lo hi + if x.a = lo ∧ x.b = hi then x.m else 0
  | [], h, lo, hi => by
    have := betw_cons (x := x) (es := []) (by simp) lo hi
    rw [List.nil_append, this]
    have e : betw [] lo hi = 0 := betw_none (fun y hy => by cases hy)
    rw [e]; omega
  | y :: l, h, lo, hi => by
    have h2 : ((y :: l).Pairwise ltE) := by
      rw [List.pairwise_append] at h
      exact h.1
    have h3 : (l ++ [x]).Pairwise ltE := (List.pairwise_cons.1 (by simpa using h)).2
    rw [List.cons_append, betw_cons (by simpa using h), betw_cons h2, betw_snoc h3]
    omega
theorem joinE_step {l : List Ed} {x : Ed} {a b : Nat} (h : (l ++ [x]).Pairwise ltE) (ha : x.a = a) (hb : x.b = b) (hab : a < b) : setR (setR (joinE l) a b x.m) b a x.m = joinE (l ++ [x]) := by
  have h0 : betw l a b = 0 := betw_none fun y hy he => by
    have := (List.pairwise_append.1 h).2.2 y hy x (by simp)
    unfold ltE at this
    omega
  funext u w
  unfold setR joinE
  by_cases h1 : u = b ∧ w = a
  · obtain ⟨rfl, rfl⟩ := h1
    rw [if_pos ⟨rfl, rfl⟩, if_neg (by omega), betw_snoc h]
    have e1 : min (w : Int) u = w := by omega
    have e2 : max (w : Int) u = u := by omega
    rw [e1, e2, h0, if_pos ⟨ha, hb⟩]; omega
  · rw [if_neg h1]
    by_cases h2 : u = a ∧ w = b
    · obtain ⟨rfl, rfl⟩ := h2
      rw [if_pos ⟨rfl, rfl⟩, if_neg (by omega), betw_snoc h]
      have e1 : min (w : Int) u = u := by omega
      have e2 : max (w : Int) u = w := by omega
      rw [e1, e2, h0, if_pos ⟨ha, hb⟩]; omega
    · rw [if_neg h2]
      by_cases h3 : w = u
      · rw [if_pos h3, if_pos h3]
      · rw [if_neg h3, if_neg h3, betw_snoc h, if_neg (by rintro ⟨h4, h5⟩; rw [ha] at h4; rw [hb] at h5; omega)]
        omega
theorem joinE_loop {l : List Ed} {x : Ed} (h : (l ++ [x]).Pairwise ltE) (hab : x.a = x.b) : joinE (l ++ [x]) = joinE l := by
  funext u w
  unfold joinE
  by_cases h3 : w = u
  · rw [if_pos h3, if_pos h3]
  · rw [if_neg h3, if_neg h3, betw_snoc h, if_neg (by rintro ⟨h4, h5⟩; omega)]
    omega
def valK (l : List Ed) : Nat → Int := fun u => valS l u
theorem valK_snoc (l : List Ed) (x : Ed) (u : Nat) : valK (l ++ [x]) u = valK l u + val1 u x := by
  unfold valK valS
  have : ∀ (a b : List Int), sumI (a ++ b) = sumI a + sumI b := by
    intro a b
    induction a with
    | nil => simp [sumI]
    | cons y a ih => simp only [List.cons_append, sumI, ih]; omega
  rw [List.map_append, this]
  simp [sumI]
theorem valK_step {l : List Ed} {x : Ed} {a b : Nat} (ha : x.a = a) (hb : x.b = b) (hab : a < b) : setV (setV (valK l) a (valK l a + x.m)) b (valK l b + x.m) = valK (l ++ [x]) := by
  funext u
  rw [valK_snoc]
  unfold setV val1
  rw [ha, hb]
  by_cases h1 : u = b
  · subst h1
    rw [if_pos rfl, if_pos (by omega)]
  · rw [if_neg h1]
    by_cases h2 : u = a
    · subst h2
      rw [if_pos rfl, if_pos (by omega)]
    · rw [if_neg h2, if_neg (by omega)]
      omega
theorem valK_loop {l : List Ed} {x : Ed} (hab : x.a = x.b) : valK (l ++ [x]) = valK l := by
  funext u
  rw [valK_snoc]
  unfold val1
  rw [if_neg (by omega)]
  omega
abbrev edO (a b m : Int) : AO := .box (.p (.agg [.i a, .i b, .i m]))
/-- A board, as it is read. -/
def bdA (n : Nat) (es : List Ed) (q : Int) : AV := .agg [.p (.is (valsL n es)), .p (.iss (rowsL n es)), .i q]
theorem wk_eq {m0 : Nat} {s s' s2 : St} (h : Wk m0 s s') (e : s' = s2) : Wk m0 s s2 := e ▸ h
theorem renL_rep {H : List AO} {ρ : Nat → Option Nat} {x : PV} : ∀ n : Nat, renL H ρ (List.replicate n (.p x)) = List.replicate n (.p x)
  | 0 => rfl
  | n + 1 => by rw [List.replicate_succ, renL, renL_rep n, AV.ren]
/-- The rows, k of them laid out. -/
def tabK (o n k : Nat) : List AV := (List.range n).map fun a => if a < k then .os (a + o) 0 n else .p .nil
theorem tabK_len (o n k : Nat) : (tabK o n k).length = n := by simp [tabK]
theorem tabK_0 (o n : Nat) : tabK o n 0 = List.replicate n (.p .nil) := by
  refine List.ext_getElem (by simp [tabK]) fun i h1 h2 => by simp [tabK]
theorem tabK_n (o n : Nat) : tabK o n n = tabE o n n := by
  refine List.ext_getElem (by simp [tabK, tabE]) fun i h1 h2 => ?_
  have : i < n := by simpa [tabK] using h1
  simp [tabK, tabE, this]
theorem tabK_set {o n k : Nat} : (tabK o n k).set k (.os (k + o) 0 n) = tabK o n (k + 1) := by
  refine List.ext_getElem (by simp [tabK]) fun i h1 h2 => ?_
  rw [List.getElem_set]
  simp only [tabK, List.getElem_map, List.getElem_range]
  by_cases h : k = i
  · subst h; simp
  · have h2 : (i < k + 1) = (i < k) := by simp only [eq_iff_iff]; omega
    simp only [h, if_false, h2]
set_option maxRecDepth 10000 in
set_option maxHeartbeats 1000000 in
theorem qof_ok (n : Nat) (es : List Ed) (q : Int) (hg : GoodG n es) (hel : es.length ≤ 1000) : PC Try.prog 43 [G n es, .i q] (.ptr 0 1 0 0) [.box (bdA n es q)] := by
  have hn := hg.n12
  have hn' : n ≤ 12 := by omega
  have hn6 : n ≤ 1048576 := by omega
  obtain ⟨zr, hzr⟩ : ∃ zr, zr = AO.row (List.replicate n (PV.i 0)) 1 3 false := ⟨_, rfl⟩
  refine PC_of_W cfn43 ?_
  simp -implicitDefEqProofs (disch := omega) [c43, List.getElem?_cons_zero, List.getElem?_cons_succ, wrap_id, hn6]
  refine tree_join (s0 := ⟨[(5, .ptr 3 1 0 0), (2, .ptr 0 1 0 0)], [.box (.p (G n es)), .row (List.replicate n (PV.i 0)) 1 3 false, .tab (List.replicate n (.p .nil)) 25 false, .box (.agg [.os 1 0 n, .os 2 0 n, .i q])]⟩) ?_ ?_
  rotate_left
  · simp -implicitDefEqProofs (disch := omega) [List.getElem?_cons_zero, List.getElem?_cons_succ, wrap_id, hn6]
    repeat' (first
      | refine ⟨?_, ?_⟩
      | exact Wk_keep [5, 2]
      | refine wk_eq (Wk_norm [0, 2, 1, 3] [5, 2] rfl) ?_)
    simp -implicitDefEqProofs [-AO.ren, norm, ren_box, ren_row, ren_tab, renL_rep, Abs.get, AV.ren, renL, idx_at, idx_at0]
  simp -implicitDefEqProofs (disch := omega) [List.getElem?_cons_zero, List.getElem?_cons_succ, wrap_id, hn6]
  rw [← hzr, ← tabK_0 4]
  refine loopW n (fun k st => st = ⟨[(25, .i k), (24, .i n), (5, .ptr 3 1 0 0), (2, .ptr 0 1 0 0)], .box (.p (G n es)) :: zr :: .tab (tabK 4 n k) 25 false :: .box (.agg [.os 1 0 n, .os 2 0 n, .i q]) :: List.replicate k zr⟩) (Wk_keep [25, 24, 5, 2]) rfl ?_
  rintro k st hk rfl
  by_cases hlt : k < n
  · have hla : ∀ r : AO, (List.replicate k zr ++ [r])[k]? = some r := fun r => by simp
    have htl := tabK_len 4 n k
    have hts := tabK_set (o := 4) (n := n) (k := k)
    simp -implicitDefEqProofs (disch := omega) [List.getElem?_cons_zero, List.getElem?_cons_succ, wrap_id, hlt, hn6, hla, htl, hts]
    exact round_keep [25, 24, 5, 2] hlt (by rw [List.replicate_succ', hzr]; rfl)
  have hkn : n = k := by omega
  subst hkn
  rw [tabK_n]
  have hrep : List.replicate n zr = tabR n (joinE []) := by
    refine List.ext_getElem? fun i => ?_
    by_cases hi : i < n
    · have e : lisL n (joinE [] i) = List.replicate n 0 := by
        refine List.ext_getElem (by simp [lisL]) fun u h1 h2 => ?_
        simp [lisL, joinE, betw]
      rw [tabR_get hi, hzr, e]
      simp only [List.getElem?_replicate, hi, if_true, rowI, List.map_replicate]
    · rw [List.getElem?_eq_none (by simp; omega), List.getElem?_eq_none (by simp [tabR_len]; omega)]
  have hval : zr = rowI (lisL n (valK [])) := by
    have e : lisL n (valK []) = List.replicate n 0 := by
      refine List.ext_getElem (by simp [lisL]) fun u h1 h2 => ?_
      simp [lisL, valK, valS, sumI]
    rw [hzr, e, rowI, List.map_replicate]
  simp -implicitDefEqProofs (disch := omega) [List.getElem?_cons_zero, List.getElem?_cons_succ, wrap_id]
  refine loopW es.length (fun k st => st = ⟨[(41, .i k), (40, .i es.length), (39, .p (.sl (es.map edP))), (5, .ptr 3 1 0 0)], .box (.p (G n es)) :: rowI (lisL n (valK (es.take k))) :: .tab (tabE 4 n n) 25 false :: .box (.agg [.os 1 0 n, .os 2 0 n, .i q]) :: tabR n (joinE (es.take k))⟩)
    (Wk_keep [41, 40, 39, 5]) (by simp only [List.take_zero, ← hrep, ← hval]; rfl) ?_
  rintro k st hk rfl
  by_cases hlt : k < es.length
  · have hR := hg.right _ (List.getElem_mem hlt)
    obtain ⟨a, ha⟩ : ∃ a : Nat, es[k].a = a := ⟨es[k].a.toNat, by have := hR.a0; omega⟩
    obtain ⟨b, hb⟩ : ∃ b : Nat, es[k].b = b := ⟨es[k].b.toNat, by have := hR.b0; omega⟩
    obtain ⟨m, hm⟩ : ∃ m : Int, es[k].m = m := ⟨_, rfl⟩
    have han : a < n := by have := hR.an; omega
    have hbn : b < n := by have := hR.bn; omega
    obtain ⟨l, hl⟩ : ∃ l, l = es.take k := ⟨_, rfl⟩
    have htk : es.take (k + 1) = l ++ [es[k]] := by rw [List.take_add_one, List.getElem?_eq_getElem hlt, hl]; rfl
    have hpw : (l ++ [es[k]]).Pairwise ltE := htk ▸ hg.asc.sublist (List.take_sublist _ _)
    rw [← hl]
    have hTl : ∀ f, (tabR n f).length = n := tabR_len n
    have hT1 : ∀ (f : Nat → Nat → Int) (r : AO), (tabR n f ++ [r])[n]? = some r := fun f r => by simp [hTl]
    have hT2 : ∀ (f : Nat → Nat → Int) (r x : AO), (tabR n f ++ [r]).set n x = tabR n f ++ [x] := fun f r x => by simp [List.set_append, hTl]
    have hpop : ∀ (g1 g2 g3 g4 : AO) (R X : List AO), R.length = n → (g1 :: g2 :: g3 :: g4 :: (R ++ X)).take (n + 4) = g1 :: g2 :: g3 :: g4 :: R := fun g1 g2 g3 g4 R X h => by simp [List.take_append, h]
    have hlo : ∀ (f : Nat → Nat → Int) (W : List Int), ∀ ob ∈ (AO.box (.p (G n es)) :: rowI W :: .tab (tabE 4 n n) 25 false :: .box (.agg [.os 1 0 n, .os 2 0 n, .i q]) :: tabR n f : List AO), loO (n + 4) ob = true := by
      intro f W ob hob
      simp only [List.mem_cons, tabR, List.mem_map] at hob
      have h1 := tabE_lo 4 n (n + 4) n (by omega)
      rcases hob with rfl | rfl | rfl | rfl | ⟨y, -, rfl⟩ <;> simp [loO, loA, loL, h1]
    by_cases hab : a = b
    · subst hab
      have e1 := joinE_loop hpw (by rw [ha, hb])
      have e2 := valK_loop (l := l) (x := es[k]) (by rw [ha, hb])
      simp -implicitDefEqProofs (disch := omega) [List.getElem?_cons_zero, List.getElem?_cons_succ, wrap_id, hlt, ha, hb, hm, hTl, hT1, hT2]
      refine round_end' hlt (Wk_pop (n + 4) [41, 40, 39, 5] (by omega) (by simp [hTl]) (hpop _ _ _ _ _ _ (hTl _)) ?_ (hlo _ _)) (by rw [htk, e1, e2]; rfl)
      intro i hi
      simp only [List.mem_cons, List.not_mem_nil, or_false] at hi
      rcases hi with rfl | rfl | rfl | rfl <;> simp [Abs.get, loA]
    · have hab' : ¬ (a : Int) = b := by omega
      have hab2 : a < b := by have := hR.ab; omega
      simp -implicitDefEqProofs (disch := omega) [List.getElem?_cons_zero, List.getElem?_cons_succ, wrap_id, hlt, ha, hb, hm, hTl, hT1, hT2, hab']
      have hlb : 0 ≤ valK l a ∧ valK l a ≤ 50 * l.length ∧ 0 ≤ valK l b ∧ valK l b ≤ 50 * l.length := by
        have hrl : ∀ x ∈ l, Right n x := fun x hx => hg.right x (by rw [hl] at hx; exact List.mem_of_mem_take hx)
        have h1 := valS_bd hrl a
        have h2 := valS_bd hrl b
        exact ⟨h1.1, h1.2, h2.1, h2.2⟩
      have hll : l.length ≤ 1000 := by rw [hl, List.length_take]; omega
      have hm50 : 1 ≤ m ∧ m ≤ 50 := by rw [← hm]; exact ⟨hR.m1, hR.m50⟩
      obtain ⟨Vj, hV0, hV1, hV2⟩ : ∃ Vj : Nat → Nat → Int, Vj 0 = valK l ∧ Vj 1 = setV (valK l) a (valK l a + m) ∧ Vj 2 = setV (setV (valK l) a (valK l a + m)) b (valK l b + m) :=
        ⟨fun j => if j = 0 then valK l else if j = 1 then setV (valK l) a (valK l a + m) else setV (setV (valK l) a (valK l a + m)) b (valK l b + m), rfl, rfl, rfl⟩
      obtain ⟨Rj, hR0, hR1, hR2⟩ : ∃ Rj : Nat → Nat → Nat → Int, Rj 0 = joinE l ∧ Rj 1 = setR (joinE l) a b m ∧ Rj 2 = setR (setR (joinE l) a b m) b a m :=
        ⟨fun j => if j = 0 then joinE l else if j = 1 then setR (joinE l) a b m else setR (setR (joinE l) a b m) b a m, rfl, rfl, rfl⟩
      have e1 := joinE_step hpw ha hb hab2
      have e2 := valK_step (l := l) ha hb hab2
      rw [hm] at e1 e2
      have hVb : setV (valK l) a (valK l a + m) b = valK l b := by rw [setV, if_neg (by omega)]
      have hLl : ∀ f, (lisL n f).length = n := fun f => by simp [lisL]
      have hLg : ∀ (f : Nat → Int) (i : Nat) (h : i < (lisL n f).length), (lisL n f)[i] = f i := fun f i h => by simp [lisL]
      have hLa : ∀ f, (lisL n f)[a]? = some (f a) := fun f => by simp [lisL, han]
      have hLb : ∀ f, (lisL n f)[b]? = some (f b) := fun f => by simp [lisL, hbn]
      have hTE1 : ∀ (i : Nat) (h : i < (tabE 4 n n).length), (tabE 4 n n)[i] = .os (i + 4) 0 n := fun i h => by simp [tabE]
      have hTEl := tabE_len 4 n n
      have hU1 : ∀ (f : Nat → Nat → Int) (r x : AO), (tabR n f ++ [r, x])[n]? = some r := fun f r x => by simp [hTl]
      have hU2 : ∀ (f : Nat → Nat → Int) (r x : AO), (tabR n f ++ [r, x])[n + 1]? = some x := fun f r x => by
        rw [List.getElem?_append_right (by rw [hTl]; omega), hTl]; simp
      have hU3 : ∀ (f : Nat → Nat → Int) (r x y : AO), (tabR n f ++ [r, x]).set (n + 1) y = tabR n f ++ [r, y] := fun f r x y => by simp [List.set_append, hTl]
      have hU4 : ∀ (f : Nat → Nat → Int) (r x : AO), (tabR n f ++ [r, x])[a]? = some (rowI (lisL n (f a))) := fun f r x => by rw [List.getElem?_append_left (by rw [hTl]; exact han)]; exact tabR_get han
      have hU5 : ∀ (f : Nat → Nat → Int) (r x : AO), (tabR n f ++ [r, x])[b]? = some (rowI (lisL n (f b))) := fun f r x => by rw [List.getElem?_append_left (by rw [hTl]; exact hbn)]; exact tabR_get hbn
      have hU6 : ∀ (f : Nat → Nat → Int) (r x y : AO), (tabR n f ++ [r, x]).set a y = (tabR n f).set a y ++ [r, x] := fun f r x y => by rw [List.set_append, if_pos (by rw [hTl]; exact han)]
      have hU7 : ∀ (f : Nat → Nat → Int) (r x y : AO), (tabR n f ++ [r, x]).set b y = (tabR n f).set b y ++ [r, x] := fun f r x y => by rw [List.set_append, if_pos (by rw [hTl]; exact hbn)]
      have hP1 : ∀ f : Nat → Nat → Int, (tabR n f).set a (.row (((lisL n (f a)).map PV.i).set b (PV.i m)) 1 3 false) = tabR n (setR f a b m) := fun f => tabR_put han hbn
      have hP2 : ∀ f : Nat → Nat → Int, (tabR n f).set b (.row (((lisL n (f b)).map PV.i).set a (PV.i m)) 1 3 false) = tabR n (setR f b a m) := fun f => tabR_put hbn han
      have hQ1 : ((lisL n (valK l)).map PV.i).set a (PV.i (valK l a + m)) = (lisL n (setV (valK l) a (valK l a + m))).map PV.i := lisL_put han
      have hQ2 : ((lisL n (setV (valK l) a (valK l a + m))).map PV.i).set b (PV.i (valK l b + m)) = (lisL n (setV (setV (valK l) a (valK l a + m)) b (valK l b + m))).map PV.i := lisL_put hbn
      have hedp : edP es[k] = .agg [PV.i a, PV.i b, PV.i m] := by rw [edP, ha, hb, hm]
      have hpop5 : ∀ (g1 g2 g3 g4 x : AO) (R : List AO), R.length = n → (g1 :: g2 :: g3 :: g4 :: (R ++ [edO a b m, x])).take (n + 5) = g1 :: g2 :: g3 :: g4 :: (R ++ [edO a b m]) := fun g1 g2 g3 g4 x R h => by simp [List.take_append, h]; exact List.take_of_length_le (by omega)
      have hlo5 : ∀ (f : Nat → Nat → Int) (W : List Int), ∀ ob ∈ (AO.box (.p (G n es)) :: rowI W :: .tab (tabE 4 n n) 25 false :: .box (.agg [.os 1 0 n, .os 2 0 n, .i q]) :: (tabR n f ++ [edO a b m]) : List AO), loO (n + 5) ob = true := by
        intro f W ob hob
        simp only [List.mem_cons, List.mem_append, tabR, List.mem_map, List.not_mem_nil, or_false] at hob
        have h1 := tabE_lo 4 n (n + 5) n (by omega)
        rcases hob with rfl | rfl | rfl | rfl | ⟨y, -, rfl⟩ | rfl <;> simp [loO, loA, loL, h1]
      rw [hedp]
      refine loopW 2 (fun j st => st = ⟨[(61, .i j), (60, .p (.agg [PV.i a, PV.i b, PV.i b, PV.i a])), (8, .ptr (n + 4) 1 0 0), (5, .ptr 3 1 0 0), (41, .i k), (40, .i es.length), (39, .p (.sl (es.map edP)))],
        .box (.p (G n es)) :: rowI (lisL n (Vj j)) :: .tab (tabE 4 n n) 25 false :: .box (.agg [.os 1 0 n, .os 2 0 n, .i q]) :: (tabR n (Rj j) ++ [edO a b m])⟩) (Wk_keep [61, 60, 8, 5, 41, 40, 39]) (by rw [hV0, hR0]; rfl) ?_
      rintro j st hj rfl
      rcases (by omega : j = 0 ∨ j = 1 ∨ j = 2) with rfl | rfl | rfl
      · rw [hV0, hR0]
        simp -implicitDefEqProofs (disch := omega) [List.getElem?_cons_zero, List.getElem?_cons_succ, wrap_id, hTl, hU1, hU2, hU3, hU4, hU5, hU6, hU7, hP1, hP2, hQ1, hQ2, han, hbn, hLl, hLg, hLa, hLb, hTE1, hTEl]
        refine round_end' (by omega) (Wk_pop (n + 5) [61, 60, 8, 5, 41, 40, 39] (by omega) (by simp [hTl]) (hpop5 _ _ _ _ _ _ (hTl _)) ?_ (hlo5 _ _)) (by rw [hV1, hR1]; rfl)
        intro i hi
        simp only [List.mem_cons, List.not_mem_nil, or_false] at hi
        rcases hi with rfl | rfl | rfl | rfl | rfl | rfl | rfl <;> simp [Abs.get, loA]
      · rw [hV1, hR1]
        simp -implicitDefEqProofs (disch := omega) [List.getElem?_cons_zero, List.getElem?_cons_succ, wrap_id, hTl, hU1, hU2, hU3, hU4, hU5, hU6, hU7, hP1, hP2, hQ1, hQ2, hVb, han, hbn, hLl, hLg, hLa, hLb, hTE1, hTEl]
        refine round_end' (by omega) (Wk_pop (n + 5) [61, 60, 8, 5, 41, 40, 39] (by omega) (by simp [hTl]) (hpop5 _ _ _ _ _ _ (hTl _)) ?_ (hlo5 _ _)) (by rw [hV2, hR2]; rfl)
        intro i hi
        simp only [List.mem_cons, List.not_mem_nil, or_false] at hi
        rcases hi with rfl | rfl | rfl | rfl | rfl | rfl | rfl <;> simp [Abs.get, loA]
      · rw [hV2, hR2, e1, e2]
        simp -implicitDefEqProofs (disch := omega) [List.getElem?_cons_zero, List.getElem?_cons_succ, wrap_id]
        refine round_end' hlt (Wk_pop (n + 4) [41, 40, 39, 5] (by omega) (by simp [hTl]) (hpop _ _ _ _ _ _ (hTl _)) ?_ (hlo _ _)) (by rw [htk]; rfl)
        intro i hi
        simp only [List.mem_cons, List.not_mem_nil, or_false] at hi
        rcases hi with rfl | rfl | rfl | rfl <;> simp [Abs.get, loA]
  have hkl : k = es.length := by omega
  subst hkl
  have hvl : lisL n (valK es) = valsL n es := by
    refine List.map_congr_left fun v hv => ?_
    have := List.mem_range.1 hv
    exact (valTo_all hg.right hg.asc v ⟨by omega, by omega⟩).symm
  rw [List.take_length, hvl]
  simp -implicitDefEqProofs (disch := omega) [List.getElem?_cons_zero, List.getElem?_cons_succ, wrap_id]
  have htr : ∀ (g1 g2 g4 : AO) (r : List AO) (t : TypeId) (fz : Bool), r = tabR n (joinE es) → AV.ren (g1 :: g2 :: .tab (tabE 4 n n) t fz :: g4 :: r) (Abs.idx [3] 0) (.os 2 0 n) = .p (.iss (rowsL n es)) := by
    intro g1 g2 g4 r t fz hr
    show _ = AV.p (.iss (tabL n (joinE es)))
    refine tab_rows (o' := 4) rfl rfl (by simp [tabL]) (fun a ha => ⟨by simp [tabL], by simp [Abs.idx], ?_⟩)
    rw [hr]
    show (tabR n (joinE es))[a]? = _
    rw [tabR_get ha]
    simp [tabL, lisL]
  have hvn := valsL_len n es
  refine finW (s2 := ⟨[(4, .ptr 0 1 0 0)], [.box (bdA n es q)]⟩) (wk_eq (Wk_norm [3] [4] rfl) ?_) (finH trivial rfl ⟨rfl, rfl⟩)
  simp -implicitDefEqProofs [-AO.ren, norm, ren_box, ren_row, ren_tab, Abs.get, AV.ren, renL, idx_at, idx_at0, ↓htr, hvn, bdA]
end Go.Proofs.Ytamiekhoaggpkaa
end
