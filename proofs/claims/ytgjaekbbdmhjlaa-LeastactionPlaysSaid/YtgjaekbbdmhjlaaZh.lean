/-
  Contracts: configurations that are right; what is stabilized and toppled.
-/
import Derived.Test.YtgjaekbbdmhjlaaZg
import Derived.Test.YtgjaekbbdmhjlaaMua
set_option linter.unusedSimpArgs false
set_option linter.unusedVariables false
namespace Go.Proofs.Ytgjaekbbdmhjlaa
open Go.Abs Go.Sand

/-- In a graph of one part each vertex has another one beside it, if there is another one. -/
theorem val_pos {n : Nat} {es : List Ed} (hg : GoodG n es) (hp : partsN es n = 1) {v w : Nat} (hv : v < n) (hw : w < n) (hne : w ≠ v) : 1 ≤ valTo es v n := by
  have hn := hg.n12
  refine Classical.byContradiction fun hlt => ?_
  have h0 : valTo es v n = 0 := by have := valTo_nn hg v n; omega
  rw [valTo_all hg.right hg.asc v ⟨by omega, by omega⟩] at h0
  have hz : ∀ x ∈ es, val1 v x = 0 := by
    have key : ∀ l : List Ed, (∀ x ∈ l, 1 ≤ x.m) → valS l v = 0 → ∀ x ∈ l, val1 v x = 0 := by
      intro l
      induction l with
      | nil => intro _ _ x hx; cases hx
      | cons y l ih =>
        intro hm h x hx
        have e : valS (y :: l) v = val1 v y + valS l v := by simp [valS, sumI]
        have h1 : 0 ≤ val1 v y := by unfold val1; have := hm y (by simp); split <;> omega
        have h2 : 0 ≤ valS l v := by
          have : ∀ l : List Ed, (∀ x ∈ l, 1 ≤ x.m) → 0 ≤ valS l v := by
            intro l
            induction l with
            | nil => intro _; simp [valS, sumI]
            | cons y l ih =>
              intro hm
              have e : valS (y :: l) v = val1 v y + valS l v := by simp [valS, sumI]
              have h1 : 0 ≤ val1 v y := by unfold val1; have := hm y (by simp); split <;> omega
              have := ih fun x hx => hm x (by simp [hx])
              omega
          exact this l fun x hx => hm x (by simp [hx])
        rcases List.mem_cons.1 hx with rfl | hx
        · omega
        · exact ih (fun x hx => hm x (by simp [hx])) (by omega) x hx
    exact key es (fun x hx => (hg.right x hx).m1) h0
  have hcl : ∀ u u', cls es u = cls es u' → (u = v ↔ u' = v) := by
    intro u u' h
    have := cls_closed (n := n) (es := es) (fun y => y = v) (fun x hx => by
      have hx0 := hz x hx
      have r := hg.right x hx
      have h1 := r.m1
      have h2 := r.a0
      have h3 := r.b0
      unfold val1 at hx0
      split at hx0
      · omega
      · rename_i hh; omega) es.length (Nat.le_refl _) u u'
    rw [List.take_length] at this
    exact this h
  have hF := ufJ_forest (n := n) (by omega) hg.right es.length (Nat.le_refl _)
  rw [List.take_length] at hF
  have root : ∀ u, u < n → cls es u ∈ rootsL es n := fun u hu => by
    obtain ⟨h1, h2⟩ := hF.le u (by omega)
    refine List.mem_filter.2 ⟨List.mem_range.2 ?_, decide_eq_true h2⟩
    show (ufJ es).2 u < n
    omega
  obtain ⟨r, hr⟩ := List.length_eq_one_iff.1 hp
  have h1 := root v hv
  have h2 := root w hw
  rw [hr] at h1 h2
  have h3 : cls es v = cls es w := by rw [List.mem_singleton.1 h1, List.mem_singleton.1 h2]
  exact hne ((hcl v w h3).1 rfl)

def rootE (N : Int) (es : List Ed) (q : Int) : Int := if gcheck N es ≠ 0 then gcheck N es else if partsN es N.toNat = 1 then (if vtx N q = true then 0 else 2) else 13
def negB (q : Int) (d : List Int) : Bool := (List.range d.length).any fun v => decide ((v : Int) ≠ q) && decide (d.getD v 0 < 0)
def stE (N : Int) (es : List Ed) (q : Int) (d : List Int) : Int := if rootE N es q ≠ 0 then rootE N es q else if dcheck d N ≠ 0 then dcheck d N else if negB q d = true then 2 else 0
theorem root_ok {N q : Int} {es : List Ed} (h : rootE N es q = 0) : ∃ n : Nat, N = n ∧ gcheck n es = 0 ∧ GoodG n es ∧ partsN es n = 1 ∧ 0 ≤ q ∧ q < n ∧ 1 ≤ n ∧ n ≤ 12 := by
  unfold rootE at h
  split at h
  · rename_i h1; exact absurd h h1
  · rename_i h1
    have h1 := Decidable.not_not.1 h1
    have hg := gcheck_ok h1
    have hn1 := hg.n1
    have hn12 := hg.n12
    obtain ⟨n, rfl⟩ : ∃ n : Nat, N = n := ⟨N.toNat, by omega⟩
    split at h
    · rename_i h2
      split at h
      · rename_i h3
        have h3' : 0 ≤ q ∧ q < n := by simpa [vtx] using h3
        exact ⟨n, rfl, h1, hg, by simpa using h2, h3'.1, h3'.2, by omega, by omega⟩
      · cases h
    · cases h
structure StOk (n : Nat) (es : List Ed) (q : Int) (d : List Int) : Prop where
  gc : gcheck n es = 0
  g : GoodG n es
  parts : partsN es n = 1
  q0 : 0 ≤ q
  qn : q < n
  n1 : 1 ≤ n
  n12 : n ≤ 12
  c : Conf n q d
  v : ∀ v, v < n → (v : Int) ≠ q → 1 ≤ valTo es v n
theorem sink_val {n : Nat} {es : List Ed} {q : Int} (hg : GoodG n es) (hp : partsN es n = 1) (h0 : 0 ≤ q) (h1 : q < n) : ∀ v, v < n → (v : Int) ≠ q → 1 ≤ valTo es v n := fun v hv hq => val_pos hg hp (w := q.toNat) hv (by omega) (by omega)
theorem st_ok {N q : Int} {es : List Ed} {d : List Int} (h : stE N es q d = 0) : ∃ n : Nat, N = n ∧ StOk n es q d := by
  unfold stE at h
  split at h
  · rename_i h1; exact absurd h h1
  · rename_i h1
    have h1 := Decidable.not_not.1 h1
    obtain ⟨n, rfl, hgc, hg, hp, hq0, hqn, hn1, hn⟩ := root_ok h1
    split at h
    · rename_i h2; exact absurd h h2
    · rename_i h2
      have h2 := Decidable.not_not.1 h2
      split at h
      · cases h
      · rename_i h3
        have hgv : givenE n es d = 0 := by rw [givenE, if_neg (by simp [hgc]), h2]
        obtain ⟨n', e', -, hl, hb, -, -⟩ := given_ok hgv
        have hl' : d.length = n := by omega
        refine ⟨n, rfl, hgc, hg, hp, hq0, hqn, hn1, hn, ⟨hl', hb.more (by omega), fun v hv hq => ?_⟩, sink_val hg hp hq0 hqn⟩
        have : negB q d = false := by cases hh : negB q d; rfl; exact absurd hh h3
        unfold negB at this
        have := (List.any_eq_false.1 this) v (List.mem_range.2 (by omega))
        simp only [Bool.and_eq_true, decide_eq_true_eq, not_and] at this
        have := this hq
        omega
/-- The first k vertices are not in debt. -/
def NN (q : Int) (d : List Int) (k : Nat) : Prop := ∀ u, u < k → ¬ ((u : Int) ≠ q ∧ d.getD u 0 < 0)
theorem NN.succ {q : Int} {d : List Int} {k : Nat} (h : NN q d k) (h2 : ¬ ((k : Int) ≠ q ∧ d.getD k 0 < 0)) : NN q d (k + 1) := fun u hu => by
  rcases Nat.lt_or_ge u k with h3 | h3
  · exact h u h3
  · have e : u = k := by omega
    subst e; exact h2
theorem negB_take {q : Int} {d : List Int} {k : Nat} (hk : k < d.length) (h2 : (k : Int) ≠ q ∧ d.getD k 0 < 0) : negB q d = true := by
  unfold negB
  refine List.any_eq_true.2 ⟨k, List.mem_range.2 hk, ?_⟩
  rw [decide_eq_true h2.1, decide_eq_true h2.2]; rfl
theorem negB_none {q : Int} {d : List Int} (h : NN q d d.length) : negB q d = false := by
  unfold negB
  refine List.any_eq_false.2 fun u hu => ?_
  have := h u (List.mem_range.1 hu)
  simp only [Bool.and_eq_true, decide_eq_true_eq]
  exact this

theorem bw_calm : ∀ W : List Bool, calmL (bw W) = true
  | [] => rfl
  | x :: W => by
    show (calmA (.b x) && calmL (bw W)) = true
    rw [bw_calm W]; rfl
section
variable (N : Int) (es : List Ed) (q : Int) (d : List Int) (hel : es.length ≤ 900) (hd : d.length ≤ 1000)
include hel
theorem rooted_ok : PC Try.prog 97 [G N es, .i q] (.i (rootE N es q)) [] := by
  refine PC_of_W cfn97 ?_
  simp -implicitDefEqProofs (disch := omega) [c97, List.getElem?_cons_zero, List.getElem?_cons_succ, wrap_id]
  by_cases hg : gcheck N es = 0
  · have hgg := gcheck_ok hg
    have hn1 := hgg.n1
    have hn12 := hgg.n12
    obtain ⟨n, rfl⟩ : ∃ n : Nat, N = n := ⟨N.toNat, by omega⟩
    refine HC_of_PC rfl (connected_ok n es hel hg) ?_
    by_cases hp : (rootsL es n).length = 1
    · have hp' : partsN es n = 1 := hp
      by_cases h1 : q < 0
      · have e : vtx n q = false := by simp [vtx]; omega
        simp -implicitDefEqProofs (disch := omega) [List.getElem?_cons_zero, List.getElem?_cons_succ, wrap_id, hp, h1]
        (refine fin0 trivial rfl ?_; simp -implicitDefEqProofs (disch := omega) [List.getElem?_cons_zero, List.getElem?_cons_succ, idx, wrap_id, rootE, hg, hp', e])
      · by_cases h2 : (n : Int) ≤ q
        · have e : vtx n q = false := by simp [vtx]; omega
          simp -implicitDefEqProofs (disch := omega) [List.getElem?_cons_zero, List.getElem?_cons_succ, wrap_id, hp, h1, h2]
          (refine fin0 trivial rfl ?_; simp -implicitDefEqProofs (disch := omega) [List.getElem?_cons_zero, List.getElem?_cons_succ, idx, wrap_id, rootE, hg, hp', e])
        · have e : vtx n q = true := by simp [vtx]; omega
          simp -implicitDefEqProofs (disch := omega) [List.getElem?_cons_zero, List.getElem?_cons_succ, wrap_id, hp, h1, h2]
          (refine fin0 trivial rfl ?_; simp -implicitDefEqProofs (disch := omega) [List.getElem?_cons_zero, List.getElem?_cons_succ, idx, wrap_id, rootE, hg, hp', e])
    · have hp' : ¬ partsN es n = 1 := hp
      simp -implicitDefEqProofs (disch := omega) [List.getElem?_cons_zero, List.getElem?_cons_succ, wrap_id, hp]
      (refine fin0 trivial rfl ?_; simp -implicitDefEqProofs (disch := omega) [List.getElem?_cons_zero, List.getElem?_cons_succ, idx, wrap_id, rootE, hg, hp'])
  · refine HC_of_PC rfl (connected_err N es hel hg) ?_
    simp -implicitDefEqProofs (disch := omega) [List.getElem?_cons_zero, List.getElem?_cons_succ, wrap_id, hg]
    (refine fin0 trivial rfl ?_; simp -implicitDefEqProofs (disch := omega) [List.getElem?_cons_zero, List.getElem?_cons_succ, idx, wrap_id, rootE, hg])
include hd
theorem scheck_ok : PC Try.prog 70 [G N es, .i q, .is d] (.i (stE N es q d)) [] := by
  refine PC_of_W cfn70 ?_
  simp -implicitDefEqProofs (disch := omega) [c70, List.getElem?_cons_zero, List.getElem?_cons_succ, wrap_id]
  refine HC_of_PC rfl (rooted_ok N es q hel) ?_
  by_cases h1 : rootE N es q = 0
  · simp -implicitDefEqProofs (disch := omega) [List.getElem?_cons_zero, List.getElem?_cons_succ, wrap_id, h1]
    refine HC_of_PC rfl (chk_ok d N (by omega)) ?_
    by_cases h2 : dcheck d N = 0
    · simp -implicitDefEqProofs (disch := omega) [List.getElem?_cons_zero, List.getElem?_cons_succ, wrap_id, h2]
      refine loopW d.length (fun k s => s = ⟨[(26, .i k), (25, .i d.length), (24, .p (.is d)), (1, .i q)], []⟩ ∧ NN q d k) (wk_norm [] [26, 25, 24, 1] rfl rfl) ⟨rfl, fun u hu => by omega⟩ ?_
      rintro k s hk ⟨rfl, hI⟩
      by_cases hlt : k < d.length
      · have hg := getD_get hlt
        by_cases h3 : (k : Int) = q
        · have hI' := hI.succ (fun h => h.1 h3)
          have h3' : ((k : Int) = q) = True := eq_true h3
          simp -implicitDefEqProofs (disch := omega) [List.getElem?_cons_zero, List.getElem?_cons_succ, wrap_id, hlt, h3']
          exact round_end [] [26, 25, 24, 1] hlt rfl ⟨rfl, hI'⟩
        · by_cases h4 : d[k] < 0
          · have hr := negB_take (q := q) hlt ⟨h3, by rw [hg]; exact h4⟩
            simp -implicitDefEqProofs (disch := omega) [List.getElem?_cons_zero, List.getElem?_cons_succ, wrap_id, hlt, h3, h4]
            (refine fin0 trivial rfl ?_; simp -implicitDefEqProofs (disch := omega) [List.getElem?_cons_zero, List.getElem?_cons_succ, idx, wrap_id, stE, h1, h2, hr])
          · have hI' := hI.succ (fun h => h4 (by rw [← hg]; exact h.2))
            simp -implicitDefEqProofs (disch := omega) [List.getElem?_cons_zero, List.getElem?_cons_succ, wrap_id, hlt, h3, h4]
            exact round_end [] [26, 25, 24, 1] hlt rfl ⟨rfl, hI'⟩
      · have hkd : k = d.length := by omega
        subst hkd
        have hr := negB_none hI
        simp -implicitDefEqProofs (disch := omega) [List.getElem?_cons_zero, List.getElem?_cons_succ, wrap_id, hlt]
        (refine fin0 trivial rfl ?_; simp -implicitDefEqProofs (disch := omega) [List.getElem?_cons_zero, List.getElem?_cons_succ, idx, wrap_id, stE, h1, h2, hr])
    · simp -implicitDefEqProofs (disch := omega) [List.getElem?_cons_zero, List.getElem?_cons_succ, wrap_id, h2]
      (refine fin0 trivial rfl ?_; simp -implicitDefEqProofs (disch := omega) [List.getElem?_cons_zero, List.getElem?_cons_succ, idx, wrap_id, stE, h1, h2])
  · simp -implicitDefEqProofs (disch := omega) [List.getElem?_cons_zero, List.getElem?_cons_succ, wrap_id, h1]
    (refine fin0 trivial rfl ?_; simp -implicitDefEqProofs (disch := omega) [List.getElem?_cons_zero, List.getElem?_cons_succ, idx, wrap_id, stE, h1])
theorem sgiven_err (h : stE N es q d ≠ 0) : PC Try.prog 58 [G N es, .i q, .is d] (.tup [.p (.v (.pointer none)), .i (stE N es q d)]) [] := by
  refine PC_of_W cfn58 ?_
  simp -implicitDefEqProofs (disch := omega) [c58, List.getElem?_cons_zero, List.getElem?_cons_succ, wrap_id]
  refine HC_of_PC rfl (scheck_ok N es q d hel hd) ?_
  simp -implicitDefEqProofs (disch := omega) [List.getElem?_cons_zero, List.getElem?_cons_succ, wrap_id, h]
  (refine fin0 trivial rfl ?_; simp -implicitDefEqProofs (disch := omega) [List.getElem?_cons_zero, List.getElem?_cons_succ, idx, wrap_id])
theorem sgiven_ok (n : Nat) (h0 : stE n es q d = 0) (h : StOk n es q d) : PC Try.prog 58 [G n es, .i q, .is d] (.tup [.ptr 0 1 0 0, .i 0]) (pile0 n es q d (List.replicate n 0)) := by
  refine PC_of_W cfn58 ?_
  simp -implicitDefEqProofs (disch := omega) [c58, List.getElem?_cons_zero, List.getElem?_cons_succ, wrap_id]
  refine HC_of_PC rfl (scheck_ok n es q d hel hd) ?_
  simp -implicitDefEqProofs (disch := omega) [List.getElem?_cons_zero, List.getElem?_cons_succ, wrap_id, h0]
  refine HC_of_PC rfl (pileOf_ok n es q d h.gc (by omega) h.c.len) ?_
  simp -implicitDefEqProofs (disch := omega) [List.getElem?_cons_zero, List.getElem?_cons_succ, wrap_id, bw_ren, bw_calm]
  refine fin1 [1, 2, 3] trivial rfl rfl ⟨rfl, ?_⟩
  rw [pile0]
  simp -implicitDefEqProofs [-AO.ren, renH, ren_box, ren_row, AV.ren, renL, idx_at, idx_at0, bw_ren]
/-- Behind a call that lays a configuration out. -/
abbrev pileZ (n : Nat) (es : List Ed) (q : Int) (c : List Int) (T : List AO) : List AO := pileH n es q c (List.replicate n 0) T
omit hel hd in
theorem pile_past {n : Nat} {x : AV} : [AO.box x, AO.box (.agg (.os 2 0 n :: .p (.v (.int .i64 q)) :: .p (.iss (rowsL n es)) :: .p (.is (valsL n es)) :: .os 3 0 n :: .p (.v (.int .i64 (sumI (List.replicate n 0)))) :: bw (waitsL n es q d))), AO.row (List.map PV.i d) 1 3 false, AO.row (List.replicate n (PV.i 0)) 1 3 false] = AO.box x :: pileZ n es q d [] := by
  rw [pileZ, ← List.map_replicate (f := PV.i)]
end
end Go.Proofs.Ytgjaekbbdmhjlaa
