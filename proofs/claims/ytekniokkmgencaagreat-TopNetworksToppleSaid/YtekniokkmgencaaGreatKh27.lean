/-
  Texts joined: Zh Iaj Iab In.
-/
import Derived.Test.YtekniokkmgencaaGreatKh26

section
set_option linter.unusedSimpArgs false
set_option linter.unusedVariables false
namespace Go.Proofs.YtekniokkmgencaaGreat
open Go.Abs Go.Sand
theorem val_pos {n : Nat} {es : List Ed} (hg : GoodG n es) (hp : partsN es n = 1) {v w : Nat} (hv : v < n) (hw : w < n) (hne : w ≠ v) : 1 ≤ valTo es v n := by
  have hn := hg.n12
  refine Classical.byContradiction fun hlt => ?_
  have h0 : valTo es v n = 0 := by have := valTo_nn hg v n; omega
  rw [valTo_all hg.right hg.asc v ⟨by omega, by omega⟩] at h0
  have hz : ∀ x ∈ es, val1 v x = 0 := by
    have key : ∀ l : List Ed, (∀ x ∈ l, 1 ≤ x.m) → valS l v = 0 → ∀ x ∈ l, val1 v x = 0 := by
      intro l
      induction l with
      | nil => intro _ _ x hx; cases hx
      | cons y l ih =>
        intro hm h x hx
        have e : valS (y :: l) v = val1 v y + valS l v := by simp [valS, sumI]
        have h1 : 0 ≤ val1 v y := by unfold val1; have := hm y (by simp); split <;> omega
        have h2 : 0 ≤ valS l v := by
          have : ∀ l : List Ed, (∀ x ∈ l, 1 ≤ x.m) → 0 ≤ valS l v := by
            intro l
            induction l with
            | nil => intro _; simp [valS, sumI]
            | cons y l ih =>
              intro hm
              have e : valS (y :: l) v = val1 v y + valS l v := by simp [valS, sumI]
              have h1 : 0 ≤ val1 v y := by unfold val1; have := hm y (by simp); split <;> omega
              have := ih fun x hx => hm x (by simp [hx])
              omega
          exact this l fun x hx => hm x (by simp [hx])
        rcases List.mem_cons.1 hx with rfl | hx
        · omega
        · exact ih (fun x hx => hm x (by simp [hx])) (by omega) x hx
    exact key es (fun x hx => (hg.right x hx).m1) h0
  have hcl : ∀ u u', cls es u = cls es u' → (u = v ↔ u' = v) := by
    intro u u' h
    have := cls_closed (n := n) (es := es) (fun y => y = v) (fun x hx => by
      have hx0 := hz x hx
      have r := hg.right x hx
      have h1 := r.m1
      have h2 := r.a0
      have h3 := r.b0
      unfold val1 at hx0
      split at hx0
      · omega
      · rename_i hh; omega) es.length (Nat.le_refl _) u u'
    rw [List.take_length] at this
    exact this h
  have hF := ufJ_forest (n := n) (by omega) hg.right es.length (Nat.le_refl _)
  rw [List.take_length] at hF
  have root : ∀ u, u < n → cls es u ∈ rootsL es n := fun u hu => by
    obtain ⟨h1, h2⟩ := hF.le u (by omega)
    refine List.mem_filter.2 ⟨List.mem_range.2 ?_, decide_eq_true h2⟩
    show (ufJ es).2 u < n
    omega
  obtain ⟨r, hr⟩ := List.length_eq_one_iff.1 hp
  have h1 := root v hv
  have h2 := root w hw
  rw [hr] at h1 h2
  have h3 : cls es v = cls es w := by rw [List.mem_singleton.1 h1, List.mem_singleton.1 h2]
  exact hne ((hcl v w h3).1 rfl)
def rootE (N : Int) (es : List Ed) (q : Int) : Int := if gcheck N es ≠ 0 then gcheck N es else if partsN es N.toNat = 1 then (if vtx N q = true then 0 else 2) else 13
def negB (q : Int) (d : List Int) : Bool := (List.range d.length).any fun v => decide ((v : Int) ≠ q) && decide (d.getD v 0 < 0)
def stE (N : Int) (es : List Ed) (q : Int) (d : List Int) : Int := if rootE N es q ≠ 0 then rootE N es q else if dcheck d N ≠ 0 then dcheck d N else if negB q d = true then 2 else 0
theorem root_ok {N q : Int} {es : List Ed} (h : rootE N es q = 0) : ∃ n : Nat, N = n ∧ gcheck n es = 0 ∧ GoodG n es ∧ partsN es n = 1 ∧ 0 ≤ q ∧ q < n ∧ 1 ≤ n ∧ n ≤ 12 := by
  unfold rootE at h
  split at h
  · rename_i h1; exact absurd h h1
  · rename_i h1
    have h1 := Decidable.not_not.1 h1
    have hg := gcheck_ok h1
    have hn1 := hg.n1
    have hn12 := hg.n12
    obtain ⟨n, rfl⟩ : ∃ n : Nat, N = n := ⟨N.toNat, by omega⟩
    split at h
    · rename_i h2
      split at h
      · rename_i h3
        have h3' : 0 ≤ q ∧ q < n := by simpa [vtx] using h3
        exact ⟨n, rfl, h1, hg, by simpa using h2, h3'.1, h3'.2, by omega, by omega⟩
      · cases h
    · cases h
structure StOk (n : Nat) (es : List Ed) (q : Int) (d : List Int) : Prop where
  gc : gcheck n es = 0
  g : GoodG n es
  parts : partsN es n = 1
  q0 : 0 ≤ q
  qn : q < n
  n1 : 1 ≤ n
  n12 : n ≤ 12
  c : Conf n q d
  v : ∀ v, v < n → (v : Int) ≠ q → 1 ≤ valTo es v n
theorem sink_val {n : Nat} {es : List Ed} {q : Int} (hg : GoodG n es) (hp : partsN es n = 1) (h0 : 0 ≤ q) (h1 : q < n) : ∀ v, v < n → (v : Int) ≠ q → 1 ≤ valTo es v n := fun v hv hq => val_pos hg hp (w := q.toNat) hv (by omega) (by omega)
theorem st_ok {N q : Int} {es : List Ed} {d : List Int} (h : stE N es q d = 0) : ∃ n : Nat, N = n ∧ StOk n es q d := by
  unfold stE at h
  split at h
  · rename_i h1; exact absurd h h1
  · rename_i h1
    have h1 := Decidable.not_not.1 h1
    obtain ⟨n, rfl, hgc, hg, hp, hq0, hqn, hn1, hn⟩ := root_ok h1
    split at h
    · rename_i h2; exact absurd h h2
    · rename_i h2
      have h2 := Decidable.not_not.1 h2
      split at h
      · cases h
      · rename_i h3
        have hgv : givenE n es d = 0 := by rw [givenE, if_neg (by simp [hgc]), h2]
        obtain ⟨n', e', -, hl, hb, -, -⟩ := given_ok hgv
        have hl' : d.length = n := by omega
        refine ⟨n, rfl, hgc, hg, hp, hq0, hqn, hn1, hn, ⟨hl', hb.more (by omega), fun v hv hq => ?_⟩, sink_val hg hp hq0 hqn⟩
        have : negB q d = false := by cases hh : negB q d; rfl; exact absurd hh h3
        unfold negB at this
        have := (List.any_eq_false.1 this) v (List.mem_range.2 (by omega))
        simp only [Bool.and_eq_true, decide_eq_true_eq, not_and] at this
        have := this hq
        omega
def NN (q : Int) (d : List Int) (k : Nat) : Prop := ∀ u, u < k → ¬ ((u : Int) ≠ q ∧ d.getD u 0 < 0)
theorem NN.succ {q : Int} {d : List Int} {k : Nat} (h : NN q d k) (h2 : ¬ ((k : Int) ≠ q ∧ d.getD k 0 < 0)) : NN q d (k + 1) := fun u hu => by
  rcases Nat.lt_or_ge u k with h3 | h3
  · exact h u h3
  · have e : u = k := by omega
    subst e; exact h2
theorem negB_take {q : Int} {d : List Int} {k : Nat} (hk : k < d.length) (h2 : (k : Int) ≠ q ∧ d.getD k 0 < 0) : negB q d = true := by
  unfold negB
  refine List.any_eq_true.2 ⟨k, List.mem_range.2 hk, ?_⟩
  rw [decide_eq_true h2.1, decide_eq_true h2.2]; rfl
theorem negB_none {q : Int} {d : List Int} (h : NN q d d.length) : negB q d = false := by
  unfold negB
  refine List.any_eq_false.2 fun u hu => ?_
  have := h u (List.mem_range.1 hu)
  simp only [Bool.and_eq_true, decide_eq_true_eq]
  exact this
theorem bw_calm : ∀ W : List Bool, calmL (bw W) = true
  | [] => rfl
  | x :: W => by
    show (calmA (.b x) && calmL (bw W)) = true
    rw [bw_calm W]; rfl
section
variable (N : Int) (es : List Ed) (q : Int) (d : List Int) (hel : es.length ≤ 900) (hd : d.length ≤ 1000)
include hel
theorem rooted_ok : PC Tryz.prog 35 [G N es, .i q] (.i (rootE N es q)) [] := by
  refine PC_of_W cfn35 ?_
  simp -implicitDefEqProofs (disch := omega) [c35, List.getElem?_cons_zero, List.getElem?_cons_succ, wrap_id]
  by_cases hg : gcheck N es = 0
  · have hgg := gcheck_ok hg
    have hn1 := hgg.n1
    have hn12 := hgg.n12
    obtain ⟨n, rfl⟩ : ∃ n : Nat, N = n := ⟨N.toNat, by omega⟩
    refine HC_of_PC rfl (connected_ok n es hel hg) ?_
    by_cases hp : (rootsL es n).length = 1
    · have hp' : partsN es n = 1 := hp
      by_cases h1 : q < 0
      · have e : vtx n q = false := by simp [vtx]; omega
        simp -implicitDefEqProofs (disch := omega) [List.getElem?_cons_zero, List.getElem?_cons_succ, wrap_id, hp, h1]
        (refine fin0 trivial rfl ?_; simp -implicitDefEqProofs (disch := omega) [List.getElem?_cons_zero, List.getElem?_cons_succ, idx, wrap_id, rootE, hg, hp', e])
      · by_cases h2 : (n : Int) ≤ q
        · have e : vtx n q = false := by simp [vtx]; omega
          simp -implicitDefEqProofs (disch := omega) [List.getElem?_cons_zero, List.getElem?_cons_succ, wrap_id, hp, h1, h2]
          (refine fin0 trivial rfl ?_; simp -implicitDefEqProofs (disch := omega) [List.getElem?_cons_zero, List.getElem?_cons_succ, idx, wrap_id, rootE, hg, hp', e])
        · have e : vtx n q = true := by simp [vtx]; omega
          simp -implicitDefEqProofs (disch := omega) [List.getElem?_cons_zero, List.getElem?_cons_succ, wrap_id, hp, h1, h2]
          (refine fin0 trivial rfl ?_; simp -implicitDefEqProofs (disch := omega) [List.getElem?_cons_zero, List.getElem?_cons_succ, idx, wrap_id, rootE, hg, hp', e])
    · have hp' : ¬ partsN es n = 1 := hp
      simp -implicitDefEqProofs (disch := omega) [List.getElem?_cons_zero, List.getElem?_cons_succ, wrap_id, hp]
      (refine fin0 trivial rfl ?_; simp -implicitDefEqProofs (disch := omega) [List.getElem?_cons_zero, List.getElem?_cons_succ, idx, wrap_id, rootE, hg, hp'])
  · refine HC_of_PC rfl (connected_err N es hel hg) ?_
    simp -implicitDefEqProofs (disch := omega) [List.getElem?_cons_zero, List.getElem?_cons_succ, wrap_id, hg]
    (refine fin0 trivial rfl ?_; simp -implicitDefEqProofs (disch := omega) [List.getElem?_cons_zero, List.getElem?_cons_succ, idx, wrap_id, rootE, hg])
include hd
theorem scheck_ok : PC Tryz.prog 20 [G N es, .i q, .is d] (.i (stE N es q d)) [] := by
  refine PC_of_W cfn20 ?_
  simp -implicitDefEqProofs (disch := omega) [c20, List.getElem?_cons_zero, List.getElem?_cons_succ, wrap_id]
  refine HC_of_PC rfl (rooted_ok N es q hel) ?_
  by_cases h1 : rootE N es q = 0
  · simp -implicitDefEqProofs (disch := omega) [List.getElem?_cons_zero, List.getElem?_cons_succ, wrap_id, h1]
    refine HC_of_PC rfl (chk_ok d N (by omega)) ?_
    by_cases h2 : dcheck d N = 0
    · simp -implicitDefEqProofs (disch := omega) [List.getElem?_cons_zero, List.getElem?_cons_succ, wrap_id, h2]
      refine loopW d.length (fun k s => s = ⟨[(26, .i k), (25, .i d.length), (24, .p (.is d)), (1, .i q)], []⟩ ∧ NN q d k) (wk_norm [] [26, 25, 24, 1] rfl rfl) ⟨rfl, fun u hu => by omega⟩ ?_
      rintro k s hk ⟨rfl, hI⟩
      by_cases hlt : k < d.length
      · have hg := getD_get hlt
        by_cases h3 : (k : Int) = q
        · have hI' := hI.succ (fun h => h.1 h3)
          have h3' : ((k : Int) = q) = True := eq_true h3
          simp -implicitDefEqProofs (disch := omega) [List.getElem?_cons_zero, List.getElem?_cons_succ, wrap_id, hlt, h3']
          exact round_end [] [26, 25, 24, 1] hlt rfl ⟨rfl, hI'⟩
        · by_cases h4 : d[k] < 0
          · have hr := negB_take (q := q) hlt ⟨h3, by rw [hg]; exact h4⟩
            simp -implicitDefEqProofs (disch := omega) [List.getElem?_cons_zero, List.getElem?_cons_succ, wrap_id, hlt, h3, h4]
            (refine fin0 trivial rfl ?_; simp -implicitDefEqProofs (disch := omega) [List.getElem?_cons_zero, List.getElem?_cons_succ, idx, wrap_id, stE, h1, h2, hr])
          · have hI' := hI.succ (fun h => h4 (by rw [← hg]; exact h.2))
            simp -implicitDefEqProofs (disch := omega) [List.getElem?_cons_zero, List.getElem?_cons_succ, wrap_id, hlt, h3, h4]
            exact round_end [] [26, 25, 24, 1] hlt rfl ⟨rfl, hI'⟩
      · have hkd : k = d.length := by omega
        subst hkd
        have hr := negB_none hI
        simp -implicitDefEqProofs (disch := omega) [List.getElem?_cons_zero, List.getElem?_cons_succ, wrap_id, hlt]
        (refine fin0 trivial rfl ?_; simp -implicitDefEqProofs (disch := omega) [List.getElem?_cons_zero, List.getElem?_cons_succ, idx, wrap_id, stE, h1, h2, hr])
    · simp -implicitDefEqProofs (disch := omega) [List.getElem?_cons_zero, List.getElem?_cons_succ, wrap_id, h2]
      (refine fin0 trivial rfl ?_; simp -implicitDefEqProofs (disch := omega) [List.getElem?_cons_zero, List.getElem?_cons_succ, idx, wrap_id, stE, h1, h2])
  · simp -implicitDefEqProofs (disch := omega) [List.getElem?_cons_zero, List.getElem?_cons_succ, wrap_id, h1]
    (refine fin0 trivial rfl ?_; simp -implicitDefEqProofs (disch := omega) [List.getElem?_cons_zero, List.getElem?_cons_succ, idx, wrap_id, stE, h1])
theorem sgiven_err (h : stE N es q d ≠ 0) : PC Tryz.prog 24 [G N es, .i q, .is d] (.tup [.p (.v (.pointer none)), .i (stE N es q d)]) [] := by
  refine PC_of_W cfn24 ?_
  simp -implicitDefEqProofs (disch := omega) [c24, List.getElem?_cons_zero, List.getElem?_cons_succ, wrap_id]
  refine HC_of_PC rfl (scheck_ok N es q d hel hd) ?_
  simp -implicitDefEqProofs (disch := omega) [List.getElem?_cons_zero, List.getElem?_cons_succ, wrap_id, h]
  (refine fin0 trivial rfl ?_; simp -implicitDefEqProofs (disch := omega) [List.getElem?_cons_zero, List.getElem?_cons_succ, idx, wrap_id])
theorem sgiven_ok (n : Nat) (h0 : stE n es q d = 0) (h : StOk n es q d) : PC Tryz.prog 24 [G n es, .i q, .is d] (.tup [.ptr 0 1 0 0, .i 0]) (pile0 n es q d (List.replicate n 0)) := by
  refine PC_of_W cfn24 ?_
  simp -implicitDefEqProofs (disch := omega) [c24, List.getElem?_cons_zero, List.getElem?_cons_succ, wrap_id]
  refine HC_of_PC rfl (scheck_ok n es q d hel hd) ?_
  simp -implicitDefEqProofs (disch := omega) [List.getElem?_cons_zero, List.getElem?_cons_succ, wrap_id, h0]
  refine HC_of_PC rfl (pileOf_ok n es q d h.gc (by omega) h.c.len) ?_
  simp -implicitDefEqProofs (disch := omega) [List.getElem?_cons_zero, List.getElem?_cons_succ, wrap_id, bw_ren, bw_calm]
  refine fin1 [1, 2, 3] trivial rfl rfl ⟨rfl, ?_⟩
  rw [pile0]
  simp -implicitDefEqProofs [-AO.ren, renH, ren_box, ren_row, AV.ren, renL, idx_at, idx_at0, bw_ren]
abbrev pileZ (n : Nat) (es : List Ed) (q : Int) (c : List Int) (T : List AO) : List AO := pileH n es q c (List.replicate n 0) T
omit hel hd in
theorem pile_past {n : Nat} {x : AV} : [AO.box x, AO.box (.agg (.os 2 0 n :: .p (.v (.int .i64 q)) :: .p (.iss (rowsL n es)) :: .p (.is (valsL n es)) :: .os 3 0 n :: .p (.v (.int .i64 (sumI (List.replicate n 0)))) :: bw (waitsL n es q d))), AO.row (List.map PV.i d) 1 3 false, AO.row (List.replicate n (PV.i 0)) 1 3 false] = AO.box x :: pileZ n es q d [] := by
  rw [pileZ, ← List.map_replicate (f := PV.i)]
end
end Go.Proofs.YtekniokkmgencaaGreat
end
section
set_option linter.unusedSimpArgs false
set_option linter.unusedVariables false
namespace Go.Proofs.YtekniokkmgencaaGreat
open Go.Abs Go.Sand
abbrev netQ (x : Net) : PV := .agg [.sl (x.rules.map procQ), stP x.st, .sl (x.wt.map wtP)]
abbrev netV (x : Net) : AV := .agg [.p (.sl (x.rules.map procQ)), .p (stP x.st), .p (.sl (x.wt.map wtP))]
theorem procQ_top (n : Nat) (es : List Ed) (q : Int) (v V : Nat) (hq : (v : Int) ≠ q) (hV : valTo es v n = V) : procQ (procR n es q v) = .agg [.i V, .i 1, .sl ((List.range V).map fun s => rrowQ (topE n es v V s))] := by
  simp only [procQ, procR, if_neg hq, hV, Int.toNat_natCast, List.length_map, List.length_range, List.map_map]
  rfl
theorem procQ_sink (n : Nat) (es : List Ed) (q : Int) (v : Nat) (hq : (v : Int) = q) : procQ (procR n es q v) = .agg [.i 1, .i 1, .sl [.sl [.agg [.i 0, .nil]]]] := by
  simp only [procQ, procR, if_pos hq]
  rfl
theorem nilP {m0 : Nat} {t : List (Nat × AV)} {A B D : AO} {a : AV} {b : PV} : Wk m0 ⟨t, [A, B, .box (.agg [.p .nil, a, .p b]), D]⟩ ⟨t, [A, B, .box (.agg [.os 4 0 0, a, .p b]), D, .row [] 3 59 false]⟩ :=
  nilE_r (s := ⟨t, [A, B, .box (.agg [.p .nil, a, .p b]), D]⟩) 2 0 3 59 (x := .agg [.p .nil, a, .p b]) rfl rfl
theorem sandpile_ok (n : Nat) (es : List Ed) (q : Int) (d : List Int) (hel : es.length ≤ 900) (hs : stE n es q d = 0) (hV : ∀ v, v < n → (v : Int) ≠ q → 1 ≤ valTo es v n ∧ valTo es v n ≤ 12) (hd : d.length ≤ 1000) :
    PC Tryz.prog 7 [G n es, .i q, .is d] (.tup [netV (wpN n es q d), .i 0]) [] := by
  obtain ⟨n', hn', h⟩ := st_ok hs
  obtain rfl : n = n' := by omega
  have hg := h.g
  have hn12 := hg.n12
  have hgc := h.gc
  refine PC_of_W cfn7 ?_
  simp -implicitDefEqProofs (disch := omega) [c7, List.getElem?_cons_zero, List.getElem?_cons_succ, wrap_id]
  refine HC_of_PC rfl (scheck_ok n es q d hel hd) ?_
  simp -implicitDefEqProofs (disch := omega) [List.getElem?_cons_zero, List.getElem?_cons_succ, wrap_id, hs]
  obtain ⟨Wl, hWt⟩ : ∃ Wl, Wl = (waitL q d).map wtP := ⟨_, rfl⟩
  have hwc : PC Tryz.prog 21 [.is d, .i q] (.p (.sl Wl)) [] := by rw [hWt]; exact nwaiting_ok d q hd
  obtain ⟨zr, hzr⟩ : ∃ zr, zr = AO.row (List.replicate n (PV.i 0)) 1 3 false := ⟨_, rfl⟩
  obtain ⟨Z, hZ⟩ : ∃ Z, Z = AO.box (AV.p (PV.agg [PV.nil, PV.nil, PV.nil])) := ⟨_, rfl⟩
  have hnb : n ≤ 1048576 := by omega
  refine tree_join (s0 := ⟨[(9, .ptr 2 1 0 0), (3, .ptr 0 1 0 0), (6, .ptr 1 1 0 0), (1, .i q)], [.box (.p (G n es)), Z, .box (.agg [.p .nil, .os 3 0 n, .p (.sl Wl)]), zr]⟩) ?_ ?_
  rotate_left
  · rw [hZ, hzr]
    simp -implicitDefEqProofs (disch := omega) [List.getElem?_cons_zero, List.getElem?_cons_succ, wrap_id, hnb]
    repeat' (first
      | refine ⟨?_, ?_⟩
      | (refine HC_of_PC rfl hwc ?_; simp -implicitDefEqProofs [List.getElem?_cons_zero, List.getElem?_cons_succ, hnb])
      | exact wk_norm [0, 1, 3, 2] [9, 3, 6, 1] rfl rfl
      | exact wk_norm [0, 1, 2, 3] [9, 3, 6, 1] rfl rfl)
  simp -implicitDefEqProofs (disch := omega) [List.getElem?_cons_zero, List.getElem?_cons_succ, wrap_id]
  refine loopW n (fun k s => s = ⟨[(30, .i k), (29, .i n), (9, .ptr 2 1 0 0), (3, .ptr 0 1 0 0), (6, .ptr 1 1 0 0), (1, .i q)], [.box (.p (G n es)), Z, .box (.agg [.os 4 0 k, .os 3 0 n, .p (.sl Wl)]), zr, .row ((List.range k).map fun v => procQ (procR n es q v)) 3 59 false]⟩)
    (nilP.trans (Wk_keep [30, 29, 9, 3, 6, 1])) rfl ?_
  rintro k s hk rfl
  by_cases hlt : k < n
  · have hk1 : k ≤ 1048575 := by omega
    simp -implicitDefEqProofs (disch := omega) [List.getElem?_cons_zero, List.getElem?_cons_succ, wrap_id, hlt]
    refine HC_of_PC rfl (sink_ok) ?_
    rw [hZ, hzr]
    have hm : (List.range (k + 1)).map (fun v => procQ (procR n es q v)) = (List.range k).map (fun v => procQ (procR n es q v)) ++ [procQ (procR n es q k)] := by rw [List.range_succ, List.map_append]; rfl
    by_cases c : (k : Int) = q
    · have hp := procQ_sink n es q k c
      have c' : ((k : Int) = q) = True := eq_true c
      simp -implicitDefEqProofs (disch := omega) [List.getElem?_cons_zero, List.getElem?_cons_succ, wrap_id, hlt, c', hk1]
      refine round_end [0, 1, 2, 3, 4] [30, 29, 9, 3, 6, 1] hlt rfl ?_
      rw [hm, hp]
      rfl
    · obtain ⟨h1, h2⟩ := hV k hlt c
      obtain ⟨V, hVV⟩ : ∃ V : Nat, valTo es k n = V := ⟨(valTo es k n).toNat, by omega⟩
      have hp := procQ_top n es q k V c hVV
      simp -implicitDefEqProofs (disch := omega) [List.getElem?_cons_zero, List.getElem?_cons_succ, wrap_id, hlt, c, hk1]
      refine HC_of_PC rfl (toppler_ok n es hgc hel k V hlt hVV (by omega) (by omega)) ?_
      simp -implicitDefEqProofs (disch := omega) [List.getElem?_cons_zero, List.getElem?_cons_succ, wrap_id, hlt, c, hk1]
      refine round_end [0, 1, 2, 3, 4] [30, 29, 9, 3, 6, 1] hlt rfl ?_
      rw [hm, hp]
      rfl
  · obtain rfl : k = n := by omega
    rw [hZ, hzr]
    simp -implicitDefEqProofs (disch := omega) [List.getElem?_cons_zero, List.getElem?_cons_succ, wrap_id]
    refine fin0 (x := .tup [.agg [.os 4 0 k, .os 3 0 k, .p (.sl Wl)], .i 0]) trivial rfl ?_
    rw [hWt]
    have e1 : (wpN k es q d).rules.map procQ = (List.range k).map fun v => procQ (procR k es q v) := by
      show (wpR k es q).map procQ = _
      rw [wpR, List.map_map]; rfl
    have e2 : stP (wpN k es q d).st = PV.sl (List.replicate k (PV.i 0)) := by
      show stP (List.replicate k 0) = _
      rw [stP, List.map_replicate]; rfl
    simp only [netV, e1, e2]
    simp [AV.ren, renL, idx]
    rfl
end Go.Proofs.YtekniokkmgencaaGreat
end
section
set_option linter.unusedSimpArgs false
set_option linter.unusedVariables false
namespace Go.Proofs.YtekniokkmgencaaGreat
open Go.Abs Go.Sand
theorem cloneSt_ok (l : List Nat) (h : l.length ≤ 1000000) : PC Tryz.prog 43 [stP l] (.os 0 0 l.length) [.row (l.map fun (k : Nat) => PV.i (k : Int)) 1 3 false] := by
  have := cloneI_ok (l.map fun (k : Nat) => (k : Int)) (by simpa using h)
  simpa [PV.is, List.map_map, Function.comp_def] using this
theorem cloneW_ok (k : Int) : PC Tryz.prog 43 [wtP k] (.os 0 0 1) [rowQ [k]] := cloneI_ok [k] (by simp)
theorem nil4 {m0 : Nat} {t : List (Nat × AV)} {H : List AO} {A S : AO} {p0 p1 p5 p7 p8 p9 : AV} (t1 t2 t3 t4 : TypeId) (sz : Nat) :
    Wk m0 ⟨t, H ++ [A, .box (.agg [p0, p1, .p .nil, .p .nil, .p .nil, p5, .p .nil, p7, p8, p9]), S]⟩
      ⟨t, H ++ [A, .box (.agg [p0, p1, .os (H.length + 3) 0 0, .os (H.length + 4) 0 0, .os (H.length + 5) 0 0, p5, .os (H.length + 6) 0 0, p7, p8, p9]), S, .tab [] t1 false, .tab [] t2 false, .tab [] t3 false, .arr [] sz t4]⟩ := by
  have b1 : ∀ b c X, (H ++ b :: c :: X)[H.length + 1]? = some c := fun b c X => by rw [List.getElem?_append_right (by omega)]; simp
  have b3 : ∀ b c X d, (H ++ b :: c :: X).set (H.length + 1) d = H ++ b :: d :: X := fun b c X d => by rw [List.set_append_right _ _ (by omega)]; simp
  have k1 := nilE_t (m0 := m0) (s := ⟨t, H ++ [A, .box (.agg [p0, p1, .p .nil, .p .nil, .p .nil, p5, .p .nil, p7, p8, p9]), S]⟩) (H.length + 1) 2 t1 (b1 _ _ _) rfl
  have k2 := nilE_t (m0 := m0) (s := ⟨t, H ++ [A, .box (.agg [p0, p1, .os (H.length + 3) 0 0, .p .nil, .p .nil, p5, .p .nil, p7, p8, p9]), S, .tab [] t1 false]⟩) (H.length + 1) 3 t2 (b1 _ _ _) rfl
  have k3 := nilE_t (m0 := m0) (s := ⟨t, H ++ [A, .box (.agg [p0, p1, .os (H.length + 3) 0 0, .os (H.length + 4) 0 0, .p .nil, p5, .p .nil, p7, p8, p9]), S, .tab [] t1 false, .tab [] t2 false]⟩) (H.length + 1) 4 t3 (b1 _ _ _) rfl
  have k4 := nilE_a (m0 := m0) (s := ⟨t, H ++ [A, .box (.agg [p0, p1, .os (H.length + 3) 0 0, .os (H.length + 4) 0 0, .os (H.length + 5) 0 0, p5, .p .nil, p7, p8, p9]), S, .tab [] t1 false, .tab [] t2 false, .tab [] t3 false]⟩) (H.length + 1) 6 sz t4 (b1 _ _ _) rfl
  simp only [List.append_assoc, List.cons_append, List.nil_append, b3, List.length_append, List.length_cons, List.length_nil, AV.flat, List.set_cons_succ, List.set_cons_zero] at k1 k2 k3 k4
  exact k1.trans (k2.trans (k3.trans k4))
section
variable {x : Net} {fs : List Int} {b : Nat} {H0 : List AO} {m : Nm → Nat} {P C L : Nat} {H : List AO}
theorem BH.wr' (h : BH x fs b H0 m P C L H) {o : Nat} (ho : m .W = o) {r : Int} (hr : x.wt.getD P 0 = r) (T : AO) :
    BH x fs b H0 (upN m (.wr P) H.length) (P + 1) C L (((H ++ [rowQ [r], T]).set (m .Wt) (.tab ((List.range P).map (fun p => AV.os (m (.wr p)) 0 1) ++ [.os H.length 0 1]) 25 false)).set o (.box (wbA x fs m (P + 1) C L))) := by
  subst ho
  have l1 := h.lt (y := .W) trivial
  have l2 := h.lt (y := .Wt) trivial
  have n1 := h.ne (y := .W) (z := .Wt) trivial trivial (by simp)
  refine h.wr (Nat.le_refl _) (by have := h.le; simp; omega) (fun i hi h1 h2 => ?_) ?_ ?_ ?_
  · rw [List.getElem?_set_ne (fun e => h2 e.symm), List.getElem?_set_ne (fun e => h1 e.symm), List.getElem?_append_left hi]
  · rw [List.getElem?_set_ne (by omega), List.getElem?_set_ne (by omega), List.getElem?_append_right (Nat.le_refl _), hr]; simp
  · rw [List.getElem?_set_ne n1, List.getElem?_set_self (by simp; omega)]
  · rw [List.getElem?_set_self (by simp; omega)]
theorem BH.cr' (h : BH x fs b H0 m P C L H) {o : Nat} (ho : m .W = o) (T : AO) {q : Nat} (hq : H.length = q) :
    BH x fs b H0 (upN m (.cr C) q) P (C + 1) L (((H ++ [rowQ [0], T]).set (m .Cn) (.tab ((List.range C).map (fun p => AV.os (m (.cr p)) 0 1) ++ [.os q 0 1]) 25 false)).set o (.box (wbA x fs m P (C + 1) L))) := by
  subst ho
  subst hq
  have l1 := h.lt (y := .W) trivial
  have l2 := h.lt (y := .Cn) trivial
  have n1 := h.ne (y := .W) (z := .Cn) trivial trivial (by simp)
  refine h.cr (Nat.le_refl _) (by have := h.le; simp; omega) (fun i hi h1 h2 => ?_) ?_ ?_ ?_
  · rw [List.getElem?_set_ne (fun e => h2 e.symm), List.getElem?_set_ne (fun e => h1 e.symm), List.getElem?_append_left hi]
  · rw [List.getElem?_set_ne (by omega), List.getElem?_set_ne (by omega), List.getElem?_append_right (Nat.le_refl _)]; simp
  · rw [List.getElem?_set_ne n1, List.getElem?_set_self (by simp; omega)]
  · rw [List.getElem?_set_self (by simp; omega)]
theorem BH.line' (h : BH x fs b H0 m P C L H) {o : Nat} (ho : m .W = o) (A T : AO) :
    BH x fs b H0 (upN (upN m (.lb L) H.length) (.qr L) (H.length + 2)) P C (L + 1) (((((H ++ [A, T]).set (m .Ln) (.tab ((List.range L).map (fun p => AV.ptr (m (.lb p)) 1 0 0) ++ [.ptr H.length 1 0 0]) 99 false)).set o (.box (wbA x fs m P C (L + 1)))) ++ [rowQ []]).set H.length (.box (lnA (H.length + 2) 0 (ln0 x.rules.length L)))) := by
  subst ho
  have l1 := h.lt (y := .W) trivial
  have l2 := h.lt (y := .Ln) trivial
  have n1 := h.ne (y := .W) (z := .Ln) trivial trivial (by simp)
  refine h.line (o := H.length) (o2 := H.length + 2) (Nat.le_refl _) (by omega) (by omega) (by have := h.le; simp; omega) (fun i hi h1 h2 => ?_) ?_ ?_ ?_ ?_
  · rw [List.getElem?_set_ne (by omega), List.getElem?_append_left (by simp; omega), List.getElem?_set_ne (fun e => h2 e.symm), List.getElem?_set_ne (fun e => h1 e.symm), List.getElem?_append_left hi]
  · rw [List.getElem?_set_self (by simp; omega)]
  · rw [List.getElem?_set_ne (by omega), List.getElem?_append_right (by simp)]; simp
  · rw [List.getElem?_set_ne (by omega), List.getElem?_append_left (by simp; omega), List.getElem?_set_ne n1, List.getElem?_set_self (by simp; omega)]
  · rw [List.getElem?_set_ne (by omega), List.getElem?_append_left (by simp; omega), List.getElem?_set_self (by simp; omega)]
end
theorem lineNil {m0 : Nat} {t : List (Nat × AV)} {H : List AO} {T y z : AO} {c1 c2 c3 c4 c5 : PV} {a o : Nat} (ha : a < H.length) (ho : o < H.length) :
    Wk m0 ⟨t, ((H ++ [.box (.p (.agg [.nil, c1, c2, c3, c4, c5])), T]).set a y).set o z⟩ ⟨t, ((((H ++ [.box (.p (.agg [.nil, c1, c2, c3, c4, c5])), T]).set a y).set o z) ++ [rowQ []]).set H.length (.box (.agg [.os (H.length + 2) 0 0, .p c1, .p c2, .p c3, .p c4, .p c5]))⟩ := by
  have h1 : (((H ++ [AO.box (.p (.agg [.nil, c1, c2, c3, c4, c5])), T]).set a y).set o z)[H.length]? = some (.box (.p (.agg [.nil, c1, c2, c3, c4, c5]))) := by
    rw [List.getElem?_set_ne (by omega), List.getElem?_set_ne (by omega), List.getElem?_append_right (Nat.le_refl _)]; simp
  have hk := nilE_r (m0 := m0) (s := ⟨t, ((H ++ [.box (.p (.agg [.nil, c1, c2, c3, c4, c5])), T]).set a y).set o z⟩) H.length 0 1 3 h1 rfl
  have hl : (((H ++ [AO.box (.p (.agg [.nil, c1, c2, c3, c4, c5])), T]).set a y).set o z).length = H.length + 2 := by simp
  rw [hl] at hk
  exact hk
theorem begun_hc (x : Net) (fs : List Int) (lim : Int) (hx : GoodNet x) (hfs : fs.length ≤ 4096) (hf : fs.any badF = false) (hl : 0 ≤ lim ∧ lim ≤ 4096) {H : List AO} {K : AV → List AO → Prop}
    (hK : ∀ H' m, WH x.rules fs m (fun _ => 0) (begunS x) H' → (∀ y, vN x.rules.length y → H.length ≤ m y) → H.length ≤ H'.length → (∀ o, o < H.length → H'[o]? = H[o]?) → K (.tup [.ptr (m .W) 1 0 0, .i 0]) H') :
    HC Tryz.prog false 26 [.p (netP x), .p (.is fs), .i lim] H K := by
  have hl1 : ¬ lim < 0 := by omega
  have hl2 : ¬ 4096 < lim := by omega
  have a1 : ∀ a, (H ++ [a])[H.length]? = some a := fun a => List.getElem?_concat_length
  have b1 : ∀ b X, (H ++ b :: X)[H.length]? = some b := fun b X => by rw [List.getElem?_append_right (Nat.le_refl _)]; simp
  have b2 : ∀ b c X, (H ++ b :: c :: X)[H.length + 1]? = some c := fun b c X => by rw [List.getElem?_append_right (by omega)]; simp
  have b3 : ∀ b c X d, (H ++ b :: c :: X).set (H.length + 1) d = H ++ b :: d :: X := fun b c X d => by rw [List.set_append_right _ _ (by omega)]; simp
  have b4 : ∀ b c d X, (H ++ b :: c :: d :: X)[H.length + 2]? = some d := fun b c d X => by rw [List.getElem?_append_right (by omega)]; simp
  have b5 : (x.st.length = x.rules.length) = True := eq_true hx.sl
  refine HC_of_W (af := _) ((by exact cfn26 : cfn _ _ _ = some _)) ?_
  simp -implicitDefEqProofs (disch := omega) [c26, List.getElem?_cons_zero, List.getElem?_cons_succ, wrap_id, a1]
  refine HC_of_PC rfl (ncheck_ok x hx) ?_
  simp -implicitDefEqProofs (disch := omega) [List.getElem?_cons_zero, List.getElem?_cons_succ, wrap_id, a1, b1, b2, b3, b4]
  refine HC_of_PC rfl (wcheck_ok fs hfs hf) ?_
  simp -implicitDefEqProofs (disch := omega) [List.getElem?_cons_zero, List.getElem?_cons_succ, wrap_id, a1, hl1, hl2, b1, b2, b3, b4]
  refine HC_of_PC rfl (cloneSt_ok x.st (by have := hx.n12; have := hx.sl; omega)) ?_
  simp -implicitDefEqProofs (disch := omega) [List.getElem?_cons_zero, List.getElem?_cons_succ, wrap_id, a1, b1, b2, b3, b4, b5]
  have hn12 : x.rules.length ≤ 12 := hx.n12
  have hnn : x.rules.length * x.rules.length ≤ 144 := Nat.mul_le_mul hn12 hn12
  have hwl : x.wt.length = x.rules.length := hx.wl
  have hA0 : ∀ X, (H ++ AO.box (.p (netP x)) :: X) = (H ++ [AO.box (.p (netP x))]) ++ X := fun X => by simp
  refine loopW x.rules.length (fun p s => ∃ m H', s = ⟨[(48, .i p), (47, .i x.rules.length), (46, .p (.sl (x.wt.map wtP))), (10, .ptr (H.length + 1) 1 0 0), (3, .ptr H.length 1 0 0)], H'⟩ ∧ m .W = H.length + 1 ∧ BH x fs (H.length + 1) (H ++ [AO.box (.p (netP x))]) m p p (p * x.rules.length) H')
    ((nil4 25 25 99 144 2).trans (Wk_keep [48, 47, 46, 10, 3])) ?_ ?_
  · rw [Nat.zero_mul]
    refine ⟨fun y => match y with | .W => H.length + 1 | .St => H.length + 2 | .Wt => H.length + 3 | .Cn => H.length + 4 | .Ln => H.length + 5 | .Fl => H.length + 6 | _ => 0, _, by rw [hwl]; rfl, rfl, ?_⟩
    refine ⟨fun y z hy hz e => ?_, fun y hy => ?_, fun y hy => ?_, by simp, fun o ho => ?_⟩
    · clear a1 b1 b2 b3 b4 hA0 hK
      cases y <;> cases z <;> first | rfl | (exfalso; simp only [vB, Nat.not_lt_zero] at hy hz; done) | (exfalso; simp only [vB] at hy hz; omega) | (exfalso; dsimp only at e; omega)
    · cases y with
      | W => refine (b2 _ _ _).trans ?_; rw [hx.sl]; rfl
      | St => exact b4 _ _ _ _
      | Wt => show (H ++ _)[H.length + 3]? = _; rw [List.getElem?_append_right (by omega)]; simp; rfl
      | Cn => show (H ++ _)[H.length + 4]? = _; rw [List.getElem?_append_right (by omega)]; simp; rfl
      | Ln => show (H ++ _)[H.length + 5]? = _; rw [List.getElem?_append_right (by omega)]; simp; rfl
      | Fl => show (H ++ _)[H.length + 6]? = _; rw [List.getElem?_append_right (by omega)]; simp; rfl
      | wr p => simp [vB] at hy
      | cr p => simp [vB] at hy
      | lb p => simp [vB] at hy
      | qr p => simp [vB] at hy
    · cases y <;> simp_all [vB]
    · rw [hA0, List.getElem?_append_left (by simpa using ho)]
  rintro p s hp ⟨m, H', rfl, hmW, hB⟩
  have hW := hB.at' .W trivial
  have hT := hB.at' .Wt trivial
  have hC := hB.at' .Cn trivial
  have hA : H'[H.length]? = some (AO.box (.p (netP x))) := (hB.old _ (by omega)).trans (a1 _)
  simp only [hpB, hmW] at hW hT hC
  by_cases hlt : p < x.rules.length
  rotate_left
  · obtain rfl : p = x.rules.length := by omega
    have hfin := hK H' m (hB.done (by have := hx.n1; omega)) (fun y hy => by have := hB.lo y (by cases y <;> exact hy); omega) (by have := hB.le; omega) (fun o ho => by rw [hB.old o (by omega), List.getElem?_append_left ho])
    rw [hmW] at hfin
    simp -implicitDefEqProofs (disch := omega) [List.getElem?_cons_zero, List.getElem?_cons_succ, wrap_id, hwl]
    exact finH trivial rfl hfin
  have aW : ∀ X, (H' ++ X)[H.length + 1]? = _ := fun X => (List.getElem?_append_left (by rw [← hmW]; exact hB.lt (y := .W) trivial)).trans hW
  have aT : ∀ X, (H' ++ X)[m .Wt]? = _ := fun X => (List.getElem?_append_left (hB.lt (y := .Wt) trivial)).trans hT
  have c1 : ∀ b X, (H' ++ b :: X)[H'.length]? = some b := fun b X => by rw [List.getElem?_append_right (Nat.le_refl _)]; simp
  have c2 : ∀ b c X, (H' ++ b :: c :: X)[H'.length + 1]? = some c := fun b c X => by rw [List.getElem?_append_right (by omega)]; simp
  simp -implicitDefEqProofs (disch := omega) [List.getElem?_cons_zero, List.getElem?_cons_succ, wrap_id, hlt, hwl, hW, hT, aW, aT, c1, c2, hA]
  refine HC_of_PC rfl (cloneW_ok x.wt[p]) ?_
  have hp1 : p ≤ 1048575 := by omega
  have lW : H.length + 1 < H'.length := by rw [← hmW]; exact hB.lt (y := .W) trivial
  have lT := hB.lt (y := .Wt) trivial
  have lC := hB.lt (y := .Cn) trivial
  have nWT : ¬ m .Wt = H.length + 1 := by rw [← hmW]; exact hB.ne (y := .Wt) (z := .W) trivial trivial (by simp)
  have nWC : ¬ m .Cn = H.length + 1 := by rw [← hmW]; exact hB.ne (y := .Cn) (z := .W) trivial trivial (by simp)
  have nTC : ¬ m .Wt = m .Cn := hB.ne (y := .Wt) (z := .Cn) trivial trivial (by simp)
  have nWC' : ¬ H.length + 1 = m .Cn := fun e => nWC e.symm
  have f0 : ∀ y X, (H'.set (m .Wt) y ++ X)[m .Wt]? = some y := fun y X => (List.getElem?_append_left (by simp; omega)).trans (List.getElem?_set_self lT)
  have f4 : ∀ y z u X, (((H'.set (m .Wt) y).set (H.length + 1) z).set (m .Cn) u ++ X)[m .Cn]? = some u := fun y z u X => (List.getElem?_append_left (by simp; omega)).trans (List.getElem?_set_self (by simp; omega))
  have p1 : ∀ y X z, (H'.set (m .Wt) y ++ X).set (H.length + 1) z = (H'.set (m .Wt) y).set (H.length + 1) z ++ X := fun y X z => List.set_append_left _ _ (by simp; omega)
  have p2 : ∀ y z X u, ((H'.set (m .Wt) y).set (H.length + 1) z ++ X).set (m .Cn) u = ((H'.set (m .Wt) y).set (H.length + 1) z).set (m .Cn) u ++ X := fun y z X u => List.set_append_left _ _ (by simp; omega)
  have p3 : ∀ y z u X v, (((H'.set (m .Wt) y).set (H.length + 1) z).set (m .Cn) u ++ X).set (H.length + 1) v = (((H'.set (m .Wt) y).set (H.length + 1) z).set (m .Cn) u).set (H.length + 1) v ++ X := fun y z u X v => List.set_append_left _ _ (by simp; omega)
  have f1 : ∀ y X, (H'.set (m .Wt) y ++ X)[H.length + 1]? = _ := fun y X => (List.getElem?_append_left (by simp; omega)).trans ((List.getElem?_set_ne nWT).trans hW)
  have f2 : ∀ y z X, ((H'.set (m .Wt) y).set (H.length + 1) z ++ X)[H.length + 1]? = some z := fun y z X => (List.getElem?_append_left (by simp; omega)).trans (List.getElem?_set_self (by simp; omega))
  have f3 : ∀ y z X, ((H'.set (m .Wt) y).set (H.length + 1) z ++ X)[m .Cn]? = _ := fun y z X => (List.getElem?_append_left (by simp; omega)).trans ((List.getElem?_set_ne nWC').trans ((List.getElem?_set_ne nTC).trans hC))
  have f6 : ∀ y z r t b Y, ((H'.set (m .Wt) y).set (H.length + 1) z ++ r :: t :: b :: Y)[H'.length + 2]? = some b := fun y z r t b Y => by rw [List.getElem?_append_right (by simp)]; simp
  have f7 : ∀ y z r t b c Y, ((H'.set (m .Wt) y).set (H.length + 1) z ++ r :: t :: b :: c :: Y)[H'.length + 3]? = some c := fun y z r t b c Y => by rw [List.getElem?_append_right (by simp)]; simp
  have f8 : ∀ y z u X, (((H'.set (m .Wt) y).set (H.length + 1) z).set (m .Cn) u ++ X)[H.length + 1]? = some z := fun y z u X => (List.getElem?_append_left (by simp; omega)).trans ((List.getElem?_set_ne nWC).trans (List.getElem?_set_self (by simp; omega)))
  have f9 : ∀ y z u v X, ((((H'.set (m .Wt) y).set (H.length + 1) z).set (m .Cn) u).set (H.length + 1) v ++ X)[H.length]? = some (AO.box (.p (netP x))) := fun y z u v X => by
    have h1 := hB.lo .Cn trivial
    have h2 := hB.lo .Wt trivial
    rw [List.getElem?_append_left (by simp; omega), List.getElem?_set_ne (by omega), List.getElem?_set_ne (by omega), List.getElem?_set_ne (by omega), List.getElem?_set_ne (by omega)]
    exact hA
  simp -implicitDefEqProofs (disch := omega) [List.getElem?_cons_zero, List.getElem?_cons_succ, wrap_id, hlt, hwl, hW, hT, aW, aT, c1, c2, hA, hp1, f0, f1, f2, f3, f4, f6, f7, f8, f9, p1, p2, p3]
  have hwr := hB.wr' hmW (r := x.wt[p]) (by rw [List.getD_eq_getElem?_getD, List.getElem?_eq_getElem (by omega)]; rfl) (.tab [.os H'.length 0 1] 25 false)
  rw [List.set_append_left _ _ lT, p1] at hwr
  have hcr := hwr.cr' (o := H.length + 1) hmW (.tab [.os (H'.length + 2) 0 1] 25 false) (q := H'.length + 2) (by simp)
  rw [show upN m (.wr p) H'.length .Cn = m .Cn from rfl, List.append_assoc, p2, p3] at hcr
  refine loopW x.rules.length (fun j s => ∃ m H', s = ⟨[(81, .i j), (80, .i x.rules.length), (48, .i p), (47, .i x.rules.length), (46, .p (.sl (x.wt.map wtP))), (10, .ptr (H.length + 1) 1 0 0), (3, .ptr H.length 1 0 0), (11, .i p)], H'⟩ ∧ m .W = H.length + 1 ∧ BH x fs (H.length + 1) (H ++ [AO.box (.p (netP x))]) m (p + 1) (p + 1) (p * x.rules.length + j) H')
    (Wk_keep [81, 80, 48, 47, 46, 10, 3, 11]) ⟨upN (upN m (.wr p) H'.length) (.cr p) (H'.length + 2), _, rfl, hmW, hcr⟩ ?_
  clear hwr hcr f0 f1 f2 f3 f4 f6 f7 f8 f9 p1 p2 p3 aW aT c1 c2 hT hC hW hA lW lT lC nWT nWC nTC nWC' hmW hB
  clear m H'
  rintro j s hj ⟨m, H', rfl, hmW, hB⟩
  have hW := hB.at' .W trivial
  have hL := hB.at' .Ln trivial
  simp only [hpB, hmW] at hW hL
  by_cases hlj : j < x.rules.length
  rotate_left
  · obtain rfl : j = x.rules.length := by omega
    rw [← Nat.succ_mul] at hB
    simp -implicitDefEqProofs (disch := omega) [List.getElem?_cons_zero, List.getElem?_cons_succ, wrap_id]
    exact round_keep [48, 47, 46, 10, 3] hlt ⟨m, H', rfl, hmW, hB⟩
  have lW : H.length + 1 < H'.length := by rw [← hmW]; exact hB.lt (y := .W) trivial
  have lL := hB.lt (y := .Ln) trivial
  have nWL : ¬ m .Ln = H.length + 1 := by rw [← hmW]; exact hB.ne (y := .Ln) (z := .W) trivial trivial (by simp)
  have aW : ∀ X, (H' ++ X)[H.length + 1]? = _ := fun X => (List.getElem?_append_left lW).trans hW
  have aL : ∀ X, (H' ++ X)[m .Ln]? = _ := fun X => (List.getElem?_append_left lL).trans hL
  have c1 : ∀ b X, (H' ++ b :: X)[H'.length]? = some b := fun b X => by rw [List.getElem?_append_right (Nat.le_refl _)]; simp
  have c2 : ∀ b c X, (H' ++ b :: c :: X)[H'.length + 1]? = some c := fun b c X => by rw [List.getElem?_append_right (by omega)]; simp
  have f0 : ∀ X y, ((H' ++ X).set (m .Ln) y)[m .Ln]? = some y := fun X y => List.getElem?_set_self (by simp; omega)
  have f1 : ∀ X y, ((H' ++ X).set (m .Ln) y)[H.length + 1]? = _ := fun X y => (List.getElem?_set_ne nWL).trans (aW X)
  have hlo := hB.lo .Ln trivial
  have c3 : ∀ b X y z, (((H' ++ b :: X).set (m .Ln) y).set (H.length + 1) z)[H'.length]? = some b := fun b X y z => by rw [List.getElem?_set_ne (by omega), List.getElem?_set_ne (by omega)]; exact c1 b X
  have hp1 : p * x.rules.length + j ≤ 1048575 := by
    have := ixlt hlt hlj; omega
  have hlN := hB.line' hmW (.box (.p (.agg [.nil, .i 0, .i 0, .i p, .i j, .i 0]))) (.tab [.ptr H'.length 1 0 0] 99 false)
  have hnl := @lineNil H.length
  have hdv : ln0 x.rules.length (p * x.rules.length + j) = ⟨0, 0, 0, p, j, 0⟩ := by
    unfold ln0
    rw [Nat.add_comm, Nat.add_mul_div_right _ _ (by omega), Nat.div_eq_of_lt hlj, Nat.zero_add, Nat.add_mul_mod_self_right, Nat.mod_eq_of_lt hlj]
  rw [hdv] at hlN
  have hlL := hB.lt (y := .Ln) trivial
  have hlW : H.length + 1 < H'.length := lW
  have hnl : ∀ {t T y z c1 c2 c3 c4 c5}, _ := fun {t T y z c1 c2 c3 c4 c5} => @lineNil H.length t H' T y z c1 c2 c3 c4 c5 (m .Ln) (H.length + 1) hlL hlW
  clear lW lL hlo hlL hlW
  simp -implicitDefEqProofs (disch := omega) [List.getElem?_cons_zero, List.getElem?_cons_succ, wrap_id, hlj, hW, hL, aW, aL, c1, c2, f0, f1, hp1]
  refine round_end' hlj (hnl.trans (Wk_keep [81, 80, 48, 47, 46, 10, 3, 11])) ⟨_, _, rfl, ?_, hlN⟩
  exact hmW
end Go.Proofs.YtekniokkmgencaaGreat
end
section
set_option linter.unusedSimpArgs false
set_option linter.unusedVariables false
namespace Go.Proofs.YtekniokkmgencaaGreat
open Go.Abs Go.Sand
section
variable {R : List (List Rl)} {fs : List Int} {m : Nm → Nat} {off : Nat → Nat} {w : WS} {H : List AO} {K : AV → List AO → Prop}
def quN (w : WS) : Nat → Nat
  | 0 => 0
  | k + 1 => quN w k + (lnAt w k).q
theorem quN_le (w : WS) (Q : Nat) (hq : ∀ k, (lnAt w k).q ≤ Q) : ∀ k, quN w k ≤ k * Q
  | 0 => by simp [quN]
  | k + 1 => by have := quN_le w Q hq k; have := hq k; rw [quN, Nat.succ_mul]; omega
abbrev snA (R : List (List Rl)) (m : Nm → Nat) (w : WS) (q : Int) : AV := .agg [.p (.sl (R.map procP)), .os (m .St) 0 R.length, .os (m .Wt) 0 R.length, .os (m .Cn) 0 R.length, .p (.i w.tk), .p (.i w.sent), .p (.i w.fl.length), .p (.i q)]
theorem seen_hc (h : WH R fs m off w H) {o : Nat} (ho : m .W = o) (h1 : 1 ≤ R.length) (hn : R.length ≤ 12) (hR : GoodR R) (hwl : w.st.length = R.length) (hq : ∀ k, (lnAt w k).q ≤ 1000000)
    (hK : ∀ H', WH R fs m off w H' → Nxt R.length m H m H' → K (snA R m w (quN w (R.length * R.length))) H') :
    HC Tryz.prog false 29 [.ptr o 1 0 0] H K := by
  subst ho
  have hW := h.at' .W trivial
  have hF := h.at' .Fl trivial
  have hSt := h.at' .St trivial
  have hWt := h.at' .Wt trivial
  have hCn := h.at' .Cn trivial
  have hLn := h.at' .Ln trivial
  simp only [hpC] at hW hF hSt hWt hCn hLn
  have hnn : R.length * R.length ≤ 144 := Nat.mul_le_mul hn hn
  have hSL : (R.length = w.st.length) = True := eq_true hwl.symm
  have a1 : ∀ X, (H ++ X)[m .W]? = _ := fun X => (List.getElem?_append_left (h.lt (x := .W) trivial)).trans hW
  have a2 : ∀ X, (H ++ X)[m .Fl]? = _ := fun X => (List.getElem?_append_left (h.lt (x := .Fl) trivial)).trans hF
  have a3 : ∀ X, (H ++ X)[m .St]? = _ := fun X => (List.getElem?_append_left (h.lt (x := .St) trivial)).trans hSt
  have a4 : ∀ X, (H ++ X)[m .Wt]? = _ := fun X => (List.getElem?_append_left (h.lt (x := .Wt) trivial)).trans hWt
  have a5 : ∀ X, (H ++ X)[m .Cn]? = _ := fun X => (List.getElem?_append_left (h.lt (x := .Cn) trivial)).trans hCn
  have a6 : ∀ X, (H ++ X)[m .Ln]? = _ := fun X => (List.getElem?_append_left (h.lt (x := .Ln) trivial)).trans hLn
  have b1 : ∀ b X, (H ++ b :: X)[H.length]? = some b := fun b X => by rw [List.getElem?_append_right (Nat.le_refl _)]; simp
  have b2 : ∀ b c, (H ++ [b, c])[H.length + 1]? = some c := fun b c => by rw [List.getElem?_append_right (by omega)]; simp
  have b3 : ∀ b c d, (H ++ [b, c]).set (H.length + 1) d = H ++ [b, d] := fun b c d => by simp
  have b4 : ∀ b c d, (H ++ [b, c]).set H.length d = H ++ [d, c] := fun b c d => by simp
  refine HC_of_W (af := _) ((by exact cfn29 : cfn _ _ _ = some _)) ?_
  simp -implicitDefEqProofs (disch := omega) [c29, List.getElem?_cons_zero, List.getElem?_cons_succ, wrap_id, hW, hF, hSt, hWt, hCn, hLn, hSL, a1, a2, a3, a4, a5, a6, b1, b2, b3, b4]
  have hql := quN_le w 1000000 hq
  refine loopW (R.length * R.length) (fun k s => s = ⟨[(33, .i k), (32, .i (R.length * R.length : Nat)), (31, .os (m .Ln) 0 (R.length * R.length)), (0, .ptr (m .W) 1 0 0), (2, .ptr H.length 1 0 0), (3, .ptr (H.length + 1) 1 0 0)], H ++ [.box (.p (.agg [.nil, .nil, .nil, .nil, .i 0, .i 0, .i 0, .i 0])), .box (snA R m w (quN w k))]⟩) (Wk_keep [33, 32, 31, 0, 2, 3]) (by simp [Abs.get, quN]) ?_
  rintro k s hk rfl
  by_cases hlt : k < R.length * R.length
  · have hlI : (k : Int) < (R.length : Int) * R.length := by rw [← Int.natCast_mul]; omega
    have hrz : (List.range (R.length * R.length))[k]? = some k := List.getElem?_range hlt
    obtain ⟨l, hl⟩ : ∃ l, l = lnAt w k := ⟨_, rfl⟩
    have hB := h.at' (.lb k) hlt
    have hQ := h.at' (.qr k) hlt
    simp only [hpC, ← hl] at hB hQ
    have c1 : ∀ X, (H ++ X)[m (.lb k)]? = _ := fun X => (List.getElem?_append_left (h.lt (x := .lb k) hlt)).trans hB
    have c2 : ∀ X, (H ++ X)[m (.qr k)]? = _ := fun X => (List.getElem?_append_left (h.lt (x := .qr k) hlt)).trans hQ
    have q1 := hql k
    have q2 : quN w k ≤ 144 * 1000000 := Nat.le_trans q1 (Nat.mul_le_mul_right _ (by omega))
    have q3 := hq k
    rw [← hl] at q3
    simp -implicitDefEqProofs (disch := omega) [List.getElem?_cons_zero, List.getElem?_cons_succ, wrap_id, hlt, hlI, hrz, a1, a6, b1, b2, b3, b4, c1, c2]
    refine round_keep [33, 32, 31, 0, 2, 3] hlt ?_
    simp [Abs.get, quN, ← hl]
  · obtain rfl : k = R.length * R.length := by omega
    have hlI : ¬ ((R.length * R.length : Nat) : Int) < (R.length : Int) * R.length := by rw [← Int.natCast_mul]; omega
    simp -implicitDefEqProofs (disch := omega) [List.getElem?_cons_zero, List.getElem?_cons_succ, wrap_id, a1, b1, b2, b3, b4]
    refine HC_of_PC rfl (copied_ok R h1 hn (fun P hP => ⟨(hR P hP).1, (hR P hP).2.1, fun r hr => ((hR P hP).2.2 r hr).2.1⟩)) ?_
    simp -implicitDefEqProofs (disch := omega) [List.getElem?_cons_zero, List.getElem?_cons_succ, wrap_id, a1, a3, a4, a5, hSt, hWt, hCn, hSL, b1, b2, b3, b4]
    refine finH trivial (by simp [resOf, Abs.resL, res1, resT, astep, aev, Abs.get, b1, partA]) (hK _ (h.app _) (Nxt.app _))
end
end Go.Proofs.YtekniokkmgencaaGreat
end
