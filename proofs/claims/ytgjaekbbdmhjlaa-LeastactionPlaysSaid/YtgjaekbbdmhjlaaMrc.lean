/-
  Contracts: scripts, firing, borrowing, in both.
-/
import Derived.Test.YtgjaekbbdmhjlaaMrb
set_option linter.unusedSimpArgs false
namespace Go.Proofs.Ytgjaekbbdmhjlaa
open Go.Abs Go.Sand

theorem subE_ok {N : Int} {es : List Ed} {d set : List Int} (h : subE N es d set = 0) : givenE N es d = 0 ∧ subErr N (-1) set = 0 := by
  unfold subE at h
  split at h
  · rename_i hn; exact absurd h hn
  · rename_i hn; exact ⟨by simpa using hn, h⟩
section
variable (N : Int) (es : List Ed) (d s set : List Int) (he : es.length ≤ 1000) (hd : d.length ≤ 4611686018427387904) (hs : s.length ≤ 4611686018427387904) (hset : set.length ≤ 4611686018427387904)
include he hd
def fireM (es : List Ed) (N : Int) (set : List Int) (t : Int) (d : List Int) : List Int := movedE es (ofL N.toNat set t) d
end
end Go.Proofs.Ytgjaekbbdmhjlaa
/-
  Contracts: is a firing legal?
-/
set_option linter.unusedSimpArgs false
namespace Go.Proofs.Ytgjaekbbdmhjlaa
open Go.Abs Go.Sand

theorem first_at : ∀ (xs : List Int) (v : Int), v ∈ xs → ∃ i, ∃ h : i < xs.length, xs[i] = v ∧ ∀ j, ∀ hj : j < i, xs[j] ≠ v
  | x :: xs, v, h => by
    by_cases e : x = v
    · exact ⟨0, by simp, e, fun j hj => by omega⟩
    · obtain ⟨i, hi, h1, h2⟩ := first_at xs v ((List.mem_cons.1 h).resolve_left fun h => e h.symm)
      refine ⟨i + 1, by simpa using hi, h1, fun j hj => ?_⟩
      cases j with
      | zero => exact e
      | succ j => exact h2 j (by omega)
section
variable {f : FuncId} {fs cs : List AV} {H : List AO} {p : Int → Bool} {R : AV → List AO → Prop}
theorem idxfI_ok (xs : List Int) (hx : xs.length ≤ 4611686018427387904) (hc : callable Try.prog f = true) (hf : ∀ k ∈ xs, ∀ K, K (.b (p k)) H → HC Try.prog false f (fs ++ .i k :: cs) H K) (hR : ∀ i : Int, (0 ≤ i ↔ xs.any p = true) → R (.i i) H) :
    HC Try.prog false 107 [.p (.is xs), .fn (.func f) fs cs] H R := by
  refine HC_of_W (af := _) ((by exact cfn107 : cfn _ _ _ = some _)) ?_
  simp -implicitDefEqProofs (disch := omega) [c107, List.getElem?_cons_zero, List.getElem?_cons_succ, wrap_id]
  refine loopW xs.length (fun k s => s = ⟨[(8, .i k), (7, .i xs.length), (6, .p (.is xs)), (0, .p (.is xs)), (1, .fn (.func f) fs cs)], H⟩ ∧ xs.any p = (xs.drop k).any p) (Wk_keep [8, 7, 6, 0, 1]) ⟨rfl, rfl⟩ ?_
  rintro k s hk ⟨rfl, hI⟩
  by_cases hlt : k < xs.length
  · have hd := drop_any p xs k hlt
    simp -implicitDefEqProofs (disch := omega) [List.getElem?_cons_zero, List.getElem?_cons_succ, wrap_id, hlt]
    refine ⟨hc, ?_⟩
    refine hf _ (List.getElem_mem hlt) _ ?_
    cases hv : p xs[k]
    · rw [hv] at hd
      simp -implicitDefEqProofs (disch := omega) [List.getElem?_cons_zero, List.getElem?_cons_succ, wrap_id]
      exact round_keep [8, 7, 6, 0, 1] hlt ⟨rfl, by rw [hI, hd]; rfl⟩
    · rw [hv] at hd
      simp -implicitDefEqProofs (disch := omega) [List.getElem?_cons_zero, List.getElem?_cons_succ, wrap_id]
      exact finH trivial rfl (hR _ (by rw [hI, hd]; simp))
  · simp -implicitDefEqProofs (disch := omega) [List.getElem?_cons_zero, List.getElem?_cons_succ, wrap_id, hlt]
    exact finH trivial rfl (hR _ (by rw [hI, List.drop_of_length_le (Nat.le_of_not_lt hlt)]; simp))
theorem hasfI_ok (xs : List Int) (hx : xs.length ≤ 4611686018427387904) (hc : callable Try.prog f = true) (hf : ∀ k ∈ xs, ∀ K, K (.b (p k)) H → HC Try.prog false f (fs ++ .i k :: cs) H K) (hR : R (.b (xs.any p)) H) :
    HC Try.prog false 87 [.p (.is xs), .fn (.func f) fs cs] H R := by
  refine HC_of_W (af := _) ((by exact cfn87 : cfn _ _ _ = some _)) ?_
  simp -implicitDefEqProofs (disch := omega) [c87, List.getElem?_cons_zero, List.getElem?_cons_succ, wrap_id]
  refine idxfI_ok xs hx hc hf fun i hi => ?_
  by_cases h : 0 ≤ i
  · have hv := hi.1 h
    rw [hv] at hR
    simp -implicitDefEqProofs (disch := omega) [List.getElem?_cons_zero, List.getElem?_cons_succ, wrap_id, h]
    exact finH trivial rfl hR
  · have hv : xs.any p = false := by cases hq : xs.any p; rfl; exact absurd (hi.2 hq) h
    rw [hv] at hR
    simp -implicitDefEqProofs (disch := omega) [List.getElem?_cons_zero, List.getElem?_cons_succ, wrap_id, h]
    exact finH trivial rfl hR
end
end Go.Proofs.Ytgjaekbbdmhjlaa
/-
  Contracts: is the firing of a set legal?
-/
set_option linter.unusedSimpArgs false
namespace Go.Proofs.Ytgjaekbbdmhjlaa
open Go.Abs Go.Sand

theorem leaves_snoc (es : List Ed) (set : List Int) (k : Nat) (h : k < es.length) : leaves (es.take (k + 1)) set = (leaves (es.take k) set || (decide (es[k].a ∈ set) != decide (es[k].b ∈ set))) := by
  unfold leaves
  rw [List.take_succ_eq_append_getElem h, List.any_append]
  simp
theorem lost_bd {n : Nat} {es : List Ed} (h : ∀ x ∈ es, Right n x) (he : es.length ≤ 1000) (set : List Int) (k p : Nat) (hp : p < n) (hl : p < (lostL n (es.take k) set).length) : 0 ≤ (lostL n (es.take k) set)[p] ∧ (lostL n (es.take k) set)[p] ≤ 50000 := by
  have h1 := lostV_bd (n := n) (es := es.take k) (fun x hx => h x (List.mem_of_mem_take hx)) set p
  have h2 := lostL_getD n (es.take k) set p hp
  have h3 : (es.take k).length ≤ 1000 := by rw [List.length_take]; omega
  rw [getD_get hl] at h2
  rw [h2]
  omega
end Go.Proofs.Ytgjaekbbdmhjlaa
/-
  Contracts: playing, in package firing.
-/
set_option linter.unusedSimpArgs false
namespace Go.Proofs.Ytgjaekbbdmhjlaa
open Go.Abs Go.Sand

theorem finR {m0 : Nat} {rs : List ARes} {R : AV → List AO → Prop} {s : St} {x : AV} {e : AExit} (σ : List Nat) (he : match e with | .exit _ => False | _ => True) (h : resOf s rs = some x) (hσ : okσ σ m0 s.H = true) (hR : R (x.ren s.H (idx σ 0)) (renH σ s.H)) :
    Abs.Fin m0 rs R e s := ⟨he, .inl ⟨s, x, σ, Wk.refl _ _, h, hσ, hR⟩⟩
theorem cloneP_ok (xs : List Int) (hx : xs.length ≤ 1000000) : PC Try.prog 64 [.is xs] (.p (.is xs)) [] := by
  refine PC_of_W cfn64 ?_
  simp -implicitDefEqProofs (disch := omega) [c64, List.getElem?_cons_zero, List.getElem?_cons_succ, wrap_id, stepK_eqn, eqnP]
  have hx' : xs.length ≤ 1048576 := by omega
  refine ⟨?_, ?_⟩
  · rintro rfl
    refine finW (Wk_nil0 2 rfl) ?_
    (refine fin0 trivial rfl ?_; simp -implicitDefEqProofs (disch := omega) [List.getElem?_cons_zero, List.getElem?_cons_succ, idx, wrap_id])
  · simp -implicitDefEqProofs (disch := omega) [List.getElem?_cons_zero, List.getElem?_cons_succ, wrap_id, hx']
    (refine fin0 trivial rfl ?_; simp -implicitDefEqProofs (disch := omega) [List.getElem?_cons_zero, List.getElem?_cons_succ, idx, wrap_id])
abbrev HG (n : Nat) (es : List Ed) (d : List Int) : List AO := [.box (.p (.agg [.i n, .sl (es.map edP), .is d]))]
theorem may_ok (n v : Nat) (es : List Ed) (d : List Int) (hg : gcheck n es = 0) (hv : v < n) (hd : d.length = n) (he : es.length ≤ 1000) {R : AV → List AO → Prop} (hR : R (.b (mayB es d v)) (HG n es d)) :
    HC Try.prog false 65 [.ptr 0 1 0 0, .i v] (HG n es d) R := by
  refine HC_of_W (af := _) ((by exact cfn65 : cfn _ _ _ = some _)) ?_
  have hvd : v < d.length := by omega
  simp -implicitDefEqProofs (disch := omega) [c65, List.getElem?_cons_zero, List.getElem?_cons_succ, wrap_id]
  refine HC_of_PC rfl (val_ok n es v hg (vtx_iff.2 (by omega)) he) ?_
  by_cases h1 : 0 < valS es v
  · by_cases h2 : valS es v ≤ d[v]
    · have hm : mayB es d v = true := by simp [mayB, h1, h2, hvd]
      rw [hm] at hR
      simp -implicitDefEqProofs (disch := omega) [List.getElem?_cons_zero, List.getElem?_cons_succ, wrap_id, h1, h2, hvd]
      exact finH trivial rfl hR
    · have hm : mayB es d v = false := by simp [mayB, h1, h2, hvd]
      rw [hm] at hR
      simp -implicitDefEqProofs (disch := omega) [List.getElem?_cons_zero, List.getElem?_cons_succ, wrap_id, h1, h2, hvd]
      exact finH trivial rfl hR
  · have hm : mayB es d v = false := by simp [mayB, h1]
    rw [hm] at hR
    simp -implicitDefEqProofs (disch := omega) [List.getElem?_cons_zero, List.getElem?_cons_succ, wrap_id, h1]
    exact finH trivial rfl hR
theorem gfire_ok (n v : Nat) (es : List Ed) (d : List Int) (hg : gcheck n es = 0) (hv : v < n) (hd : d.length = n) (he : es.length ≤ 1000) (hb : Bd 1048576 d) {R : AV → List AO → Prop} (hR : R (.tup []) (HG n es (movedE es (ofL n [(v : Int)] 1) d))) :
    HC Try.prog false 66 [.ptr 0 1 0 0, .i v] (HG n es d) R := by
  have hgg := gcheck_ok hg
  have hn := hgg.n12
  refine HC_of_W (af := _) ((by exact cfn66 : cfn _ _ _ = some _)) ?_
  simp -implicitDefEqProofs (disch := omega) [c66, List.getElem?_cons_zero, List.getElem?_cons_succ, wrap_id]
  refine HC_of_PC rfl (of_ok n es [(v : Int)] 1 (by omega) (by simp; omega) (by simp)) ?_
  simp -implicitDefEqProofs (disch := omega) [List.getElem?_cons_zero, List.getElem?_cons_succ, wrap_id]
  refine HC_of_PC rfl (moved_ok n es _ d hgg.right (ofL_length _ _ _) hd (by omega) he (ofL_bd _ _ _ (by omega)) (hb.more (by omega))) ?_
  simp -implicitDefEqProofs (disch := omega) [List.getElem?_cons_zero, List.getElem?_cons_succ, wrap_id]
  exact finR [0] trivial rfl rfl hR
abbrev HN (N : Int) (es : List Ed) : List AO := [.box (.p (G N es))]
theorem listed1_ok (N : Int) (es : List Ed) (v : Int) {R : AV → List AO → Prop} (hR : R (.b (!vtx N v)) (HN N es)) :
    HC Try.prog false 88 [.i v, .ptr 0 1 0 0] (HN N es) R := by
  refine HC_of_W (af := _) ((by exact cfn88 : cfn _ _ _ = some _)) ?_
  by_cases h1 : v < 0
  · have hv : vtx N v = false := vtx_not.2 (by omega)
    rw [hv] at hR
    simp -implicitDefEqProofs (disch := omega) [c88, List.getElem?_cons_zero, List.getElem?_cons_succ, wrap_id, h1]
    exact finH trivial rfl hR
  by_cases h2 : N ≤ v
  · have hv : vtx N v = false := vtx_not.2 (by omega)
    rw [hv] at hR
    simp -implicitDefEqProofs (disch := omega) [c88, List.getElem?_cons_zero, List.getElem?_cons_succ, wrap_id, h1, h2]
    exact finH trivial rfl hR
  · have hv : vtx N v = true := vtx_iff.2 (by omega)
    rw [hv] at hR
    simp -implicitDefEqProofs (disch := omega) [c88, List.getElem?_cons_zero, List.getElem?_cons_succ, wrap_id, h1, h2]
    exact finH trivial rfl hR
theorem listed_ok (N : Int) (es : List Ed) (ms : List Int) (hm : ms.length ≤ 4611686018427387904) : PC Try.prog 63 [G N es, .is ms] (.i (listE N ms)) [] := by
  refine PC_of_W cfn63 ?_
  by_cases h1 : (4096 : Int) < ms.length
  · have h1' : 4096 < ms.length := by omega
    simp -implicitDefEqProofs (disch := omega) [c63, List.getElem?_cons_zero, List.getElem?_cons_succ, wrap_id, h1]
    (refine fin0 trivial rfl ?_; simp -implicitDefEqProofs (disch := omega) [List.getElem?_cons_zero, List.getElem?_cons_succ, idx, wrap_id, listE, h1'])
  have h1' : ¬ 4096 < ms.length := by omega
  simp -implicitDefEqProofs (disch := omega) [c63, List.getElem?_cons_zero, List.getElem?_cons_succ, wrap_id, h1]
  refine hasfI_ok (p := fun v => !vtx N v) ms hm (by kernel_rfl) (fun k _ K hK => listed1_ok N es k hK) ?_
  rw [any_not]
  cases hv : ms.all (vtx N)
  · simp -implicitDefEqProofs (disch := omega) [List.getElem?_cons_zero, List.getElem?_cons_succ, wrap_id]
    (refine fin0 trivial rfl ?_; simp -implicitDefEqProofs (disch := omega) [List.getElem?_cons_zero, List.getElem?_cons_succ, idx, wrap_id, listE, h1', hv])
  · simp -implicitDefEqProofs (disch := omega) [List.getElem?_cons_zero, List.getElem?_cons_succ, wrap_id]
    (refine fin0 trivial rfl ?_; simp -implicitDefEqProofs (disch := omega) [List.getElem?_cons_zero, List.getElem?_cons_succ, idx, wrap_id, listE, h1', hv])
theorem play_ok (N : Int) (es : List Ed) (d ms : List Int) (he : es.length ≤ 1000) (hd : d.length ≤ 4611686018427387904) (hm : ms.length ≤ 4611686018427387904) :
    PC Try.prog 36 [G N es, .is d, .is ms] (.tup [.p (.is (playE N es d ms).1), .i (playE N es d ms).2.1, .i (playE N es d ms).2.2]) [] := by
  refine PC_of_W cfn36 ?_
  simp -implicitDefEqProofs (disch := omega) [c36, List.getElem?_cons_zero, List.getElem?_cons_succ, wrap_id]
  refine HC_of_PC rfl (given_ok' N es d (by omega) hd) ?_
  by_cases h0 : givenE N es d = 0
  rotate_left
  · have hp : playE N es d ms = ([], 0, givenE N es d) := by rw [playE, if_pos h0]
    simp -implicitDefEqProofs (disch := omega) [List.getElem?_cons_zero, List.getElem?_cons_succ, wrap_id, h0]
    refine finW (Wk_nil0 6 rfl) ?_
    (refine fin0 trivial rfl ?_; simp -implicitDefEqProofs (disch := omega) [List.getElem?_cons_zero, List.getElem?_cons_succ, idx, wrap_id, hp])
  simp -implicitDefEqProofs (disch := omega) [List.getElem?_cons_zero, List.getElem?_cons_succ, wrap_id, h0]
  refine HC_of_PC rfl (listed_ok N es ms hm) ?_
  by_cases h1 : listE N ms = 0
  rotate_left
  · have hp : playE N es d ms = ([], 0, listE N ms) := by rw [playE, if_neg (by simp [h0]), if_pos h1]
    simp -implicitDefEqProofs (disch := omega) [List.getElem?_cons_zero, List.getElem?_cons_succ, wrap_id, h1]
    refine finW (Wk_nil0 6 rfl) ?_
    (refine fin0 trivial rfl ?_; simp -implicitDefEqProofs (disch := omega) [List.getElem?_cons_zero, List.getElem?_cons_succ, idx, wrap_id, hp])
  have hp : playE N es d ms = playL N.toNat es d ms 0 := by rw [playE, if_neg (by simp [h0]), if_neg (by simp [h1])]
  obtain ⟨n, rfl, hg, hl, hb, hn1, hn⟩ := given_ok h0
  have hgc := given_gcheck h0
  have hms := (list_ok h1).1
  simp -implicitDefEqProofs (disch := omega) [List.getElem?_cons_zero, List.getElem?_cons_succ, wrap_id, h1]
  refine HC_of_PC rfl (cloneP_ok d (by omega)) ?_
  simp -implicitDefEqProofs (disch := omega) [List.getElem?_cons_zero, List.getElem?_cons_succ, wrap_id]
  refine loopW ms.length (fun k s => ∃ d' : List Int, s = ⟨[(38, .i k), (37, .i ms.length), (36, .p (.is ms)), (12, .fn (.func 65) [.ptr 0 1 0 0] []), (11, .ptr 0 1 0 0), (2, .p (.is ms))], HG n es d'⟩ ∧ d'.length = n ∧ Bd 1048576 d' ∧ playL n es d ms 0 = playL n es d' (ms.drop k) k) (wk_norm [1] [38, 37, 36, 12, 11, 2] rfl rfl) ⟨d, rfl, hl, hb, rfl⟩ ?_
  rintro k s hk ⟨d', rfl, hl', hb', hI⟩
  by_cases hlt : k < ms.length
  rotate_left
  · rw [List.drop_of_length_le (Nat.le_of_not_lt hlt)] at hI
    have hk' : (k : Int) = ms.length := by omega
    simp -implicitDefEqProofs (disch := omega) [List.getElem?_cons_zero, List.getElem?_cons_succ, wrap_id, hlt]
    (refine fin0 trivial rfl ?_; simp -implicitDefEqProofs (disch := omega) [List.getElem?_cons_zero, List.getElem?_cons_succ, idx, wrap_id, hp, hI, playL, hk'])
  obtain ⟨v, hv⟩ : ∃ v : Nat, ms[k] = v := ⟨ms[k].toNat, by have := hms _ (List.getElem_mem hlt); omega⟩
  have hvn : v < n := by have := hms _ (List.getElem_mem hlt); omega
  rw [List.drop_eq_getElem_cons hlt, hv] at hI
  simp -implicitDefEqProofs (disch := omega) [List.getElem?_cons_zero, List.getElem?_cons_succ, wrap_id, hlt, hv]
  refine ⟨by kernel_rfl, may_ok n v es d' hgc hvn hl' he ?_⟩
  cases h2 : mayB es d' v
  · rw [playL_no h2] at hI
    simp -implicitDefEqProofs (disch := omega) [List.getElem?_cons_zero, List.getElem?_cons_succ, wrap_id]
    refine finW (Wk_nil0 6 rfl) ?_
    (refine fin0 trivial rfl ?_; simp -implicitDefEqProofs (disch := omega) [List.getElem?_cons_zero, List.getElem?_cons_succ, idx, wrap_id, hp, hI])
  simp -implicitDefEqProofs (disch := omega) [List.getElem?_cons_zero, List.getElem?_cons_succ, wrap_id]
  refine gfire_ok n v es d' hgc hvn hl' he hb' ?_
  simp -implicitDefEqProofs (disch := omega) [List.getElem?_cons_zero, List.getElem?_cons_succ, wrap_id]
  refine HC_of_PC rfl (bounded_ok _ (by rw [movedE_length]; omega)) ?_
  by_cases h3 : bndE (movedE es (ofL n [(v : Int)] 1) d') = 0
  · rw [playL_go h2 h3] at hI
    simp -implicitDefEqProofs (disch := omega) [List.getElem?_cons_zero, List.getElem?_cons_succ, wrap_id, Sand.res_ok, h3]
    exact round_end [0] [38, 37, 36, 12, 11, 2] hlt rfl ⟨_, rfl, by rw [movedE_length, hl'], (bnd_ok h3).1, hI⟩
  · rw [playL_large h2 h3] at hI
    simp -implicitDefEqProofs (disch := omega) [List.getElem?_cons_zero, List.getElem?_cons_succ, wrap_id, Sand.res_ok, h3]
    refine finW (Wk_nil0 6 rfl) ?_
    (refine fin0 trivial rfl ?_; simp -implicitDefEqProofs (disch := omega) [List.getElem?_cons_zero, List.getElem?_cons_succ, idx, wrap_id, hp, hI])
end Go.Proofs.Ytgjaekbbdmhjlaa
