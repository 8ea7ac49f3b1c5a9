/-
  Texts joined: Wc Mrc Aca We.
-/
import Derived.Test.YtamiekhoaggpkaaKf24

section
set_option linter.unusedSimpArgs false
set_option linter.unusedVariables false
namespace Go.Proofs.Ytamiekhoaggpkaa
open Go.Abs Go.Sand
theorem valsL_at {n : Nat} {es : List Ed} {v : Nat} (h : v < (valsL n es).length) : (valsL n es)[v] = valTo es v n := by simp [valsL]
theorem rowL_at {n : Nat} {es : List Ed} {u v : Nat} (h : v < (rowL n es u).length) : (rowL n es u)[v] = joinE es u v := by simp [rowL]
theorem rowL_len (n : Nat) (es : List Ed) (u : Nat) : (rowL n es u).length = n := by simp [rowL]
theorem rowsL_len (n : Nat) (es : List Ed) : (rowsL n es).length = n := by simp [rowsL]
theorem rowsL_at {n : Nat} {es : List Ed} {u : Nat} (h : u < (rowsL n es).length) : (rowsL n es)[u] = rowL n es u := by simp [rowsL]
/-- A board among the objects. -/
def BdH (n : Nat) (es : List Ed) (q : Int) (o : Nat) (H : List AO) : Prop := H[o]? = some (.box (.agg [.p (.is (valsL n es)), .p (.iss (rowsL n es)), .i q]))
theorem BdH.app {n : Nat} {es : List Ed} {q : Int} {o : Nat} {H : List AO} (h : BdH n es q o H) (L : List AO) : BdH n es q o (H ++ L) := by
  unfold BdH at h ⊢
  rw [List.getElem?_append_left (List.getElem?_eq_some_iff.1 h).1]; exact h
section
variable {n : Nat} {es : List Ed} (hg : GoodG n es) {q : Int} {c : List Int} {o : Nat} {H : List AO} {K : AV → List AO → Prop}
include hg
set_option maxRecDepth 10000 in
theorem qready_ok (hb : BdH n es q o H) (hc : c.length = n) (hK : ∀ G, K (.os H.length 0 (rdyL n es q c).length) (H ++ rowI (rdyL n es q c) :: G)) :
    HC Try.prog false 44 [.ptr o 1 0 0, .p (.is c)] H K := by
  have hn := hg.n12
  have ho : H[o]? = _ := hb
  have hvl := valsL_len n es
  refine HC_of_W (af := _) ((by exact cfn44 : cfn _ _ _ = some _)) ?_
  simp -implicitDefEqProofs (disch := omega) [c44, List.getElem?_cons_zero, List.getElem?_cons_succ, wrap_id, ho, hvl]
  refine loopW n (fun k st => ∃ G, st = ⟨[(13, .i k), (12, .i n), (11, .p (.is (valsL n es))), (5, .os H.length 0 (rdyK n es q c k).length), (0, .ptr o 1 0 0), (1, .p (.is c))], H ++ rowI (rdyK n es q c k) :: G⟩) ?_ ⟨[], rfl⟩ ?_
  · exact (Wk_nil 5 1 3 rfl).trans (Wk_keep [13, 12, 11, 5, 0, 1])
  rintro k st hk ⟨G, rfl⟩
  have hrl := rdyK_len (n := n) (es := es) (q := q) c k
  by_cases hlt : k < n
  · obtain ⟨H1, hH1⟩ : ∃ H1, H1 = H ++ rowI (rdyK n es q c k) :: G := ⟨_, rfl⟩
    have hb1 : BdH n es q o H1 := hH1 ▸ hb.app _
    have ho1 : H1[o]? = _ := hb1
    have hr1 : H1[H.length]? = some (rowI (rdyK n es q c k)) := by rw [hH1]; simp
    have hlt1 : H.length < H1.length := by rw [hH1]; simp
    have f1 : ∀ y, (H1 ++ [y])[H1.length]? = some y := fun y => by simp
    have f2 : ∀ y, (H1 ++ [y])[H.length]? = some (rowI (rdyK n es q c k)) := fun y => by rw [List.getElem?_append_left hlt1]; exact hr1
    have f3 : ∀ y z, (H1 ++ [y]).set H.length z = H ++ z :: (G ++ [y]) := fun y z => by rw [hH1]; simp
    have hkv : k < (valsL n es).length := by omega
    have hkc : k < c.length := by omega
    have hva := valsL_at hkv
    have hk20 : (rdyK n es q c k).length + 1 ≤ 1048576 := by omega
    have hs := rdyK_succ (n := n) (es := es) (q := q) c k
    rw [← hH1]
    by_cases h1 : (k : Int) = q
    · subst h1
      have hbk : rdyB n es k c k = false := by simp [rdyB]
      have hs' : rdyK n es k c (k + 1) = rdyK n es k c k := by rw [hs, hbk]; simp
      simp -implicitDefEqProofs (disch := omega) [List.getElem?_cons_zero, List.getElem?_cons_succ, wrap_id, hlt, ho1, hvl, hkv, hva]
      exact round_keep [13, 12, 11, 5, 0, 1] hlt ⟨G, by rw [hs', ← hH1]; rfl⟩
    · by_cases h2 : 0 < valTo es k n
      · by_cases h3 : valTo es k n ≤ c[k]
        · have hbk : rdyB n es q c k = true := by simp [rdyB, h1, h2, h3, hkc]
          have hs' : rdyK n es q c (k + 1) = rdyK n es q c k ++ [(k : Int)] := by rw [hs, hbk]; simp
          simp -implicitDefEqProofs (disch := omega) [List.getElem?_cons_zero, List.getElem?_cons_succ, wrap_id, hlt, ho1, hvl, hkv, hc, hkc, hva, h1, h2, h3, f1, f2, f3, hrl, hk20]
          exact round_keep [13, 12, 11, 5, 0, 1] hlt ⟨G ++ [_], by rw [hs', rowI, List.map_append, List.length_append]; rfl⟩
        · have hbk : rdyB n es q c k = false := by simp [rdyB, h3, hkc]
          have hs' : rdyK n es q c (k + 1) = rdyK n es q c k := by rw [hs, hbk]; simp
          simp -implicitDefEqProofs (disch := omega) [List.getElem?_cons_zero, List.getElem?_cons_succ, wrap_id, hlt, ho1, hvl, hkv, hc, hkc, hva, h1, h2, h3]
          exact round_keep [13, 12, 11, 5, 0, 1] hlt ⟨G, by rw [hs', ← hH1]; rfl⟩
      · have hbk : rdyB n es q c k = false := by simp [rdyB, h2]
        have hs' : rdyK n es q c (k + 1) = rdyK n es q c k := by rw [hs, hbk]; simp
        simp -implicitDefEqProofs (disch := omega) [List.getElem?_cons_zero, List.getElem?_cons_succ, wrap_id, hlt, ho1, hvl, hkv, hva, h1, h2]
        exact round_keep [13, 12, 11, 5, 0, 1] hlt ⟨G, by rw [hs', ← hH1]; rfl⟩
  · have hkn : k = n := by omega
    subst hkn
    simp -implicitDefEqProofs (disch := omega) [List.getElem?_cons_zero, List.getElem?_cons_succ, wrap_id]
    exact finH trivial rfl (hK G)
/-- What a round leaves: the vertices of a list fire, one after the other. -/
def fireL (n : Nat) (es : List Ed) (c : List Int) (l : List Int) : List Int := l.foldl (fun c v => firedL n es c v.toNat 1) c
omit hg in
theorem fireL_len (hc : c.length = n) (l : List Int) : (fireL n es c l).length = n := by
  induction l generalizing c with
  | nil => exact hc
  | cons v l ih => exact ih (by simp [firedL])
omit hg in
theorem fireL_snoc (l : List Int) (v : Int) : fireL n es c (l ++ [v]) = firedL n es (fireL n es c l) v.toNat 1 := by
  unfold fireL; rw [List.foldl_append]; rfl
theorem fired_bd1 {B : Int} (hcb : Bd B c) (hB : 0 ≤ B) (v : Nat) : Bd (B + 1000) (firedL n es c v 1) := fun i => by
  have h1 := hcb i
  have hv := val_bd hg v
  have hj := joinE_bd hg v i
  by_cases hi : i < n
  · rw [firedL, rg_get, if_pos hi]
    split <;> omega
  · rw [List.getD_eq_getElem?_getD, List.getElem?_eq_none (by simp [firedL]; omega)]
    simp; omega
theorem fireL_bd (l : List Int) : ∀ {c : List Int} {B : Int}, Bd B c → 0 ≤ B → Bd (B + 1000 * l.length) (fireL n es c l) := by
  induction l with
  | nil => intro c B h _; simpa [fireL] using h
  | cons v l ih =>
    intro c B h hB
    have := ih (fired_bd1 hg h hB v.toNat) (by omega)
    have e : B + 1000 + 1000 * (l.length : Int) = B + 1000 * ((v :: l).length : Int) := by rw [List.length_cons]; push_cast; omega
    rw [← e]
    exact this
set_option maxRecDepth 10000 in
theorem qfire_ok (hb : BdH n es q o H) {l : List Int} (hc : c.length = n) (hcb : Bd 100000000000 c) (hl : l.length ≤ 12) (hlv : ∀ v ∈ l, ∃ u : Nat, v = u ∧ u < n)
    (hK : ∀ G, K (.os H.length 0 n) (H ++ rowI (fireL n es c l) :: G)) : HC Try.prog false 45 [.ptr o 1 0 0, .p (.is c), .p (.is l)] H K := by
  have hn := hg.n12
  have ho : H[o]? = _ := hb
  have hoff : ∀ {i : Nat} {z : AO} (C : List Int) (G : List AO), H[i]? = some z → (H ++ rowI C :: G)[i]? = some z := fun {i z} C G hi => by
    rw [List.getElem?_append_left (List.getElem?_eq_some_iff.1 hi).1]; exact hi
  have hat : ∀ (C : List Int) (G : List AO), (H ++ rowI C :: G)[H.length]? = some (rowI C) := fun C G => by simp
  have hst : ∀ (C D : List Int) (G : List AO), (H ++ rowI C :: G).set H.length (rowI D) = H ++ rowI D :: G := fun C D G => by simp
  refine HC_of_W (af := _) ((by exact cfn45 : cfn _ _ _ = some _)) ?_
  simp -implicitDefEqProofs (disch := omega) [c45, List.getElem?_cons_zero, List.getElem?_cons_succ, wrap_id, ho, hc]
  refine HC_of_PC rfl (clone_ok c (by omega)) ?_
  simp -implicitDefEqProofs (disch := omega) [List.getElem?_cons_zero, List.getElem?_cons_succ, wrap_id, hc]
  refine loopW l.length (fun k st => ∃ G, st = ⟨[(16, .i k), (15, .i l.length), (14, .p (.is l)), (7, .os H.length 0 n), (0, .ptr o 1 0 0)], H ++ rowI (fireL n es c (l.take k)) :: G⟩) (Wk_keep [16, 15, 14, 7, 0]) ⟨[], rfl⟩ ?_
  rintro k st hk ⟨G, rfl⟩
  by_cases hlt : k < l.length
  · obtain ⟨u, hu, hun⟩ := hlv l[k] (List.getElem_mem hlt)
    obtain ⟨C, hC⟩ : ∃ C, C = fireL n es c (l.take k) := ⟨_, rfl⟩
    have hCl : C.length = n := by rw [hC]; exact fireL_len hc _
    have hCb : Bd 100000020000 C := by
      rw [hC]
      refine (fireL_bd hg (l.take k) hcb (by omega)).more ?_
      rw [List.length_take]; omega
    have hnx : fireL n es c (l.take (k + 1)) = firedL n es C u 1 := by
      rw [List.take_add_one, List.getElem?_eq_getElem hlt, Option.toList_some, fireL_snoc, hu, hC, Int.toNat_natCast]
    rw [← hC]
    obtain ⟨H1, hH1⟩ : ∃ H1, H1 = H ++ rowI C :: G := ⟨_, rfl⟩
    have ho1 : H1[o]? = _ := hH1 ▸ hoff C G hb
    have hz1 : H1[H.length]? = some (rowI C) := hH1 ▸ hat C G
    have hs1 : ∀ D, H1.set H.length (rowI D) = H ++ rowI D :: G := fun D => by rw [hH1]; exact hst C D G
    have huC : u < C.length := by omega
    have huv : u < (valsL n es).length := by rw [valsL_len]; exact hun
    have hva := valsL_at huv
    have hvl := valsL_len n es
    have hvb := val_bd hg u
    have hCu := hCb u
    rw [getD_get huC] at hCu
    have hset : H1.set H.length (AO.row ((C.map PV.i).set u (PV.i (C[u] - valTo es u n))) 1 3 false) = H ++ rowI (fireTo n es C u 1 0) :: G := by
      rw [← hs1, ← fireTo_0 hCl, getD_get huC, Int.one_mul, rowI, List.map_set]
    rw [← hH1]
    simp -implicitDefEqProofs (disch := omega) [List.getElem?_cons_zero, List.getElem?_cons_succ, wrap_id, hlt, hu, hun, ho1, hz1, huC, huv, hva, hvl, hCl, hset]
    have ho2 := hoff (fireTo n es C u 1 0) G hb
    have htl := rowsL_len n es
    have hut : u < (rowsL n es).length := by rw [rowsL_len]; exact hun
    have hta := rowsL_at hut
    have hrl := rowL_len n es u
    simp -implicitDefEqProofs (disch := omega) [List.getElem?_cons_zero, List.getElem?_cons_succ, wrap_id, ho2, htl, hut, hta, hrl, hun]
    refine loopW n (fun m st => st = ⟨[(41, .i m), (40, .i n), (39, .p (.is (rowL n es u))), (7, .os H.length 0 n), (16, .i k), (15, .i l.length), (14, .p (.is l)), (0, .ptr o 1 0 0)], H ++ rowI (fireTo n es C u 1 m) :: G⟩) (Wk_keep [41, 40, 39, 7, 16, 15, 14, 0]) rfl ?_
    rintro m st hm rfl
    have hFl := fireTo_len n es C u 1 m
    by_cases hlm : m < n
    · have hFb : -200000000000 ≤ (fireTo n es C u 1 m).getD m 0 ∧ (fireTo n es C u 1 m).getD m 0 ≤ 200000000000 := by
        rw [fireTo_get hlm]
        have := hCb m
        have hj := joinE_bd hg u m
        simp only [Nat.lt_irrefl, if_false]
        split <;> omega
      have hj := joinE_bd hg u m
      have hs2 := congrArg rowI (fireTo_succ (n := n) (es := es) (c := C) (v := u) 1 hlm)
      have hFm : m < (fireTo n es C u 1 m).length := by omega
      rw [getD_get hFm] at hs2 hFb
      rw [rowI, List.map_set, Int.one_mul] at hs2
      have hz3 := hat (fireTo n es C u 1 m) G
      have hmr : m < (rowL n es u).length := by rw [rowL_len]; exact hlm
      have hra := rowL_at hmr
      simp -implicitDefEqProofs (disch := omega) [List.getElem?_cons_zero, List.getElem?_cons_succ, wrap_id, hlm, hz3, hFl, hFm, hmr, hra, hrl]
      exact round_keep [41, 40, 39, 7, 16, 15, 14, 0] hlm (by rw [← hs2]; rfl)
    · have hmn : m = n := by omega
      subst hmn
      rw [fireTo_n]
      simp -implicitDefEqProofs (disch := omega) [List.getElem?_cons_zero, List.getElem?_cons_succ, wrap_id]
      exact round_keep [16, 15, 14, 7, 0] hlt ⟨G, by rw [hnx]; rfl⟩
  · have hkl : k = l.length := by omega
    subst hkl
    rw [List.take_length]
    simp -implicitDefEqProofs (disch := omega) [List.getElem?_cons_zero, List.getElem?_cons_succ, wrap_id]
    exact finH trivial rfl (hK G)
end
end Go.Proofs.Ytamiekhoaggpkaa
end
section
set_option linter.unusedSimpArgs false
namespace Go.Proofs.Ytamiekhoaggpkaa
open Go.Abs Go.Sand
section
variable (N : Int) (es : List Ed) (d s set : List Int) (he : es.length ≤ 1000) (hd : d.length ≤ 4611686018427387904) (hs : s.length ≤ 4611686018427387904) (hset : set.length ≤ 4611686018427387904)
include he hd
end
end Go.Proofs.Ytamiekhoaggpkaa
/-
  Contracts: is a firing legal?
-/
set_option linter.unusedSimpArgs false
namespace Go.Proofs.Ytamiekhoaggpkaa
open Go.Abs Go.Sand
section
variable {f : FuncId} {fs cs : List AV} {H : List AO} {p : Int → Bool} {R : AV → List AO → Prop}
theorem idxfI_ok (xs : List Int) (hx : xs.length ≤ 4611686018427387904) (hc : callable Try.prog f = true) (hf : ∀ k ∈ xs, ∀ K, K (.b (p k)) H → HC Try.prog false f (fs ++ .i k :: cs) H K) (hR : ∀ i : Int, (0 ≤ i ↔ xs.any p = true) → R (.i i) H) :
    HC Try.prog false 119 [.p (.is xs), .fn (.func f) fs cs] H R := by
  refine HC_of_W (af := _) ((by exact cfn119 : cfn _ _ _ = some _)) ?_
  simp -implicitDefEqProofs (disch := omega) [c119, List.getElem?_cons_zero, List.getElem?_cons_succ, wrap_id]
  refine loopW xs.length (fun k s => s = ⟨[(8, .i k), (7, .i xs.length), (6, .p (.is xs)), (0, .p (.is xs)), (1, .fn (.func f) fs cs)], H⟩ ∧ xs.any p = (xs.drop k).any p) (Wk_keep [8, 7, 6, 0, 1]) ⟨rfl, rfl⟩ ?_
  rintro k s hk ⟨rfl, hI⟩
  by_cases hlt : k < xs.length
  · have hd := drop_any p xs k hlt
    simp -implicitDefEqProofs (disch := omega) [List.getElem?_cons_zero, List.getElem?_cons_succ, wrap_id, hlt]
    refine ⟨hc, ?_⟩
    refine hf _ (List.getElem_mem hlt) _ ?_
    cases hv : p xs[k]
    · rw [hv] at hd
      simp -implicitDefEqProofs (disch := omega) [List.getElem?_cons_zero, List.getElem?_cons_succ, wrap_id]
      exact round_keep [8, 7, 6, 0, 1] hlt ⟨rfl, by rw [hI, hd]; rfl⟩
    · rw [hv] at hd
      simp -implicitDefEqProofs (disch := omega) [List.getElem?_cons_zero, List.getElem?_cons_succ, wrap_id]
      exact finH trivial rfl (hR _ (by rw [hI, hd]; simp))
  · simp -implicitDefEqProofs (disch := omega) [List.getElem?_cons_zero, List.getElem?_cons_succ, wrap_id, hlt]
    exact finH trivial rfl (hR _ (by rw [hI, List.drop_of_length_le (Nat.le_of_not_lt hlt)]; simp))
theorem hasfI_ok (xs : List Int) (hx : xs.length ≤ 4611686018427387904) (hc : callable Try.prog f = true) (hf : ∀ k ∈ xs, ∀ K, K (.b (p k)) H → HC Try.prog false f (fs ++ .i k :: cs) H K) (hR : R (.b (xs.any p)) H) :
    HC Try.prog false 102 [.p (.is xs), .fn (.func f) fs cs] H R := by
  refine HC_of_W (af := _) ((by exact cfn102 : cfn _ _ _ = some _)) ?_
  simp -implicitDefEqProofs (disch := omega) [c102, List.getElem?_cons_zero, List.getElem?_cons_succ, wrap_id]
  refine idxfI_ok xs hx hc hf fun i hi => ?_
  by_cases h : 0 ≤ i
  · have hv := hi.1 h
    rw [hv] at hR
    simp -implicitDefEqProofs (disch := omega) [List.getElem?_cons_zero, List.getElem?_cons_succ, wrap_id, h]
    exact finH trivial rfl hR
  · have hv : xs.any p = false := by cases hq : xs.any p; rfl; exact absurd (hi.2 hq) h
    rw [hv] at hR
    simp -implicitDefEqProofs (disch := omega) [List.getElem?_cons_zero, List.getElem?_cons_succ, wrap_id, h]
    exact finH trivial rfl hR
end
end Go.Proofs.Ytamiekhoaggpkaa
/-
  Contracts: is the firing of a set legal?
-/
set_option linter.unusedSimpArgs false
namespace Go.Proofs.Ytamiekhoaggpkaa
open Go.Abs Go.Sand
end Go.Proofs.Ytamiekhoaggpkaa
/-
  Contracts: playing, in package firing.
-/
set_option linter.unusedSimpArgs false
namespace Go.Proofs.Ytamiekhoaggpkaa
open Go.Abs Go.Sand
theorem finR {m0 : Nat} {rs : List ARes} {R : AV → List AO → Prop} {s : St} {x : AV} {e : AExit} (σ : List Nat) (he : match e with | .exit _ => False | _ => True) (h : resOf s rs = some x) (hσ : okσ σ m0 s.H = true) (hR : R (x.ren s.H (idx σ 0)) (renH σ s.H)) :
    Abs.Fin m0 rs R e s := ⟨he, .inl ⟨s, x, σ, Wk.refl _ _, h, hσ, hR⟩⟩
theorem cloneP_ok (xs : List Int) (hx : xs.length ≤ 1000000) : PC Try.prog 78 [.is xs] (.p (.is xs)) [] := by
  refine PC_of_W cfn78 ?_
  simp -implicitDefEqProofs (disch := omega) [c78, List.getElem?_cons_zero, List.getElem?_cons_succ, wrap_id, stepK_eqn, eqnP]
  have hx' : xs.length ≤ 1048576 := by omega
  refine ⟨?_, ?_⟩
  · rintro rfl
    refine finW (Wk_nil0 2 rfl) ?_
    (refine fin0 trivial rfl ?_; simp -implicitDefEqProofs (disch := omega) [List.getElem?_cons_zero, List.getElem?_cons_succ, idx, wrap_id])
  · simp -implicitDefEqProofs (disch := omega) [List.getElem?_cons_zero, List.getElem?_cons_succ, wrap_id, hx']
    (refine fin0 trivial rfl ?_; simp -implicitDefEqProofs (disch := omega) [List.getElem?_cons_zero, List.getElem?_cons_succ, idx, wrap_id])
abbrev HG (n : Nat) (es : List Ed) (d : List Int) : List AO := [.box (.p (.agg [.i n, .sl (es.map edP), .is d]))]
theorem may_ok (n v : Nat) (es : List Ed) (d : List Int) (hg : gcheck n es = 0) (hv : v < n) (hd : d.length = n) (he : es.length ≤ 1000) {R : AV → List AO → Prop} (hR : R (.b (mayB es d v)) (HG n es d)) :
    HC Try.prog false 73 [.ptr 0 1 0 0, .i v] (HG n es d) R := by
  refine HC_of_W (af := _) ((by exact cfn73 : cfn _ _ _ = some _)) ?_
  have hvd : v < d.length := by omega
  simp -implicitDefEqProofs (disch := omega) [c73, List.getElem?_cons_zero, List.getElem?_cons_succ, wrap_id]
  refine HC_of_PC rfl (val_ok n es v hg (vtx_iff.2 (by omega)) he) ?_
  by_cases h1 : 0 < valS es v
  · by_cases h2 : valS es v ≤ d[v]
    · have hm : mayB es d v = true := by simp [mayB, h1, h2, hvd]
      rw [hm] at hR
      simp -implicitDefEqProofs (disch := omega) [List.getElem?_cons_zero, List.getElem?_cons_succ, wrap_id, h1, h2, hvd]
      exact finH trivial rfl hR
    · have hm : mayB es d v = false := by simp [mayB, h1, h2, hvd]
      rw [hm] at hR
      simp -implicitDefEqProofs (disch := omega) [List.getElem?_cons_zero, List.getElem?_cons_succ, wrap_id, h1, h2, hvd]
      exact finH trivial rfl hR
  · have hm : mayB es d v = false := by simp [mayB, h1]
    rw [hm] at hR
    simp -implicitDefEqProofs (disch := omega) [List.getElem?_cons_zero, List.getElem?_cons_succ, wrap_id, h1]
    exact finH trivial rfl hR
theorem gfire_ok (n v : Nat) (es : List Ed) (d : List Int) (hg : gcheck n es = 0) (hv : v < n) (hd : d.length = n) (he : es.length ≤ 1000) (hb : Bd 1048576 d) {R : AV → List AO → Prop} (hR : R (.tup []) (HG n es (movedE es (ofL n [(v : Int)] 1) d))) :
    HC Try.prog false 79 [.ptr 0 1 0 0, .i v] (HG n es d) R := by
  have hgg := gcheck_ok hg
  have hn := hgg.n12
  refine HC_of_W (af := _) ((by exact cfn79 : cfn _ _ _ = some _)) ?_
  simp -implicitDefEqProofs (disch := omega) [c79, List.getElem?_cons_zero, List.getElem?_cons_succ, wrap_id]
  refine HC_of_PC rfl (of_ok n es [(v : Int)] 1 (by omega) (by simp; omega) (by simp)) ?_
  simp -implicitDefEqProofs (disch := omega) [List.getElem?_cons_zero, List.getElem?_cons_succ, wrap_id]
  refine HC_of_PC rfl (moved_ok n es _ d hgg.right (ofL_length _ _ _) hd (by omega) he (ofL_bd _ _ _ (by omega)) (hb.more (by omega))) ?_
  simp -implicitDefEqProofs (disch := omega) [List.getElem?_cons_zero, List.getElem?_cons_succ, wrap_id]
  exact finR [0] trivial rfl rfl hR
abbrev HN (N : Int) (es : List Ed) : List AO := [.box (.p (G N es))]
theorem listed1_ok (N : Int) (es : List Ed) (v : Int) {R : AV → List AO → Prop} (hR : R (.b (!vtx N v)) (HN N es)) :
    HC Try.prog false 103 [.i v, .ptr 0 1 0 0] (HN N es) R := by
  refine HC_of_W (af := _) ((by exact cfn103 : cfn _ _ _ = some _)) ?_
  by_cases h1 : v < 0
  · have hv : vtx N v = false := vtx_not.2 (by omega)
    rw [hv] at hR
    simp -implicitDefEqProofs (disch := omega) [c103, List.getElem?_cons_zero, List.getElem?_cons_succ, wrap_id, h1]
    exact finH trivial rfl hR
  by_cases h2 : N ≤ v
  · have hv : vtx N v = false := vtx_not.2 (by omega)
    rw [hv] at hR
    simp -implicitDefEqProofs (disch := omega) [c103, List.getElem?_cons_zero, List.getElem?_cons_succ, wrap_id, h1, h2]
    exact finH trivial rfl hR
  · have hv : vtx N v = true := vtx_iff.2 (by omega)
    rw [hv] at hR
    simp -implicitDefEqProofs (disch := omega) [c103, List.getElem?_cons_zero, List.getElem?_cons_succ, wrap_id, h1, h2]
    exact finH trivial rfl hR
theorem listed_ok (N : Int) (es : List Ed) (ms : List Int) (hm : ms.length ≤ 4611686018427387904) : PC Try.prog 77 [G N es, .is ms] (.i (listE N ms)) [] := by
  refine PC_of_W cfn77 ?_
  by_cases h1 : (4096 : Int) < ms.length
  · have h1' : 4096 < ms.length := by omega
    simp -implicitDefEqProofs (disch := omega) [c77, List.getElem?_cons_zero, List.getElem?_cons_succ, wrap_id, h1]
    (refine fin0 trivial rfl ?_; simp -implicitDefEqProofs (disch := omega) [List.getElem?_cons_zero, List.getElem?_cons_succ, idx, wrap_id, listE, h1'])
  have h1' : ¬ 4096 < ms.length := by omega
  simp -implicitDefEqProofs (disch := omega) [c77, List.getElem?_cons_zero, List.getElem?_cons_succ, wrap_id, h1]
  refine hasfI_ok (p := fun v => !vtx N v) ms hm (by kernel_rfl) (fun k _ K hK => listed1_ok N es k hK) ?_
  rw [any_not]
  cases hv : ms.all (vtx N)
  · simp -implicitDefEqProofs (disch := omega) [List.getElem?_cons_zero, List.getElem?_cons_succ, wrap_id]
    (refine fin0 trivial rfl ?_; simp -implicitDefEqProofs (disch := omega) [List.getElem?_cons_zero, List.getElem?_cons_succ, idx, wrap_id, listE, h1', hv])
  · simp -implicitDefEqProofs (disch := omega) [List.getElem?_cons_zero, List.getElem?_cons_succ, wrap_id]
    (refine fin0 trivial rfl ?_; simp -implicitDefEqProofs (disch := omega) [List.getElem?_cons_zero, List.getElem?_cons_succ, idx, wrap_id, listE, h1', hv])
theorem play_ok (N : Int) (es : List Ed) (d ms : List Int) (he : es.length ≤ 1000) (hd : d.length ≤ 4611686018427387904) (hm : ms.length ≤ 4611686018427387904) :
    PC Try.prog 38 [G N es, .is d, .is ms] (.tup [.p (.is (playE N es d ms).1), .i (playE N es d ms).2.1, .i (playE N es d ms).2.2]) [] := by
  refine PC_of_W cfn38 ?_
  simp -implicitDefEqProofs (disch := omega) [c38, List.getElem?_cons_zero, List.getElem?_cons_succ, wrap_id]
  refine HC_of_PC rfl (given_ok' N es d (by omega) hd) ?_
  by_cases h0 : givenE N es d = 0
  rotate_left
  · have hp : playE N es d ms = ([], 0, givenE N es d) := by rw [playE, if_pos h0]
    simp -implicitDefEqProofs (disch := omega) [List.getElem?_cons_zero, List.getElem?_cons_succ, wrap_id, h0]
    refine finW (Wk_nil0 6 rfl) ?_
    (refine fin0 trivial rfl ?_; simp -implicitDefEqProofs (disch := omega) [List.getElem?_cons_zero, List.getElem?_cons_succ, idx, wrap_id, hp])
  simp -implicitDefEqProofs (disch := omega) [List.getElem?_cons_zero, List.getElem?_cons_succ, wrap_id, h0]
  refine HC_of_PC rfl (listed_ok N es ms hm) ?_
  by_cases h1 : listE N ms = 0
  rotate_left
  · have hp : playE N es d ms = ([], 0, listE N ms) := by rw [playE, if_neg (by simp [h0]), if_pos h1]
    simp -implicitDefEqProofs (disch := omega) [List.getElem?_cons_zero, List.getElem?_cons_succ, wrap_id, h1]
    refine finW (Wk_nil0 6 rfl) ?_
    (refine fin0 trivial rfl ?_; simp -implicitDefEqProofs (disch := omega) [List.getElem?_cons_zero, List.getElem?_cons_succ, idx, wrap_id, hp])
  have hp : playE N es d ms = playL N.toNat es d ms 0 := by rw [playE, if_neg (by simp [h0]), if_neg (by simp [h1])]
  obtain ⟨n, rfl, hg, hl, hb, hn1, hn⟩ := given_ok h0
  have hgc := given_gcheck h0
  have hms := (list_ok h1).1
  simp -implicitDefEqProofs (disch := omega) [List.getElem?_cons_zero, List.getElem?_cons_succ, wrap_id, h1]
  refine HC_of_PC rfl (cloneP_ok d (by omega)) ?_
  simp -implicitDefEqProofs (disch := omega) [List.getElem?_cons_zero, List.getElem?_cons_succ, wrap_id]
  refine loopW ms.length (fun k s => ∃ d' : List Int, s = ⟨[(38, .i k), (37, .i ms.length), (36, .p (.is ms)), (12, .fn (.func 73) [.ptr 0 1 0 0] []), (11, .ptr 0 1 0 0), (2, .p (.is ms))], HG n es d'⟩ ∧ d'.length = n ∧ Bd 1048576 d' ∧ playL n es d ms 0 = playL n es d' (ms.drop k) k) (wk_norm [1] [38, 37, 36, 12, 11, 2] rfl rfl) ⟨d, rfl, hl, hb, rfl⟩ ?_
  rintro k s hk ⟨d', rfl, hl', hb', hI⟩
  by_cases hlt : k < ms.length
  rotate_left
  · rw [List.drop_of_length_le (Nat.le_of_not_lt hlt)] at hI
    have hk' : (k : Int) = ms.length := by omega
    simp -implicitDefEqProofs (disch := omega) [List.getElem?_cons_zero, List.getElem?_cons_succ, wrap_id, hlt]
    (refine fin0 trivial rfl ?_; simp -implicitDefEqProofs (disch := omega) [List.getElem?_cons_zero, List.getElem?_cons_succ, idx, wrap_id, hp, hI, playL, hk'])
  obtain ⟨v, hv⟩ : ∃ v : Nat, ms[k] = v := ⟨ms[k].toNat, by have := hms _ (List.getElem_mem hlt); omega⟩
  have hvn : v < n := by have := hms _ (List.getElem_mem hlt); omega
  rw [List.drop_eq_getElem_cons hlt, hv] at hI
  simp -implicitDefEqProofs (disch := omega) [List.getElem?_cons_zero, List.getElem?_cons_succ, wrap_id, hlt, hv]
  refine ⟨by kernel_rfl, may_ok n v es d' hgc hvn hl' he ?_⟩
  cases h2 : mayB es d' v
  · rw [playL_no h2] at hI
    simp -implicitDefEqProofs (disch := omega) [List.getElem?_cons_zero, List.getElem?_cons_succ, wrap_id]
    refine finW (Wk_nil0 6 rfl) ?_
    (refine fin0 trivial rfl ?_; simp -implicitDefEqProofs (disch := omega) [List.getElem?_cons_zero, List.getElem?_cons_succ, idx, wrap_id, hp, hI])
  simp -implicitDefEqProofs (disch := omega) [List.getElem?_cons_zero, List.getElem?_cons_succ, wrap_id]
  refine gfire_ok n v es d' hgc hvn hl' he hb' ?_
  simp -implicitDefEqProofs (disch := omega) [List.getElem?_cons_zero, List.getElem?_cons_succ, wrap_id]
  refine HC_of_PC rfl (bounded_ok _ (by rw [movedE_length]; omega)) ?_
  by_cases h3 : bndE (movedE es (ofL n [(v : Int)] 1) d') = 0
  · rw [playL_go h2 h3] at hI
    simp -implicitDefEqProofs (disch := omega) [List.getElem?_cons_zero, List.getElem?_cons_succ, wrap_id, Sand.res_ok, h3]
    exact round_end [0] [38, 37, 36, 12, 11, 2] hlt rfl ⟨_, rfl, by rw [movedE_length, hl'], (bnd_ok h3).1, hI⟩
  · rw [playL_large h2 h3] at hI
    simp -implicitDefEqProofs (disch := omega) [List.getElem?_cons_zero, List.getElem?_cons_succ, wrap_id, Sand.res_ok, h3]
    refine finW (Wk_nil0 6 rfl) ?_
    (refine fin0 trivial rfl ?_; simp -implicitDefEqProofs (disch := omega) [List.getElem?_cons_zero, List.getElem?_cons_succ, idx, wrap_id, hp, hI])
end Go.Proofs.Ytamiekhoaggpkaa
end
section
namespace Go
namespace Abs
open Go.RowKit
/-- What has to be the same in the end. -/
abbrev Eqs := List (St × St)
abbrev X (α : Type) := Option (α × Eqs)
def xb {α β : Type} (m : X α) (f : α → X β) : X β := match m with
  | none => none
  | some (a, q) => match f a with
    | none => none
    | some (b, q') => some (b, q ++ q')
abbrev Ans := FuncId → List AV → List AO → X (AV × List AO)
abbrev Yld := Nat → List AV → List AO → X (AV × List AO)
section
variable (P : Program) (E : Ans) (Y : Yld)
end
section
variable {P : Program} {E : Ans} {Y : Yld}
end
section
variable (P : Program) (E : Ans) (Y : Yld) (m0 : Nat)
end
section
variable {P : Program} {E : Ans} {Y : Yld} {m0 : Nat}
end
section
variable (P : Program) (E : Ans) (Y : Yld) (m0 L : Nat)
end
section
variable {P : Program} {E : Ans} {Y : Yld} {m0 L : Nat}
end
section
variable (P : Program) (L : Nat) (E : Ans) (Y : Yld)
end
section
variable {P : Program} {L : Nat} {E : Ans} {Y : Yld}
end
section
end
end Abs
end Go
end
section
set_option linter.unusedSimpArgs false
set_option linter.unusedVariables false
namespace Go.Proofs.Ytamiekhoaggpkaa
open Go.Abs Go.Sand
section
variable {n : Nat} {es : List Ed} (hg : GoodG n es) {q : Int} {c : List Int} {o x : Nat} {H : List AO} {K : AV → List AO → Prop}
include hg
theorem fireL_moved {d : List Int} (hd : d.length = n) (l : List Int) (hl : ∀ v ∈ l, ∃ u : Nat, v = u ∧ u < n) : ∀ {s : List Int}, s.length = n → fireL n es (movedE es s d) l = movedE es (incL s l) d := by
  induction l with
  | nil => intro s _; rfl
  | cons v l ih =>
    intro s hs
    obtain ⟨u, rfl, hu⟩ := hl v (by simp)
    have h1 := ih (fun w hw => hl w (by simp [hw])) (s := moreS s u 1) (by rw [moreS_len]; exact hs)
    have h2 := fired_moved hg hd hs hu 1
    show fireL n es (firedL n es (movedE es s d) (u : Int).toNat 1) l = movedE es (incL (moreS s (u : Int).toNat 1) l) d
    rw [Int.toNat_natCast, h2, h1]
end
/-- What a divisor that was computed comes to. -/
def largeE (d : List Int) : Int := if dcheck d d.length = 0 then 0 else 11
theorem wk_dag {P : Program} {m0 : Nat} {tab : List ADN} {s s2 : St} {Q : AExit → St → Prop} (h : Wk m0 s s2) (hw : W P m0 (.dag tab) Q s2) : W P m0 (.dag tab) Q s := by
  obtain ⟨I, ⟨s3, h3, h4⟩, h5⟩ := hw
  exact ⟨I, ⟨s3, h.trans h3, h4⟩, h5⟩
def dagOf : AC → Option (List ADN)
  | .dag t => some t
  | .seq a b => match dagOf a with
    | some t => some t
    | none => dagOf b
  | .block _ a => dagOf a
  | .loop a => dagOf a
  | _ => none
/-- The graph of cuts in played. -/
noncomputable def playedD : List ADN := (dagOf c54.body).getD []
end Go.Proofs.Ytamiekhoaggpkaa
end
