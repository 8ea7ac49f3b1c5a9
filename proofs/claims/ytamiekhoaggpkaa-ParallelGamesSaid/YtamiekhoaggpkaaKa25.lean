/-
  Texts joined: Wc Mrc Aca We.
-/
import Derived.Test.YtamiekhoaggpkaaKa24

section
set_option linter.unusedSimpArgs false
set_option linter.unusedVariables false
namespace Go.Proofs.Ytamiekhoaggpkaa
open Go.Abs Go.Sand
theorem valsL_at {n : Nat} {es : List Ed} {v : Nat} (h : v < (valsL n es).length) : (valsL n es)[v] = valTo es v n := by simp [valsL]
theorem rowL_at {n : Nat} {es : List Ed} {u v : Nat} (h : v < (rowL n es u).length) : (rowL n es u)[v] = joinE es u v := by simp [rowL]
theorem rowL_len (n : Nat) (es : List Ed) (u : Nat) : (rowL n es u).length = n := by simp [rowL]
theorem rowsL_len (n : Nat) (es : List Ed) : (rowsL n es).length = n := by simp [rowsL]
theorem rowsL_at {n : Nat} {es : List Ed} {u : Nat} (h : u < (rowsL n es).length) : (rowsL n es)[u] = rowL n es u := by simp [rowsL]
/-- A board among the objects. -/
def BdH (n : Nat) (es : List Ed) (q : Int) (o : Nat) (H : List AO) : Prop := H[o]? = some (.box (.agg [.p (.is (valsL n es)), .p (.iss (rowsL n es)), .i q]))
theorem BdH.app {n : Nat} {es : List Ed} {q : Int} {o : Nat} {H : List AO} (h : BdH n es q o H) (L : List AO) : BdH n es q o (H ++ L) := by
  unfold BdH at h ⊢
  rw [List.getElem?_append_left (List.getElem?_eq_some_iff.1 h).1]; exact h
section
variable {n : Nat} {es : List Ed} (hg : GoodG n es) {q : Int} {c : List Int} {o : Nat} {H : List AO} {K : AV → List AO → Prop}
include hg
set_option maxRecDepth 10000 in
theorem qready_ok (hb : BdH n es q o H) (hc : c.length = n) (hK : ∀ G, K (.os H.length 0 (rdyL n es q c).length) (H ++ rowI (rdyL n es q c) :: G)) :
    HC Try.prog false 44 [.ptr o 1 0 0, .p (.is c)] H K := by
  have hn := hg.n12
  have ho : H[o]? = _ := hb
  have hvl := valsL_len n es
  refine HC_of_W (af := _) ((by exact cfn44 : cfn _ _ _ = some _)) ?_
  simp -implicitDefEqProofs (disch := omega) [c44, List.getElem?_cons_zero, List.getElem?_cons_succ, wrap_id, ho, hvl]
  refine loopW n (fun k st => ∃ G, st = ⟨[(13, .i k), (12, .i n), (11, .p (.is (valsL n es))), (5, .os H.length 0 (rdyK n es q c k).length), (0, .ptr o 1 0 0), (1, .p (.is c))], H ++ rowI (rdyK n es q c k) :: G⟩) ?_ ⟨[], rfl⟩ ?_
  · exact (Wk_nil 5 1 3 rfl).trans (Wk_keep [13, 12, 11, 5, 0, 1])
  rintro k st hk ⟨G, rfl⟩
  have hrl := rdyK_len (n := n) (es := es) (q := q) c k
  by_cases hlt : k < n
  · obtain ⟨H1, hH1⟩ : ∃ H1, H1 = H ++ rowI (rdyK n es q c k) :: G := ⟨_, rfl⟩
    have hb1 : BdH n es q o H1 := hH1 ▸ hb.app _
    have ho1 : H1[o]? = _ := hb1
    have hr1 : H1[H.length]? = some (rowI (rdyK n es q c k)) := by rw [hH1]; simp
    have hlt1 : H.length < H1.length := by rw [hH1]; simp
    have f1 : ∀ y, (H1 ++ [y])[H1.length]? = some y := fun y => by simp
    have f2 : ∀ y, (H1 ++ [y])[H.length]? = some (rowI (rdyK n es q c k)) := fun y => by rw [List.getElem?_append_left hlt1]; exact hr1
    have f3 : ∀ y z, (H1 ++ [y]).set H.length z = H ++ z :: (G ++ [y]) := fun y z => by rw [hH1]; simp
    have hkv : k < (valsL n es).length := by omega
    have hkc : k < c.length := by omega
    have hva := valsL_at hkv
    have hk20 : (rdyK n es q c k).length + 1 ≤ 1048576 := by omega
    have hs := rdyK_succ (n := n) (es := es) (q := q) c k
    rw [← hH1]
    by_cases h1 : (k : Int) = q
    · subst h1
      have hbk : rdyB n es k c k = false := by simp [rdyB]
      have hs' : rdyK n es k c (k + 1) = rdyK n es k c k := by rw [hs, hbk]; simp
      simp -implicitDefEqProofs (disch := omega) [List.getElem?_cons_zero, List.getElem?_cons_succ, wrap_id, hlt, ho1, hvl, hkv, hva]
      exact round_keep [13, 12, 11, 5, 0, 1] hlt ⟨G, by rw [hs', ← hH1]; rfl⟩
    · by_cases h2 : 0 < valTo es k n
      · by_cases h3 : valTo es k n ≤ c[k]
        · have hbk : rdyB n es q c k = true := by simp [rdyB, h1, h2, h3, hkc]
          have hs' : rdyK n es q c (k + 1) = rdyK n es q c k ++ [(k : Int)] := by rw [hs, hbk]; simp
          simp -implicitDefEqProofs (disch := omega) [List.getElem?_cons_zero, List.getElem?_cons_succ, wrap_id, hlt, ho1, hvl, hkv, hc, hkc, hva, h1, h2, h3, f1, f2, f3, hrl, hk20]
          exact round_keep [13, 12, 11, 5, 0, 1] hlt ⟨G ++ [_], by rw [hs', rowI, List.map_append, List.length_append]; rfl⟩
        · have hbk : rdyB n es q c k = false := by simp [rdyB, h3, hkc]
          have hs' : rdyK n es q c (k + 1) = rdyK n es q c k := by rw [hs, hbk]; simp
          simp -implicitDefEqProofs (disch := omega) [List.getElem?_cons_zero, List.getElem?_cons_succ, wrap_id, hlt, ho1, hvl, hkv, hc, hkc, hva, h1, h2, h3]
          exact round_keep [13, 12, 11, 5, 0, 1] hlt ⟨G, by rw [hs', ← hH1]; rfl⟩
      · have hbk : rdyB n es q c k = false := by simp [rdyB, h2]
        have hs' : rdyK n es q c (k + 1) = rdyK n es q c k := by rw [hs, hbk]; simp
        simp -implicitDefEqProofs (disch := omega) [List.getElem?_cons_zero, List.getElem?_cons_succ, wrap_id, hlt, ho1, hvl, hkv, hva, h1, h2]
        exact round_keep [13, 12, 11, 5, 0, 1] hlt ⟨G, by rw [hs', ← hH1]; rfl⟩
  · have hkn : k = n := by omega
    subst hkn
    simp -implicitDefEqProofs (disch := omega) [List.getElem?_cons_zero, List.getElem?_cons_succ, wrap_id]
    exact finH trivial rfl (hK G)
/-- What a round leaves: the vertices of a list fire, one after the other. -/
def fireL (n : Nat) (es : List Ed) (c : List Int) (l : List Int) : List Int := l.foldl (fun c v => firedL n es c v.toNat 1) c
omit hg in
theorem fireL_len (hc : c.length = n) (l : List Int) : (fireL n es c l).length = n := by
  induction l generalizing c with
  | nil => exact hc
  | cons v l ih => exact ih (by simp [firedL])
omit hg in
theorem fireL_snoc (l : List Int) (v : Int) : fireL n es c (l ++ [v]) = firedL n es (fireL n es c l) v.toNat 1 := by
  unfold fireL; rw [List.foldl_append]; rfl
theorem fired_bd1 {B : Int} (hcb : Bd B c) (hB : 0 ≤ B) (v : Nat) : Bd (B + 1000) (firedL n es c v 1) := fun i => by
  have h1 := hcb i
  have hv := val_bd hg v
  have hj := joinE_bd hg v i
  by_cases hi : i < n
  · rw [firedL, rg_get, if_pos hi]
    split <;> omega
  · rw [List.getD_eq_getElem?_getD, List.getElem?_eq_none (by simp [firedL]; omega)]
    simp; omega
theorem fireL_bd (l : List Int) : ∀ {c : List Int} {B : Int}, Bd B c → 0 ≤ B → Bd (B + 1000 * l.length) (fireL n es c l) := by
  induction l with
  | nil => intro c B h _; simpa [fireL] using h
  | cons v l ih =>
    intro c B h hB
    have := ih (fired_bd1 hg h hB v.toNat) (by omega)
    have e : B + 1000 + 1000 * (l.length : Int) = B + 1000 * ((v :: l).length : Int) := by rw [List.length_cons]; push_cast; omega
    rw [← e]
    exact this
set_option maxRecDepth 10000 in
theorem qfire_ok (hb : BdH n es q o H) {l : List Int} (hc : c.length = n) (hcb : Bd 100000000000 c) (hl : l.length ≤ 12) (hlv : ∀ v ∈ l, ∃ u : Nat, v = u ∧ u < n)
    (hK : ∀ G, K (.os H.length 0 n) (H ++ rowI (fireL n es c l) :: G)) : HC Try.prog false 45 [.ptr o 1 0 0, .p (.is c), .p (.is l)] H K := by
  have hn := hg.n12
  have ho : H[o]? = _ := hb
  have hoff : ∀ {i : Nat} {z : AO} (C : List Int) (G : List AO), H[i]? = some z → (H ++ rowI C :: G)[i]? = some z := fun {i z} C G hi => by
    rw [List.getElem?_append_left (List.getElem?_eq_some_iff.1 hi).1]; exact hi
  have hat : ∀ (C : List Int) (G : List AO), (H ++ rowI C :: G)[H.length]? = some (rowI C) := fun C G => by simp
  have hst : ∀ (C D : List Int) (G : List AO), (H ++ rowI C :: G).set H.length (rowI D) = H ++ rowI D :: G := fun C D G => by simp
  refine HC_of_W (af := _) ((by exact cfn45 : cfn _ _ _ = some _)) ?_
  simp -implicitDefEqProofs (disch := omega) [c45, List.getElem?_cons_zero, List.getElem?_cons_succ, wrap_id, ho, hc]
  refine HC_of_PC rfl (clone_ok c (by omega)) ?_
  simp -implicitDefEqProofs (disch := omega) [List.getElem?_cons_zero, List.getElem?_cons_succ, wrap_id, hc]
  refine loopW l.length (fun k st => ∃ G, st = ⟨[(16, .i k), (15, .i l.length), (14, .p (.is l)), (7, .os H.length 0 n), (0, .ptr o 1 0 0)], H ++ rowI (fireL n es c (l.take k)) :: G⟩) (Wk_keep [16, 15, 14, 7, 0]) ⟨[], rfl⟩ ?_
  rintro k st hk ⟨G, rfl⟩
  by_cases hlt : k < l.length
  · obtain ⟨u, hu, hun⟩ := hlv l[k] (List.getElem_mem hlt)
    obtain ⟨C, hC⟩ : ∃ C, C = fireL n es c (l.take k) := ⟨_, rfl⟩
    have hCl : C.length = n := by rw [hC]; exact fireL_len hc _
    have hCb : Bd 100000020000 C := by
      rw [hC]
      refine (fireL_bd hg (l.take k) hcb (by omega)).more ?_
      rw [List.length_take]; omega
    have hnx : fireL n es c (l.take (k + 1)) = firedL n es C u 1 := by
      rw [List.take_add_one, List.getElem?_eq_getElem hlt, Option.toList_some, fireL_snoc, hu, hC, Int.toNat_natCast]
    rw [← hC]
    obtain ⟨H1, hH1⟩ : ∃ H1, H1 = H ++ rowI C :: G := ⟨_, rfl⟩
    have ho1 : H1[o]? = _ := hH1 ▸ hoff C G hb
    have hz1 : H1[H.length]? = some (rowI C) := hH1 ▸ hat C G
    have hs1 : ∀ D, H1.set H.length (rowI D) = H ++ rowI D :: G := fun D => by rw [hH1]; exact hst C D G
    have huC : u < C.length := by omega
    have huv : u < (valsL n es).length := by rw [valsL_len]; exact hun
    have hva := valsL_at huv
    have hvl := valsL_len n es
    have hvb := val_bd hg u
    have hCu := hCb u
    rw [getD_get huC] at hCu
    have hset : H1.set H.length (AO.row ((C.map PV.i).set u (PV.i (C[u] - valTo es u n))) 1 3 false) = H ++ rowI (fireTo n es C u 1 0) :: G := by
      rw [← hs1, ← fireTo_0 hCl, getD_get huC, Int.one_mul, rowI, List.map_set]
    rw [← hH1]
    simp -implicitDefEqProofs (disch := omega) [List.getElem?_cons_zero, List.getElem?_cons_succ, wrap_id, hlt, hu, hun, ho1, hz1, huC, huv, hva, hvl, hCl, hset]
    have ho2 := hoff (fireTo n es C u 1 0) G hb
    have htl := rowsL_len n es
    have hut : u < (rowsL n es).length := by rw [rowsL_len]; exact hun
    have hta := rowsL_at hut
    have hrl := rowL_len n es u
    simp -implicitDefEqProofs (disch := omega) [List.getElem?_cons_zero, List.getElem?_cons_succ, wrap_id, ho2, htl, hut, hta, hrl, hun]
    refine loopW n (fun m st => st = ⟨[(41, .i m), (40, .i n), (39, .p (.is (rowL n es u))), (7, .os H.length 0 n), (16, .i k), (15, .i l.length), (14, .p (.is l)), (0, .ptr o 1 0 0)], H ++ rowI (fireTo n es C u 1 m) :: G⟩) (Wk_keep [41, 40, 39, 7, 16, 15, 14, 0]) rfl ?_
    rintro m st hm rfl
    have hFl := fireTo_len n es C u 1 m
    by_cases hlm : m < n
    · have hFb : -200000000000 ≤ (fireTo n es C u 1 m).getD m 0 ∧ (fireTo n es C u 1 m).getD m 0 ≤ 200000000000 := by
        rw [fireTo_get hlm]
        have := hCb m
        have hj := joinE_bd hg u m
        simp only [Nat.lt_irrefl, if_false]
        split <;> omega
      have hj := joinE_bd hg u m
      have hs2 := congrArg rowI (fireTo_succ (n := n) (es := es) (c := C) (v := u) 1 hlm)
      have hFm : m < (fireTo n es C u 1 m).length := by omega
      rw [getD_get hFm] at hs2 hFb
      rw [rowI, List.map_set, Int.one_mul] at hs2
      have hz3 := hat (fireTo n es C u 1 m) G
      have hmr : m < (rowL n es u).length := by rw [rowL_len]; exact hlm
      have hra := rowL_at hmr
      simp -implicitDefEqProofs (disch := omega) [List.getElem?_cons_zero, List.getElem?_cons_succ, wrap_id, hlm, hz3, hFl, hFm, hmr, hra, hrl]
      exact round_keep [41, 40, 39, 7, 16, 15, 14, 0] hlm (by rw [← hs2]; rfl)
    · have hmn : m = n := by omega
      subst hmn
      rw [fireTo_n]
      simp -implicitDefEqProofs (disch := omega) [List.getElem?_cons_zero, List.getElem?_cons_succ, wrap_id]
      exact round_keep [16, 15, 14, 7, 0] hlt ⟨G, by rw [hnx]; rfl⟩
  · have hkl : k = l.length := by omega
    subst hkl
    rw [List.take_length]
    simp -implicitDefEqProofs (disch := omega) [List.getElem?_cons_zero, List.getElem?_cons_succ, wrap_id]
    exact finH trivial rfl (hK G)
end
end Go.Proofs.Ytamiekhoaggpkaa
end
section
set_option linter.unusedSimpArgs false
namespace Go.Proofs.Ytamiekhoaggpkaa
open Go.Abs Go.Sand
section
variable (N : Int) (es : List Ed) (d s set : List Int) (he : es.length ≤ 1000) (hd : d.length ≤ 4611686018427387904) (hs : s.length ≤ 4611686018427387904) (hset : set.length ≤ 4611686018427387904)
include he hd
end
end Go.Proofs.Ytamiekhoaggpkaa
/-
  Contracts: is a firing legal?
-/
set_option linter.unusedSimpArgs false
namespace Go.Proofs.Ytamiekhoaggpkaa
open Go.Abs Go.Sand
section
variable {f : FuncId} {fs cs : List AV} {H : List AO} {p : Int → Bool} {R : AV → List AO → Prop}
end
end Go.Proofs.Ytamiekhoaggpkaa
/-
  Contracts: is the firing of a set legal?
-/
set_option linter.unusedSimpArgs false
namespace Go.Proofs.Ytamiekhoaggpkaa
open Go.Abs Go.Sand
end Go.Proofs.Ytamiekhoaggpkaa
/-
  Contracts: playing, in package firing.
-/
set_option linter.unusedSimpArgs false
namespace Go.Proofs.Ytamiekhoaggpkaa
open Go.Abs Go.Sand
theorem cloneP_ok (xs : List Int) (hx : xs.length ≤ 1000000) : PC Try.prog 78 [.is xs] (.p (.is xs)) [] := by
  refine PC_of_W cfn78 ?_
  simp -implicitDefEqProofs (disch := omega) [c78, List.getElem?_cons_zero, List.getElem?_cons_succ, wrap_id, stepK_eqn, eqnP]
  have hx' : xs.length ≤ 1048576 := by omega
  refine ⟨?_, ?_⟩
  · rintro rfl
    refine finW (Wk_nil0 2 rfl) ?_
    (refine fin0 trivial rfl ?_; simp -implicitDefEqProofs (disch := omega) [List.getElem?_cons_zero, List.getElem?_cons_succ, idx, wrap_id])
  · simp -implicitDefEqProofs (disch := omega) [List.getElem?_cons_zero, List.getElem?_cons_succ, wrap_id, hx']
    (refine fin0 trivial rfl ?_; simp -implicitDefEqProofs (disch := omega) [List.getElem?_cons_zero, List.getElem?_cons_succ, idx, wrap_id])
end Go.Proofs.Ytamiekhoaggpkaa
end
section
namespace Go
namespace Abs
open Go.RowKit
/-- What has to be the same in the end. -/
abbrev Eqs := List (St × St)
abbrev X (α : Type) := Option (α × Eqs)
abbrev Ans := FuncId → List AV → List AO → X (AV × List AO)
abbrev Yld := Nat → List AV → List AO → X (AV × List AO)
section
variable (P : Program) (E : Ans) (Y : Yld)
end
section
variable {P : Program} {E : Ans} {Y : Yld}
end
section
variable (P : Program) (E : Ans) (Y : Yld) (m0 : Nat)
end
section
variable {P : Program} {E : Ans} {Y : Yld} {m0 : Nat}
end
section
variable (P : Program) (E : Ans) (Y : Yld) (m0 L : Nat)
end
section
variable {P : Program} {E : Ans} {Y : Yld} {m0 L : Nat}
end
section
variable (P : Program) (L : Nat) (E : Ans) (Y : Yld)
end
section
variable {P : Program} {L : Nat} {E : Ans} {Y : Yld}
end
section
end
end Abs
end Go
end
section
set_option linter.unusedSimpArgs false
set_option linter.unusedVariables false
namespace Go.Proofs.Ytamiekhoaggpkaa
open Go.Abs Go.Sand
section
variable {n : Nat} {es : List Ed} (hg : GoodG n es) {q : Int} {c : List Int} {o x : Nat} {H : List AO} {K : AV → List AO → Prop}
include hg
theorem fireL_moved {d : List Int} (hd : d.length = n) (l : List Int) (hl : ∀ v ∈ l, ∃ u : Nat, v = u ∧ u < n) : ∀ {s : List Int}, s.length = n → fireL n es (movedE es s d) l = movedE es (incL s l) d := by
  induction l with
  | nil => intro s _; rfl
  | cons v l ih =>
    intro s hs
    obtain ⟨u, rfl, hu⟩ := hl v (by simp)
    have h1 := ih (fun w hw => hl w (by simp [hw])) (s := moreS s u 1) (by rw [moreS_len]; exact hs)
    have h2 := fired_moved hg hd hs hu 1
    show fireL n es (firedL n es (movedE es s d) (u : Int).toNat 1) l = movedE es (incL (moreS s (u : Int).toNat 1) l) d
    rw [Int.toNat_natCast, h2, h1]
end
/-- What a divisor that was computed comes to. -/
def largeE (d : List Int) : Int := if dcheck d d.length = 0 then 0 else 11
theorem wk_dag {P : Program} {m0 : Nat} {tab : List ADN} {s s2 : St} {Q : AExit → St → Prop} (h : Wk m0 s s2) (hw : W P m0 (.dag tab) Q s2) : W P m0 (.dag tab) Q s := by
  obtain ⟨I, ⟨s3, h3, h4⟩, h5⟩ := hw
  exact ⟨I, ⟨s3, h.trans h3, h4⟩, h5⟩
def dagOf : AC → Option (List ADN)
  | .dag t => some t
  | .seq a b => match dagOf a with
    | some t => some t
    | none => dagOf b
  | .block _ a => dagOf a
  | .loop a => dagOf a
  | _ => none
/-- The graph of cuts in played. -/
noncomputable def playedD : List ADN := (dagOf c54.body).getD []
end Go.Proofs.Ytamiekhoaggpkaa
end
