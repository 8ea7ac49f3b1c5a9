/-
  Texts joined: Nb Nc Nd Mrc Ne Nf Nh Nj Nk Nm.
-/
import Derived.Test.YtgbmdikkdjogpaaKb14

section
set_option linter.unusedSimpArgs false
set_option linter.unusedVariables false
namespace Go.Proofs.Ytgbmdikkdjogpaa
open Go.Abs Go.Sand
abbrev _root_.Go.Abs.PV.bo (o : List Bool) : PV := .sl (o.map PV.b)
abbrev rowZ (c : List Int) : AO := .row (c.map PV.i) 1 3 false
abbrev rowB (o : List Bool) : AO := .row (o.map PV.b) 1 4 false
theorem gsize_ok (N : Int) (es : List Ed) (hel : es.length ≤ 1000) : PC Try.prog 42 [G N es] (.tup [.i (if gcheck N es = 0 then ((endsL es).length : Int) else 0), .i (gcheck N es)]) [] := by
  refine PC_of_W cfn42 ?_
  simp -implicitDefEqProofs (disch := omega) [c42, List.getElem?_cons_zero, List.getElem?_cons_succ, wrap_id]
  by_cases h : gcheck N es = 0
  · refine HC_of_PC rfl (gends_ok N es hel h) ?_
    simp -implicitDefEqProofs (disch := omega) [List.getElem?_cons_zero, List.getElem?_cons_succ, wrap_id, h]
    (refine fin0 trivial rfl ?_; simp -implicitDefEqProofs (disch := omega) [List.getElem?_cons_zero, List.getElem?_cons_succ, idx, wrap_id, h])
  · refine HC_of_PC rfl (gends_err N es (by omega) h) ?_
    simp -implicitDefEqProofs (disch := omega) [List.getElem?_cons_zero, List.getElem?_cons_succ, wrap_id, h]
    (refine fin0 trivial rfl ?_; simp -implicitDefEqProofs (disch := omega) [List.getElem?_cons_zero, List.getElem?_cons_succ, idx, wrap_id, h])
theorem ocheck_ok (N : Int) (es : List Ed) (o : List Bool) (hel : es.length ≤ 1000) (hol : o.length ≤ 4611686018427387904) : PC Try.prog 22 [G N es, .bo o] (.i (oE N es o)) [] := by
  refine PC_of_W cfn22 ?_
  simp -implicitDefEqProofs (disch := omega) [c22, List.getElem?_cons_zero, List.getElem?_cons_succ, wrap_id]
  refine HC_of_PC rfl (gsize_ok N es hel) ?_
  by_cases h : gcheck N es = 0
  · by_cases h2 : o.length = (endsL es).length
    · have h2' : (o.length : Int) = (endsL es).length := by omega
      simp -implicitDefEqProofs (disch := omega) [List.getElem?_cons_zero, List.getElem?_cons_succ, wrap_id, h, h2']
      (refine fin0 trivial rfl ?_; simp -implicitDefEqProofs (disch := omega) [List.getElem?_cons_zero, List.getElem?_cons_succ, idx, wrap_id, oE, h, h2])
    · have h2' : ¬ (o.length : Int) = (endsL es).length := by omega
      simp -implicitDefEqProofs (disch := omega) [List.getElem?_cons_zero, List.getElem?_cons_succ, wrap_id, h, h2']
      (refine fin0 trivial rfl ?_; simp -implicitDefEqProofs (disch := omega) [List.getElem?_cons_zero, List.getElem?_cons_succ, idx, wrap_id, oE, h, h2])
  · simp -implicitDefEqProofs (disch := omega) [List.getElem?_cons_zero, List.getElem?_cons_succ, wrap_id, h]
    (refine fin0 trivial rfl ?_; simp -implicitDefEqProofs (disch := omega) [List.getElem?_cons_zero, List.getElem?_cons_succ, idx, wrap_id, oE, h])
theorem arrow_ok (p : Int × Int) (d : Bool) : PC Try.prog 60 [pP p, .b d] (.tup [.i (arw p d).1, .i (arw p d).2]) [] := by
  refine PC_of_W cfn60 ?_
  cases d
  · simp -implicitDefEqProofs (disch := omega) [c60, List.getElem?_cons_zero, List.getElem?_cons_succ, wrap_id]
    (refine fin0 trivial rfl ?_; simp -implicitDefEqProofs (disch := omega) [List.getElem?_cons_zero, List.getElem?_cons_succ, idx, wrap_id, arw])
  · simp -implicitDefEqProofs (disch := omega) [c60, List.getElem?_cons_zero, List.getElem?_cons_succ, wrap_id]
    (refine fin0 trivial rfl ?_; simp -implicitDefEqProofs (disch := omega) [List.getElem?_cons_zero, List.getElem?_cons_succ, idx, wrap_id, arw])
theorem arrows_ok (N : Int) (es : List Ed) (o : List Bool) : PC Try.prog 44 [G N es, .bo o] (.fn (.func 59) [] [.ptr 0 1 0 0, .ptr 1 1 0 0]) [.box (.p (G N es)), .box (.p (.bo o))] := by
  refine PC_of_W cfn44 ?_
  simp -implicitDefEqProofs (disch := omega) [c44, List.getElem?_cons_zero, List.getElem?_cons_succ, wrap_id]
  exact fin1 [0, 1] trivial rfl (by rfl) ⟨rfl, rfl⟩
section
variable {N : Int} {es : List Ed} {o : List Bool} (hg : gcheck N es = 0) (hel : es.length ≤ 1000) (hol : o.length = (endsL es).length)
include hg hel hol
/-- All arrows are yielded; the objects are those of Hk, and what is left over. -/
theorem arrows_range {gi oi lp : Nat} {Hk : Nat → List AO} {L : AO} {K : AV → List AO → Prop} (h1 : ∀ k Z, (Hk k ++ Z)[gi]? = some (.box (.p (G N es)))) (h2 : ∀ k Z, (Hk k ++ Z)[oi]? = some (.box (.p (.bo o))))
    (h3 : ∀ k Z, (Hk k ++ Z)[lp]? = some L) (hL : L.len = 1)
    (hy : ∀ k (hk : k < (arwsL es o).length) Z (K' : AV → List AO → Prop), (∀ Z', K' (.b true) (Hk (k + 1) ++ Z')) → HY Try.prog lp [.i ((arwsL es o)[k]).1, .i ((arwsL es o)[k]).2] (Hk k ++ Z) K')
    (hK : ∀ r Z, K r (Hk (arwsL es o).length ++ Z)) : HC Try.prog false 59 [.yl lp, .ptr gi 1 0 0, .ptr oi 1 0 0] (Hk 0) K := by
  have hm := arwsL_len hol
  have hgood := gcheck_ok hg
  have he := endsL_len hgood.right
  have h10 := h1 0 []
  have h20 := h2 0 []
  rw [List.append_nil] at h10 h20
  refine HC_of_W (af := _) ((by exact cfn59 : cfn _ _ _ = some _)) ?_
  simp -implicitDefEqProofs (disch := omega) [c59, List.getElem?_cons_zero, List.getElem?_cons_succ, wrap_id, h10]
  refine HC_of_PC rfl (gends_ok N es hel hg) ?_
  simp -implicitDefEqProofs (disch := omega) [List.getElem?_cons_zero, List.getElem?_cons_succ, wrap_id]
  refine loopW (endsL es).length (fun k s => ∃ Z, s = ⟨[(15, .i k), (14, .i (endsL es).length), (13, .p (.ps (endsL es))), (0, .yl lp), (1, .ptr gi 1 0 0), (2, .ptr oi 1 0 0)], Hk k ++ Z⟩) (Wk_keep [15, 14, 13, 0, 1, 2]) ⟨[], by rw [List.append_nil]; rfl⟩ ?_
  rintro k s hk ⟨Z, rfl⟩
  by_cases hlt : k < (endsL es).length
  · obtain ⟨H1, hH1⟩ : ∃ H1, H1 = Hk k ++ Z := ⟨_, rfl⟩
    have g1 : ∀ y, (H1 ++ [y])[gi]? = some (.box (.p (G N es))) := fun y => by rw [hH1, List.append_assoc]; exact h1 k _
    have g2 : ∀ y, (H1 ++ [y])[oi]? = some (.box (.p (.bo o))) := fun y => by rw [hH1, List.append_assoc]; exact h2 k _
    have g3 : ∀ y, (H1 ++ [y])[lp]? = some L := fun y => by rw [hH1, List.append_assoc]; exact h3 k _
    have f1 : ∀ y, (H1 ++ [y])[H1.length]? = some y := fun y => by simp
    have f3 : ∀ y z, (H1 ++ [y]).set H1.length z = H1 ++ [z] := fun y z => by simp
    have hko : k < o.length := by omega
    have hka : k < (arwsL es o).length := by omega
    have hat := arwsL_at hol k hlt
    rw [← hH1]
    simp -implicitDefEqProofs (disch := omega) [List.getElem?_cons_zero, List.getElem?_cons_succ, wrap_id, hlt, hko, g1, g2, g3, f1, f3]
    refine HC_of_PC rfl (arrow_ok (endsL es)[k] o[k]) ?_
    simp -implicitDefEqProofs (disch := omega) [List.getElem?_cons_zero, List.getElem?_cons_succ, wrap_id, g3, hL]
    rw [← hat, hH1, List.append_assoc]
    refine ⟨hL, hy k hka _ _ fun Z' => ?_⟩
    simp -implicitDefEqProofs (disch := omega) [List.getElem?_cons_zero, List.getElem?_cons_succ, wrap_id]
    exact round_keep [15, 14, 13, 0, 1, 2] hlt ⟨Z', rfl⟩
  · have hke : k = (arwsL es o).length := by omega
    subst hke
    simp -implicitDefEqProofs (disch := omega) [List.getElem?_cons_zero, List.getElem?_cons_succ, wrap_id, hlt]
    exact finH trivial rfl (hK _ Z)
end
/-- The objects while indegrees are counted. -/
abbrev inH (N : Int) (es : List Ed) (o : List Bool) (n : Nat) (lp : AO) (k : Nat) : List AO :=
  [.box (.p (G N es)), rowZ (degL n ((hdsL es o).take k)), .box (.os 1 0 n), .box (.p (G N es)), .box (.p (.bo o)), lp]
theorem in_range {n : Nat} {es : List Ed} {o : List Bool} (hg : gcheck n es = 0) (hel : es.length ≤ 1000) (hol : o.length = (endsL es).length) (t : List (Nat × AV)) (ht : Abs.get t 5 = .ptr 2 1 0 0) {K : AV → List AO → Prop}
    (hK : ∀ r Z, K r (inH n es o n (.lp 23 t [14, 15] rc25_0a rc25_0c .ready) (arwsL es o).length ++ Z)) :
    HC Try.prog false 59 [.yl 5, .ptr 3 1 0 0, .ptr 4 1 0 0] (inH n es o n (.lp 23 t [14, 15] rc25_0a rc25_0c .ready) 0) K := by
  have hgood := gcheck_ok hg
  have hml := arwsL_len hol
  have he := endsL_len hgood.right
  refine arrows_range hg hel hol (fun k Z => rfl) (fun k Z => rfl) (fun k Z => rfl) rfl (fun k hk Z K' hK' => ?_) hK
  have hkh : k < (hdsL es o).length := by rw [hdsL_len]; exact hk
  have hm := hdsL_mem hgood.right _ (List.getElem_mem hkh)
  have hs := degL_take (n := n) hkh
  have hvs : ∀ x ∈ (hdsL es o).take k, 0 ≤ x := fun x hx => (hdsL_mem hgood.right x (List.mem_of_mem_take hx)).1
  have hat := hdsL_at hkh
  rw [← hat]
  obtain ⟨u, hu⟩ : ∃ u : Nat, (hdsL es o)[k] = u := ⟨((hdsL es o)[k]).toNat, by omega⟩
  rw [hu] at hs
  have hun : u < n := by omega
  have hget := degL_get (n := n) hvs u hun
  have hc : ((hdsL es o).take k).count (u : Int) ≤ 50000 := by
    refine Nat.le_trans List.count_le_length ?_
    rw [List.length_take, hdsL_len]
    omega
  have hn0 := degL_len n ((hdsL es o).take k)
  generalize hD : degL n ((hdsL es o).take k) = D at *
  have huD : u < D.length := by omega
  generalize hcv : ((hdsL es o).take k).count (u : Int) = c at *
  have hget2 : D[u] = (c : Int) := by rw [← getD_get huD]; exact hget
  refine HY_of_W rfl rcc25_0a rcc25_0c rfl rfl rfl rfl ?_
  rw [hu]
  dsimp only [inH]
  rw [hD]
  simp -implicitDefEqProofs (disch := omega) [List.getElem?_cons_zero, List.getElem?_cons_succ, wrap_id, ra25_0a, ra25_0c, ht, hn0, huD, hun, hget2]
  have := hK' Z
  dsimp only [inH] at this
  rw [hs, bumpL, Int.toNat_natCast, hget, rowZ, List.map_set] at this
  exact this
theorem indegrees_ok (n : Nat) (es : List Ed) (o : List Bool) (hg : gcheck n es = 0) (hel : es.length ≤ 1000) (hol : o.length = (endsL es).length) :
    PC Try.prog 25 [G n es, .bo o] (.os 0 0 n) [rowZ (inL n es o)] := by
  have hgood := gcheck_ok hg
  have hn := hgood.n12
  have hn2 : n ≤ 1048576 := by omega
  have e0 : List.replicate n (PV.v (Value.int .i64 0)) = (degL n ((hdsL es o).take 0)).map PV.i := by simp [degL]
  have hl := inL_len n es o
  have ht : (hdsL es o).take (arwsL es o).length = hdsL es o := by rw [← hdsL_len]; exact List.take_length
  refine PC_of_W cfn25 ?_
  simp -implicitDefEqProofs (disch := omega) [c25, List.getElem?_cons_zero, List.getElem?_cons_succ, wrap_id, hn2]
  refine HC_of_PC rfl (arrows_ok n es o) ?_
  simp -implicitDefEqProofs (disch := omega) [List.getElem?_cons_zero, List.getElem?_cons_succ, wrap_id, e0]
  refine ⟨by kernel_rfl, in_range hg hel hol _ rfl fun r Z => ?_⟩
  refine AfterR_ready rfl ?_
  dsimp only [inH]
  rw [ht]
  simp -implicitDefEqProofs (disch := omega) [List.getElem?_cons_zero, List.getElem?_cons_succ, wrap_id]
  exact fin1 [1] trivial rfl (by rfl) ⟨rfl, rfl⟩
end Go.Proofs.Ytgbmdikkdjogpaa
end
section
set_option linter.unusedSimpArgs false
set_option linter.unusedVariables false
namespace Go.Sand
def divL (n : Nat) (es : List Ed) (o : List Bool) : List Int := (inL n es o).map (· - 1)
theorem divL_len (n : Nat) (es : List Ed) (o : List Bool) : (divL n es o).length = n := by simp [divL, inL_len]
/-- The first k of a list changed. -/
def mapK {α : Type} (f : α → α) (l : List α) (k : Nat) : List α := (l.take k).map f ++ l.drop k
theorem mapK_zero {α : Type} (f : α → α) (l : List α) : mapK f l 0 = l := by simp [mapK]
theorem mapK_all {α : Type} (f : α → α) (l : List α) : mapK f l l.length = l.map f := by simp [mapK]
theorem mapK_len {α : Type} (f : α → α) (l : List α) (k : Nat) : (mapK f l k).length = l.length := by
  simp only [mapK, List.length_append, List.length_map, List.length_take, List.length_drop]; omega
theorem mapK_at {α : Type} (f : α → α) (l : List α) (k : Nat) (h : k < l.length) : (mapK f l k)[k]'(by rw [mapK_len]; exact h) = l[k] := by
  unfold mapK
  have hm : ((l.take k).map f).length = k := by rw [List.length_map, List.length_take]; omega
  rw [List.getElem_append_right (by omega)]
  simp only [hm, Nat.sub_self, List.getElem_drop, Nat.add_zero]
theorem mapK_set {α : Type} (f : α → α) (l : List α) (k : Nat) (h : k < l.length) : (mapK f l k).set k (f l[k]) = mapK f l (k + 1) := by
  unfold mapK
  have hm : ((l.take k).map f).length = k := by rw [List.length_map, List.length_take]; omega
  rw [List.set_append_right _ _ (by omega), hm, Nat.sub_self, List.drop_eq_getElem_cons h, List.set_cons_zero, List.take_succ_eq_append_getElem h, List.map_append, List.append_assoc]
  rfl
theorem inL_bd {n : Nat} {es : List Ed} (hg : ∀ x ∈ es, Right (n : Int) x) (hel : es.length ≤ 1000) {o : List Bool} (hol : o.length = (endsL es).length) (v : Nat) (hv : v < (inL n es o).length) : 0 ≤ (inL n es o)[v] ∧ (inL n es o)[v] ≤ 50000 := by
  have hv' : v < n := by rw [inL_len] at hv; exact hv
  rw [← getD_get hv]
  unfold inL
  rw [degL_get (fun u hu => (hdsL_mem hg u hu).1) v hv']
  have h1 : (hdsL es o).count (v : Int) ≤ (hdsL es o).length := List.count_le_length
  have h2 := endsL_len hg
  rw [hdsL_len, arwsL_len hol] at h1
  omega
end Go.Sand
namespace Go.Proofs.Ytgbmdikkdjogpaa
open Go.Abs Go.Sand
theorem adivisor_ok (n : Nat) (es : List Ed) (o : List Bool) (hel : es.length ≤ 1000) (ho : o.length ≤ 100) (h : oE n es o = 0) : PC Try.prog 9 [G n es, .bo o] (.tup [.os 0 0 n, .i 0]) [rowZ (divL n es o)] := by
  obtain ⟨hg, hol⟩ := oE_ok h
  have hgood := gcheck_ok hg
  have hl := inL_len n es o
  have hn := hgood.n12
  refine PC_of_W cfn9 ?_
  simp -implicitDefEqProofs (disch := omega) [c9, List.getElem?_cons_zero, List.getElem?_cons_succ, wrap_id]
  refine HC_of_PC rfl (ocheck_ok n es o hel (by omega)) ?_
  simp -implicitDefEqProofs (disch := omega) [List.getElem?_cons_zero, List.getElem?_cons_succ, wrap_id, h]
  refine HC_of_PC rfl (indegrees_ok n es o hg hel hol) ?_
  simp -implicitDefEqProofs (disch := omega) [List.getElem?_cons_zero, List.getElem?_cons_succ, wrap_id, hl]
  refine loopW n (fun k s => s = ⟨[(20, .i k), (19, .i n), (7, .os 0 0 n)], [rowZ (mapK (· - 1) (inL n es o) k)]⟩) (wk_norm [1] [20, 19, 7] rfl rfl) (by rw [mapK_zero]; rfl) ?_
  rintro k s hk rfl
  by_cases hlt : k < n
  · have hkl : k < (inL n es o).length := by omega
    have hb := inL_bd hgood.right hel hol k hkl
    have hx := mapK_len (· - 1) (inL n es o) k
    have hat := mapK_at (· - 1) (inL n es o) k hkl
    have hset := mapK_set (· - 1) (inL n es o) k hkl
    have hDn : (mapK (· - 1) (inL n es o) k).length = n := by omega
    have hkD : k < (mapK (· - 1) (inL n es o) k).length := by omega
    simp -implicitDefEqProofs (disch := omega) [List.getElem?_cons_zero, List.getElem?_cons_succ, wrap_id, hlt, hDn, hkD, hat]
    exact round_end [0] [20, 19, 7] hlt rfl (by rw [← hset, rowZ, List.map_set]; rfl)
  · have hke : k = n := by omega
    subst hke
    have e1 := mapK_all (· - 1) (inL k es o)
    rw [hl] at e1
    rw [e1]
    simp -implicitDefEqProofs (disch := omega) [List.getElem?_cons_zero, List.getElem?_cons_succ, wrap_id, hlt]
    exact fin1 [0] trivial rfl (by rfl) ⟨rfl, rfl⟩
end Go.Proofs.Ytgbmdikkdjogpaa
end
section
set_option linter.unusedSimpArgs false
set_option linter.unusedVariables false
namespace Go.Sand
end Go.Sand
namespace Go.Proofs.Ytgbmdikkdjogpaa
open Go.Abs Go.Sand
abbrev _root_.Go.Abs.PV.bos (l : List (List Bool)) : PV := .sl (l.map PV.bo)
end Go.Proofs.Ytgbmdikkdjogpaa
end
section
set_option linter.unusedSimpArgs false
namespace Go.Proofs.Ytgbmdikkdjogpaa
open Go.Abs Go.Sand
section
variable (N : Int) (es : List Ed) (d s set : List Int) (he : es.length ≤ 1000) (hd : d.length ≤ 4611686018427387904) (hs : s.length ≤ 4611686018427387904) (hset : set.length ≤ 4611686018427387904)
include he hd
end
end Go.Proofs.Ytgbmdikkdjogpaa
/-
  Contracts: is a firing legal?
-/
set_option linter.unusedSimpArgs false
namespace Go.Proofs.Ytgbmdikkdjogpaa
open Go.Abs Go.Sand
section
variable {f : FuncId} {fs cs : List AV} {H : List AO} {p : Int → Bool} {R : AV → List AO → Prop}
end
end Go.Proofs.Ytgbmdikkdjogpaa
/-
  Contracts: is the firing of a set legal?
-/
set_option linter.unusedSimpArgs false
namespace Go.Proofs.Ytgbmdikkdjogpaa
open Go.Abs Go.Sand
end Go.Proofs.Ytgbmdikkdjogpaa
/-
  Contracts: playing, in package firing.
-/
set_option linter.unusedSimpArgs false
namespace Go.Proofs.Ytgbmdikkdjogpaa
open Go.Abs Go.Sand
end Go.Proofs.Ytgbmdikkdjogpaa
end
section
set_option linter.unusedSimpArgs false
set_option linter.unusedVariables false
namespace Go.Sand
theorem getDB_get {s : List Bool} {k : Nat} (h : k < s.length) : s.getD k false = s[k] := by simp [List.getD, h]
end Go.Sand
namespace Go.Proofs.Ytgbmdikkdjogpaa
open Go.Abs Go.Sand
theorem cloneB_ok (xs : List Bool) (hx : xs.length ≤ 1000000) : PC Try.prog 24 [.bo xs] (.os 0 0 xs.length) [rowB xs] := by
  refine PC_of_W cfn24 ?_
  simp -implicitDefEqProofs (disch := omega) [c24, List.getElem?_cons_zero, List.getElem?_cons_succ, wrap_id, stepK_eqn, eqnP]
  have hx' : xs.length ≤ 1048576 := by omega
  refine ⟨?_, ?_⟩
  · rintro rfl
    simp -implicitDefEqProofs (disch := omega) [List.getElem?_cons_zero, List.getElem?_cons_succ, wrap_id]
    refine finW (Wk_nil 2 1 4 rfl) ?_
    exact fin1 [0] trivial rfl rfl ⟨rfl, rfl⟩
  · simp -implicitDefEqProofs (disch := omega) [List.getElem?_cons_zero, List.getElem?_cons_succ, wrap_id, hx']
    exact fin1 [0] trivial rfl rfl ⟨rfl, rfl⟩
end Go.Proofs.Ytgbmdikkdjogpaa
end
section
set_option linter.unusedSimpArgs false
set_option linter.unusedVariables false
namespace Go.Sand
/-- A single edge leads from within to without. -/
def outB (f : Int → Bool) (p : Int × Int) : Bool := f p.1 && !f p.2
def intB (f : Int → Bool) (p : Int × Int) : Bool := f p.2 && !f p.1
def outN (f : Int → Bool) (al : List (Int × Int)) : Nat := al.countP (outB f)
def intN (f : Int → Bool) (al : List (Int × Int)) : Nat := al.countP (intB f)
/-- The way of a set. -/
def wayN (a b : Nat) : Int := if 0 < a ∧ b = 0 then 1 else if 0 < b ∧ a = 0 then -1 else 0
def wayP (f : Int → Bool) (es : List Ed) (o : List Bool) : Int := wayN (outN f (arwsL es o)) (intN f (arwsL es o))
theorem countP_take {α : Type} (p : α → Bool) (l : List α) (k : Nat) (h : k < l.length) : (l.take (k + 1)).countP p = (l.take k).countP p + if p l[k] then 1 else 0 := by
  rw [List.take_succ_eq_append_getElem h, List.countP_append, List.countP_singleton]
/-- Is a vertex marked? -/
def mkB (l : List Bool) (v : Int) : Bool := l.getD v.toNat false
end Go.Sand
namespace Go.Proofs.Ytgbmdikkdjogpaa
open Go.Abs Go.Sand
/-- The objects while arrows are counted. -/
abbrev dirH (N : Int) (es : List Ed) (o ins : List Bool) (lp : AO) (k : Nat) : List AO :=
  [.box (.p (G N es)), .box (.p (.bo ins)), .box (.i (outN (mkB ins) ((arwsL es o).take k))), .box (.i (intN (mkB ins) ((arwsL es o).take k))), .box (.p (G N es)), .box (.p (.bo o)), lp]
theorem dir_range {n : Nat} {es : List Ed} {o ins : List Bool} (hg : gcheck n es = 0) (hel : es.length ≤ 1000) (hol : o.length = (endsL es).length) (hi : ins.length = n) (t : List (Nat × AV))
    (ht5 : Abs.get t 5 = .ptr 1 1 0 0) (ht7 : Abs.get t 7 = .ptr 2 1 0 0) (ht8 : Abs.get t 8 = .ptr 3 1 0 0) {K : AV → List AO → Prop}
    (hK : ∀ r Z, K r (dirH n es o ins (.lp 58 t [14, 15] rc30_0a rc30_0c .ready) (arwsL es o).length ++ Z)) :
    HC Try.prog false 59 [.yl 6, .ptr 4 1 0 0, .ptr 5 1 0 0] (dirH n es o ins (.lp 58 t [14, 15] rc30_0a rc30_0c .ready) 0) K := by
  have hgood := gcheck_ok hg
  have hml := arwsL_len hol
  have he := endsL_len hgood.right
  refine arrows_range hg hel hol (fun k Z => rfl) (fun k Z => rfl) (fun k Z => rfl) rfl (fun k hk Z K' hK' => ?_) hK
  obtain ⟨⟨m1, m2⟩, m3, m4⟩ := arw_mem hgood.right _ (List.getElem_mem hk)
  have hk1 := countP_take (outB (mkB ins)) (arwsL es o) k hk
  have hk2 := countP_take (intB (mkB ins)) (arwsL es o) k hk
  obtain ⟨u, hu⟩ : ∃ u : Nat, ((arwsL es o)[k]).1 = u := ⟨((arwsL es o)[k]).1.toNat, by omega⟩
  obtain ⟨v, hv⟩ : ∃ v : Nat, ((arwsL es o)[k]).2 = v := ⟨((arwsL es o)[k]).2.toNat, by omega⟩
  have hun : u < ins.length := by omega
  have hvn : v < ins.length := by omega
  have hob : outB (mkB ins) ((arwsL es o)[k]) = (ins[u] && !ins[v]) := by simp only [outB, mkB, hu, hv, Int.toNat_natCast, getDB_get hun, getDB_get hvn]
  have hib : intB (mkB ins) ((arwsL es o)[k]) = (ins[v] && !ins[u]) := by simp only [intB, mkB, hu, hv, Int.toNat_natCast, getDB_get hun, getDB_get hvn]
  rw [hob] at hk1
  rw [hib] at hk2
  have hc1 : outN (mkB ins) ((arwsL es o).take k) ≤ 50000 := by
    refine Nat.le_trans List.countP_le_length ?_
    rw [List.length_take]; omega
  have hc2 : intN (mkB ins) ((arwsL es o).take k) ≤ 50000 := by
    refine Nat.le_trans List.countP_le_length ?_
    rw [List.length_take]; omega
  refine HY_of_W rfl rcc30_0a rcc30_0c rfl rfl rfl rfl ?_
  have hKZ := hK' Z
  rw [hu, hv]
  dsimp only [dirH, outN, intN] at hKZ hc1 hc2 ⊢
  rw [hk1, hk2] at hKZ
  generalize ((arwsL es o).take k).countP (outB (mkB ins)) = c1 at *
  generalize ((arwsL es o).take k).countP (intB (mkB ins)) = c2 at *
  have hcu : ∀ b : Bool, ins[u] = b → ∀ b' : Bool, ins[v] = b' → True := fun _ _ _ _ => trivial
  cases hxu : ins[u] <;> cases hxv : ins[v] <;> simp only [hxu, hxv, Bool.not_true, Bool.not_false, Bool.and_true, Bool.and_false, Bool.true_and, Bool.false_and, if_true, Bool.false_eq_true, if_false, Nat.add_zero] at hKZ
  all_goals
    simp -implicitDefEqProofs (disch := omega) [List.getElem?_cons_zero, List.getElem?_cons_succ, wrap_id, ra30_0a, ra30_0c, ht5, ht7, ht8, hun, hvn, hxu, hxv]
    exact hKZ
theorem directed_ok (n : Nat) (es : List Ed) (o ins : List Bool) (hg : gcheck n es = 0) (hel : es.length ≤ 1000) (hol : o.length = (endsL es).length) (hi : ins.length = n) :
    PC Try.prog 30 [G n es, .bo o, .bo ins] (.i (wayP (mkB ins) es o)) [] := by
  have hgood := gcheck_ok hg
  have ht1 : (arwsL es o).take (arwsL es o).length = arwsL es o := List.take_length
  have hml := arwsL_len hol
  have he := endsL_len hgood.right
  refine PC_of_W cfn30 ?_
  simp -implicitDefEqProofs (disch := omega) [c30, List.getElem?_cons_zero, List.getElem?_cons_succ, wrap_id]
  refine HC_of_PC rfl (arrows_ok n es o) ?_
  simp -implicitDefEqProofs (disch := omega) [List.getElem?_cons_zero, List.getElem?_cons_succ, wrap_id]
  refine ⟨by kernel_rfl, dir_range hg hel hol hi _ rfl rfl rfl fun r Z => ?_⟩
  refine AfterR_ready rfl ?_
  dsimp only [dirH]
  rw [ht1]
  unfold wayP
  generalize outN (mkB ins) (arwsL es o) = c1
  generalize intN (mkB ins) (arwsL es o) = c2
  by_cases h1 : 0 < c1 <;> by_cases h2 : 0 < c2
  · have h1' : (0 : Int) < (c1 : Int) := by omega
    have h2' : ¬ (c2 : Int) = 0 := by omega
    have h1'' : ¬ (c1 : Int) = 0 := by omega
    have h2'' : (0 : Int) < (c2 : Int) := by omega
    have hw : wayN c1 c2 = 0 := by rw [wayN, if_neg (by omega), if_neg (by omega)]
    have n1 : ¬ c1 = 0 := by omega
    have n2 : ¬ c2 = 0 := by omega
    simp -implicitDefEqProofs (disch := omega) [List.getElem?_cons_zero, List.getElem?_cons_succ, wrap_id, h1, h1', h2', h1'', h2'', h2, n1, n2]
    (refine fin0 trivial rfl ?_; simp -implicitDefEqProofs (disch := omega) [List.getElem?_cons_zero, List.getElem?_cons_succ, idx, wrap_id, hw])
  · obtain rfl : c2 = 0 := by omega
    have hw : wayN c1 0 = 1 := by rw [wayN, if_pos (by omega)]
    simp -implicitDefEqProofs (disch := omega) [List.getElem?_cons_zero, List.getElem?_cons_succ, wrap_id, h1]
    (refine fin0 trivial rfl ?_; simp -implicitDefEqProofs (disch := omega) [List.getElem?_cons_zero, List.getElem?_cons_succ, idx, wrap_id, hw])
  · obtain rfl : c1 = 0 := by omega
    have hw : wayN 0 c2 = -1 := by rw [wayN, if_neg (by omega), if_pos (by omega)]
    simp -implicitDefEqProofs (disch := omega) [List.getElem?_cons_zero, List.getElem?_cons_succ, wrap_id, h2]
    (refine fin0 trivial rfl ?_; simp -implicitDefEqProofs (disch := omega) [List.getElem?_cons_zero, List.getElem?_cons_succ, idx, wrap_id, hw])
  · obtain rfl : c1 = 0 := by omega
    obtain rfl : c2 = 0 := by omega
    simp -implicitDefEqProofs (disch := omega) [List.getElem?_cons_zero, List.getElem?_cons_succ, wrap_id]
    (refine fin0 trivial rfl ?_; simp -implicitDefEqProofs (disch := omega) [List.getElem?_cons_zero, List.getElem?_cons_succ, idx, wrap_id, show wayN 0 0 = 0 from rfl])
end Go.Proofs.Ytgbmdikkdjogpaa
end
section
set_option linter.unusedVariables false
set_option linter.unusedSimpArgs false
namespace Go.Sand
/-- The least number below n of which p holds, or -1. -/
def lst (p : Nat → Bool) : Nat → Int
  | 0 => -1
  | n + 1 => if 0 ≤ lst p n then lst p n else if p n then n else -1
theorem lst_spec (p : Nat → Bool) : ∀ n, (lst p n = -1 ∧ ∀ v, v < n → p v = false) ∨ ∃ v : Nat, v < n ∧ lst p n = v ∧ p v = true ∧ ∀ u, u < v → p u = false
  | 0 => .inl ⟨rfl, fun v hv => by omega⟩
  | n + 1 => by
    rw [lst]
    rcases lst_spec p n with ⟨h1, h2⟩ | ⟨v, h1, h2, h3, h4⟩
    · rw [h1, if_neg (by omega)]
      by_cases hp : p n = true
      · rw [if_pos hp]
        exact .inr ⟨n, by omega, rfl, hp, h2⟩
      · rw [if_neg hp]
        refine .inl ⟨rfl, fun v hv => ?_⟩
        by_cases e : v = n
        · subst e; simpa using hp
        · exact h2 v (by omega)
    · rw [h2, if_pos (by omega)]
      exact .inr ⟨v, by omega, rfl, h3, h4⟩
theorem lst_none {p : Nat → Bool} {n : Nat} (h : ∀ v, v < n → p v = false) : lst p n = -1 := by
  rcases lst_spec p n with ⟨h1, _⟩ | ⟨v, h1, _, h3, _⟩
  · exact h1
  · rw [h v h1] at h3; cases h3
theorem lst_at {p : Nat → Bool} {n v : Nat} (hv : v < n) (hp : p v = true) (h : ∀ u, u < v → p u = false) : lst p n = v := by
  rcases lst_spec p n with ⟨_, h2⟩ | ⟨w, h1, h2, h3, h4⟩
  · rw [h2 v hv] at hp; cases hp
  · have : w = v := by
      rcases Nat.lt_trichotomy w v with hlt | heq | hgt
      · rw [h w hlt] at h3; cases h3
      · exact heq
      · rw [h4 v hgt] at hp; cases hp
    rw [h2, this]
end Go.Sand
end
section
set_option linter.unusedSimpArgs false
set_option linter.unusedVariables false
namespace Go.Proofs.Ytgbmdikkdjogpaa
open Go.Abs Go.Sand
/-- What the reference has found when it has come down to n - k. -/
def DnI (p : Nat → Bool) (n k : Nat) (x : Int) : Prop := (x = -1 ∧ ∀ v, n - k ≤ v → v < n → p v = false) ∨ ∃ v : Nat, x = v ∧ n - k ≤ v ∧ v < n ∧ p v = true ∧ ∀ u, n - k ≤ u → u < v → p u = false
theorem DnI.end {p : Nat → Bool} {n : Nat} {x : Int} (h : DnI p n n x) : x = lst p n := by
  rcases h with ⟨h1, h2⟩ | ⟨v, h1, h2, h3, h4, h5⟩
  · rw [h1, lst_none fun v hv => h2 v (by omega) hv]
  · rw [h1, lst_at h3 h4 fun u hu => h5 u (by omega) hu]
end Go.Proofs.Ytgbmdikkdjogpaa
end
section
set_option linter.unusedSimpArgs false
set_option linter.unusedVariables false
namespace Go.Sand
theorem nodup_len {α : Type} [DecidableEq α] : ∀ {l m : List α}, l.Nodup → (∀ x ∈ l, x ∈ m) → l.length ≤ m.length
  | [], m, _, _ => Nat.zero_le _
  | x :: l, m, hd, hs => by
    obtain ⟨h1, h2⟩ := List.nodup_cons.1 hd
    have hx := hs x (by simp)
    have := nodup_len h2 (m := m.erase x) fun y hy => (List.mem_erase_of_ne (by rintro rfl; exact h1 hy)).2 (hs y (by simp [hy]))
    rw [List.length_erase_of_mem hx] at this
    have hp := List.length_pos_of_mem hx
    rw [List.length_cons]
    omega
end Go.Sand
namespace Go.Proofs.Ytgbmdikkdjogpaa
open Go.Abs Go.Sand
end Go.Proofs.Ytgbmdikkdjogpaa
end
section
set_option linter.unusedVariables false
set_option linter.unusedSimpArgs false
namespace Go.Sand
/-- The binary digits of a number, the first one counts most. -/
def numB : Nat → Nat → List Bool
  | 0, _ => []
  | m + 1, n => numB m (n / 2) ++ [n % 2 == 1]
theorem numB_len : ∀ m n, (numB m n).length = m
  | 0, _ => rfl
  | m + 1, n => by rw [numB, List.length_append, numB_len m]; rfl
theorem numB_zero : ∀ m, numB m 0 = List.replicate m false
  | 0 => rfl
  | m + 1 => by rw [numB, Nat.zero_div, numB_zero m, List.replicate_succ']; rfl
/-- One more: the last truths become false, the one ahead of them true. -/
theorem numB_inc : ∀ (m n j : Nat), j < m → (∀ i, m - j ≤ i → i < m → (numB m n)[i]? = some true) → (numB m n)[m - 1 - j]? = some false → numB m (n + 1) = (numB m n).take (m - 1 - j) ++ true :: List.replicate j false
  | 0, n, j, hj, _, _ => by omega
  | m + 1, n, 0, hj, h1, h0 => by
    rw [numB, numB]
    have hl := numB_len m (n / 2)
    rw [numB, show m + 1 - 1 - 0 = m by omega, List.getElem?_append_right (by omega), hl, Nat.sub_self] at h0
    simp only [List.getElem?_cons_zero, Option.some.injEq, beq_eq_false_iff_ne, ne_eq] at h0
    have e1 : (n + 1) / 2 = n / 2 := by omega
    have e2 : (n + 1) % 2 = 1 := by omega
    rw [e1, e2, show m + 1 - 1 - 0 = m by omega, List.take_append_of_le_length (by omega), List.take_of_length_le (by omega)]
    rfl
  | m + 1, n, j + 1, hj, h1, h0 => by
    have hl := numB_len m (n / 2)
    have hlast := h1 m (by omega) (by omega)
    rw [numB, List.getElem?_append_right (by omega), hl, Nat.sub_self] at hlast
    simp only [List.getElem?_cons_zero, Option.some.injEq, beq_iff_eq] at hlast
    have e1 : (n + 1) / 2 = n / 2 + 1 := by omega
    have e2 : (n + 1) % 2 = 0 := by omega
    have ih := numB_inc m (n / 2) j (by omega) (fun i hi1 hi2 => by
      have := h1 i (by omega) (by omega)
      rw [numB, List.getElem?_append_left (by omega)] at this
      exact this) (by
      rw [numB, List.getElem?_append_left (by omega)] at h0
      rw [← h0]
      congr 1
      omega)
    rw [numB, e1, e2, ih, numB, show m + 1 - 1 - (j + 1) = m - 1 - j by omega, List.take_append_of_le_length (by omega), List.append_assoc, List.cons_append, List.replicate_succ']
    rfl
theorem numB_full : ∀ (m n : Nat), n < 2 ^ m → (∀ i, i < m → (numB m n)[i]? = some true) → n + 1 = 2 ^ m
  | 0, n, hn, _ => by simp at hn; omega
  | m + 1, n, hn, h => by
    have hl := numB_len m (n / 2)
    have hlast := h m (by omega)
    rw [numB, List.getElem?_append_right (by omega), hl, Nat.sub_self] at hlast
    simp only [List.getElem?_cons_zero, Option.some.injEq, beq_iff_eq] at hlast
    rw [Nat.pow_succ] at hn ⊢
    have := numB_full m (n / 2) (by omega) fun i hi => by
      have := h i (by omega)
      rw [numB, List.getElem?_append_left (by omega)] at this
      exact this
    omega
/-- All lists of m truths. -/
def wholeL (m : Nat) : List (List Bool) := (List.range (2 ^ m)).map (numB m)
theorem wholeL_len (m : Nat) : (wholeL m).length = 2 ^ m := by simp [wholeL]
/-- The number of a list of truths. -/
def codeB (l : List Bool) : Nat := l.foldl (fun n b => 2 * n + if b then 1 else 0) 0
theorem codeB_snoc (l : List Bool) (b : Bool) : codeB (l ++ [b]) = 2 * codeB l + if b then 1 else 0 := by unfold codeB; rw [List.foldl_append]; rfl
theorem list_snoc {α : Type} : ∀ (l : List α) (m : Nat), l.length = m + 1 → ∃ t x, l = t ++ [x] ∧ t.length = m := fun l m h => by
  refine ⟨l.take m, l[m], ?_, by rw [List.length_take]; omega⟩
  rw [← List.take_succ_eq_append_getElem, List.take_of_length_le (by omega)]
theorem num_code : ∀ (m : Nat) (l : List Bool), l.length = m → numB m (codeB l) = l ∧ codeB l < 2 ^ m
  | 0, l, h => by
    have : l = [] := List.length_eq_zero_iff.1 h
    subst this
    exact ⟨rfl, by decide⟩
  | m + 1, l, h => by
    obtain ⟨t, x, rfl, ht⟩ := list_snoc l m h
    obtain ⟨h1, h2⟩ := num_code m t ht
    rw [codeB_snoc, numB, Nat.pow_succ]
    cases x
    · have e1 : (2 * codeB t + 0) / 2 = codeB t := by omega
      have e2 : (2 * codeB t + 0) % 2 = 0 := by omega
      simp only [Bool.false_eq_true, if_false]
      rw [e1, e2, h1]
      exact ⟨rfl, by omega⟩
    · have e1 : (2 * codeB t + 1) / 2 = codeB t := by omega
      have e2 : (2 * codeB t + 1) % 2 = 1 := by omega
      simp only [if_true]
      rw [e1, e2, h1]
      exact ⟨rfl, by omega⟩
theorem wholeL_mem {m : Nat} {l : List Bool} : l ∈ wholeL m ↔ l.length = m := by
  unfold wholeL
  rw [List.mem_map]
  constructor
  · rintro ⟨n, _, rfl⟩; exact numB_len m n
  · intro h
    obtain ⟨h1, h2⟩ := num_code m l h
    exact ⟨codeB l, List.mem_range.2 h2, h1⟩
end Go.Sand
end
