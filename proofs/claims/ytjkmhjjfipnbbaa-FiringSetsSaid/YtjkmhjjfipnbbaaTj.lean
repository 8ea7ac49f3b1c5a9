/-
  Contracts: what a script changes, in the reference.
-/
import Derived.Test.YtjkmhjjfipnbbaaTi
set_option linter.unusedSimpArgs false
namespace Go.Proofs.Ytjkmhjjfipnbbaa
open Go.Abs Go.Sand

theorem rmoved_ok (n : Nat) (es : List Ed) (s d : List Int) (hg : GoodG n es) (hs : s.length = n) (hd : d.length = n) (he : es.length ≤ 1000) (B1 : Bd 1048576 s) (B2 : Bd 1073741824 d) :
    PC Try.prog 53 [G n es, .is d, .is s] (.p (.is (movedE es s d))) [] := by
  refine PC_of_W cfn53 ?_
  have hn := hg.n12
  have hd' : d.length ≤ 1048576 := by omega
  have hsame := moved_same hg s d hd
  have hbw := betw_bd hg.right
  have hst := mvR_start n es s d hd
  simp -implicitDefEqProofs (disch := omega) [c53, List.getElem?_cons_zero, List.getElem?_cons_succ, wrap_id, hd']
  refine loopW n (fun v st => st = ⟨[(8, .i v), (7, .os 1 0 n), (3, .ptr 0 1 0 0), (2, .p (.is s))], [.box (.p (G n es)), .row ((mvR n es s d v).map .i) 1 3 false]⟩) (wk_norm [0, 1] [8, 7, 3, 2] rfl rfl) (by rw [hst]; subst hd; rfl) ?_
  rintro v st hv rfl
  by_cases hlt : v < n
  rotate_left
  · have : v = n := by omega
    subst this
    simp -implicitDefEqProofs (disch := omega) [List.getElem?_cons_zero, List.getElem?_cons_succ, wrap_id]
    (refine fin0 trivial rfl ?_; simp -implicitDefEqProofs (disch := omega) [List.getElem?_cons_zero, List.getElem?_cons_succ, idx, wrap_id, mvR_length, hsame])
  have hml := mvR_length n es s d v
  have hvs : v < s.length := by omega
  have hvd : v < d.length := by omega
  have hd0 := Bd.get B2 hvd
  have hdg := getD_get hvd
  simp -implicitDefEqProofs (disch := omega) [List.getElem?_cons_zero, List.getElem?_cons_succ, wrap_id, hlt]
  refine loopW n (fun w st => st = ⟨[(9, .i w), (8, .i v), (7, .os 1 0 n), (3, .ptr 0 1 0 0), (2, .p (.is s))], [.box (.p (G n es)), .row (((mvR n es s d v).map .i).set v (.i (d.getD v 0 + rowTo es s v w))) 1 3 false]⟩) (wk_norm [0, 1] [9, 8, 7, 3, 2] rfl rfl) (by have := mvR_set0 n es s d v hlt; rw [← List.map_set]; rw [show rowTo es s v 0 = 0 from rfl, this]; rfl) ?_
  rintro w st hw rfl
  have hb0 := rowTo_bd hbw B1 v w
  by_cases hlw : w < n
  · have hws : w < s.length := by omega
    have hb1 := rowTo_bd hbw B1 v (w + 1)
    have hro : rowTo es s v (w + 1) = rowTo es s v w + if w = v then 0 else betw es (min (v : Int) w) (max (v : Int) w) * (s.getD w 0 - s.getD v 0) := rfl
    have hqv : ∀ x, (((mvR n es s d v).map PV.i).set v x)[v]? = some x := fun x => by simp [hml, hlt]
    by_cases hwv : v = w
    · subst hwv
      rw [if_pos rfl, Int.add_zero] at hro
      simp -implicitDefEqProofs (disch := omega) [List.getElem?_cons_zero, List.getElem?_cons_succ, wrap_id, hlt]
      exact round_end [0, 1] [9, 8, 7, 3, 2] hlw rfl (by rw [hro]; rfl)
    · have hwv' : ¬ w = v := fun h => hwv h.symm
      have hwi : ¬ (v : Int) = w := by omega
      rw [if_neg hwv', getD_get hws, getD_get hvs] at hro
      rw [hro] at hb1
      have s1 := Bd.get B1 hws
      have s2 := Bd.get B1 hvs
      have hb2 := hbw (min (v : Int) w) (max (v : Int) w)
      have hfl := flow_bd B1 (x := ⟨w, v, betw es (min (v : Int) w) (max (v : Int) w)⟩) hb2.1 hb2.2
      simp only [flow, Int.toNat_natCast, getD_get hws, getD_get hvs] at hfl
      have hw1 := wrap_id (n := betw es (min (v : Int) w) (max (v : Int) w) * (s[w] - s[v])) (by omega) (by omega)
      simp -implicitDefEqProofs (disch := omega) [List.getElem?_cons_zero, List.getElem?_cons_succ, wrap_id, hlt, hlw, hvs, hws, hwi, hqv, hml]
      refine HC_of_PC rfl (rbetw_ok n v w es (by omega)) ?_
      simp -implicitDefEqProofs (disch := omega) [List.getElem?_cons_zero, List.getElem?_cons_succ, wrap_id, hlt, hlw, hvs, hws, hwi, hqv, hml, hw1]
      exact round_end [0, 1] [9, 8, 7, 3, 2] hlw rfl (by rw [hro, ← Int.add_assoc]; rfl)
  · have : w = n := by omega
    subst this
    have hms := mvR_set w es s d v hlt
    rw [hdg] at hms
    simp -implicitDefEqProofs (disch := omega) [List.getElem?_cons_zero, List.getElem?_cons_succ, wrap_id]
    exact round_end [0, 1] [8, 7, 3, 2] hlt rfl (by rw [← hms]; simp only [List.map_set]; rfl)
theorem of_ok (n : Nat) (es : List Ed) (set : List Int) (t : Int) (hn : n ≤ 1000) (hs : ∀ x ∈ set, 0 ≤ x ∧ x < (n : Int)) (hl : set.length ≤ 4611686018427387904) : PC Try.prog 59 [G n es, .is set, .i t] (.p (.is (ofL n set t))) [] := by
  refine PC_of_W cfn59 ?_
  have hn' : n ≤ 1048576 := by omega
  simp -implicitDefEqProofs (disch := omega) [c59, List.getElem?_cons_zero, List.getElem?_cons_succ, wrap_id, hn']
  refine loopW set.length (fun k st => st = ⟨[(15, .i k), (14, .i set.length), (13, .p (.is set)), (7, .os 0 0 n), (2, .i t)], [.row ((ofL n (set.take k) t).map .i) 1 3 false]⟩) (wk_norm [1] [15, 14, 13, 7, 2] rfl rfl) (by simp [ofL, norm, renH, Abs.get, AV.ren, AO.ren, idx]) ?_
  rintro k st hk rfl
  by_cases hlt : k < set.length
  · obtain ⟨v, hv⟩ : ∃ v : Nat, set[k] = v := ⟨set[k].toNat, by have := hs _ (List.getElem_mem hlt); omega⟩
    have hvn : v < n := by have := hs _ (List.getElem_mem hlt); omega
    have hol := ofL_length n (set.take k) t
    have hsn := ofL_snoc n set t k hlt
    rw [hv, Int.toNat_natCast] at hsn
    simp -implicitDefEqProofs (disch := omega) [List.getElem?_cons_zero, List.getElem?_cons_succ, wrap_id, hlt, hv, hvn, hol]
    exact round_end [0] [15, 14, 13, 7, 2] hlt rfl (by rw [hsn, List.map_set]; rfl)
  · have : k = set.length := by omega
    subst this
    rw [List.take_length]
    simp -implicitDefEqProofs (disch := omega) [List.getElem?_cons_zero, List.getElem?_cons_succ, wrap_id]
    (refine fin0 trivial rfl ?_; simp -implicitDefEqProofs (disch := omega) [List.getElem?_cons_zero, List.getElem?_cons_succ, idx, wrap_id, ofL_length])
theorem rof_ok (n : Nat) (es : List Ed) (set : List Int) (hn : n ≤ 1000) (hs : ∀ x ∈ set, 0 ≤ x ∧ x < (n : Int)) (hl : set.length ≤ 4611686018427387904) : PC Try.prog 64 [G n es, .is set] (.p (.is (ofL n set 1))) [] := by
  refine PC_of_W cfn64 ?_
  have hn' : n ≤ 1048576 := by omega
  simp -implicitDefEqProofs (disch := omega) [c64, List.getElem?_cons_zero, List.getElem?_cons_succ, wrap_id, hn']
  refine loopW set.length (fun k st => st = ⟨[(6, .i k), (5, .os 0 0 n), (1, .p (.is set))], [.row ((ofL n (set.take k) 1).map .i) 1 3 false]⟩) (wk_norm [1] [6, 5, 1] rfl rfl) (by simp [ofL, norm, renH, Abs.get, AV.ren, AO.ren, idx]) ?_
  rintro k st hk rfl
  by_cases hlt : k < set.length
  · obtain ⟨v, hv⟩ : ∃ v : Nat, set[k] = v := ⟨set[k].toNat, by have := hs _ (List.getElem_mem hlt); omega⟩
    have hvn : v < n := by have := hs _ (List.getElem_mem hlt); omega
    have hol := ofL_length n (set.take k) 1
    have hsn := ofL_snoc n set 1 k hlt
    rw [hv, Int.toNat_natCast] at hsn
    simp -implicitDefEqProofs (disch := omega) [List.getElem?_cons_zero, List.getElem?_cons_succ, wrap_id, hlt, hv, hvn, hol]
    exact round_end [0] [6, 5, 1] hlt rfl (by rw [hsn, List.map_set]; rfl)
  · have : k = set.length := by omega
    subst this
    rw [List.take_length]
    simp -implicitDefEqProofs (disch := omega) [List.getElem?_cons_zero, List.getElem?_cons_succ, wrap_id]
    (refine fin0 trivial rfl ?_; simp -implicitDefEqProofs (disch := omega) [List.getElem?_cons_zero, List.getElem?_cons_succ, idx, wrap_id, ofL_length])
theorem one_ok (n v : Nat) (es : List Ed) (t : Int) (hn : n ≤ 1000) (hv : v < n) : PC Try.prog 62 [G n es, .i v, .i t] (.p (.is (ofL n [(v : Int)] t))) [] := by
  refine PC_of_W cfn62 ?_
  have hn' : n ≤ 1048576 := by omega
  simp -implicitDefEqProofs (disch := omega) [c62, List.getElem?_cons_zero, List.getElem?_cons_succ, wrap_id, hn', hv]
  (refine fin0 trivial rfl ?_; simp -implicitDefEqProofs (disch := omega) [List.getElem?_cons_zero, List.getElem?_cons_succ, idx, wrap_id, ofL, List.map_set, AO.len])
end Go.Proofs.Ytjkmhjjfipnbbaa
