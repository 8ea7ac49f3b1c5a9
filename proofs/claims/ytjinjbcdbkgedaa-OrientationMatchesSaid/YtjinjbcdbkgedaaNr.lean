/-
  Contracts: keys of indegrees; an orientation with a cut reversed.
-/
import Derived.Test.YtjinjbcdbkgedaaNq
set_option linter.unusedSimpArgs false
set_option linter.unusedVariables false
namespace Go.Sand
/-- The cut of a set of marks reversed. -/
def turn1 (ins : List Bool) (p : Int × Int) (d : Bool) : Bool := if (mkB ins p.1 != mkB ins p.2) = true then !d else d
def turnL (es : List Ed) (ins o : List Bool) : List Bool := ((endsL es).zip o).map fun x => turn1 ins x.1 x.2
theorem turnL_len {es : List Ed} {ins o : List Bool} (h : o.length = (endsL es).length) : (turnL es ins o).length = (endsL es).length := by simp [turnL, h]
theorem turnL_at {es : List Ed} {ins o : List Bool} (h : o.length = (endsL es).length) (k : Nat) (hk : k < (endsL es).length) : (turnL es ins o)[k]'(by rw [turnL_len h]; exact hk) = turn1 ins (endsL es)[k] (o[k]'(by omega)) := by simp [turnL]
theorem inL_mem_bd {n : Nat} {es : List Ed} (hg : ∀ x ∈ es, Right (n : Int) x) {o : List Bool} (hol : o.length = (endsL es).length) {x : Int} (hx : x ∈ inL n es o) : 0 ≤ x ∧ x ≤ (endsL es).length := by
  obtain ⟨v, hv, rfl⟩ := List.mem_iff_getElem.1 hx
  have hv' : v < n := by rw [inL_len] at hv; exact hv
  rw [← getD_get hv]
  unfold inL
  rw [degL_get (fun u hu => (hdsL_mem hg u hu).1) v hv']
  have h1 : (hdsL es o).count (v : Int) ≤ (hdsL es o).length := List.count_le_length
  rw [hdsL_len, arwsL_len hol] at h1
  omega
end Go.Sand
namespace Go.Proofs.Ytjinjbcdbkgedaa
open Go.Abs Go.Sand

theorem wrap8 {x : Int} (h1 : 0 ≤ x) (h2 : x < 256) : IntKind.u8.wrap x = x := by
  simp [IntKind.wrap, IntKind.bits, IntKind.signed]
  omega
abbrev byP (n : Int) : PV := .v (.int .u8 n)
abbrev rowY (c : List Int) : AO := .row (c.map byP) 1 5 false
theorem bytesL_map : ∀ l : List Int, bytesL (l.map byP) = some l
  | [] => rfl
  | x :: l => by rw [List.map_cons, bytesL, bytesL_map l]; rfl
abbrev _root_.Go.Abs.PV.st (l : List Int) : PV := .v (.string (strN l))
theorem aev_str {t : List (Nat × AV)} {x : ByteArray} : aev t (.const (.string x)) = some (.p (.v (.string x))) := rfl
attribute [local simp] aev_str
theorem key_ok (l : List Int) (hl : l.length ≤ 1000) (hb : ∀ x ∈ l, 0 ≤ x ∧ x < 256) : PC Try.prog 58 [.is l] (.p (.st l)) [] := by
  have hl2 : l.length ≤ 1048576 := by omega
  refine PC_of_W cfn58 ?_
  simp -implicitDefEqProofs (disch := omega) [c58, List.getElem?_cons_zero, List.getElem?_cons_succ, wrap_id, hl2]
  refine loopW l.length (fun k s => s = ⟨[(11, .i k), (10, .i l.length), (9, .p (.is l)), (3, .os 0 0 l.length)], [rowY (l.take k ++ List.replicate (l.length - k) 0)]⟩) (wk_norm [0] [11, 10, 9, 3] rfl rfl) (by simp only [rowY, List.map_replicate, List.take_zero, List.nil_append, Nat.sub_zero]; rfl) ?_
  rintro k s hk rfl
  by_cases hlt : k < l.length
  · have hbk := hb _ (List.getElem_mem hlt)
    have hwr := wrap8 hbk.1 hbk.2
    have htl : (l.take k).length = k := by rw [List.length_take]; omega
    have hln : (l.take k ++ List.replicate (l.length - k) 0).length = l.length := by rw [List.length_append, htl, List.length_replicate]; omega
    have hset : (l.take k ++ List.replicate (l.length - k) 0).set k l[k] = l.take (k + 1) ++ List.replicate (l.length - (k + 1)) 0 := by
      rw [List.set_append_right _ _ (by omega), htl, Nat.sub_self, show l.length - k = (l.length - (k + 1)) + 1 by omega, List.replicate_succ, List.set_cons_zero, List.take_succ_eq_append_getElem hlt, List.append_assoc]
      rfl
    obtain ⟨D, hD⟩ : ∃ D, D = l.take k ++ List.replicate (l.length - k) 0 := ⟨_, rfl⟩
    rw [← hD] at hln hset ⊢
    have hkD : k < D.length := by omega
    simp -implicitDefEqProofs (disch := omega) [List.getElem?_cons_zero, List.getElem?_cons_succ, wrap_id, hlt, hln, hkD, hwr]
    exact round_end [0] [11, 10, 9, 3] hlt rfl (by rw [← hset, rowY, List.map_set]; rfl)
  · have hke : k = l.length := by omega
    have e1 : l.take k ++ List.replicate (l.length - k) 0 = l := by rw [hke, List.take_length, Nat.sub_self]; simp
    have hbm := bytesL_map l
    rw [e1]
    simp -implicitDefEqProofs (disch := omega) [List.getElem?_cons_zero, List.getElem?_cons_succ, wrap_id, hlt, hbm]
    (refine fin0 trivial rfl ?_; simp -implicitDefEqProofs (disch := omega) [List.getElem?_cons_zero, List.getElem?_cons_succ, idx, wrap_id])
theorem turned_ok (n : Nat) (es : List Ed) (o ins : List Bool) (hg : gcheck n es = 0) (hel : es.length ≤ 1000) (hol : o.length = (endsL es).length) (hi : ins.length = n) :
    PC Try.prog 62 [G n es, .bo o, .bo ins] (.os 0 0 (endsL es).length) [rowB (turnL es ins o)] := by
  have hgood := gcheck_ok hg
  have he := endsL_len hgood.right
  refine PC_of_W cfn62 ?_
  simp -implicitDefEqProofs (disch := omega) [c62, List.getElem?_cons_zero, List.getElem?_cons_succ, wrap_id]
  refine HC_of_PC rfl (cloneB_ok o (by omega)) ?_
  simp -implicitDefEqProofs (disch := omega) [List.getElem?_cons_zero, List.getElem?_cons_succ, wrap_id]
  refine HC_of_PC rfl (gends_ok n es hel hg) ?_
  simp -implicitDefEqProofs (disch := omega) [List.getElem?_cons_zero, List.getElem?_cons_succ, wrap_id]
  refine loopW (endsL es).length (fun k s => s = ⟨[(21, .i k), (20, .i (endsL es).length), (19, .p (.ps (endsL es))), (7, .os 0 0 o.length), (2, .p (.bo ins))], [rowB ((turnL es ins o).take k ++ o.drop k)]⟩) (wk_norm [1] [21, 20, 19, 7, 2] rfl rfl) rfl ?_
  rintro k s hk rfl
  have htl := turnL_len (es := es) (ins := ins) hol
  by_cases hlt : k < (endsL es).length
  · obtain ⟨m1, m2, m3⟩ := endsL_mem hgood.right _ (List.getElem_mem hlt)
    obtain ⟨u, hu⟩ : ∃ u : Nat, (endsL es)[k].1 = u := ⟨(endsL es)[k].1.toNat, by omega⟩
    obtain ⟨v, hv⟩ : ∃ v : Nat, (endsL es)[k].2 = v := ⟨(endsL es)[k].2.toNat, by omega⟩
    have hun : u < ins.length := by omega
    have hvn : v < ins.length := by omega
    have hko : k < o.length := by omega
    have hkt : k < (turnL es ins o).length := by omega
    have hat := turnL_at (ins := ins) hol k hlt
    have ht1 : turn1 ins (endsL es)[k] o[k] = if (ins[u] != ins[v]) = true then !o[k] else o[k] := by simp only [turn1, mkB, hu, hv, Int.toNat_natCast, getDB_get hun, getDB_get hvn]
    have htk : ((turnL es ins o).take k).length = k := by rw [List.length_take]; omega
    have hDl : ((turnL es ins o).take k ++ o.drop k).length = o.length := by rw [List.length_append, htk, List.length_drop]; omega
    have hDk : ((turnL es ins o).take k ++ o.drop k)[k]'(by omega) = o[k] := by
      rw [List.getElem_append_right (by omega)]
      simp [htk, List.getElem_drop, Nat.min_eq_left (show k ≤ (turnL es ins o).length by omega)]
    have hset : ((turnL es ins o).take k ++ o.drop k).set k (turnL es ins o)[k] = (turnL es ins o).take (k + 1) ++ o.drop (k + 1) := by
      rw [List.set_append_right _ _ (by omega), htk, Nat.sub_self, List.drop_eq_getElem_cons hko, List.set_cons_zero, List.take_succ_eq_append_getElem hkt, List.append_assoc]
      rfl
    rw [hat, ht1] at hset
    obtain ⟨D, hD⟩ : ∃ D, D = (turnL es ins o).take k ++ o.drop k := ⟨_, rfl⟩
    simp only [← hD] at hDl hDk hset ⊢
    have hkD : k < D.length := by omega
    cases hx : (ins[u] != ins[v])
    · rw [hx] at hset
      simp only [Bool.false_eq_true, if_false] at hset
      simp -implicitDefEqProofs (disch := omega) [List.getElem?_cons_zero, List.getElem?_cons_succ, wrap_id, hlt, hu, hv, hun, hvn, hx, hDl, hkD, hDk]
      refine round_end [0] [21, 20, 19, 7, 2] hlt rfl ?_
      rw [← hset, ← hDk, List.set_getElem_self]
      rfl
    · rw [hx, if_pos rfl] at hset
      simp -implicitDefEqProofs (disch := omega) [List.getElem?_cons_zero, List.getElem?_cons_succ, wrap_id, hlt, hu, hv, hun, hvn, hx, hDl, hko, hkD, hDk]
      exact round_end [0] [21, 20, 19, 7, 2] hlt rfl (by rw [← hset, rowB, List.map_set]; rfl)
  · have hke : k = (endsL es).length := by omega
    have e1 : (turnL es ins o).take k ++ o.drop k = turnL es ins o := by rw [hke, ← htl, List.take_length, List.drop_of_length_le (by omega), List.append_nil]
    rw [e1, hol]
    simp -implicitDefEqProofs (disch := omega) [List.getElem?_cons_zero, List.getElem?_cons_succ, wrap_id, hlt]
    exact fin1 [0] trivial rfl (by rfl) ⟨rfl, rfl⟩
end Go.Proofs.Ytjinjbcdbkgedaa
