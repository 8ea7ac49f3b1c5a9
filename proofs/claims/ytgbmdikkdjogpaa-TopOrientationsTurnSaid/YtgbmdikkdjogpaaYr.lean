/-
  Contracts: how far vertices are, the walk.
-/
import Derived.Test.YtgbmdikkdjogpaaYq
set_option linter.unusedSimpArgs false
set_option linter.unusedVariables false
namespace Go.Proofs.Ytgbmdikkdjogpaa
open Go.Abs Go.Sand

/-- The objects while vertices wait. -/
structure QH (n : Nat) (st : List AO) (far W : List Int) (H : List AO) (o off : Nat) (els : List Int) : Prop where
  hs : ∀ i, i < 4 → H[i]? = st[i]?
  h4 : H[4]? = some (rowZ far)
  h5 : H[5]? = some (.box (.os 4 0 n))
  h7 : H[7]? = some (.box (.os o off W.length))
  ho : H[o]? = some (rowZ els)
  hd : els.drop off = W
  hl : off + W.length = els.length
  hc : els.length ≤ cntG far
  hn : o = 6 ∨ 8 ≤ o
/-- The objects of one vertex's round, from m on. -/
structure VH (m : Nat) (v : Int) (L : AO) (H : List AO) (o : Nat) : Prop where
  g0 : H[m]? = some (.box (.i v))
  g1 : H[m + 1]? = some (.box (.ptr 1 1 0 0))
  g2 : H[m + 2]? = some (.box (.i v))
  g3 : H[m + 3]? = some L
  hm : 8 ≤ m
  hn : o < m ∨ m + 4 ≤ o
theorem lt_some {α : Type} {l : List α} {i : Nat} {x : α} (h : l[i]? = some x) : i < l.length := (List.getElem?_eq_some_iff.1 h).1
theorem app_some {α : Type} {l : List α} {i : Nat} {x : α} (h : l[i]? = some x) (Z : List α) : (l ++ Z)[i]? = some x := by rw [List.getElem?_append_left (lt_some h)]; exact h
theorem QH.app {n : Nat} {st : List AO} {far W : List Int} {H : List AO} {o off : Nat} {els : List Int} (h : QH n st far W H o off els) (Z : List AO) : QH n st far W (H ++ Z) o off els :=
  ⟨fun i hi => by rw [List.getElem?_append_left (by have := lt_some h.h4; omega)]; exact h.hs i hi, app_some h.h4 Z, app_some h.h5 Z, app_some h.h7 Z, app_some h.ho Z, h.hd, h.hl, h.hc, h.hn⟩
theorem VH.app {m : Nat} {v : Int} {L : AO} {H : List AO} {o : Nat} (h : VH m v L H o) (Z : List AO) : VH m v L (H ++ Z) o :=
  ⟨app_some h.g0 Z, app_some h.g1 Z, app_some h.g2 Z, app_some h.g3 Z, h.hm, h.hn⟩
theorem QVupd {n : Nat} {st : List AO} {far W far' W' els els' : List Int} {H Y : List AO} {o off o' off' m : Nat} {v : Int} {L L' : AO} (hQ : QH n st far W H o off els) (hV : VH m v L H o) (hlen : H.length ≤ Y.length)
    (hsame : ∀ i, i < H.length → i ≠ 4 → i ≠ m + 3 → i ≠ o → Y[i]? = H[i]?) (h4 : Y[4]? = some (rowZ far')) (ho : Y[o']? = some (rowZ els')) (hd : els'.drop off' = W') (hl : off' + W'.length = els'.length) (hc : els'.length ≤ cntG far') (hoo : o' = o ∨ H.length ≤ o') :
    QH n st far' W' ((Y.set 7 (.box (.os o' off' W'.length))).set (m + 3) L') o' off' els' ∧ VH m v L' ((Y.set 7 (.box (.os o' off' W'.length))).set (m + 3) L') o' := by
  have g3 := lt_some hV.g3
  have hm := hV.hm
  have hn1 := hQ.hn
  have hn2 := hV.hn
  have key : ∀ i, i ≠ 7 → i ≠ m + 3 → ((Y.set 7 (.box (.os o' off' W'.length))).set (m + 3) L')[i]? = Y[i]? := fun i h1 h2 => by
    rw [List.getElem?_set_ne (by omega), List.getElem?_set_ne (by omega)]
  refine ⟨⟨fun i hi => ?_, ?_, ?_, ?_, ?_, hd, hl, hc, by omega⟩, ⟨?_, ?_, ?_, ?_, hm, by omega⟩⟩
  · rw [key i (by omega) (by omega), hsame i (by omega) (by omega) (by omega) (by omega)]; exact hQ.hs i hi
  · rw [key 4 (by omega) (by omega)]; exact h4
  · rw [key 5 (by omega) (by omega), hsame 5 (by omega) (by omega) (by omega) (by omega)]; exact hQ.h5
  · rw [List.getElem?_set_ne (by omega), List.getElem?_set_self (by omega)]
  · rw [key o' (by omega) (by omega)]; exact ho
  · rw [key m (by omega) (by omega), hsame m (by omega) (by omega) (by omega) (by omega)]; exact hV.g0
  · rw [key (m + 1) (by omega) (by omega), hsame (m + 1) (by omega) (by omega) (by omega) (by omega)]; exact hV.g1
  · rw [key (m + 2) (by omega) (by omega), hsame (m + 2) (by omega) (by omega) (by omega) (by omega)]; exact hV.g2
  · rw [List.getElem?_set_self (by simp; omega)]
section
variable {n : Nat} (hn : n ≤ 12) {st : List AO}
include hn
set_option maxHeartbeats 2000000 in
theorem dist_body {m v : Nat} (hv : v < n) {t : List (Nat × AV)} (ht3 : Abs.get t 3 = .ptr 5 1 0 0) (ht4 : Abs.get t 4 = .ptr 7 1 0 0) (ht5 : Abs.get t 5 = .ptr m 1 0 0) {far W : List Int} {H : List AO} {o off : Nat} {els : List Int} (hQ : QH n st far W H o off els)
    (hV : VH m v (.lp 56 t [36, 37] rc69_0a rc69_0c .ready) H o) (hfl : far.length = n) {u : Nat} (hu : u < n) {k : Int} {K : AV → List AO → Prop} (hfv : -1 ≤ far.getD v 0 ∧ far.getD v 0 ≤ 12)
    (h1 : 0 ≤ far.getD u 0 → ∀ H', QH n st far W H' o off els → VH m v (.lp 56 t [36, 37] rc69_0a rc69_0c .ready) H' o → K (.b true) H')
    (h2 : far.getD u 0 < 0 → ∀ H' o' off' els', QH n st (far.set u (far.getD v 0 + 1)) (W ++ [(u : Int)]) H' o' off' els' → VH m v (.lp 56 t [36, 37] rc69_0a rc69_0c .ready) H' o' → K (.b true) H') :
    HY Try.prog (m + 3) [.i u, .i k] H K := by
  have hm := hV.hm
  have g0 := hV.g0
  have g3 := hV.g3
  have h4 := hQ.h4
  have h5 := hQ.h5
  have h7 := hQ.h7
  have ho := hQ.ho
  have hlen := lt_some g3
  have huf : u < far.length := by omega
  have hvf : v < far.length := by omega
  have fu : far[u]? = some far[u] := List.getElem?_eq_getElem huf
  have fv : far[v]? = some far[v] := List.getElem?_eq_getElem hvf
  refine HY_of_W g3 rcc69_0a rcc69_0c rfl rfl rfl rfl ?_
  have hset : H.set (m + 3) (.lp 56 t [36, 37] rc69_0a rc69_0c .ready) = H := by
    have := List.getElem_eq_iff hlen |>.2 g3
    rw [← this, List.set_getElem_self]
  have ho3 : o ≠ m + 3 := by have := hV.hn; omega
  have ho4 : o ≠ 4 := by have := hQ.hn; omega
  have ho5 : o ≠ 5 := by have := hQ.hn; omega
  have ho7 : o ≠ 7 := by have := hQ.hn; omega
  have gu : far.getD u 0 = far[u] := getD_get huf
  have gv : far.getD v 0 = far[v] := getD_get hvf
  rw [gu] at h1 h2
  rw [gv] at h2 hfv
  by_cases hlt : far[u] < 0
  rotate_left
  · have hlt' : ¬ far[u] < 0 := hlt
    simp -implicitDefEqProofs (disch := omega) [List.getElem?_cons_zero, List.getElem?_cons_succ, wrap_id, ra69_0a, ra69_0c, ht3, ht4, ht5, g0, g3, h4, h5, hlen, fu, List.getElem?_set_ne, hfl, -getElem?_pos, hu, hlt', hset]
    exact h1 (by omega) H hQ hV
  obtain ⟨X, hX⟩ : ∃ X, X = (H.set (m + 3) (.lp 56 t [36, 37] rc69_0a rc69_0c .busy)).set 4 (.row ((List.map PV.i far).set u (PV.v (Value.int IntKind.i64 (far[v] + 1)))) 1 3 false) := ⟨_, rfl⟩
  have hXl : X.length = H.length := by rw [hX]; simp
  have hXa : ∀ i, i ≠ 4 → i ≠ m + 3 → X[i]? = H[i]? := fun i e1 e2 => by rw [hX, List.getElem?_set_ne (by omega), List.getElem?_set_ne (by omega)]
  have hX4 : X[4]? = some (rowZ (far.set u (far[v] + 1))) := by rw [hX, List.getElem?_set_self (by rw [List.length_set]; omega), rowZ, List.map_set]
  have hX3 : X[m + 3]? = some (.lp 56 t [36, 37] rc69_0a rc69_0c .busy) := by rw [hX, List.getElem?_set_ne (by omega), List.getElem?_set_self hlen]
  have e1 : ∀ y, (X ++ [y])[H.length]? = some y := fun y => by rw [← hXl]; simp
  have eo : ∀ Z, (X ++ Z)[o]? = some (rowZ els) := fun Z => app_some (by rw [hXa o ho4 ho3, ho]) Z
  have e7 : ∀ Z, (X ++ Z)[7]? = some (.box (.os o off W.length)) := fun Z => app_some (by rw [hXa 7 (by omega) (by omega), h7]) Z
  have e3 : ∀ Z, (X ++ Z)[m + 3]? = some (.lp 56 t [36, 37] rc69_0a rc69_0c .busy) := fun Z => app_some hX3 Z
  have x7 : X[7]? = some (.box (.os o off W.length)) := by rw [hXa 7 (by omega) (by omega), h7]
  have hcl := cntG_le far
  have hec := hQ.hc
  have hbd : els.length + 1 ≤ 1048576 := by omega
  have hl' := hQ.hl
  simp -implicitDefEqProofs (disch := omega) [List.getElem?_cons_zero, List.getElem?_cons_succ, wrap_id, ra69_0a, ra69_0c, ht3, ht4, ht5, g0, g3, h4, h5, h7, hlen, fu, fv, List.getElem?_set_ne, hfl, -getElem?_pos, hu, hlt, hv, ← hX, e1, eo, e7, e3, hXl, x7]
  have hb5 : els.length ≤ 1048575 := by omega
  have ho' := lt_some ho
  have hn2 := hV.hn
  have hcs : cntG (far.set u (far[v] + 1)) = cntG far + 1 := cntG_set huf (by rw [gu]; exact hlt) (by omega)
  have hin : ∀ (Z : List AO), QH n st (far.set u (far[v] + 1)) (W ++ [(u : Int)]) ((((X ++ [rowZ [(u : Int)]]).set o (rowZ (els ++ [(u : Int)]))).set 7 (.box (.os o off (W ++ [(u : Int)]).length))).set (m + 3) (.lp 56 t [36, 37] rc69_0a rc69_0c .ready)) o off (els ++ [(u : Int)]) ∧
      VH m v (.lp 56 t [36, 37] rc69_0a rc69_0c .ready) ((((X ++ [rowZ [(u : Int)]]).set o (rowZ (els ++ [(u : Int)]))).set 7 (.box (.os o off (W ++ [(u : Int)]).length))).set (m + 3) (.lp 56 t [36, 37] rc69_0a rc69_0c .ready)) o := fun Z => by
    refine QVupd hQ hV (by simp; omega) (fun i h1 h2 h3 h4 => ?_) ?_ ?_ ?_ ?_ ?_ (.inl rfl)
    · rw [List.getElem?_set_ne (by omega), List.getElem?_append_left (by omega)]; exact hXa i h2 h3
    · rw [List.getElem?_set_ne (by omega)]; exact app_some hX4 _
    · rw [List.getElem?_set_self (by simp; omega)]
    · rw [List.drop_append_of_le_length (by omega), hQ.hd]
    · simp; omega
    · rw [hcs]; simp; omega
  have hnw : QH n st (far.set u (far[v] + 1)) (W ++ [(u : Int)]) (((X ++ [rowZ [(u : Int)], rowZ (W ++ [(u : Int)])]).set 7 (.box (.os (H.length + 1) 0 (W ++ [(u : Int)]).length))).set (m + 3) (.lp 56 t [36, 37] rc69_0a rc69_0c .ready)) (H.length + 1) 0 (W ++ [(u : Int)]) ∧
      VH m v (.lp 56 t [36, 37] rc69_0a rc69_0c .ready) (((X ++ [rowZ [(u : Int)], rowZ (W ++ [(u : Int)])]).set 7 (.box (.os (H.length + 1) 0 (W ++ [(u : Int)]).length))).set (m + 3) (.lp 56 t [36, 37] rc69_0a rc69_0c .ready)) (H.length + 1) := by
    refine QVupd hQ hV (by simp; omega) (fun i h1 h2 h3 h4 => ?_) ?_ ?_ rfl (by simp) ?_ (.inr (by omega))
    · rw [List.getElem?_append_left (by omega)]; exact hXa i h2 h3
    · exact app_some hX4 _
    · rw [List.getElem?_append_right (by omega), hXl]; simp
    · rw [hcs]; simp; omega
  have r0 : AO.row [PV.v (Value.int IntKind.i64 (u : Int))] 1 3 false = rowZ [(u : Int)] := rfl
  have r1 : AO.row (List.map PV.i els ++ [PV.v (Value.int IntKind.i64 (u : Int))]) 1 3 false = rowZ (els ++ [(u : Int)]) := by rw [rowZ, List.map_append]; rfl
  have r2 : AO.row (List.drop off (List.map PV.i els) ++ [PV.v (Value.int IntKind.i64 (u : Int))]) 1 3 false = rowZ (W ++ [(u : Int)]) := by rw [← List.map_drop, hQ.hd, rowZ, List.map_append]; rfl
  have hl'2 : off + (W.length + 1) = els.length + 1 := by omega
  have hWs : (W ++ [(u : Int)]).length = W.length + 1 := by simp
  have hk := h2 hlt _ _ _ _ (hin []).1 (hin []).2
  have hk2 := h2 hlt _ _ _ _ hnw.1 hnw.2
  rw [hWs] at hk hk2
  obtain ⟨Y, hY⟩ : ∃ Y, Y = (X ++ [rowZ [(u : Int)]]).set o (rowZ (els ++ [(u : Int)])) := ⟨_, rfl⟩
  obtain ⟨Y2, hY2⟩ : ∃ Y2, Y2 = X ++ [rowZ [(u : Int)], rowZ (W ++ [(u : Int)])] := ⟨_, rfl⟩
  have y7 : Y[7]? = some (.box (.os o off W.length)) := by rw [hY, List.getElem?_set_ne (by omega)]; exact e7 _
  have y3 : Y[m + 3]? = some (.lp 56 t [36, 37] rc69_0a rc69_0c .busy) := by rw [hY, List.getElem?_set_ne (by omega)]; exact e3 _
  have yo : Y[o]? = some (rowZ (els ++ [(u : Int)])) := by rw [hY, List.getElem?_set_self (by simp; omega)]
  have z7 : Y2[7]? = some (.box (.os o off W.length)) := by rw [hY2]; exact e7 _
  have z3 : Y2[m + 3]? = some (.lp 56 t [36, 37] rc69_0a rc69_0c .busy) := by rw [hY2]; exact e3 _
  have zo : Y2[H.length + 1]? = some (rowZ (W ++ [(u : Int)])) := by rw [hY2, List.getElem?_append_right (by omega), hXl]; simp
  rw [← hY] at hk
  rw [← hY2] at hk2
  clear hin hnw h1 h2 hX hQ hV hXa
  by_cases hoff : off = 0
  · have hWl : W.length = els.length := by omega
    rw [hoff, hWl] at hk y7
    simp -implicitDefEqProofs (disch := omega) [List.getElem?_cons_zero, List.getElem?_cons_succ, wrap_id, hoff, hWl, hb5, r0, r1, ← hY]
    simp -implicitDefEqProofs (disch := omega) [List.getElem?_cons_zero, List.getElem?_cons_succ, wrap_id, ht4, y7, y3, yo, List.getElem?_set_ne, -getElem?_pos]
    exact hk
  simp -implicitDefEqProofs (disch := omega) [List.getElem?_cons_zero, List.getElem?_cons_succ, wrap_id, hoff]
  simp only [appQP, eo]
  refine ⟨⟨by rw [List.length_map]; exact hl', trivial, trivial, by simp, by simp [List.all_map], by simp, by simp; omega⟩, ?_, ?_⟩
  · rw [r0, r1, ← hY]
    simp -implicitDefEqProofs (disch := omega) [List.getElem?_cons_zero, List.getElem?_cons_succ, wrap_id, ht4, y7, y3, yo, hl'2, List.getElem?_set_ne, -getElem?_pos]
    exact hk
  · rw [r0, r2, List.append_assoc]
    show PutK _ _ _ _ (X ++ [rowZ [(u : Int)], rowZ (W ++ [(u : Int)])])
    rw [← hY2, List.length_append, hXl]
    simp -implicitDefEqProofs (disch := omega) [List.getElem?_cons_zero, List.getElem?_cons_succ, wrap_id, ht4, z7, z3, zo, List.getElem?_set_ne, -getElem?_pos]
    exact hk2
end
end Go.Proofs.Ytgbmdikkdjogpaa
