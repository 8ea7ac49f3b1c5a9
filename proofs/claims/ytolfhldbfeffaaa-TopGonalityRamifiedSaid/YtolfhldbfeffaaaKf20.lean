/-
  Texts joined: Yr Ys Mza Ra.
-/
import Derived.Test.YtolfhldbfeffaaaKf19

section
set_option linter.unusedSimpArgs false
set_option linter.unusedVariables false
namespace Go.Proofs.Ytolfhldbfeffaaa
open Go.Abs Go.Sand
/-- The objects while vertices wait. -/
structure QH (n : Nat) (st : List AO) (far W : List Int) (H : List AO) (o off : Nat) (els : List Int) : Prop where
  hs : ∀ i, i < 4 → H[i]? = st[i]?
  h4 : H[4]? = some (rowZ far)
  h5 : H[5]? = some (.box (.os 4 0 n))
  h7 : H[7]? = some (.box (.os o off W.length))
  ho : H[o]? = some (rowZ els)
  hd : els.drop off = W
  hl : off + W.length = els.length
  hc : els.length ≤ cntG far
  hn : o = 6 ∨ 8 ≤ o
/-- The objects of one vertex's round, from m on. -/
structure VH (m : Nat) (v : Int) (L : AO) (H : List AO) (o : Nat) : Prop where
  g0 : H[m]? = some (.box (.i v))
  g1 : H[m + 1]? = some (.box (.ptr 1 1 0 0))
  g2 : H[m + 2]? = some (.box (.i v))
  g3 : H[m + 3]? = some L
  hm : 8 ≤ m
  hn : o < m ∨ m + 4 ≤ o
theorem lt_some {α : Type} {l : List α} {i : Nat} {x : α} (h : l[i]? = some x) : i < l.length := (List.getElem?_eq_some_iff.1 h).1
theorem app_some {α : Type} {l : List α} {i : Nat} {x : α} (h : l[i]? = some x) (Z : List α) : (l ++ Z)[i]? = some x := by rw [List.getElem?_append_left (lt_some h)]; exact h
theorem QH.app {n : Nat} {st : List AO} {far W : List Int} {H : List AO} {o off : Nat} {els : List Int} (h : QH n st far W H o off els) (Z : List AO) : QH n st far W (H ++ Z) o off els :=
  ⟨fun i hi => by rw [List.getElem?_append_left (by have := lt_some h.h4; omega)]; exact h.hs i hi, app_some h.h4 Z, app_some h.h5 Z, app_some h.h7 Z, app_some h.ho Z, h.hd, h.hl, h.hc, h.hn⟩
theorem VH.app {m : Nat} {v : Int} {L : AO} {H : List AO} {o : Nat} (h : VH m v L H o) (Z : List AO) : VH m v L (H ++ Z) o :=
  ⟨app_some h.g0 Z, app_some h.g1 Z, app_some h.g2 Z, app_some h.g3 Z, h.hm, h.hn⟩
theorem QVupd {n : Nat} {st : List AO} {far W far' W' els els' : List Int} {H Y : List AO} {o off o' off' m : Nat} {v : Int} {L L' : AO} (hQ : QH n st far W H o off els) (hV : VH m v L H o) (hlen : H.length ≤ Y.length)
    (hsame : ∀ i, i < H.length → i ≠ 4 → i ≠ m + 3 → i ≠ o → Y[i]? = H[i]?) (h4 : Y[4]? = some (rowZ far')) (ho : Y[o']? = some (rowZ els')) (hd : els'.drop off' = W') (hl : off' + W'.length = els'.length) (hc : els'.length ≤ cntG far') (hoo : o' = o ∨ H.length ≤ o') :
    QH n st far' W' ((Y.set 7 (.box (.os o' off' W'.length))).set (m + 3) L') o' off' els' ∧ VH m v L' ((Y.set 7 (.box (.os o' off' W'.length))).set (m + 3) L') o' := by
  have g3 := lt_some hV.g3
  have hm := hV.hm
  have hn1 := hQ.hn
  have hn2 := hV.hn
  have key : ∀ i, i ≠ 7 → i ≠ m + 3 → ((Y.set 7 (.box (.os o' off' W'.length))).set (m + 3) L')[i]? = Y[i]? := fun i h1 h2 => by
    rw [List.getElem?_set_ne (by omega), List.getElem?_set_ne (by omega)]
  refine ⟨⟨fun i hi => ?_, ?_, ?_, ?_, ?_, hd, hl, hc, by omega⟩, ⟨?_, ?_, ?_, ?_, hm, by omega⟩⟩
  · rw [key i (by omega) (by omega), hsame i (by omega) (by omega) (by omega) (by omega)]; exact hQ.hs i hi
  · rw [key 4 (by omega) (by omega)]; exact h4
  · rw [key 5 (by omega) (by omega), hsame 5 (by omega) (by omega) (by omega) (by omega)]; exact hQ.h5
  · rw [List.getElem?_set_ne (by omega), List.getElem?_set_self (by omega)]
  · rw [key o' (by omega) (by omega)]; exact ho
  · rw [key m (by omega) (by omega), hsame m (by omega) (by omega) (by omega) (by omega)]; exact hV.g0
  · rw [key (m + 1) (by omega) (by omega), hsame (m + 1) (by omega) (by omega) (by omega) (by omega)]; exact hV.g1
  · rw [key (m + 2) (by omega) (by omega), hsame (m + 2) (by omega) (by omega) (by omega) (by omega)]; exact hV.g2
  · rw [List.getElem?_set_self (by simp; omega)]
section
variable {n : Nat} (hn : n ≤ 12) {st : List AO}
include hn
set_option maxHeartbeats 2000000 in
theorem dist_body {m v : Nat} (hv : v < n) {t : List (Nat × AV)} (ht3 : Abs.get t 3 = .ptr 5 1 0 0) (ht4 : Abs.get t 4 = .ptr 7 1 0 0) (ht5 : Abs.get t 5 = .ptr m 1 0 0) {far W : List Int} {H : List AO} {o off : Nat} {els : List Int} (hQ : QH n st far W H o off els)
    (hV : VH m v (.lp 56 t [36, 37] rc80_0a rc80_0c .ready) H o) (hfl : far.length = n) {u : Nat} (hu : u < n) {k : Int} {K : AV → List AO → Prop} (hfv : -1 ≤ far.getD v 0 ∧ far.getD v 0 ≤ 12)
    (h1 : 0 ≤ far.getD u 0 → ∀ H', QH n st far W H' o off els → VH m v (.lp 56 t [36, 37] rc80_0a rc80_0c .ready) H' o → K (.b true) H')
    (h2 : far.getD u 0 < 0 → ∀ H' o' off' els', QH n st (far.set u (far.getD v 0 + 1)) (W ++ [(u : Int)]) H' o' off' els' → VH m v (.lp 56 t [36, 37] rc80_0a rc80_0c .ready) H' o' → K (.b true) H') :
    HY Try.prog (m + 3) [.i u, .i k] H K := by
  have hm := hV.hm
  have g0 := hV.g0
  have g3 := hV.g3
  have h4 := hQ.h4
  have h5 := hQ.h5
  have h7 := hQ.h7
  have ho := hQ.ho
  have hlen := lt_some g3
  have huf : u < far.length := by omega
  have hvf : v < far.length := by omega
  have fu : far[u]? = some far[u] := List.getElem?_eq_getElem huf
  have fv : far[v]? = some far[v] := List.getElem?_eq_getElem hvf
  refine HY_of_W g3 rcc80_0a rcc80_0c rfl rfl rfl rfl ?_
  have hset : H.set (m + 3) (.lp 56 t [36, 37] rc80_0a rc80_0c .ready) = H := by
    have := List.getElem_eq_iff hlen |>.2 g3
    rw [← this, List.set_getElem_self]
  have ho3 : o ≠ m + 3 := by have := hV.hn; omega
  have ho4 : o ≠ 4 := by have := hQ.hn; omega
  have ho5 : o ≠ 5 := by have := hQ.hn; omega
  have ho7 : o ≠ 7 := by have := hQ.hn; omega
  have gu : far.getD u 0 = far[u] := getD_get huf
  have gv : far.getD v 0 = far[v] := getD_get hvf
  rw [gu] at h1 h2
  rw [gv] at h2 hfv
  by_cases hlt : far[u] < 0
  rotate_left
  · have hlt' : ¬ far[u] < 0 := hlt
    simp -implicitDefEqProofs (disch := omega) [List.getElem?_cons_zero, List.getElem?_cons_succ, wrap_id, ra80_0a, ra80_0c, ht3, ht4, ht5, g0, g3, h4, h5, hlen, fu, List.getElem?_set_ne, hfl, -getElem?_pos, hu, hlt', hset]
    exact h1 (by omega) H hQ hV
  obtain ⟨X, hX⟩ : ∃ X, X = (H.set (m + 3) (.lp 56 t [36, 37] rc80_0a rc80_0c .busy)).set 4 (.row ((List.map PV.i far).set u (PV.v (Value.int IntKind.i64 (far[v] + 1)))) 1 3 false) := ⟨_, rfl⟩
  have hXl : X.length = H.length := by rw [hX]; simp
  have hXa : ∀ i, i ≠ 4 → i ≠ m + 3 → X[i]? = H[i]? := fun i e1 e2 => by rw [hX, List.getElem?_set_ne (by omega), List.getElem?_set_ne (by omega)]
  have hX4 : X[4]? = some (rowZ (far.set u (far[v] + 1))) := by rw [hX, List.getElem?_set_self (by rw [List.length_set]; omega), rowZ, List.map_set]
  have hX3 : X[m + 3]? = some (.lp 56 t [36, 37] rc80_0a rc80_0c .busy) := by rw [hX, List.getElem?_set_ne (by omega), List.getElem?_set_self hlen]
  have e1 : ∀ y, (X ++ [y])[H.length]? = some y := fun y => by rw [← hXl]; simp
  have eo : ∀ Z, (X ++ Z)[o]? = some (rowZ els) := fun Z => app_some (by rw [hXa o ho4 ho3, ho]) Z
  have e7 : ∀ Z, (X ++ Z)[7]? = some (.box (.os o off W.length)) := fun Z => app_some (by rw [hXa 7 (by omega) (by omega), h7]) Z
  have e3 : ∀ Z, (X ++ Z)[m + 3]? = some (.lp 56 t [36, 37] rc80_0a rc80_0c .busy) := fun Z => app_some hX3 Z
  have x7 : X[7]? = some (.box (.os o off W.length)) := by rw [hXa 7 (by omega) (by omega), h7]
  have hcl := cntG_le far
  have hec := hQ.hc
  have hbd : els.length + 1 ≤ 1048576 := by omega
  have hl' := hQ.hl
  simp -implicitDefEqProofs (disch := omega) [List.getElem?_cons_zero, List.getElem?_cons_succ, wrap_id, ra80_0a, ra80_0c, ht3, ht4, ht5, g0, g3, h4, h5, h7, hlen, fu, fv, List.getElem?_set_ne, hfl, -getElem?_pos, hu, hlt, hv, ← hX, e1, eo, e7, e3, hXl, x7]
  have hb5 : els.length ≤ 1048575 := by omega
  have ho' := lt_some ho
  have hn2 := hV.hn
  have hcs : cntG (far.set u (far[v] + 1)) = cntG far + 1 := cntG_set huf (by rw [gu]; exact hlt) (by omega)
  have hin : ∀ (Z : List AO), QH n st (far.set u (far[v] + 1)) (W ++ [(u : Int)]) ((((X ++ [rowZ [(u : Int)]]).set o (rowZ (els ++ [(u : Int)]))).set 7 (.box (.os o off (W ++ [(u : Int)]).length))).set (m + 3) (.lp 56 t [36, 37] rc80_0a rc80_0c .ready)) o off (els ++ [(u : Int)]) ∧
      VH m v (.lp 56 t [36, 37] rc80_0a rc80_0c .ready) ((((X ++ [rowZ [(u : Int)]]).set o (rowZ (els ++ [(u : Int)]))).set 7 (.box (.os o off (W ++ [(u : Int)]).length))).set (m + 3) (.lp 56 t [36, 37] rc80_0a rc80_0c .ready)) o := fun Z => by
    refine QVupd hQ hV (by simp; omega) (fun i h1 h2 h3 h4 => ?_) ?_ ?_ ?_ ?_ ?_ (.inl rfl)
    · rw [List.getElem?_set_ne (by omega), List.getElem?_append_left (by omega)]; exact hXa i h2 h3
    · rw [List.getElem?_set_ne (by omega)]; exact app_some hX4 _
    · rw [List.getElem?_set_self (by simp; omega)]
    · rw [List.drop_append_of_le_length (by omega), hQ.hd]
    · simp; omega
    · rw [hcs]; simp; omega
  have hnw : QH n st (far.set u (far[v] + 1)) (W ++ [(u : Int)]) (((X ++ [rowZ [(u : Int)], rowZ (W ++ [(u : Int)])]).set 7 (.box (.os (H.length + 1) 0 (W ++ [(u : Int)]).length))).set (m + 3) (.lp 56 t [36, 37] rc80_0a rc80_0c .ready)) (H.length + 1) 0 (W ++ [(u : Int)]) ∧
      VH m v (.lp 56 t [36, 37] rc80_0a rc80_0c .ready) (((X ++ [rowZ [(u : Int)], rowZ (W ++ [(u : Int)])]).set 7 (.box (.os (H.length + 1) 0 (W ++ [(u : Int)]).length))).set (m + 3) (.lp 56 t [36, 37] rc80_0a rc80_0c .ready)) (H.length + 1) := by
    refine QVupd hQ hV (by simp; omega) (fun i h1 h2 h3 h4 => ?_) ?_ ?_ rfl (by simp) ?_ (.inr (by omega))
    · rw [List.getElem?_append_left (by omega)]; exact hXa i h2 h3
    · exact app_some hX4 _
    · rw [List.getElem?_append_right (by omega), hXl]; simp
    · rw [hcs]; simp; omega
  have r0 : AO.row [PV.v (Value.int IntKind.i64 (u : Int))] 1 3 false = rowZ [(u : Int)] := rfl
  have r1 : AO.row (List.map PV.i els ++ [PV.v (Value.int IntKind.i64 (u : Int))]) 1 3 false = rowZ (els ++ [(u : Int)]) := by rw [rowZ, List.map_append]; rfl
  have r2 : AO.row (List.drop off (List.map PV.i els) ++ [PV.v (Value.int IntKind.i64 (u : Int))]) 1 3 false = rowZ (W ++ [(u : Int)]) := by rw [← List.map_drop, hQ.hd, rowZ, List.map_append]; rfl
  have hl'2 : off + (W.length + 1) = els.length + 1 := by omega
  have hWs : (W ++ [(u : Int)]).length = W.length + 1 := by simp
  have hk := h2 hlt _ _ _ _ (hin []).1 (hin []).2
  have hk2 := h2 hlt _ _ _ _ hnw.1 hnw.2
  rw [hWs] at hk hk2
  obtain ⟨Y, hY⟩ : ∃ Y, Y = (X ++ [rowZ [(u : Int)]]).set o (rowZ (els ++ [(u : Int)])) := ⟨_, rfl⟩
  obtain ⟨Y2, hY2⟩ : ∃ Y2, Y2 = X ++ [rowZ [(u : Int)], rowZ (W ++ [(u : Int)])] := ⟨_, rfl⟩
  have y7 : Y[7]? = some (.box (.os o off W.length)) := by rw [hY, List.getElem?_set_ne (by omega)]; exact e7 _
  have y3 : Y[m + 3]? = some (.lp 56 t [36, 37] rc80_0a rc80_0c .busy) := by rw [hY, List.getElem?_set_ne (by omega)]; exact e3 _
  have yo : Y[o]? = some (rowZ (els ++ [(u : Int)])) := by rw [hY, List.getElem?_set_self (by simp; omega)]
  have z7 : Y2[7]? = some (.box (.os o off W.length)) := by rw [hY2]; exact e7 _
  have z3 : Y2[m + 3]? = some (.lp 56 t [36, 37] rc80_0a rc80_0c .busy) := by rw [hY2]; exact e3 _
  have zo : Y2[H.length + 1]? = some (rowZ (W ++ [(u : Int)])) := by rw [hY2, List.getElem?_append_right (by omega), hXl]; simp
  rw [← hY] at hk
  rw [← hY2] at hk2
  clear hin hnw h1 h2 hX hQ hV hXa
  by_cases hoff : off = 0
  · have hWl : W.length = els.length := by omega
    rw [hoff, hWl] at hk y7
    simp -implicitDefEqProofs (disch := omega) [List.getElem?_cons_zero, List.getElem?_cons_succ, wrap_id, hoff, hWl, hb5, r0, r1, ← hY]
    simp -implicitDefEqProofs (disch := omega) [List.getElem?_cons_zero, List.getElem?_cons_succ, wrap_id, ht4, y7, y3, yo, List.getElem?_set_ne, -getElem?_pos]
    exact hk
  simp -implicitDefEqProofs (disch := omega) [List.getElem?_cons_zero, List.getElem?_cons_succ, wrap_id, hoff]
  simp only [appQP, eo]
  refine ⟨⟨by rw [List.length_map]; exact hl', trivial, trivial, by simp, by simp [List.all_map], by simp, by simp; omega⟩, ?_, ?_⟩
  · rw [r0, r1, ← hY]
    simp -implicitDefEqProofs (disch := omega) [List.getElem?_cons_zero, List.getElem?_cons_succ, wrap_id, ht4, y7, y3, yo, hl'2, List.getElem?_set_ne, -getElem?_pos]
    exact hk
  · rw [r0, r2, List.append_assoc]
    show PutK _ _ _ _ (X ++ [rowZ [(u : Int)], rowZ (W ++ [(u : Int)])])
    rw [← hY2, List.length_append, hXl]
    simp -implicitDefEqProofs (disch := omega) [List.getElem?_cons_zero, List.getElem?_cons_succ, wrap_id, ht4, z7, z3, zo, List.getElem?_set_ne, -getElem?_pos]
    exact hk2
end
end Go.Proofs.Ytolfhldbfeffaaa
end
section
set_option linter.unusedSimpArgs false
set_option linter.unusedVariables false
namespace Go.Proofs.Ytolfhldbfeffaaa
open Go.Abs Go.Sand
/-- What holds ahead of each round. -/
def DsI (n : Nat) (es : List Ed) (q : Nat) (st : List AO) (k : Nat) (s1 : St) : Prop := ∃ far W H o off els, Bf n es q (-1) far W ∧ QH n st far W H o off els ∧ k + W.length = cntG far ∧ s1 = ⟨[(0, .ptr 1 1 0 0), (3, .ptr 5 1 0 0), (4, .ptr 7 1 0 0)], H⟩
/-- What holds while the edges at a vertex are looked at. -/
def DsJ (n : Nat) (es : List Ed) (q : Nat) (st : List AO) (m : Nat) (v : Nat) (L : AO) (c : Nat) (k : Nat) (H : List AO) : Prop := ∃ far W o off els, Bf n es q v far W ∧ QH n st far W H o off els ∧ VH m v L H o ∧ c + W.length = cntG far ∧ 0 ≤ far.getD v 0 ∧
  ∀ x ∈ es.take k, incB v x = true → 0 ≤ far.getD (x.a + x.b - v).toNat 0
theorem QH.set {n : Nat} {st : List AO} {far W : List Int} {H : List AO} {o off : Nat} {els : List Int} (h : QH n st far W H o off els) {i : Nat} (h8 : 8 ≤ i) (ho : i ≠ o) (x : AO) : QH n st far W (H.set i x) o off els := by
  refine ⟨fun j hj => ?_, ?_, ?_, ?_, ?_, h.hd, h.hl, h.hc, h.hn⟩
  · rw [List.getElem?_set_ne (by omega)]; exact h.hs j hj
  · rw [List.getElem?_set_ne (by omega)]; exact h.h4
  · rw [List.getElem?_set_ne (by omega)]; exact h.h5
  · rw [List.getElem?_set_ne (by omega)]; exact h.h7
  · rw [List.getElem?_set_ne (by omega)]; exact h.ho
section
variable {n : Nat} {es : List Ed} (hr : ∀ x ∈ es, Right n x) (hn : n ≤ 12) (hel : es.length ≤ 1000) {q : Nat} (hq : q < n) {d s : List Int} {er : Int} (hd : d.length = n) (hs : s.length = n)
include hr hn hel hq hd hs
theorem dist_hc {K : AV → List AO → Prop} (hK : ∀ far : List Int, FarOk n es q far → K (.os 4 0 n) (stH n es q d s er ++ [rowZ far])) : HC Try.prog false 80 [.ptr 1 1 0 0] (stH n es q d s er) K := by
  refine HC_norm ?_
  refine HC_of_W (af := _) ((by exact cfn80 : cfn _ _ _ = some _)) ?_
  simp -implicitDefEqProofs (disch := omega) [c80, List.getElem?_cons_zero, List.getElem?_cons_succ, wrap_id]
  refine HC_of_PC rfl (repeat_ok n (by omega) hn (-1)) ?_
  simp -implicitDefEqProofs (disch := omega) [List.getElem?_cons_zero, List.getElem?_cons_succ, wrap_id, hq]
  refine loopW n (DsI n es q (stH n es q d s er)) (wk_norm [0, 1, 2, 3, 5, 6, 7, 8] [0, 3, 4] rfl rfl)
    ⟨_, _, _, 6, 0, [(q : Int)], Bf.init hq, ⟨fun i hi => ?_, by rw [rowZ, List.map_set, List.map_replicate]; rfl, rfl, rfl, rfl, rfl, by simp, ?_, .inl rfl⟩, ?_, rfl⟩ ?_
  · match i, hi with
    | 0, _ => rfl
    | 1, _ => rfl
    | 2, _ => rfl
    | 3, _ => rfl
  · have := cntG_set (far := List.replicate n (-1)) (u := q) (y := 0) (by simpa using hq) (by rw [getD_rep hq]; omega) (by omega)
    rw [this]; simp
  · have := cntG_set (far := List.replicate n (-1)) (u := q) (y := 0) (by simpa using hq) (by rw [getD_rep hq]; omega) (by omega)
    rw [this]; unfold cntG; rw [List.countP_replicate]; simp
  rintro k s1 hk ⟨far, W, H, o, off, els, hB, hQ, hcnt, rfl⟩
  have h5 := hQ.h5
  have h7 := hQ.h7
  have ho := hQ.ho
  have hlen := lt_some h7
  have hl := hQ.hl
  cases W with
  | nil =>
    have hl' : off = els.length := by simpa using hl
    have g0 := hQ.hs 0 (by omega)
    have g1 := hQ.hs 1 (by omega)
    have g2 := hQ.hs 2 (by omega)
    have g3 := hQ.hs 3 (by omega)
    have h4 := hQ.h4
    simp -implicitDefEqProofs (disch := omega) [List.getElem?_cons_zero, List.getElem?_cons_succ, wrap_id, h5, h7, hl', ho, -getElem?_pos]
    refine finH trivial rfl ⟨[0, 1, 2, 3, 4], ?_, ?_⟩
    · simp [okσ, nodupB, firstB]; omega
    · have := hK far hB.ok
      simp only [stH, List.getElem?_cons_zero, List.getElem?_cons_succ] at g0 g1 g2 g3
      simp only [renH, List.map_cons, List.map_nil, List.getD_eq_getElem?_getD, g0, g1, g2, g3, h4, Option.getD_some]
      exact this
  | cons w W =>
    obtain ⟨hw0, hwn, hwf⟩ := hB.w w (by simp)
    obtain ⟨v, rfl⟩ : ∃ v : Nat, w = v := ⟨w.toNat, by omega⟩
    rw [Int.toNat_natCast] at hwf
    have hvn : v < n := by omega
    rw [List.length_cons] at h7 hl
    have hl2 : off + (W.length + 1) = els.length := hl
    have hl3 : off + 1 + W.length = els.length := by omega
    have hpos : (0 : Int) < (W.length : Int) + 1 := by omega
    have hpos2 : 0 < W.length + 1 := by omega
    have hdr := hQ.hd
    have e0 : els[off]? = some (v : Int) := by
      have := congrArg (fun l : List Int => l[0]?) hdr
      simpa using this
    have f1 : ∀ y, (H ++ [y])[H.length]? = some y := fun y => by simp
    have f3 : ∀ y z, (H ++ [y]).set H.length z = H ++ [z] := fun y z => by simp
    have f7 : ∀ Z, (H ++ Z)[7]? = _ := fun Z => app_some h7 Z
    have fo : ∀ Z, (H ++ Z)[o]? = _ := fun Z => app_some ho Z
    have ho7 : o ≠ 7 := by have := hQ.hn; omega
    have hoH := lt_some ho
    obtain ⟨X, hX⟩ : ∃ X, X = H.set 7 (.box (.os o (off + 1) W.length)) ++ [AO.box (.p (.i v))] := ⟨_, rfl⟩
    have hXl : X.length = H.length + 1 := by rw [hX]; simp
    have hXm : X[H.length]? = some (.box (.i v)) := by rw [hX, List.getElem?_append_right (by simp)]; simp
    simp -implicitDefEqProofs (disch := omega) [List.getElem?_cons_zero, List.getElem?_cons_succ, wrap_id, h5, h7, hl2, hl3, ho, e0, f1, f3, f7, fo, hpos, hpos2, ← hX, hXm, -getElem?_pos]
    have hX1 : ∀ L, (X ++ L)[1]? = (stH n es q d s er)[1]? := fun L => by
      rw [List.getElem?_append_left (by omega), hX, List.getElem?_append_left (by simp; omega), List.getElem?_set_ne (by omega)]
      exact hQ.hs 1 (by omega)
    refine links_hc (fun L => by simp [boxable, solid, hX1]) ?_
    simp -implicitDefEqProofs (disch := omega) [List.getElem?_cons_zero, List.getElem?_cons_succ, wrap_id, hXl]
    obtain ⟨t, ht, ht3, ht4, ht5⟩ : ∃ t : List (Nat × AV), t = [(35, AV.fn (Fn.func 92) [] [AV.ptr (H.length + 1) 1 0 0, AV.ptr (H.length + 1 + 1) 1 0 0]),
          (34, AV.p (PV.v (Value.int IntKind.i64 (v : Int)))), (33, AV.ptr 1 1 0 0), (32, AV.os o (off + 1) W.length),
          (31, AV.os o off (W.length + 1)), (5, AV.ptr H.length 1 0 0), (30, AV.p (PV.i v)),
          (29, AV.ptr o els.length off 0), (28, AV.os o off (W.length + 1)), (27, AV.p (PV.v (Value.bool true))),
          (26, AV.p (PV.v (Value.int IntKind.i64 ((W.length : Int) + 1)))), (25, AV.os o off (W.length + 1)),
          (0, AV.ptr 1 1 0 0), (3, AV.ptr 5 1 0 0), (4, AV.ptr 7 1 0 0)] ∧ Abs.get t 3 = .ptr 5 1 0 0 ∧ Abs.get t 4 = .ptr 7 1 0 0 ∧ Abs.get t 5 = .ptr H.length 1 0 0 := ⟨_, rfl, rfl, rfl, rfl⟩
    have ht0 : Abs.get t 0 = .ptr 1 1 0 0 := by rw [ht]; rfl
    rw [← ht]
    have hoX : o ≠ H.length := by omega
    have hQX : QH n (stH n es q d s er) far W X o (off + 1) els := by
      have hx : ∀ i, i < H.length → i ≠ 7 → X[i]? = H[i]? := fun i h1 h2 => by rw [hX, List.getElem?_append_left (by simp; omega), List.getElem?_set_ne (by omega)]
      refine ⟨fun i hi => by rw [hx i (by omega) (by omega)]; exact hQ.hs i hi, ?_, ?_, ?_, ?_, ?_, by omega, hQ.hc, hQ.hn⟩
      · rw [hx 4 (by omega) (by omega)]; exact hQ.h4
      · rw [hx 5 (by omega) (by omega)]; exact hQ.h5
      · rw [hX, List.getElem?_append_left (by simp; omega), List.getElem?_set_self (by omega)]
      · rw [hx o (by omega) (by omega)]; exact ho
      · rw [← List.drop_drop, hdr]; rfl
    have ap : ∀ (Z : List AO) (i j : Nat), i = H.length + 1 + j → (X ++ Z)[i]? = Z[j]? := fun Z i j e => by
      rw [List.getElem?_append_right (by omega), show i - X.length = j by omega]
    refine ⟨by kernel_rfl, links_rangeJ hr hn hel (v := (v : Int)) (by omega) (o := 1) (xi := H.length + 1) (vi := H.length + 1 + 1) (lp := H.length + 1 + 2) (L := .lp 56 t [36, 37] rc80_0a rc80_0c .ready) (J := DsJ n es q (stH n es q d s er) H.length v (.lp 56 t [36, 37] rc80_0a rc80_0c .ready) (k + 1))
      ⟨far, W, o, off + 1, els, hB.pop, hQX.app _, ⟨app_some hXm _, ?_, ?_, ?_, by omega, by omega⟩, by simp at hcnt; omega, hwf, fun x hx => by simp at hx⟩ (hX1 _) ?_ ?_ ?_ rfl ?_ ?_ ?_ ?_⟩
    · rw [ap _ _ 0 (by omega)]; rfl
    · rw [ap _ _ 1 (by omega)]; rfl
    · rw [ap _ _ 2 (by omega)]; rfl
    · rw [ap _ _ 0 (by omega)]; rfl
    · rintro i H1 ⟨far, W, o, off, els, hB, hQ, hV, h⟩
      exact hV.g2
    · rintro i H1 ⟨far, W, o, off, els, hB, hQ, hV, h⟩
      exact hV.g3
    · rintro i H1 Z ⟨far, W, o, off, els, hB, hQ, hV, h⟩
      exact ⟨far, W, o, off, els, hB, hQ.app Z, hV.app Z, h⟩
    · rintro i hi H1 hinc ⟨far, W, o, off, els, hB, hQ, hV, h1, h2, h3⟩
      refine ⟨far, W, o, off, els, hB, hQ, hV, h1, h2, fun x hx hix => ?_⟩
      rw [List.take_succ_eq_append_getElem hi] at hx
      rcases List.mem_append.1 hx with hx | hx
      · exact h3 x hx hix
      · simp only [List.mem_singleton] at hx
        rw [hx, hinc] at hix
        cases hix
    · rintro i hi H1 K' hinc ⟨far, W, o, off, els, hB, hQ, hV, h1, h2, h3⟩ hK'
      obtain ⟨r1, r2, r3, r4, r5, r6, r7⟩ := hr es[i] (List.getElem_mem hi)
      have hinc2 := hinc
      simp only [incB, decide_eq_true_eq] at hinc2
      obtain ⟨u, hu⟩ : ∃ u : Nat, es[i].a + es[i].b - v = u := ⟨(es[i].a + es[i].b - v).toNat, by omega⟩
      have hun : u < n := by omega
      have hiu : incB u es[i] = true := by
        simp only [incB, decide_eq_true_eq]
        omega
      have hback : (es[i].a + es[i].b - (u : Int)).toNat = v := by omega
      have hfr := hB.rng v hvn
      have hcl := cntG_le far
      rw [hB.len] at hcl
      rw [hu]
      have hk1 : ∀ far' : List Int, (∀ y, 0 ≤ far.getD y 0 → 0 ≤ far'.getD y 0) → 0 ≤ far'.getD u 0 → ∀ x ∈ es.take (i + 1), incB v x = true → 0 ≤ far'.getD (x.a + x.b - v).toNat 0 := fun far' hmono hu0 x hx hix => by
        rw [List.take_succ_eq_append_getElem hi] at hx
        rcases List.mem_append.1 hx with hx | hx
        · exact hmono _ (h3 x hx hix)
        · simp only [List.mem_singleton] at hx
          rw [hx, hu, Int.toNat_natCast]
          exact hu0
      refine dist_body hn hvn ht3 ht4 ht5 hQ hV hB.len hun (by omega) (fun hf H' hQ' hV' => ?_) (fun hf H' o' off' els' hQ' hV' => ?_)
      · exact hK' H' ⟨far, W, o, off, els, hB, hQ', hV', h1, h2, hk1 far (fun _ h => h) hf⟩
      · have hul : u < far.length := by rw [hB.len]; exact hun
        have hmono : ∀ y, 0 ≤ far.getD y 0 → 0 ≤ (far.set u (far.getD v 0 + 1)).getD y 0 := fun y hy => by
          rw [getD_set' hul]
          split <;> omega
        refine hK' H' ⟨_, _, o', off', els', hB.push hun hf hvn h2 ⟨es[i], List.getElem_mem hi, hiu, hback⟩, hQ', hV', ?_, hmono _ h2, hk1 _ hmono ?_⟩
        · rw [cntG_set hul hf (by omega)]; simp; omega
        · rw [getD_set' hul, if_pos rfl]; omega
    · rintro r H1 ⟨far, W, o, off, els, hB, hQ, hV, h1, h2, h3⟩
      rw [List.take_length] at h3
      have hcl := cntG_le far
      rw [hB.len] at hcl
      have hno := hV.hn
      refine AfterR_ready hV.g3 ?_
      simp -implicitDefEqProofs (disch := omega) [List.getElem?_cons_zero, List.getElem?_cons_succ, wrap_id]
      refine round_keep [0, 3, 4] (by omega) ⟨far, W, _, o, off, els, hB.done h3, hQ.set (i := H.length + 1 + 2) (by omega) (by omega) (.lp 56 t [36, 37] rc80_0a rc80_0c .over), by omega, ?_⟩
      simp [Abs.get, ht]
end
end Go.Proofs.Ytolfhldbfeffaaa
end
section
namespace Go
namespace Sand
/-- How often two vertices are joined. -/
def joinE (es : List Ed) (v u : Nat) : Int := if u = v then 0 else betw es (min (u : Int) v) (max (u : Int) v)
/-- A sum over the first k vertices. -/
def sumN (f : Nat → Int) : Nat → Int
  | 0 => 0
  | k + 1 => sumN f k + f k
theorem sumN_add (f g : Nat → Int) (k : Nat) : sumN (fun u => f u + g u) k = sumN f k + sumN g k := by
  induction k with
  | zero => rfl
  | succ k ih => simp only [sumN, ih]; omega
theorem sumN_congr {f g : Nat → Int} {k : Nat} (h : ∀ u, u < k → f u = g u) : sumN f k = sumN g k := by
  induction k with
  | zero => rfl
  | succ k ih => simp only [sumN]; rw [ih fun u hu => h u (by omega), h k (by omega)]
theorem sumN_nonneg {f : Nat → Int} {k : Nat} (h : ∀ u, u < k → 0 ≤ f u) : 0 ≤ sumN f k := by
  induction k with
  | zero => exact Int.le_refl 0
  | succ k ih => simp only [sumN]; have := ih fun u hu => h u (by omega); have := h k (by omega); omega
theorem sumN_le {f g : Nat → Int} {k : Nat} (h : ∀ u, u < k → f u ≤ g u) : sumN f k ≤ sumN g k := by
  induction k with
  | zero => exact Int.le_refl 0
  | succ k ih => simp only [sumN]; have := ih fun u hu => h u (by omega); have := h k (by omega); omega
theorem sumN_zero (k : Nat) : sumN (fun _ => 0) k = 0 := by
  induction k with
  | zero => rfl
  | succ k ih => simp only [sumN, ih]; rfl
theorem sumN_one (v k : Nat) (c : Int) : sumN (fun u => if u = v then c else 0) k = if v < k then c else 0 := by
  induction k with
  | zero => rfl
  | succ k ih =>
    simp only [sumN, ih]
    by_cases h : k = v
    · subst h; simp
    · by_cases h2 : v < k
      · rw [if_pos h2, if_neg h, if_pos (by omega)]; omega
      · rw [if_neg h2, if_neg h, if_neg (by omega)]; omega
theorem sumN_mul (f : Nat → Int) (c : Int) (k : Nat) : sumN (fun u => c * f u) k = c * sumN f k := by
  induction k with
  | zero => simp [sumN]
  | succ k ih => simp only [sumN, ih, Int.mul_add]
theorem sumN_swap (f : Nat → Nat → Int) (n : Nat) : ∀ k, sumN (fun u => sumN (fun v => f u v) n) k = sumN (fun v => sumN (fun u => f u v) k) n
  | 0 => by simp only [sumN]; rw [sumN_zero]
  | k + 1 => by
    simp only [sumN]
    rw [sumN_add, sumN_swap f n k]
theorem sumN_sumI (l : List Int) : ∀ k, k ≤ l.length → sumN (fun u => l.getD u 0) k = sumI (l.take k)
  | 0, _ => rfl
  | k + 1, h => by
    simp only [sumN]
    rw [sumN_sumI l k (by omega), sumI_snoc l k (by omega), getD_get (by omega)]
theorem sumI_sumN (l : List Int) : sumI l = sumN (fun u => l.getD u 0) l.length := by rw [sumN_sumI l _ (Nat.le_refl _), List.take_length]
section
variable {n : Nat} {es : List Ed} (hg : GoodG n es)
include hg
theorem joinE_bd (v u : Nat) : 0 ≤ joinE es v u ∧ joinE es v u ≤ 50 := by
  unfold joinE
  split
  · omega
  · exact betw_bd hg.right _ _
omit hg in
theorem joinE_sym (v u : Nat) : joinE es v u = joinE es u v := by
  unfold joinE
  by_cases h : u = v
  · subst h; rfl
  · rw [if_neg h, if_neg (fun e => h e.symm), Int.min_comm, Int.max_comm]
omit hg in
theorem joinE_self (v : Nat) : joinE es v v = 0 := by simp [joinE]
omit hg in
theorem valTo_sum (v k : Nat) : valTo es v k = sumN (fun u => joinE es v u) k := by
  induction k with
  | zero => rfl
  | succ k ih =>
    simp only [valTo, sumN, ih, joinE]
    by_cases h : k = v
    · subst h; simp
    · rw [if_neg (by omega), if_neg h]
/-- Script s with vertex v firing k times more. -/
def moreS (s : List Int) (v : Nat) (k : Int) : List Int := s.set v (s.getD v 0 + k)
omit hg in
theorem moreS_len (s : List Int) (v : Nat) (k : Int) : (moreS s v k).length = s.length := by simp [moreS]
omit hg in
theorem moreS_get (s : List Int) (v : Nat) (k : Int) (hv : v < s.length) (i : Nat) : (moreS s v k).getD i 0 = s.getD i 0 + if i = v then k else 0 := by
  rw [moreS, getD_set]
  by_cases h : i = v
  · subst h; simp [hv]
  · rw [if_neg (by omega), if_neg h]; omega
omit hg in
theorem zeros_get (i : Nat) : (List.replicate n (0 : Int)).getD i 0 = 0 := by
  by_cases h : i < n <;> simp [List.getD_eq_getElem?_getD, h]
/-- Vertex v may fire k times. -/
structure May (n : Nat) (es : List Ed) (q : Int) (d : List Int) (v : Nat) (k : Int) : Prop where
  lt : v < n
  ne : (v : Int) ≠ q
  k1 : 1 ≤ k
  le : k * valTo es v n ≤ d.getD v 0
/-- A script that can be fired legally, without the sink. -/
inductive Leg (n : Nat) (es : List Ed) (q : Int) (d : List Int) : List Int → Prop
  | nil : Leg n es q d (List.replicate n 0)
  | more {s : List Int} {v : Nat} {k : Int} (h : Leg n es q d s) (m : May n es q (movedE es s d) v k) : Leg n es q d (moreS s v k)
omit hg in
theorem Leg.len {q : Int} {d s : List Int} (h : Leg n es q d s) : s.length = n := by
  induction h with
  | nil => simp
  | more _ _ ih => rw [moreS_len, ih]
omit hg in
theorem Leg.nn {q : Int} {d s : List Int} (h : Leg n es q d s) (i : Nat) : 0 ≤ s.getD i 0 := by
  induction h with
  | nil => rw [zeros_get]; exact Int.le_refl 0
  | more h m ih =>
    rw [moreS_get _ _ _ (by rw [h.len]; exact m.lt)]
    have := m.k1
    split <;> omega
end
end Sand
end Go
/-
  Plain laws: what stabilizing computes, some firings at once, and one after the other. No program.
-/
namespace Go
namespace Sand
section
variable (n : Nat) (es : List Ed) (q : Int) (d : List Int)
end
section
variable {n : Nat} {es : List Ed} {q : Int} {d : List Int}
theorem Leg.sum {s : List Int} (h : Leg n es q d s) : 0 ≤ sumI s := by
  rw [sumI_sumN]; exact sumN_nonneg fun u _ => h.nn u
end
end Sand
end Go
end
section
namespace Go
namespace Sand
/-- A connected graph, by how often its vertices are joined. -/
structure MG (n : Nat) (J : Nat → Nat → Int) : Prop where
  sym : ∀ u v, J u v = J v u
  nn : ∀ u v, 0 ≤ J u v
  self : ∀ v, J v v = 0
  conn : ∀ (A : Nat → Bool) (a b : Nat), a < n → b < n → A a = true → A b = false → ∃ u w, u < n ∧ w < n ∧ A u = true ∧ A w = false ∧ 1 ≤ J u w
/-- What a script adds. -/
def lapF (n : Nat) (J : Nat → Nat → Int) (s : Nat → Int) (v : Nat) : Int := sumN (fun u => J v u * (s u - s v)) n
/-- How many edges lead from a vertex out of a set. -/
def outF (n : Nat) (J : Nat → Nat → Int) (A : Nat → Bool) (v : Nat) : Int := sumN (fun u => if A u = true then 0 else J v u) n
def Equi (n : Nat) (J : Nat → Nat → Int) (D E : Nat → Int) : Prop := ∃ s : Nat → Int, ∀ v, v < n → E v = D v + lapF n J s v
def RedF (n : Nat) (J : Nat → Nat → Int) (q : Nat) (D : Nat → Int) : Prop :=
  (∀ v, v < n → v ≠ q → 0 ≤ D v) ∧ ∀ A : Nat → Bool, A q = false → (∃ v, v < n ∧ A v = true) → ∃ v, v < n ∧ A v = true ∧ D v < outF n J A v
def EffF (n : Nat) (D : Nat → Int) : Prop := ∀ v, v < n → 0 ≤ D v
def WinF (n : Nat) (J : Nat → Nat → Int) (D : Nat → Int) : Prop := ∃ E, EffF n E ∧ Equi n J D E
theorem sumN_sub' (f g : Nat → Int) (k : Nat) : sumN (fun u => f u - g u) k = sumN f k - sumN g k := by
  induction k with
  | zero => rfl
  | succ k ih => simp only [sumN, ih]; omega
theorem sumN_neg' (f : Nat → Int) (k : Nat) : sumN (fun u => - f u) k = - sumN f k := by
  induction k with
  | zero => rfl
  | succ k ih => simp only [sumN, ih]; omega
theorem sumN_term {f : Nat → Int} {k v : Nat} (h : ∀ u, u < k → 0 ≤ f u) (hv : v < k) : f v ≤ sumN f k := by
  induction k with
  | zero => omega
  | succ k ih =>
    simp only [sumN]
    by_cases e : v = k
    · subst e
      have := sumN_nonneg (f := f) (k := v) fun u hu => h u (by omega)
      omega
    · have h1 := ih (fun u hu => h u (by omega)) (by omega)
      have h2 := h k (by omega)
      omega
section
variable {n : Nat} {J : Nat → Nat → Int}
theorem lapF_add (s t : Nat → Int) (v : Nat) : lapF n J (fun u => s u + t u) v = lapF n J s v + lapF n J t v := by
  unfold lapF
  rw [← sumN_add]
  refine sumN_congr fun u _ => ?_
  rw [← Int.mul_add]
  exact congrArg (J v u * ·) (by dsimp only; omega)
theorem lapF_mul (c : Int) (s : Nat → Int) (v : Nat) : lapF n J (fun u => c * s u) v = c * lapF n J s v := by
  unfold lapF
  rw [← sumN_mul]
  refine sumN_congr fun u _ => ?_
  rw [← Int.mul_sub, ← Int.mul_assoc, ← Int.mul_assoc, Int.mul_comm (J v u) c]
theorem lapF_neg (s : Nat → Int) (v : Nat) : lapF n J (fun u => - s u) v = - lapF n J s v := by
  have := lapF_mul (n := n) (J := J) (-1) s v
  simp only [Int.neg_one_mul] at this
  exact this
theorem lapF_zero (c : Int) (v : Nat) : lapF n J (fun _ => c) v = 0 := by
  unfold lapF
  rw [show sumN (fun u => J v u * (c - c)) n = sumN (fun _ => 0) n from sumN_congr fun u _ => by rw [Int.sub_self, Int.mul_zero], sumN_zero]
theorem Equi.refl (D : Nat → Int) : Equi n J D D := ⟨fun _ => 0, fun v _ => by rw [lapF_zero]; omega⟩
theorem Equi.symm {D E : Nat → Int} (h : Equi n J D E) : Equi n J E D := by
  obtain ⟨s, hs⟩ := h
  exact ⟨fun u => - s u, fun v hv => by rw [lapF_neg, hs v hv]; omega⟩
theorem Equi.trans {D E F : Nat → Int} (h : Equi n J D E) (k : Equi n J E F) : Equi n J D F := by
  obtain ⟨s, hs⟩ := h
  obtain ⟨t, ht⟩ := k
  exact ⟨fun u => s u + t u, fun v hv => by rw [lapF_add, ht v hv, hs v hv]; omega⟩
theorem Equi.of_eq {D E : Nat → Int} (h : ∀ v, v < n → E v = D v) : Equi n J D E := ⟨fun _ => 0, fun v hv => by rw [lapF_zero, h v hv]; omega⟩
theorem Equi.add {D E : Nat → Int} (h : Equi n J D E) (F : Nat → Int) : Equi n J (fun v => D v + F v) (fun v => E v + F v) := by
  obtain ⟨s, hs⟩ := h
  exact ⟨s, fun v hv => by dsimp only; rw [hs v hv]; omega⟩
theorem Equi.sub {D E : Nat → Int} (h : Equi n J D E) (F : Nat → Int) : Equi n J (fun v => D v - F v) (fun v => E v - F v) := by
  obtain ⟨s, hs⟩ := h
  exact ⟨s, fun v hv => by dsimp only; rw [hs v hv]; omega⟩
theorem Equi.from {D E : Nat → Int} (h : Equi n J D E) (F : Nat → Int) : Equi n J (fun v => F v - D v) (fun v => F v - E v) := by
  obtain ⟨s, hs⟩ := h
  exact ⟨fun u => - s u, fun v hv => by dsimp only; rw [lapF_neg, hs v hv]; omega⟩
theorem WinF.equi {D E : Nat → Int} (h : Equi n J D E) : WinF n J D ↔ WinF n J E :=
  ⟨fun ⟨F, h1, h2⟩ => ⟨F, h1, h.symm.trans h2⟩, fun ⟨F, h1, h2⟩ => ⟨F, h1, h.trans h2⟩⟩
theorem WinF.eff {D : Nat → Int} (h : EffF n D) : WinF n J D := ⟨D, h, Equi.refl D⟩
theorem WinF.add {D E : Nat → Int} (h : WinF n J D) (hE : EffF n E) : WinF n J (fun v => D v + E v) := by
  obtain ⟨F, h1, h2⟩ := h
  exact ⟨fun v => F v + E v, fun v hv => by have := h1 v hv; have := hE v hv; dsimp only; omega, h2.add E⟩
/-- There is a greatest one. -/
theorem exists_max (s : Nat → Int) : ∀ k, 0 < k → ∃ m, m < k ∧ ∀ u, u < k → s u ≤ s m
  | 0, h => by omega
  | 1, _ => ⟨0, by omega, fun u hu => by rw [show u = 0 by omega]; omega⟩
  | k + 2, _ => by
    obtain ⟨m, h1, h2⟩ := exists_max s (k + 1) (by omega)
    by_cases h : s m ≤ s (k + 1)
    · refine ⟨k + 1, by omega, fun u hu => ?_⟩
      by_cases e : u = k + 1
      · subst e; omega
      · have := h2 u (by omega); omega
    · refine ⟨m, by omega, fun u hu => ?_⟩
      by_cases e : u = k + 1
      · subst e; omega
      · exact h2 u (by omega)
variable (hM : MG n J)
include hM
theorem lap_deg (s : Nat → Int) : sumN (lapF n J s) n = 0 := by
  have h := sumN_swap (fun v u => J v u * (s u - s v)) n n
  have h2 : sumN (fun v => sumN (fun u => J u v * (s v - s u)) n) n = - sumN (fun v => sumN (fun u => J v u * (s u - s v)) n) n := by
    rw [← sumN_neg']
    refine sumN_congr fun v _ => ?_
    rw [← sumN_neg']
    refine sumN_congr fun u _ => ?_
    rw [hM.sym u v, ← Int.mul_neg]
    congr 1
    omega
  have e : sumN (lapF n J s) n = sumN (fun v => sumN (fun u => J v u * (s u - s v)) n) n := rfl
  omega
theorem Equi.deg {D E : Nat → Int} (h : Equi n J D E) : sumN E n = sumN D n := by
  obtain ⟨s, hs⟩ := h
  rw [show sumN E n = sumN (fun v => D v + lapF n J s v) n from sumN_congr fun v hv => hs v hv, sumN_add, show sumN (fun v => lapF n J s v) n = 0 from lap_deg hM s]
  omega
theorem out_nonneg (A : Nat → Bool) (v : Nat) : 0 ≤ outF n J A v := sumN_nonneg fun u _ => by
  have := hM.nn v u
  split <;> omega
/-- Where a script is greatest, its vertices lose what leads out of them. -/
theorem lap_top {s : Nat → Int} {m : Int} (hm : ∀ u, u < n → s u ≤ m) {v : Nat} (hv : s v = m) : lapF n J s v ≤ - outF n J (fun u => decide (s u = m)) v := by
  unfold lapF outF
  rw [← sumN_neg']
  refine sumN_le fun u hu => ?_
  have h1 := hm u hu
  have h2 := hM.nn v u
  rw [hv]
  by_cases h : s u = m
  · rw [if_pos (decide_eq_true h), h, Int.sub_self, Int.mul_zero]; omega
  · simp only [h, decide_false, Bool.false_eq_true, if_false]
    have := Int.mul_le_mul_of_nonneg_left (show s u - m ≤ -1 by omega) h2
    omega
theorem lap_max {s : Nat → Int} {q : Nat} (hm : ∀ u, u < n → s u ≤ s q) : lapF n J s q ≤ 0 := by
  have := lap_top hM (s := s) (m := s q) hm rfl
  have := out_nonneg hM (fun u => decide (s u = s q)) q
  omega
/-- A script that leads from a reduced divisor to one without debts away from q is greatest at q. -/
theorem red_top {q : Nat} (hq : q < n) {D E : Nat → Int} (hD : RedF n J q D) (hE : ∀ v, v < n → v ≠ q → 0 ≤ E v) {s : Nat → Int} (hs : ∀ v, v < n → E v = D v + lapF n J s v) : ∀ u, u < n → s u ≤ s q := by
  obtain ⟨m, hm, hmax⟩ := exists_max s n (by omega)
  by_cases h : s q = s m
  · exact fun u hu => by have := hmax u hu; omega
  · exfalso
    obtain ⟨v, hv, hA, hlt⟩ := hD.2 (fun u => decide (s u = s m)) (by simpa using h) ⟨m, hm, by simp⟩
    simp only [decide_eq_true_eq] at hA
    have h1 := lap_top hM (s := s) (m := s m) hmax hA
    have h2 := hE v hv (fun e => h (by rw [← e]; exact hA))
    have h3 := hs v hv
    omega
/-- Who can win: those whose reduced divisor has no debt at q. -/
theorem win_red {q : Nat} (hq : q < n) {D r : Nat → Int} (hr : RedF n J q r) (h : Equi n J D r) : WinF n J D ↔ 0 ≤ r q := by
  constructor
  · rintro ⟨E, hE, hDE⟩
    obtain ⟨s, hs⟩ := h.symm.trans hDE
    have h1 := red_top hM hq hr (fun v hv _ => hE v hv) hs
    have h2 := lap_max hM h1
    have h3 := hs q hq
    have h4 := hE q hq
    omega
  · intro h0
    refine ⟨r, fun v hv => ?_, h⟩
    by_cases e : v = q
    · subst e; exact h0
    · exact hr.1 v hv e
end
end Sand
end Go
end
