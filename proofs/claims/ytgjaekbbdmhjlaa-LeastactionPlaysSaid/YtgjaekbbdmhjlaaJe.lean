/-
  Contracts: a board is laid out; scripts that stabilize.
-/
import Derived.Test.YtgjaekbbdmhjlaaJd
set_option linter.unusedSimpArgs false
set_option linter.unusedVariables false
namespace Go.Proofs.Ytgjaekbbdmhjlaa
open Go.Abs Go.Sand

def upd1 (V : Nat → Int) (a : Nat) (x : Int) : Nat → Int := fun i => if i = a then x else V i
def upd2 (R : Nat → Nat → Int) (a b : Nat) (x : Int) : Nat → Nat → Int := fun i j => if i = a ∧ j = b then x else R i j
theorem cells_row {R : Nat → Nat → Int} {V : Nat → Int} {a b : Nat} {x : Int} (ha : a < 12) (hb : b < 12) : (cellsF R V).set (a * 12 + b) x = cellsF (upd2 R a b x) V := by
  refine List.ext_getElem (by simp [cellsF]) fun i h1 h2 => ?_
  rw [List.getElem_set]
  have hi : i < 156 := by simpa [cellsF] using h2
  by_cases h : a * 12 + b = i
  · rw [if_pos h]
    subst h
    have := cellsF_row (R := upd2 R a b x) (V := V) ha hb
    rw [List.getElem?_eq_getElem h2] at this
    rw [Option.some.inj this]
    simp [upd2]
  · rw [if_neg h]
    rcases Nat.lt_or_ge i 144 with h3 | h3
    · have e1 := cellsF_row (R := upd2 R a b x) (V := V) (u := i / 12) (v := i % 12) (by omega) (by omega)
      have e2 := cellsF_row (R := R) (V := V) (u := i / 12) (v := i % 12) (by omega) (by omega)
      have e3 : i / 12 * 12 + i % 12 = i := by omega
      rw [e3, List.getElem?_eq_getElem h2] at e1
      rw [e3, List.getElem?_eq_getElem (by simpa [cellsF] using hi)] at e2
      rw [Option.some.inj e1, Option.some.inj e2, upd2, if_neg (by rintro ⟨rfl, rfl⟩; exact h e3)]
    · have e1 := cellsF_val (R := upd2 R a b x) (V := V) (v := i - 144) (by omega)
      have e2 := cellsF_val (R := R) (V := V) (v := i - 144) (by omega)
      have e3 : 144 + (i - 144) = i := by omega
      rw [e3, List.getElem?_eq_getElem h2] at e1
      rw [e3, List.getElem?_eq_getElem (by simpa [cellsF] using hi)] at e2
      rw [Option.some.inj e1, Option.some.inj e2]
theorem cells_val {R : Nat → Nat → Int} {V : Nat → Int} {a : Nat} {x : Int} (ha : a < 12) : (cellsF R V).set (144 + a) x = cellsF R (upd1 V a x) := by
  refine List.ext_getElem (by simp [cellsF]) fun i h1 h2 => ?_
  rw [List.getElem_set]
  have hi : i < 156 := by simpa [cellsF] using h2
  by_cases h : 144 + a = i
  · rw [if_pos h]
    subst h
    have := cellsF_val (R := R) (V := upd1 V a x) ha
    rw [List.getElem?_eq_getElem h2] at this
    rw [Option.some.inj this]
    simp [upd1]
  · rw [if_neg h]
    rcases Nat.lt_or_ge i 144 with h3 | h3
    · have e1 := cellsF_row (R := R) (V := upd1 V a x) (u := i / 12) (v := i % 12) (by omega) (by omega)
      have e2 := cellsF_row (R := R) (V := V) (u := i / 12) (v := i % 12) (by omega) (by omega)
      have e3 : i / 12 * 12 + i % 12 = i := by omega
      rw [e3, List.getElem?_eq_getElem h2] at e1
      rw [e3, List.getElem?_eq_getElem (by simpa [cellsF] using hi)] at e2
      rw [Option.some.inj e1, Option.some.inj e2]
    · have e1 := cellsF_val (R := R) (V := upd1 V a x) (v := i - 144) (by omega)
      have e2 := cellsF_val (R := R) (V := V) (v := i - 144) (by omega)
      have e3 : 144 + (i - 144) = i := by omega
      rw [e3, List.getElem?_eq_getElem h2] at e1
      rw [e3, List.getElem?_eq_getElem (by simpa [cellsF] using hi)] at e2
      rw [Option.some.inj e1, Option.some.inj e2, upd1, if_neg (by omega)]
section
variable {q : Int} {C : List Int} {o n : Nat} {R : Nat → Nat → Int} {V : Nat → Int} {H : List AO}
theorem putA_bd {i : Nat} {x : Int} (hi : i < C.length) : putA H (.agg (bdO q C o n)) (i + 1) (.p (.v (.int .i64 x))) = some (.agg (bdO q (C.set i x) o n)) := by
  unfold putA
  have hl : (AV.agg (bdO q C o n)).flat.length = C.length + 2 := by simp [AV.flat, bdO]
  rw [if_neg (by rintro ⟨h, -⟩; omega), if_pos ⟨rfl, by omega⟩]
  have e : (AV.agg (bdO q C o n)).flat.set (i + 1) (.p (.v (.int .i64 x))) = bdO q (C.set i x) o n := by
    show (bdO q C o n).set (i + 1) (AV.i x) = _
    rw [bdO, List.set_cons_succ, List.set_append, if_pos (by simpa using hi), bdO, List.map_set]
  rw [e]
  have hno : ∀ l : List Int, allP (l.map AV.i ++ [.os o 0 n]) = none := by
    intro l
    induction l with
    | nil => rfl
    | cons y l ih =>
      show (allP (l.map AV.i ++ [.os o 0 n])).map _ = none
      rw [ih]; rfl
  have hno2 : allP (bdO q (C.set i x) o n) = none := by
    show (allP ((C.set i x).map AV.i ++ [.os o 0 n])).map _ = none
    rw [hno]; rfl
  rw [mkAgg, hno2]
theorem putA_row {a b : Nat} {x : Int} (ha : a < 12) (hb : b < 12) : putA H (.agg (bdO q (cellsF R V) o n)) (1 + a * 12 + b) (.p (.v (.int .i64 x))) = some (.agg (bdO q (cellsF (upd2 R a b x) V) o n)) := by
  rw [show 1 + a * 12 + b = a * 12 + b + 1 by omega, putA_bd (by rw [cellsF_len]; omega), cells_row ha hb]
theorem putA_val {a : Nat} {x : Int} (ha : a < 12) : putA H (.agg (bdO q (cellsF R V) o n)) (145 + a) (.p (.v (.int .i64 x))) = some (.agg (bdO q (cellsF R (upd1 V a x)) o n)) := by
  rw [show 145 + a = 144 + a + 1 by omega, putA_bd (by rw [cellsF_len]; omega), cells_val ha]
theorem bdO_rowF {a b : Nat} (ha : a < 12) (hb : b < 12) : (bdO q (cellsF R V) o n)[1 + a * 12 + b]? = some (.i (R a b)) := by
  rw [show 1 + a * 12 + b = a * 12 + b + 1 by omega]
  exact bdO_at (cellsF_row ha hb)
theorem bdO_valF {a : Nat} (ha : a < 12) : (bdO q (cellsF R V) o n)[145 + a]? = some (.i (V a)) := by
  rw [show 145 + a = 144 + a + 1 by omega]
  exact bdO_at (cellsF_val ha)
end
/-- A script's first k vertices. -/
def preS (n : Nat) (s : List Int) (k : Nat) : List Int := (List.range n).map fun i => if i < k then s.getD i 0 else 0
theorem preS_len (n : Nat) (s : List Int) (k : Nat) : (preS n s k).length = n := by simp [preS]
theorem preS_get {n : Nat} {s : List Int} {k i : Nat} (hi : i < n) : (preS n s k).getD i 0 = if i < k then s.getD i 0 else 0 := by
  rw [preS, rg_get, if_pos hi]
theorem preS_0 (n : Nat) (s : List Int) : preS n s 0 = List.replicate n 0 := by
  refine List.ext_getElem (by simp [preS]) fun i h1 h2 => by simp [preS]
theorem preS_succ {n : Nat} {s : List Int} {k : Nat} (hk : k < n) : moreS (preS n s k) k (s.getD k 0) = preS n s (k + 1) := by
  refine ext_getD (by rw [moreS_len, preS_len, preS_len]) fun i hi => ?_
  rw [moreS_len, preS_len] at hi
  rw [moreS_get _ _ _ (by rw [preS_len]; exact hk), preS_get hi, preS_get hi]
  by_cases h : i = k
  · subst h; simp
  · have h2 : (i < k + 1) = (i < k) := by simp only [eq_iff_iff]; omega
    simp only [h, if_false, h2, Int.add_zero]
theorem preS_n {n : Nat} {s : List Int} (hs : s.length = n) : preS n s n = s := by
  refine ext_getD (by rw [preS_len, hs]) fun i hi => ?_
  rw [preS_len] at hi
  rw [preS_get hi, if_pos hi]
theorem any_bd {n : Nat} {es : List Ed} (hg : GoodG n es) {d r : List Int} (hd : d.length = n) (hdb : Bd 1048600 d) (hrb : Bd 1048600 r) : Bd 10000000000 (movedE es r d) := fun i => by
  rw [aft_eq hg hd, dif_sum hg]
  have hn := hg.n12
  have h1 : ∀ k : Nat, -(52430000 * k) ≤ sumN (fun u => joinE es i u * r.getD u 0) k ∧ sumN (fun u => joinE es i u * r.getD u 0) k ≤ 52430000 * k := by
    intro k
    induction k with
    | zero => simp [sumN]
    | succ k ih =>
      simp only [sumN]
      have hj := joinE_bd hg i k
      have hr := hrb k
      have h2 := Int.mul_le_mul_of_nonneg_left hr.2 hj.1
      have h3 := Int.mul_le_mul_of_nonneg_left hr.1 hj.1
      push_cast
      omega
  have h2 := h1 n
  have hv := val_bd hg i
  have hr := hrb i
  have h3 := Int.mul_le_mul_of_nonneg_right hr.2 hv.1
  have h4 := Int.mul_le_mul_of_nonneg_right hr.1 hv.1
  have hdi := hdb i
  omega
/-- The error of a configuration and a script. -/
def gvE (N : Int) (es : List Ed) (q : Int) (d s : List Int) : Int := if stE N es q d ≠ 0 then stE N es q d else givenE N es s
structure GvOk (n : Nat) (es : List Ed) (q : Int) (d s : List Int) : Prop where
  st : StOk n es q d
  s0 : stE n es q d = 0
  g0 : givenE n es s = 0
  len : s.length = n
  bd : Bd 1048576 s
theorem gv_ok {N : Int} {es : List Ed} {q : Int} {d s : List Int} (h : gvE N es q d s = 0) : ∃ n : Nat, N = n ∧ GvOk n es q d s := by
  unfold gvE at h
  split at h
  · rename_i h1; exact absurd h h1
  · rename_i h1
    have h1 := Decidable.not_not.1 h1
    obtain ⟨n, rfl, hst⟩ := st_ok h1
    obtain ⟨n', e', -, hl, hb, -, -⟩ := given_ok h
    exact ⟨n, rfl, hst, h1, h, by omega, hb⟩
section
variable (N : Int) (es : List Ed) (q : Int) (d s : List Int) (hel : es.length ≤ 900) (hd : d.length ≤ 1000) (hs : s.length ≤ 1000)
include hel hd hs
theorem boardOf_err (h : gvE N es q d s ≠ 0) : PC Try.prog 40 [G N es, .i q, .is d, .is s] (.tup [.p (.v (.pointer none)), .i (gvE N es q d s)]) [] := by
  refine PC_of_W cfn40 ?_
  simp -implicitDefEqProofs (disch := omega) [c40, List.getElem?_cons_zero, List.getElem?_cons_succ, wrap_id]
  refine HC_of_PC rfl (scheck_ok N es q d hel hd) ?_
  by_cases h0 : stE N es q d = 0
  · have e : gvE N es q d s = givenE N es s := by rw [gvE, if_neg (by simp [h0])]
    rw [e] at h
    simp -implicitDefEqProofs (disch := omega) [List.getElem?_cons_zero, List.getElem?_cons_succ, wrap_id, h0]
    refine HC_of_PC rfl (fcheck_ok N es s (by omega) (by omega)) ?_
    simp -implicitDefEqProofs (disch := omega) [List.getElem?_cons_zero, List.getElem?_cons_succ, wrap_id, h]
    (refine fin0 trivial rfl ?_; simp -implicitDefEqProofs (disch := omega) [List.getElem?_cons_zero, List.getElem?_cons_succ, idx, wrap_id, e])
  · have e : gvE N es q d s = stE N es q d := by rw [gvE, if_pos h0]
    simp -implicitDefEqProofs (disch := omega) [List.getElem?_cons_zero, List.getElem?_cons_succ, wrap_id, h0]
    (refine fin0 trivial rfl ?_; simp -implicitDefEqProofs (disch := omega) [List.getElem?_cons_zero, List.getElem?_cons_succ, idx, wrap_id, e])
attribute [local simp ↓ 10000] putA_row putA_val
set_option maxRecDepth 20000 in
set_option maxHeartbeats 1000000 in
omit hs in
theorem boardOf_ok (n : Nat) (h : GvOk n es q d s) : PC Try.prog 40 [G n es, .i q, .is d, .is s] (.tup [.ptr 0 1 0 0, .i 0]) [.box (.agg (bdO q (bcE es) 1 n)), rowI (movedE es s d)] := by
  have hg := h.st.g
  have hn := h.st.n12
  have hdl := h.st.c.len
  have hsl := h.len
  refine PC_of_W cfn40 ?_
  simp -implicitDefEqProofs (disch := omega) [c40, List.getElem?_cons_zero, List.getElem?_cons_succ, wrap_id]
  refine HC_of_PC rfl (scheck_ok n es q d hel hd) ?_
  simp -implicitDefEqProofs (disch := omega) [List.getElem?_cons_zero, List.getElem?_cons_succ, wrap_id, h.s0]
  refine HC_of_PC rfl (fcheck_ok n es s (by omega) (by omega)) ?_
  simp -implicitDefEqProofs (disch := omega) [List.getElem?_cons_zero, List.getElem?_cons_succ, wrap_id, h.g0]
  refine HC_of_PC rfl (gends_ok n es (by omega) h.st.gc) ?_
  simp -implicitDefEqProofs (disch := omega) [List.getElem?_cons_zero, List.getElem?_cons_succ, wrap_id]
  refine HC_of_PC rfl (clone_ok d (by omega)) ?_
  simp -implicitDefEqProofs (disch := omega) [List.getElem?_cons_zero, List.getElem?_cons_succ, wrap_id]
  have hlen := endsL_len hg.right
  have hlen' : (endsL es).length ≤ 50000 := by omega
  refine loopW (endsL es).length (fun k st => st = ⟨[(49, .i k), (48, .i (endsL es).length), (47, .p (.ps (endsL es))), (14, .ptr 2 1 0 0), (3, .p (.is s))],
      [.box (.p (G n es)), rowI d, .box (.agg (bdO q (cellsF (joinC ((endsL es).take k)) (valC ((endsL es).take k))) 1 n))]⟩)
    (Wk_keep [49, 48, 47, 14, 3]) (by simp only [List.take_zero, ← hdl]; kernel_rfl) ?_
  rintro k st hk rfl
  by_cases hlt : k < (endsL es).length
  · obtain ⟨⟨a0, an⟩, b0, bn⟩ := ends_in' hg.right _ (List.getElem_mem hlt)
    obtain ⟨a, ha⟩ : ∃ a : Nat, (endsL es)[k].1 = a := ⟨(endsL es)[k].1.toNat, by omega⟩
    obtain ⟨b, hb⟩ : ∃ b : Nat, (endsL es)[k].2 = b := ⟨(endsL es)[k].2.toNat, by omega⟩
    have han : a < 12 := by omega
    have hbn : b < 12 := by omega
    have hx : (endsL es)[k] = ((a : Int), (b : Int)) := by rw [← ha, ← hb]
    have htk : (endsL es).take (k + 1) = (endsL es).take k ++ [((a : Int), (b : Int))] := by rw [List.take_add_one, List.getElem?_eq_getElem hlt, hx]; rfl
    obtain ⟨l, hl⟩ : ∃ l, l = (endsL es).take k := ⟨_, rfl⟩
    have hll : l.length ≤ 50000 := by rw [hl, List.length_take]; omega
    rw [← hl] at htk ⊢
    have hlo : ∀ C : List Int, ∀ ob ∈ ([AO.box (.p (G n es)), rowI d, .box (.agg (bdO q C 1 n))] : List AO), loO 3 ob = true := by
      intro C ob hob
      have hb : ∀ l : List Int, loL 3 (l.map AV.i ++ [.os 1 0 n]) = true := by
        intro l
        induction l with
        | nil => rfl
        | cons x l ih => rw [List.map_cons, List.cons_append, loL, ih]; rfl
      simp only [List.mem_cons, List.not_mem_nil, or_false] at hob
      rcases hob with rfl | rfl | rfl
      · rfl
      · rfl
      · show loL 3 (bdO q C 1 n) = true
        rw [bdO, loL, hb]; rfl
    by_cases hab : a = b
    · subst hab
      have e1 : joinC (l ++ [((a : Int), (a : Int))]) = joinC l := by
        funext u w
        rw [joinC_snoc, if_neg (by simp only [Prod.mk.injEq]; omega), Int.add_zero]
      have e2 : valC (l ++ [((a : Int), (a : Int))]) = valC l := by
        funext u
        rw [valC_snoc, if_neg (by simp), Int.add_zero]
      simp -implicitDefEqProofs (disch := omega) [List.getElem?_cons_zero, List.getElem?_cons_succ, wrap_id, hlt, hx]
      refine round_end' hlt (Wk_pop 3 [49, 48, 47, 14, 3] (by omega) (by simp) rfl ?_ (hlo _)) (by rw [htk, e1, e2]; rfl)
      intro i hi
      simp only [List.mem_cons, List.not_mem_nil, or_false] at hi
      rcases hi with rfl | rfl | rfl | rfl | rfl <;> simp [Abs.get, loA]
    · have hab' : ¬ (a : Int) = b := by omega
      have hba : ¬ b = a := fun e => hab e.symm
      have c1 := joinC_bd l a b
      have c2 := joinC_bd l b a
      have c3 := valC_bd l a
      have c4 := valC_bd l b
      have r1 := bdO_rowF (q := q) (o := 1) (n := n) (R := joinC l) (V := valC l) han hbn
      have r2 : ∀ x, (bdO q (cellsF (upd2 (joinC l) a b x) (valC l)) 1 n)[1 + b * 12 + a]? = some (.i (joinC l b a)) := fun x => by
        rw [bdO_rowF hbn han, upd2, if_neg (by rintro ⟨h, -⟩; exact hba h)]
      have r3 : ∀ R, (bdO q (cellsF R (valC l)) 1 n)[145 + a]? = some (.i (valC l a)) := fun R => bdO_valF han
      have r4 : ∀ R x, (bdO q (cellsF R (upd1 (valC l) a x)) 1 n)[145 + b]? = some (.i (valC l b)) := fun R x => by
        rw [bdO_valF hbn, upd1, if_neg hba]
      have e1 : upd2 (upd2 (joinC l) a b (joinC l a b + 1)) b a (joinC l b a + 1) = joinC (l ++ [((a : Int), (b : Int))]) := by
        funext u w
        rw [joinC_snoc]
        simp only [upd2, Prod.mk.injEq]
        by_cases h1 : u = b ∧ w = a
        · obtain ⟨rfl, rfl⟩ := h1
          rw [if_pos ⟨rfl, rfl⟩, if_pos (by omega)]
        · rw [if_neg h1]
          by_cases h2 : u = a ∧ w = b
          · obtain ⟨rfl, rfl⟩ := h2
            rw [if_pos ⟨rfl, rfl⟩, if_pos (by omega)]
          · rw [if_neg h2, if_neg (by omega)]
            omega
      have e2 : upd1 (upd1 (valC l) a (valC l a + 1)) b (valC l b + 1) = valC (l ++ [((a : Int), (b : Int))]) := by
        funext u
        rw [valC_snoc]
        simp only [upd1]
        by_cases h1 : u = b
        · subst h1
          rw [if_pos rfl, if_pos (by omega)]
        · rw [if_neg h1]
          by_cases h2 : u = a
          · subst h2
            rw [if_pos rfl, if_pos (by omega)]
          · rw [if_neg h2, if_neg (by omega)]
            omega
      simp -implicitDefEqProofs (disch := omega) [List.getElem?_cons_zero, List.getElem?_cons_succ, wrap_id, hlt, hx, hab', han, hbn, r1, r2, r3, r4]
      refine round_end' hlt (Wk_pop 3 [49, 48, 47, 14, 3] (by omega) (by simp) rfl ?_ (hlo _)) (by rw [htk, ← e1, ← e2]; rfl)
      intro i hi
      simp only [List.mem_cons, List.not_mem_nil, or_false] at hi
      rcases hi with rfl | rfl | rfl | rfl | rfl <;> simp [Abs.get, loA]
  have hkl : k = (endsL es).length := by omega
  subst hkl
  have hbc : cellsF (joinC (endsL es)) (valC (endsL es)) = bcE es := by
    have e1 : joinC (endsL es) = joinE es := by funext u w; exact joinC_ends hg.right hg.asc u w
    have e2 : valC (endsL es) = fun v : Nat => valS es v := by funext u; exact valC_ends hg.right u
    rw [e1, e2, bcE]
  rw [List.take_length, hbc]
  simp -implicitDefEqProofs (disch := omega) [List.getElem?_cons_zero, List.getElem?_cons_succ, wrap_id, hsl]
  refine loopW n (fun k st => st = ⟨[(109, .i k), (108, .i n), (107, .p (.is s)), (14, .ptr 2 1 0 0)], [.box (.p (G n es)), rowI (movedE es (preS n s k) d), .box (.agg (bdO q (bcE es) 1 n))]⟩) (Wk_keep [109, 108, 107, 14]) (by rw [preS_0, aft_zero hg hdl]; rfl) ?_
  rintro k st hk rfl
  by_cases hlt : k < n
  · have hks : k < s.length := by omega
    have hb := h.bd k
    have hpb : Bd 1048600 (preS n s k) := fun i => by
      by_cases hi : i < n
      · rw [preS_get hi]
        have := h.bd i
        split <;> omega
      · rw [List.getD_eq_getElem?_getD, List.getElem?_eq_none (by rw [preS_len]; omega)]; simp
    have hmv := fired_moved hg hdl (preS_len n s k) hlt (s.getD k 0)
    rw [preS_succ hlt] at hmv
    rw [getD_get hks] at hb hmv
    simp -implicitDefEqProofs (disch := omega) [List.getElem?_cons_zero, List.getElem?_cons_succ, wrap_id, hlt, hks]
    refine bfire_ok hg (o := 2) (p := 1) rfl rfl (by omega) k s[k] hlt (by omega) (by rw [movedE_length, hdl]) ((any_bd hg hdl h.st.c.bd hpb).more (by omega)) ?_
    rw [hmv]
    simp -implicitDefEqProofs (disch := omega) [List.getElem?_cons_zero, List.getElem?_cons_succ, wrap_id]
    exact round_keep [109, 108, 107, 14] hlt rfl
  · have hkn : k = n := by omega
    subst hkn
    rw [preS_n hsl]
    simp -implicitDefEqProofs (disch := omega) [List.getElem?_cons_zero, List.getElem?_cons_succ, wrap_id]
    refine fin1 [2, 1] trivial rfl rfl ⟨rfl, ?_⟩
    have hr : ∀ H, renL H (Abs.idx [2, 1] 0) (bdO q (bcE es) 1 k) = bdO q (bcE es) 1 k := fun H => bdO_renL rfl
    simp -implicitDefEqProofs [-AO.ren, renH, ren_box, ren_row, hr, AV.ren]
omit hel hd hs in
theorem bdO_up {H : List AO} {C : List Int} {n : Nat} : renL H (fun o => some (o + 1)) (bdO q C 1 n) = bdO q C 2 n := bdO_renL rfl
def stlR (N : Int) (es : List Ed) (q : Int) (d s : List Int) : Bool := decide (gvE N es q d s = 0) && stlB N.toNat es q (movedE es s d) s
theorem stabilizing_ok : PC Try.prog 14 [G N es, .i q, .is d, .is s] (.tup [.b (stlR N es q d s), .i (gvE N es q d s)]) [] := by
  refine PC_of_W cfn14 ?_
  simp -implicitDefEqProofs (disch := omega) [c14, List.getElem?_cons_zero, List.getElem?_cons_succ, wrap_id]
  by_cases h0 : gvE N es q d s = 0
  · obtain ⟨n, rfl, h⟩ := gv_ok h0
    refine HC_of_PC rfl (boardOf_ok es q d s hel hd n h) ?_
    simp -implicitDefEqProofs (disch := omega) [List.getElem?_cons_zero, List.getElem?_cons_succ, wrap_id, bdO_up]
    refine stl_ptr h.st.g (p := 2) (c := movedE es s d) rfl rfl (by rw [movedE_length, h.st.c.len]) h.len ?_
    simp -implicitDefEqProofs (disch := omega) [List.getElem?_cons_zero, List.getElem?_cons_succ, wrap_id]
    (refine fin0 trivial rfl ?_; simp -implicitDefEqProofs (disch := omega) [List.getElem?_cons_zero, List.getElem?_cons_succ, idx, wrap_id, stlR, h0])
  · refine HC_of_PC rfl (boardOf_err N es q d s hel hd hs h0) ?_
    simp -implicitDefEqProofs (disch := omega) [List.getElem?_cons_zero, List.getElem?_cons_succ, wrap_id, h0]
    (refine fin0 trivial rfl ?_; simp -implicitDefEqProofs (disch := omega) [List.getElem?_cons_zero, List.getElem?_cons_succ, idx, wrap_id, stlR, h0])
omit hs in
theorem settled22_ok (n : Nat) (h : GvOk n es q d s) (h2 : stlB n es q (movedE es s d) s = true) : PC Try.prog 43 [G n es, .i q, .is d, .is s] (.tup [.ptr 0 1 0 0, .i 0]) [.box (.agg (bdO q (bcE es) 1 n)), rowI (movedE es s d)] := by
  refine PC_of_W cfn43 ?_
  simp -implicitDefEqProofs (disch := omega) [c43, List.getElem?_cons_zero, List.getElem?_cons_succ, wrap_id]
  refine HC_of_PC rfl (boardOf_ok es q d s hel hd n h) ?_
  simp -implicitDefEqProofs (disch := omega) [List.getElem?_cons_zero, List.getElem?_cons_succ, wrap_id, bdO_up]
  refine stl_ptr h.st.g (p := 2) (c := movedE es s d) rfl rfl (by rw [movedE_length, h.st.c.len]) h.len ?_
  simp -implicitDefEqProofs (disch := omega) [List.getElem?_cons_zero, List.getElem?_cons_succ, wrap_id, h2]
  refine fin1 [1, 2] trivial rfl rfl ⟨rfl, ?_⟩
  have hr : ∀ H, renL H (Abs.idx [1, 2] 0) (bdO q (bcE es) 2 n) = bdO q (bcE es) 1 n := fun H => bdO_renL rfl
  simp -implicitDefEqProofs [-AO.ren, renH, ren_box, ren_row, hr, AV.ren]
def settledR (N : Int) (es : List Ed) (q : Int) (d s : List Int) : Int := if gvE N es q d s ≠ 0 then gvE N es q d s else if stlB N.toNat es q (movedE es s d) s = true then 0 else 15
theorem settled22_err (h : settledR N es q d s ≠ 0) : PC Try.prog 43 [G N es, .i q, .is d, .is s] (.tup [.p (.v (.pointer none)), .i (settledR N es q d s)]) [] := by
  refine PC_of_W cfn43 ?_
  simp -implicitDefEqProofs (disch := omega) [c43, List.getElem?_cons_zero, List.getElem?_cons_succ, wrap_id]
  by_cases h0 : gvE N es q d s = 0
  · obtain ⟨n, rfl, hg⟩ := gv_ok h0
    have h1 : stlB n es q (movedE es s d) s = false := by
      cases hb : stlB n es q (movedE es s d) s with
      | false => rfl
      | true => exact absurd (by rw [settledR, if_neg (by simp [h0]), Int.toNat_natCast, if_pos hb]) h
    have e : settledR n es q d s = 15 := by rw [settledR, if_neg (by simp [h0]), Int.toNat_natCast, if_neg (by simp [h1])]
    refine HC_of_PC rfl (boardOf_ok es q d s hel hd n hg) ?_
    simp -implicitDefEqProofs (disch := omega) [List.getElem?_cons_zero, List.getElem?_cons_succ, wrap_id, bdO_up]
    refine stl_ptr hg.st.g (p := 2) (c := movedE es s d) rfl rfl (by rw [movedE_length, hg.st.c.len]) hg.len ?_
    simp -implicitDefEqProofs (disch := omega) [List.getElem?_cons_zero, List.getElem?_cons_succ, wrap_id, h1]
    (refine fin0 trivial rfl ?_; simp -implicitDefEqProofs (disch := omega) [List.getElem?_cons_zero, List.getElem?_cons_succ, idx, wrap_id, e])
  · have e : settledR N es q d s = gvE N es q d s := by rw [settledR, if_pos h0]
    refine HC_of_PC rfl (boardOf_err N es q d s hel hd hs h0) ?_
    simp -implicitDefEqProofs (disch := omega) [List.getElem?_cons_zero, List.getElem?_cons_succ, wrap_id, h0]
    (refine fin0 trivial rfl ?_; simp -implicitDefEqProofs (disch := omega) [List.getElem?_cons_zero, List.getElem?_cons_succ, idx, wrap_id, e])
end
end Go.Proofs.Ytgjaekbbdmhjlaa
