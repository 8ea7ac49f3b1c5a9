/-
  Contracts: orientations: directed sets.
-/
import Derived.Test.YtjinjbcdbkgedaaNe
set_option linter.unusedSimpArgs false
set_option linter.unusedVariables false
namespace Go.Sand
/-- A single edge leads from within to without. -/
def outB (f : Int → Bool) (p : Int × Int) : Bool := f p.1 && !f p.2
def intB (f : Int → Bool) (p : Int × Int) : Bool := f p.2 && !f p.1
def outN (f : Int → Bool) (al : List (Int × Int)) : Nat := al.countP (outB f)
def intN (f : Int → Bool) (al : List (Int × Int)) : Nat := al.countP (intB f)
/-- The way of a set. -/
def wayN (a b : Nat) : Int := if 0 < a ∧ b = 0 then 1 else if 0 < b ∧ a = 0 then -1 else 0
def wayP (f : Int → Bool) (es : List Ed) (o : List Bool) : Int := wayN (outN f (arwsL es o)) (intN f (arwsL es o))
theorem countP_take {α : Type} (p : α → Bool) (l : List α) (k : Nat) (h : k < l.length) : (l.take (k + 1)).countP p = (l.take k).countP p + if p l[k] then 1 else 0 := by
  rw [List.take_succ_eq_append_getElem h, List.countP_append, List.countP_singleton]
/-- Is a vertex marked? -/
def mkB (l : List Bool) (v : Int) : Bool := l.getD v.toNat false
/-- A set as marks. -/
def mkL (n : Nat) (set : List Int) : List Bool := set.foldl (fun l v => l.set v.toNat true) (List.replicate n false)
theorem mkL_take (n : Nat) (set : List Int) (k : Nat) (h : k < set.length) : mkL n (set.take (k + 1)) = (mkL n (set.take k)).set (set[k]).toNat true := by
  rw [List.take_succ_eq_append_getElem h, mkL, List.foldl_append]; rfl
theorem foldl_mk_len (set : List Int) : ∀ l : List Bool, (set.foldl (fun l v => l.set v.toNat true) l).length = l.length := by
  induction set with
  | nil => intro l; rfl
  | cons x s ih => intro l; rw [List.foldl_cons, ih]; simp
theorem mkL_len (n : Nat) (set : List Int) : (mkL n set).length = n := by unfold mkL; rw [foldl_mk_len]; simp
theorem foldl_mk_get (set : List Int) : ∀ (l : List Bool) (v : Nat), v < l.length → (∀ x ∈ set, 0 ≤ x) → (set.foldl (fun l v => l.set v.toNat true) l).getD v false = (l.getD v false || decide ((v : Int) ∈ set)) := by
  induction set with
  | nil => intro l v hv _; simp
  | cons x s ih =>
    intro l v hv hx
    rw [List.foldl_cons, ih _ v (by simpa using hv) (fun y hy => hx y (by simp [hy]))]
    have h0 := hx x (by simp)
    simp only [List.getD_eq_getElem?_getD, List.getElem?_set]
    by_cases e : x.toNat = v
    · have e2 : (v : Int) = x := by omega
      simp [e, e2, hv]
    · have e2 : ¬ (v : Int) = x := by omega
      rw [if_neg e]
      simp [e2]
theorem mkB_mkL {n : Nat} {set : List Int} (hs : ∀ x ∈ set, 0 ≤ x ∧ x < n) {v : Int} (h0 : 0 ≤ v) (hv : v < n) : mkB (mkL n set) v = decide (v ∈ set) := by
  unfold mkB mkL
  rw [foldl_mk_get set _ _ (by simp; omega) (fun x hx => (hs x hx).1), Int.toNat_of_nonneg h0]
  simp [List.getD_eq_getElem?_getD, show v.toNat < n by omega]
theorem outN_congr {f g : Int → Bool} {n : Int} {es : List Ed} (hg : ∀ x ∈ es, Right n x) {o : List Bool} (h : ∀ v, 0 ≤ v → v < n → f v = g v) : outN f (arwsL es o) = outN g (arwsL es o) ∧ intN f (arwsL es o) = intN g (arwsL es o) := by
  constructor
  · exact List.countP_congr fun p hp => by
      obtain ⟨h1, h2⟩ := arw_mem hg p hp
      simp only [outB]; rw [h p.1 h1.1 h1.2, h p.2 h2.1 h2.2]
  · exact List.countP_congr fun p hp => by
      obtain ⟨h1, h2⟩ := arw_mem hg p hp
      simp only [intB]; rw [h p.1 h1.1 h1.2, h p.2 h2.1 h2.2]
/-- Does a single edge lead out of a set or into it? -/
def cutB (f : Int → Bool) (ps : List (Int × Int)) (e : Nat) : Bool := match ps[e]? with
  | some p => f p.1 != f p.2
  | none => false
/-- The cut of a set. -/
def cutL (f : Int → Bool) (es : List Ed) : List Int := selK (cutB f (endsL es)) (endsL es).length
def tailB (f : Int → Bool) (al : List (Int × Int)) (x : Int) : Bool := match al[x.toNat]? with
  | some p => f p.1
  | none => false
theorem cut_count (f : Int → Bool) {es : List Ed} {o : List Bool} (hol : o.length = (endsL es).length) (k : Nat) (hk : k ≤ (endsL es).length) :
    (selK (cutB f (endsL es)) k).countP (tailB f (arwsL es o)) = ((arwsL es o).take k).countP (outB f) ∧ (selK (cutB f (endsL es)) k).length = ((arwsL es o).take k).countP (outB f) + ((arwsL es o).take k).countP (intB f) := by
  induction k with
  | zero => simp [selK]
  | succ k ih =>
    obtain ⟨h1, h2⟩ := ih (by omega)
    have hka : k < (arwsL es o).length := by rw [arwsL_len hol]; omega
    have hke : k < (endsL es).length := by omega
    rw [selK_succ, List.countP_append, List.length_append, h1, h2, countP_take _ _ _ hka, countP_take _ _ _ hka]
    have hat := arwsL_at hol k hke
    have hc : cutB f (endsL es) k = (f (endsL es)[k].1 != f (endsL es)[k].2) := by unfold cutB; rw [List.getElem?_eq_getElem hke]
    have ht : tailB f (arwsL es o) (k : Int) = f ((arwsL es o)[k]).1 := by unfold tailB; rw [Int.toNat_natCast, List.getElem?_eq_getElem hka]
    have ht2 : ∀ b : Bool, (if b = true then [(k : Int)] else []).countP (tailB f (arwsL es o)) = if b = true then (if f ((arwsL es o)[k]).1 then 1 else 0) else 0 := fun b => by
      cases b
      · rfl
      · simp only [if_true, List.countP_singleton, ht]
    rw [ht2, hc, hat]
    have key : ∀ (d x y : Bool) (p : Int × Int), f p.1 = x → f p.2 = y → (if (f p.1 != f p.2) = true then (if f (arw p d).1 = true then 1 else 0) else 0) = (if outB f (arw p d) = true then 1 else 0) ∧
        (if (f p.1 != f p.2) = true then [(k : Int)] else []).length = (if outB f (arw p d) = true then 1 else 0) + (if intB f (arw p d) = true then 1 else 0) := by
      intro d x y p hx hy
      cases d <;> simp only [outB, intB, arw, Bool.false_eq_true, if_true, if_false, hx, hy] <;> cases x <;> cases y <;> exact ⟨rfl, rfl⟩
    obtain ⟨k1, k2⟩ := key (o[k]'(by omega)) _ _ (endsL es)[k] rfl rfl
    rw [k1, k2]
    omega
theorem way_cut (f : Int → Bool) {es : List Ed} {o : List Bool} (hol : o.length = (endsL es).length) :
    (cutL f es).countP (tailB f (arwsL es o)) = outN f (arwsL es o) ∧ (cutL f es).length = outN f (arwsL es o) + intN f (arwsL es o) := by
  have := cut_count f hol (endsL es).length (Nat.le_refl _)
  rw [← arwsL_len hol, List.take_length, arwsL_len hol] at this
  exact this
def dirE (N : Int) (es : List Ed) (o : List Bool) (set : List Int) : Int := if oE N es o ≠ 0 then oE N es o else subErr N (-1) set
def memB (set : List Int) (v : Int) : Bool := decide (v ∈ set)
end Go.Sand
namespace Go.Proofs.Ytjinjbcdbkgedaa
open Go.Abs Go.Sand

/-- The objects while arrows are counted. -/
abbrev dirH (N : Int) (es : List Ed) (o ins : List Bool) (lp : AO) (k : Nat) : List AO :=
  [.box (.p (G N es)), .box (.p (.bo ins)), .box (.i (outN (mkB ins) ((arwsL es o).take k))), .box (.i (intN (mkB ins) ((arwsL es o).take k))), .box (.p (G N es)), .box (.p (.bo o)), lp]
theorem dir_range {n : Nat} {es : List Ed} {o ins : List Bool} (hg : gcheck n es = 0) (hel : es.length ≤ 1000) (hol : o.length = (endsL es).length) (hi : ins.length = n) (t : List (Nat × AV))
    (ht5 : Abs.get t 5 = .ptr 1 1 0 0) (ht7 : Abs.get t 7 = .ptr 2 1 0 0) (ht8 : Abs.get t 8 = .ptr 3 1 0 0) {K : AV → List AO → Prop}
    (hK : ∀ r Z, K r (dirH n es o ins (.lp 58 t [14, 15] rc61_0a rc61_0c .ready) (arwsL es o).length ++ Z)) :
    HC Try.prog false 102 [.yl 6, .ptr 4 1 0 0, .ptr 5 1 0 0] (dirH n es o ins (.lp 58 t [14, 15] rc61_0a rc61_0c .ready) 0) K := by
  have hgood := gcheck_ok hg
  have hml := arwsL_len hol
  have he := endsL_len hgood.right
  refine arrows_range hg hel hol (fun k Z => rfl) (fun k Z => rfl) (fun k Z => rfl) rfl (fun k hk Z K' hK' => ?_) hK
  obtain ⟨⟨m1, m2⟩, m3, m4⟩ := arw_mem hgood.right _ (List.getElem_mem hk)
  have hk1 := countP_take (outB (mkB ins)) (arwsL es o) k hk
  have hk2 := countP_take (intB (mkB ins)) (arwsL es o) k hk
  obtain ⟨u, hu⟩ : ∃ u : Nat, ((arwsL es o)[k]).1 = u := ⟨((arwsL es o)[k]).1.toNat, by omega⟩
  obtain ⟨v, hv⟩ : ∃ v : Nat, ((arwsL es o)[k]).2 = v := ⟨((arwsL es o)[k]).2.toNat, by omega⟩
  have hun : u < ins.length := by omega
  have hvn : v < ins.length := by omega
  have hob : outB (mkB ins) ((arwsL es o)[k]) = (ins[u] && !ins[v]) := by simp only [outB, mkB, hu, hv, Int.toNat_natCast, getDB_get hun, getDB_get hvn]
  have hib : intB (mkB ins) ((arwsL es o)[k]) = (ins[v] && !ins[u]) := by simp only [intB, mkB, hu, hv, Int.toNat_natCast, getDB_get hun, getDB_get hvn]
  rw [hob] at hk1
  rw [hib] at hk2
  have hc1 : outN (mkB ins) ((arwsL es o).take k) ≤ 50000 := by
    refine Nat.le_trans List.countP_le_length ?_
    rw [List.length_take]; omega
  have hc2 : intN (mkB ins) ((arwsL es o).take k) ≤ 50000 := by
    refine Nat.le_trans List.countP_le_length ?_
    rw [List.length_take]; omega
  refine HY_of_W rfl rcc61_0a rcc61_0c rfl rfl rfl rfl ?_
  have hKZ := hK' Z
  rw [hu, hv]
  dsimp only [dirH, outN, intN] at hKZ hc1 hc2 ⊢
  rw [hk1, hk2] at hKZ
  generalize ((arwsL es o).take k).countP (outB (mkB ins)) = c1 at *
  generalize ((arwsL es o).take k).countP (intB (mkB ins)) = c2 at *
  have hcu : ∀ b : Bool, ins[u] = b → ∀ b' : Bool, ins[v] = b' → True := fun _ _ _ _ => trivial
  cases hxu : ins[u] <;> cases hxv : ins[v] <;> simp only [hxu, hxv, Bool.not_true, Bool.not_false, Bool.and_true, Bool.and_false, Bool.true_and, Bool.false_and, if_true, Bool.false_eq_true, if_false, Nat.add_zero] at hKZ
  all_goals
    simp -implicitDefEqProofs (disch := omega) [List.getElem?_cons_zero, List.getElem?_cons_succ, wrap_id, ra61_0a, ra61_0c, ht5, ht7, ht8, hun, hvn, hxu, hxv]
    exact hKZ
theorem directed_ok (n : Nat) (es : List Ed) (o ins : List Bool) (hg : gcheck n es = 0) (hel : es.length ≤ 1000) (hol : o.length = (endsL es).length) (hi : ins.length = n) :
    PC Try.prog 61 [G n es, .bo o, .bo ins] (.i (wayP (mkB ins) es o)) [] := by
  have hgood := gcheck_ok hg
  have ht1 : (arwsL es o).take (arwsL es o).length = arwsL es o := List.take_length
  have hml := arwsL_len hol
  have he := endsL_len hgood.right
  refine PC_of_W cfn61 ?_
  simp -implicitDefEqProofs (disch := omega) [c61, List.getElem?_cons_zero, List.getElem?_cons_succ, wrap_id]
  refine HC_of_PC rfl (arrows_ok n es o) ?_
  simp -implicitDefEqProofs (disch := omega) [List.getElem?_cons_zero, List.getElem?_cons_succ, wrap_id]
  refine ⟨by kernel_rfl, dir_range hg hel hol hi _ rfl rfl rfl fun r Z => ?_⟩
  refine AfterR_ready rfl ?_
  dsimp only [dirH]
  rw [ht1]
  unfold wayP
  generalize outN (mkB ins) (arwsL es o) = c1
  generalize intN (mkB ins) (arwsL es o) = c2
  by_cases h1 : 0 < c1 <;> by_cases h2 : 0 < c2
  · have h1' : (0 : Int) < (c1 : Int) := by omega
    have h2' : ¬ (c2 : Int) = 0 := by omega
    have h1'' : ¬ (c1 : Int) = 0 := by omega
    have h2'' : (0 : Int) < (c2 : Int) := by omega
    have hw : wayN c1 c2 = 0 := by rw [wayN, if_neg (by omega), if_neg (by omega)]
    have n1 : ¬ c1 = 0 := by omega
    have n2 : ¬ c2 = 0 := by omega
    simp -implicitDefEqProofs (disch := omega) [List.getElem?_cons_zero, List.getElem?_cons_succ, wrap_id, h1, h1', h2', h1'', h2'', h2, n1, n2]
    (refine fin0 trivial rfl ?_; simp -implicitDefEqProofs (disch := omega) [List.getElem?_cons_zero, List.getElem?_cons_succ, idx, wrap_id, hw])
  · obtain rfl : c2 = 0 := by omega
    have hw : wayN c1 0 = 1 := by rw [wayN, if_pos (by omega)]
    simp -implicitDefEqProofs (disch := omega) [List.getElem?_cons_zero, List.getElem?_cons_succ, wrap_id, h1]
    (refine fin0 trivial rfl ?_; simp -implicitDefEqProofs (disch := omega) [List.getElem?_cons_zero, List.getElem?_cons_succ, idx, wrap_id, hw])
  · obtain rfl : c1 = 0 := by omega
    have hw : wayN 0 c2 = -1 := by rw [wayN, if_neg (by omega), if_pos (by omega)]
    simp -implicitDefEqProofs (disch := omega) [List.getElem?_cons_zero, List.getElem?_cons_succ, wrap_id, h2]
    (refine fin0 trivial rfl ?_; simp -implicitDefEqProofs (disch := omega) [List.getElem?_cons_zero, List.getElem?_cons_succ, idx, wrap_id, hw])
  · obtain rfl : c1 = 0 := by omega
    obtain rfl : c2 = 0 := by omega
    simp -implicitDefEqProofs (disch := omega) [List.getElem?_cons_zero, List.getElem?_cons_succ, wrap_id]
    (refine fin0 trivial rfl ?_; simp -implicitDefEqProofs (disch := omega) [List.getElem?_cons_zero, List.getElem?_cons_succ, idx, wrap_id, show wayN 0 0 = 0 from rfl])
theorem adirected_ok (N : Int) (es : List Ed) (o : List Bool) (set : List Int) (hel : es.length ≤ 1000) (ho : o.length ≤ 100) (hsl : set.length ≤ 1000) :
    PC Try.prog 36 [G N es, .bo o, .is set] (.tup [.i (if dirE N es o set = 0 then wayP (memB set) es o else 0), .i (dirE N es o set)]) [] := by
  refine PC_of_W cfn36 ?_
  simp -implicitDefEqProofs (disch := omega) [c36, List.getElem?_cons_zero, List.getElem?_cons_succ, wrap_id]
  refine HC_of_PC rfl (ocheck_ok N es o hel (by omega)) ?_
  by_cases h0 : oE N es o = 0
  rotate_left
  · simp -implicitDefEqProofs (disch := omega) [List.getElem?_cons_zero, List.getElem?_cons_succ, wrap_id, h0]
    (refine fin0 trivial rfl ?_; simp -implicitDefEqProofs (disch := omega) [List.getElem?_cons_zero, List.getElem?_cons_succ, idx, wrap_id, dirE, h0])
  obtain ⟨hg, hol⟩ := oE_ok h0
  have hgood := gcheck_ok hg
  obtain ⟨n, rfl⟩ : ∃ n : Nat, N = n := ⟨N.toNat, by have := hgood.n1; omega⟩
  have hn := hgood.n12
  have hn2 : n ≤ 1048576 := by omega
  simp -implicitDefEqProofs (disch := omega) [List.getElem?_cons_zero, List.getElem?_cons_succ, wrap_id, h0]
  refine HC_of_PC rfl (gsubset_ok n es set (by omega) (by omega)) ?_
  have hsc : subCheck n es set = subErr n (-1) set := by simp [subCheck, hg]
  rw [hsc]
  by_cases h1 : subErr n (-1) set = 0
  rotate_left
  · simp -implicitDefEqProofs (disch := omega) [List.getElem?_cons_zero, List.getElem?_cons_succ, wrap_id, h1]
    (refine fin0 trivial rfl ?_; simp -implicitDefEqProofs (disch := omega) [List.getElem?_cons_zero, List.getElem?_cons_succ, idx, wrap_id, dirE, h0, h1])
  obtain ⟨hs, _, _⟩ := subErr_ok h1
  simp -implicitDefEqProofs (disch := omega) [List.getElem?_cons_zero, List.getElem?_cons_succ, wrap_id, h1, hn2]
  refine loopW set.length (fun k s => s = ⟨[(30, .i k), (29, .i set.length), (28, .p (.is set)), (10, .os 1 0 n), (3, .ptr 0 1 0 0), (1, .p (.bo o))], [.box (.p (G n es)), rowB (mkL n (set.take k))]⟩) (wk_norm [0, 1] [30, 29, 28, 10, 3, 1] rfl rfl) (by simp only [rowB, mkL, List.take_zero, List.foldl_nil, List.map_replicate]; rfl) ?_
  rintro k s hk rfl
  have hml := mkL_len n (set.take k)
  by_cases hlt : k < set.length
  · have h2 := hs _ (List.getElem_mem hlt)
    have hf := mkL_take n set k hlt
    obtain ⟨u, hu⟩ : ∃ u : Nat, set[k] = u := ⟨(set[k]).toNat, by omega⟩
    obtain ⟨D, hD⟩ : ∃ D, D = mkL n (set.take k) := ⟨_, rfl⟩
    rw [← hD] at hf hml ⊢
    rw [hu, Int.toNat_natCast] at hf
    have huD : u < D.length := by omega
    have hun : u < n := by omega
    simp -implicitDefEqProofs (disch := omega) [List.getElem?_cons_zero, List.getElem?_cons_succ, wrap_id, hlt, hu, hml, huD, hun]
    exact round_end [0, 1] [30, 29, 28, 10, 3, 1] hlt rfl (by rw [hf, rowB, List.map_set]; rfl)
  · have hke : k = set.length := by omega
    subst hke
    rw [List.take_length] at hml ⊢
    simp -implicitDefEqProofs (disch := omega) [List.getElem?_cons_zero, List.getElem?_cons_succ, wrap_id]
    have hw : wayP (mkB (mkL n set)) es o = wayP (memB set) es o := by
      obtain ⟨e1, e2⟩ := outN_congr (f := mkB (mkL n set)) (g := memB set) hgood.right (o := o) (fun v h0 hv => mkB_mkL hs h0 hv)
      rw [wayP, wayP, e1, e2]
    have hdd : dirE n es o set = 0 := by rw [dirE, if_neg (by simp [h0]), h1]
    refine HC_of_PC (by simp [views, view, viewC, hml]) (directed_ok n es o (mkL n set) hg hel hol hml) ?_
    simp -implicitDefEqProofs (disch := omega) [List.getElem?_cons_zero, List.getElem?_cons_succ, wrap_id, hw]
    (refine fin0 trivial rfl ?_; simp -implicitDefEqProofs (disch := omega) [List.getElem?_cons_zero, List.getElem?_cons_succ, idx, wrap_id, hdd])
end Go.Proofs.Ytjinjbcdbkgedaa
