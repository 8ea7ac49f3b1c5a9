/-
  Texts joined: Df Dg Dh Di.
-/
import Derived.Test.YtojamfbdlfgedaaKg16

section
set_option linter.unusedSimpArgs false
set_option linter.unusedVariables false
namespace Go.Proofs.Ytojamfbdlfgedaa
open Go.Abs Go.Sand
attribute [local simp ↓ 10000] putA_ints
theorem ends_in {n : Nat} {es : List Ed} (hr : ∀ x ∈ es, Right n x) : EIn n (endsL es) := fun x hx => by
  rw [endsL, List.mem_flatMap] at hx
  obtain ⟨z, hz, hy⟩ := hx
  have hq := hr z hz
  rw [List.mem_replicate] at hy
  obtain ⟨_, rfl⟩ := hy
  have h1 := hq.a0
  have h2 := hq.an
  have h3 := hq.b0
  have h4 := hq.bn
  (try dsimp only)
  omega
theorem tgiven_ok (n : Nat) (es : List Ed) (hel : es.length ≤ 900) (hc : connE n es = 0) : PC Try.prog 22 [G n es] (.tup [.p (.ps (endsL es)), .i 0]) [] := by
  obtain ⟨hgc, hp⟩ := conn_good hc
  rw [Int.toNat_natCast] at hp
  have hg := gcheck_ok hgc
  have h1 := hg.n1
  have h12 := hg.n12
  have hn0 : 0 < n := by omega
  have hL := ends_in hg.right
  have hll := endsL_len hg.right
  have hone := conn_all (by omega) hg.right hp
  obtain ⟨L, hLe⟩ : ∃ L, L = endsL es := ⟨_, rfl⟩
  have hge := gends_ok n es (by omega) hgc
  rw [← hLe] at hL hll hone hge ⊢
  refine PC_of_W cfn22 ?_
  simp -implicitDefEqProofs (disch := omega) [c22, List.getElem?_cons_zero, List.getElem?_cons_succ, wrap_id]
  refine HC_of_PC rfl (hge) ?_
  simp -implicitDefEqProofs (disch := omega) [List.getElem?_cons_zero, List.getElem?_cons_succ, wrap_id]
  refine HC_of_PC rfl (loose_ok) ?_
  obtain ⟨F, hFe⟩ : ∃ F, F = (List.range 12).map fun i : Nat => (i : Int) := ⟨_, rfl⟩
  have hF : TF F id := by rw [hFe]; exact TF.start
  have hl := hF.len
  rw [← hFe]
  have hF0 : AV.p (PV.agg [PV.v (Value.int IntKind.i64 0), PV.v (Value.int IntKind.i64 0), PV.v (Value.int IntKind.i64 0), PV.v (Value.int IntKind.i64 0), PV.v (Value.int IntKind.i64 0), PV.v (Value.int IntKind.i64 0), PV.v (Value.int IntKind.i64 0), PV.v (Value.int IntKind.i64 0), PV.v (Value.int IntKind.i64 0), PV.v (Value.int IntKind.i64 0), PV.v (Value.int IntKind.i64 0), PV.v (Value.int IntKind.i64 0)]) = .p (.agg ((gF 0).map PV.i)) := rfl
  simp -implicitDefEqProofs (disch := omega) [List.getElem?_cons_zero, List.getElem?_cons_succ, wrap_id, hl]
  refine loopW L.length (fun j s => ∃ F', TreI n id (L.take j) F' ∧ s = ⟨[(23, .i j), (22, .i L.length), (21, .p (.ps L)), (7, .i (rcnt (mrgA id (natE (L.take j))) n)), (6, .ptr 0 1 0 0), (4, .p (.ps L))], [boxF F']⟩) (wk_norm [1] [23, 22, 21, 7, 6, 4] rfl rfl) ⟨F, ⟨hF, Inn.id n⟩, by
    have e : rcnt (mrgA id (natE (L.take 0))) n = n := rcnt_id n
    rw [e]; rfl⟩ ?_
  rintro j s hj ⟨F', hT, rfl⟩
  have hl' := hT.1.len
  have hrc := rcnt_le (mrgA id (natE (L.take j))) n
  by_cases hlj : j < L.length
  · obtain ⟨a, b, hab, ha, hb⟩ := hL.at hlj
    have hsn := hT.snoc (by omega) hlj hab ha hb
    have hct := hT.cnt hlj hab ha
    have hpp : pP L[j] = .agg [.i a, .i b] := by rw [hab]
    obtain ⟨c', hc'⟩ : ∃ c', c' = mrgA id (natE (L.take j)) := ⟨_, rfl⟩
    rw [← hc'] at hsn hct hrc ⊢
    obtain ⟨c2, hc2⟩ : ∃ c2, c2 = mrgA id (natE (L.take (j + 1))) := ⟨_, rfl⟩
    rw [← hc2] at hct
    simp -implicitDefEqProofs (disch := omega) [List.getElem?_cons_zero, List.getElem?_cons_succ, wrap_id, hlj, hpp]
    refine tjoin_ok (c := c') (hc' ▸ hT.1) rfl a b (by omega) (by omega) fun Z => ?_
    by_cases e : c' a = c' b
    · rw [if_neg (by simp [e]), Nat.add_zero] at hct
      have hd : decide (c' a ≠ c' b) = false := by simp [e]
      rw [hd]
      simp -implicitDefEqProofs (disch := omega) [List.getElem?_cons_zero, List.getElem?_cons_succ, wrap_id]
      exact round_end [0] [23, 22, 21, 7, 6, 4] hlj rfl ⟨_, hsn, by rw [← hc2, hct]; rfl⟩
    · rw [if_pos e] at hct
      have hd : decide (c' a ≠ c' b) = true := by simp [e]
      rw [hd]
      simp -implicitDefEqProofs (disch := omega) [List.getElem?_cons_zero, List.getElem?_cons_succ, wrap_id]
      exact round_end [0] [23, 22, 21, 7, 6, 4] hlj rfl ⟨_, hsn, by
        have e2 : (rcnt c' n : Int) - 1 = (rcnt c2 n : Int) := by omega
        rw [← hc2, ← e2]; rfl⟩
  · have hje : j = L.length := by omega
    subst hje
    rw [List.take_length] at hT hrc ⊢
    have h1 := (rcnt_one hT.2 hn0).2 hone
    rw [h1]
    simp -implicitDefEqProofs (disch := omega) [List.getElem?_cons_zero, List.getElem?_cons_succ, wrap_id, hlj]
    (refine fin0 trivial rfl ?_; simp -implicitDefEqProofs (disch := omega) [List.getElem?_cons_zero, List.getElem?_cons_succ, idx, wrap_id])
end Go.Proofs.Ytojamfbdlfgedaa
end
section
set_option linter.unusedSimpArgs false
set_option linter.unusedVariables false
namespace Go.Abs
open Go.RowKit
/-- A change of view ahead of a call. -/
theorem HC_wk {P : Program} {f : FuncId} {args args' : List AV} {H H' : List AO} {K : AV → List AO → Prop} (hw : Wk H.length ⟨initT 0 args, H⟩ ⟨initT 0 args', H'⟩) (hl : args'.length = args.length) (h : HC P false f args' H' K) : HC P false f args H K := by
  intro M vs hM hH ha
  subst hH
  have hs : Sim vs.length M ⟨initT 0 args, M.H⟩ M.φ { tmps := vs.toArray, defers := [] } M.w := by
    refine ⟨.nil, by simp, hM, ?_, Below.refl _ _, Le.refl _⟩
    have := env_init ha 0
    simpa using this
  obtain ⟨φ', hs'⟩ := hw vs.length M M.φ _ M.w rfl hs
  have ha' : RAs ⟨M.w, H', φ', M.base, M.S⟩ args' vs := by
    refine ⟨by rw [hl]; exact ha.1, fun i hi hi' => ?_⟩
    have := hs'.r i
    dsimp only at this
    rw [get_init, dif_pos ⟨Nat.zero_le i, by simpa using hi⟩] at this
    simpa [hi'] using this
  refine (h ⟨M.w, H', φ', M.base, M.S⟩ vs hs'.m rfl ha').mono ?_
  rintro en w' ⟨v, r, H2, φ2, rfl, h1, h2, h3, h4, h5, -⟩
  exact ⟨v, r, H2, φ2, rfl, h1, h2, hs'.le.trans h3, h4, h5, fun e => by cases e⟩
/-- Arguments that fit other views, too. -/
theorem HC_ra {P : Program} {e : Bool} {f : FuncId} {args args' : List AV} {H : List AO} {K : AV → List AO → Prop} (hr : ∀ (M : Mem) (vs : List Value), MemOk M → M.H = H → RAs M args vs → RAs M args' vs) (h : HC P e f args' H K) : HC P e f args H K :=
  fun M vs hM hH ha => h M vs hM hH (hr M vs hM hH ha)
theorem RA_nilbc {M : Mem} {v : Value} (o : Nat) (h : RA M (.p (.v (.slice none 0 0))) v) : RA M (.bc o 0 0) v := by
  refine .bc o 0 0 v (Nat.le_refl 0) (by omega) (fun _ => h.lit.1) fun h => by omega
end Go.Abs
end
section
set_option linter.unusedSimpArgs false
set_option linter.unusedVariables false
namespace Go.Proofs.Ytojamfbdlfgedaa
open Go.Abs Go.Sand
/-- The objects while trees are listed. -/
abbrev trA (n : Nat) (es : List Ed) (L : List (Int × Int)) (lp : AO) (T : List AV) : List AO :=
  [.box (.p (G n es)), .box (.p .nil), .box (.p (.i 0)), .box (.os 7 0 T.length), .box (.p (.i n)), .box (.p (.ps L)), lp, .tab T 36 false, .box (.yl 6), .box (.fn (.func 36) [] [.ptr 4 1 0 0, .ptr 8 1 0 0, .ptr 5 1 0 0, .ptr 9 1 0 0])]
/-- What is yielded: nothing, or a row of one's own. -/
def YOk (Z : List AO) (x : AV) : Prop := x = .p .nil ∨ ∃ (j : Nat) (l : List PV), x = .os (j + 10) 0 l.length ∧ Z[j]? = some (.row l 1 3 false)
section
variable {n : Nat} {es : List Ed} {L : List (Int × Int)} {t : List (Nat × AV)}
theorem tr_yield (ht6 : Abs.get t 6 = .ptr 3 1 0 0) {T : List AV} {Z : List AO} {x : AV} (hT : T.length < 16384) (hx : YOk Z x) {K : AV → List AO → Prop}
    (hK : ∀ Z', K (.b true) (trA n es L (.lp 29 t [20] rc14_0a rc14_0c .ready) (T ++ [x]) ++ (Z ++ Z'))) :
    HY Try.prog 6 [x] (trA n es L (.lp 29 t [20] rc14_0a rc14_0c .ready) T ++ Z) K := by
  have h1 : ¬ (T.length : Int) = 16384 := by omega
  have h2 : ¬ T.length = 16384 := by omega
  have h3 : T.length ≤ 1048575 := by omega
  have hZ0 : ∀ x : AO, (Z ++ [x])[Z.length]? = some x := fun x => by simp
  refine HY_of_W rfl rcc14_0a rcc14_0c rfl rfl rfl rfl ?_
  rcases hx with rfl | ⟨j, l, rfl, hj⟩
  · simp -implicitDefEqProofs (disch := omega) [List.getElem?_cons_zero, List.getElem?_cons_succ, wrap_id, ra14_0a, ra14_0c, ht6, h1, h2, h3, hZ0]
    have h := hK [.tab [.p .nil] 36 false]
    simpa using h
  · simp -implicitDefEqProofs (disch := omega) [List.getElem?_cons_zero, List.getElem?_cons_succ, wrap_id, ra14_0a, ra14_0c, ht6, h1, h2, h3, hZ0, hj]
    have h := hK [.tab [.os (j + 10) 0 l.length] 36 false]
    simpa using h
end
/-- The cells of a list. -/
def ciL (xs : List Int) : List AV := xs.map fun x => AV.p (.i x)
theorem ciL_len (xs : List Int) : (ciL xs).length = xs.length := by simp [ciL]
theorem ciL_app (xs : List Int) (x : Int) : ciL (xs ++ [x]) = ciL xs ++ [AV.p (.i x)] := by simp [ciL]
theorem allOne_ci (xs : List Int) (r : List AV) : allOne ((ciL xs ++ r).take xs.length) = some (xs.map PV.i) := by
  have e : (ciL xs ++ r).take xs.length = ciL xs := by
    rw [← ciL_len xs, List.take_left]
  rw [e]
  have h : ∀ xs : List Int, allP (ciL xs) = some (xs.map PV.i) := by
    intro xs
    induction xs with
    | nil => rfl
    | cons x xs ih =>
      show (allP (ciL xs)).map _ = _
      rw [ih]; rfl
  unfold allOne
  rw [h]
  dsimp only
  rw [if_pos]
  refine List.all_eq_true.2 fun e he => ?_
  obtain ⟨x, _, rfl⟩ := List.mem_map.1 he
  rfl
/-- A list that grows: a slice into a box. -/
def TOk (Z : List AO) (y : AV) (xs : List Int) : Prop := ∃ o cap, y = .bc o xs.length cap ∧ ((cap = 0 ∧ xs = [] ∧ o = 0) ∨ (0 < cap ∧ ∃ (j : Nat) (rest : List AV), o = j + 10 ∧ Z[j]? = some (.box (.agg (ciL xs ++ rest))) ∧ xs.length + rest.length = cap))
/-- All else stays; and the list's own cells stay. -/
def FrT (y : AV) (xs : List Int) (Z Z' : List AO) : Prop := ∀ (i : Nat) (ob : AO), Z[i]? = some ob → ((∀ l c, y ≠ .bc (i + 10) l c) → Z'[i]? = some ob) ∧ ∀ rest, (∃ l c, y = .bc (i + 10) l c) → ob = .box (.agg (ciL xs ++ rest)) → ∃ rest', Z'[i]? = some (.box (.agg (ciL xs ++ rest'))) ∧ rest'.length = rest.length
theorem FrT.refl (y : AV) (xs : List Int) (Z : List AO) : FrT y xs Z Z := fun i ob h => ⟨fun _ => h, fun rest _ e => ⟨rest, by rw [h, e], rfl⟩⟩
theorem FrT.app (y : AV) (xs : List Int) (Z X : List AO) : FrT y xs Z (Z ++ X) := fun i ob h => by
  have h2 : (Z ++ X)[i]? = some ob := by rw [List.getElem?_append_left (List.getElem?_eq_some_iff.1 h).1]; exact h
  exact ⟨fun _ => h2, fun rest _ e => ⟨rest, by rw [h2, e], rfl⟩⟩
theorem FrT.trans {y : AV} {xs : List Int} {A B C : List AO} (h : FrT y xs A B) (k : FrT y xs B C) : FrT y xs A C := fun i ob ho => by
  obtain ⟨h1, h2⟩ := h i ob ho
  refine ⟨fun hn => (k i ob (h1 hn)).1 hn, fun rest hy e => ?_⟩
  obtain ⟨r1, k1, k2⟩ := h2 rest hy e
  obtain ⟨r2, k3, k4⟩ := (k i _ k1).2 r1 hy rfl
  exact ⟨r2, k3, k4.trans k2⟩
theorem FrT.set {y : AV} {xs : List Int} {Z : List AO} {j : Nat} {ob ob' : AO} (h : ∀ l c, y ≠ .bc (j + 10) l c) : ∀ i x, Z[i]? = some x → i ≠ j → FrT y xs Z Z → (Z.set j ob')[i]? = some x := fun i x hi hne _ => by
  rw [List.getElem?_set_ne (fun e => hne e.symm)]; exact hi
theorem FrT.tok {y : AV} {xs : List Int} {Z Z' : List AO} (h : FrT y xs Z Z') (hT : TOk Z y xs) : TOk Z' y xs := by
  obtain ⟨o, cap, rfl, hh⟩ := hT
  refine ⟨o, cap, rfl, ?_⟩
  rcases hh with hh | ⟨h1, j, rest, rfl, h2, h3⟩
  · exact .inl hh
  · obtain ⟨r, k1, k2⟩ := (h j _ h2).2 rest ⟨_, _, rfl⟩ rfl
    exact .inr ⟨h1, j, r, rfl, k1, by omega⟩
/-- What is not the list's. -/
theorem FrT.keep {y : AV} {xs : List Int} {Z Z' : List AO} (h : FrT y xs Z Z') {i : Nat} {ob : AO} (hi : Z[i]? = some ob) (hy : ∀ l c, y ≠ .bc (i + 10) l c) : Z'[i]? = some ob := (h i ob hi).1 hy
theorem TOk.not {Z : List AO} {y : AV} {xs : List Int} (h : TOk Z y xs) {i : Nat} (hi : ∀ x, Z[i]? ≠ some (.box (.agg x))) : ∀ l c, y ≠ .bc (i + 10) l c := by
  obtain ⟨o, cap, rfl, hh⟩ := h
  intro l c e
  injection e with e1 e2 e3
  rcases hh with ⟨_, _, h0⟩ | ⟨h1, j, rest, h2, h3, h4⟩
  · omega
  · have : i = j := by omega
    subst this
    exact hi _ h3
end Go.Proofs.Ytojamfbdlfgedaa
end
section
set_option linter.unusedSimpArgs false
set_option linter.unusedVariables false
namespace Go.Proofs.Ytojamfbdlfgedaa
open Go.Abs Go.Sand
/-- What an append to the list leaves. -/
def OutT (ZJ : List AO) (y : AV) (xs : List Int) (e : Int) (y2 : AV) (Z2 : List AO) : Prop := TOk Z2 y2 (xs ++ [e]) ∧ (∀ (i : Nat) (ob : AO), ZJ[i]? = some ob → (∀ x, ob ≠ .box (.agg x)) → Z2[i]? = some ob) ∧ ∀ Z3, FrT y2 (xs ++ [e]) Z2 Z3 → FrT y xs ZJ Z3
theorem outT_new {ZJ X : List AO} {y : AV} {xs : List Int} {e : Int} (hT : TOk ZJ y xs) {c : Nat} (hc : xs.length + 1 ≤ c) {m : Nat} (hm : m = (ZJ ++ X).length + 10) :
    OutT ZJ y xs e (.bc m (xs.length + 1) c) (ZJ ++ X ++ [.box (.agg (ciL xs ++ [AV.p (.i e)] ++ List.replicate (c - (xs.length + 1)) .dead))]) := by
  subst hm
  have hl : (xs ++ [e]).length = xs.length + 1 := by simp
  refine ⟨⟨_, c, by rw [hl], .inr ⟨by omega, (ZJ ++ X).length, List.replicate (c - (xs.length + 1)) .dead, rfl, ?_, ?_⟩⟩, fun i ob hi _ => ?_, fun Z3 h => ?_⟩
  · rw [ciL_app, List.getElem?_append_right (Nat.le_refl _), Nat.sub_self]; rfl
  · rw [hl, List.length_replicate]; omega
  · rw [List.getElem?_append_left (by have := (List.getElem?_eq_some_iff.1 hi).1; rw [List.length_append]; omega), List.getElem?_append_left (List.getElem?_eq_some_iff.1 hi).1]; exact hi
  · intro i ob hi
    have hlt := (List.getElem?_eq_some_iff.1 hi).1
    have h2 : (ZJ ++ X ++ [AO.box (.agg (ciL xs ++ [AV.p (.i e)] ++ List.replicate (c - (xs.length + 1)) .dead))])[i]? = some ob := by
      rw [List.getElem?_append_left (by rw [List.length_append]; omega), List.getElem?_append_left hlt]; exact hi
    have h3 := h.keep h2 fun l c' e' => by injection e' with e1; rw [List.length_append] at e1; omega
    exact ⟨fun _ => h3, fun rest _ e' => ⟨rest, by rw [h3, e'], rfl⟩⟩
theorem outT_in {ZJ X : List AO} {xs rest : List Int} {r : List AV} {e : Int} {j cap : Nat} (hj : ZJ[j]? = some (.box (.agg (ciL xs ++ r)))) (hc : xs.length + r.length = cap) (hle : xs.length + 1 ≤ cap) :
    OutT ZJ (.bc (j + 10) xs.length cap) xs e (.bc (j + 10) (xs.length + 1) cap) ((ZJ ++ X).set j (.box (.agg (ciL xs ++ [AV.p (.i e)] ++ r.drop 1)))) := by
  have hl : (xs ++ [e]).length = xs.length + 1 := by simp
  have hjl := (List.getElem?_eq_some_iff.1 hj).1
  have hat : ((ZJ ++ X).set j (.box (.agg (ciL xs ++ [AV.p (.i e)] ++ r.drop 1))))[j]? = some (.box (.agg (ciL xs ++ [AV.p (.i e)] ++ r.drop 1))) := List.getElem?_set_self (by rw [List.length_append]; omega)
  have hne : ∀ (i : Nat) (ob : AO), ZJ[i]? = some ob → i ≠ j → ((ZJ ++ X).set j (.box (.agg (ciL xs ++ [AV.p (.i e)] ++ r.drop 1))))[i]? = some ob := fun i ob hi hn => by
    rw [List.getElem?_set_ne (fun e => hn e.symm), List.getElem?_append_left (List.getElem?_eq_some_iff.1 hi).1]; exact hi
  refine ⟨⟨_, cap, by rw [hl], .inr ⟨by omega, j, r.drop 1, rfl, by rw [ciL_app]; exact hat, by rw [hl, List.length_drop]; omega⟩⟩, fun i ob hi hb => hne i ob hi fun e' => ?_, fun Z3 h => ?_⟩
  · subst e'
    rw [hj] at hi
    exact hb _ (Option.some.inj hi).symm
  · intro i ob hi
    by_cases hij : i = j
    · subst hij
      obtain ⟨r', k1, k2⟩ := (h i _ hat).2 (r.drop 1) ⟨_, _, rfl⟩ (by rw [ciL_app])
      refine ⟨fun hn => absurd rfl (hn _ _), fun rest _ e' => ⟨AV.p (.i e) :: r', ?_, ?_⟩⟩
      · rw [k1, ciL_app, List.append_assoc]; rfl
      · rw [hj] at hi
        have := (Option.some.inj hi).trans e'
        have e2 := congrArg (fun x => match x with | AO.box (.agg l) => l | _ => []) this
        have e3 := List.append_cancel_left e2
        rw [← e3, List.length_cons, k2, List.length_drop]; omega
    · have h3 := h.keep (hne i ob hi hij) fun l c' e' => by injection e' with e1; omega
      exact ⟨fun _ => h3, fun rest _ e' => ⟨rest, by rw [h3, e'], rfl⟩⟩
section
variable (n : Nat) (es : List Ed) (L : List (Int × Int)) (lp : AO) (T : List AV)
theorem bcL_at {Z : List AO} {j cap : Nat} {l : List AV} (h0 : 0 < cap) (hj : Z[j]? = some (.box (.agg l))) (hl : l.length = cap) : bcL (trA n es L lp T ++ Z) (j + 10) cap = some l := by
  unfold bcL
  rw [if_neg (by omega)]
  have : (trA n es L lp T ++ Z)[j + 10]? = some (.box (.agg l)) := by simpa using hj
  rw [this]
  dsimp only
  rw [if_pos hl]
theorem set_at {Z : List AO} (j : Nat) (x : AO) : (trA n es L lp T ++ Z).set (j + 10) x = trA n es L lp T ++ Z.set j x := by simp [trA]
/-- AN APPEND TO THE LIST. -/
theorem appP_T {ZJ X : List AO} {y : AV} {xs : List Int} {e : Int} (hT : TOk ZJ y xs) (hx : xs.length ≤ 1000) {K : AV → List AO → Prop} (hK : ∀ y2 Z2, OutT ZJ y xs e y2 Z2 → K y2 (trA n es L lp T ++ Z2)) :
    appP none 1 3 (some y) (some [PV.i e]) (trA n es L lp T ++ (ZJ ++ X)) K := by
  have hT0 := hT
  obtain ⟨o, cap, rfl, hh⟩ := hT
  rw [appP_none]
  unfold appQP
  rcases hh with ⟨rfl, rfl, rfl⟩ | ⟨h1, j, rest, rfl, h2, h3⟩
  · have e0 : bcL (trA n es L lp T ++ (ZJ ++ X)) 0 0 = some [] := rfl
    dsimp only
    rw [e0]
    refine ⟨⟨by simp, rfl, by simp⟩, fun h => by simp at h, fun _ c hc => ?_⟩
    have := hK _ _ (outT_new (X := X) (e := e) hT0 (c := c) hc (m := (trA n es L lp T ++ (ZJ ++ X)).length) (by simp [trA]))
    simpa [ciL] using this
  · have h2' : (ZJ ++ X)[j]? = some (.box (.agg (ciL xs ++ rest))) := by rw [List.getElem?_append_left (List.getElem?_eq_some_iff.1 h2).1]; exact h2
    have e0 := bcL_at n es L lp T h1 h2' (by rw [List.length_append, ciL_len]; exact h3)
    dsimp only
    rw [e0]
    have hcl := ciL_len xs
    have t1 : (ciL xs ++ rest).take xs.length = ciL xs := by rw [← hcl, List.take_left]
    have t2 : (ciL xs ++ rest).drop (xs.length + 1) = rest.drop 1 := by rw [List.drop_append, hcl, List.drop_eq_nil_of_le (by omega), List.nil_append, Nat.add_sub_cancel_left]
    refine ⟨⟨by simp, rfl, by simp; omega⟩, fun h => ?_, fun h c hc => ?_⟩
    · have := hK _ _ (outT_in (X := X) (e := e) (rest := []) h2 h3 h)
      rw [set_at, show [PV.i e].length = 1 from rfl, t1, t2]
      exact this
    · have := hK _ _ (outT_new (X := X) (e := e) hT0 (c := c) hc (m := (trA n es L lp T ++ (ZJ ++ X)).length) (by simp [trA]))
      rw [show [PV.i e].length = 1 from rfl, t1]
      simpa using this
end
end Go.Proofs.Ytojamfbdlfgedaa
end
