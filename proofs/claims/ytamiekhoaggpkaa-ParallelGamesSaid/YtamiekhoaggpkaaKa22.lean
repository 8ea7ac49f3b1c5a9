/-
  Texts joined: Mrb Zc Zd Gn Zf Zg.
-/
import Derived.Test.YtamiekhoaggpkaaKa21

section
set_option linter.unusedSimpArgs false
namespace Go.Proofs.Ytamiekhoaggpkaa
open Go.Abs Go.Sand
theorem rfew_ok (N : Int) (es : List Ed) (d : List Int) : PC Try.prog 11 [G N es, .is d] (.b (few18 N es d)) [] := by
  refine PC_of_W cfn11 ?_
  simp -implicitDefEqProofs (disch := omega) [c11, List.getElem?_cons_zero, List.getElem?_cons_succ, wrap_id]
  refine HC_of_PC rfl (few8_ok N es) ?_
  cases h : smallG N es 6 9
  · simp -implicitDefEqProofs (disch := omega) [List.getElem?_cons_zero, List.getElem?_cons_succ, wrap_id]
    (refine fin0 trivial rfl ?_; simp -implicitDefEqProofs (disch := omega) [List.getElem?_cons_zero, List.getElem?_cons_succ, idx, wrap_id, few18, h])
  · simp -implicitDefEqProofs (disch := omega) [List.getElem?_cons_zero, List.getElem?_cons_succ, wrap_id]
    refine HC_of_PC rfl (dfew_ok d) ?_
    simp -implicitDefEqProofs (disch := omega) [List.getElem?_cons_zero, List.getElem?_cons_succ, wrap_id]
    (refine fin0 trivial rfl ?_; simp -implicitDefEqProofs (disch := omega) [List.getElem?_cons_zero, List.getElem?_cons_succ, idx, wrap_id, few18, h])
end Go.Proofs.Ytamiekhoaggpkaa
/-
  Contracts: package slices; what a script changes.
-/
set_option linter.unusedSimpArgs false
namespace Go.Proofs.Ytamiekhoaggpkaa
open Go.Abs Go.Sand
theorem clone_ok (xs : List Int) (hx : xs.length ≤ 1000000) : PC Try.prog 78 [.is xs] (.os 0 0 xs.length) [.row (xs.map .i) 1 3 false] := by
  refine PC_of_W cfn78 ?_
  simp -implicitDefEqProofs (disch := omega) [c78, List.getElem?_cons_zero, List.getElem?_cons_succ, wrap_id, stepK_eqn, eqnP]
  have hx' : xs.length ≤ 1048576 := by omega
  refine ⟨?_, ?_⟩
  · rintro rfl
    simp -implicitDefEqProofs (disch := omega) [List.getElem?_cons_zero, List.getElem?_cons_succ, wrap_id]
    refine finW (Wk_nil 2 1 3 rfl) ?_
    exact fin1 [0] trivial rfl rfl ⟨rfl, rfl⟩
  · simp -implicitDefEqProofs (disch := omega) [List.getElem?_cons_zero, List.getElem?_cons_succ, wrap_id, hx']
    exact fin1 [0] trivial rfl rfl ⟨rfl, rfl⟩
section
variable {e : Bool} {f : FuncId} {fs cs : List AV} {H : List AO} {p : Int → Bool} {R : AV → List AO → Prop}
end
end Go.Proofs.Ytamiekhoaggpkaa
/-
  Contracts: what a script changes, in package firing.
-/
set_option linter.unusedSimpArgs false
namespace Go.Proofs.Ytamiekhoaggpkaa
open Go.Abs Go.Sand
theorem Bd.get {B : Int} {d : List Int} (h : Bd B d) {k : Nat} (hk : k < d.length) : -B ≤ d[k] ∧ d[k] ≤ B := by
  have := h k
  rwa [getD_get hk] at this
end Go.Proofs.Ytamiekhoaggpkaa
/-
  Contracts: what a script changes, in the reference.
-/
set_option linter.unusedSimpArgs false
namespace Go.Proofs.Ytamiekhoaggpkaa
open Go.Abs Go.Sand
end Go.Proofs.Ytamiekhoaggpkaa
/-
  Contracts: what a script changes, and bounds it.
-/
set_option linter.unusedSimpArgs false
set_option linter.unusedVariables false
namespace Go.Proofs.Ytamiekhoaggpkaa
open Go.Abs Go.Sand
end Go.Proofs.Ytamiekhoaggpkaa
end
section
set_option linter.unusedSimpArgs false
set_option linter.unusedVariables false
namespace Go.Proofs.Ytamiekhoaggpkaa
open Go.Abs Go.Sand
/-- A list of lists of numbers. -/
abbrev _root_.Go.Abs.PV.iss (l : List (List Int)) : PV := .sl (l.map PV.is)
abbrev rowI (c : List Int) : AO := .row (c.map PV.i) 1 3 false
section
variable {n : Nat} {q : Int} {R : List (List Int)} {V c s : List Int} {tot : Int} {W : List Bool} {b0 : AO} {T : List AO} {K : AV → List AO → Prop}
end
end Go.Proofs.Ytamiekhoaggpkaa
end
section
set_option linter.unusedSimpArgs false
set_option linter.unusedVariables false
namespace Go.Proofs.Ytamiekhoaggpkaa
open Go.Abs Go.Sand
def valsL (n : Nat) (es : List Ed) : List Int := (List.range n).map fun v : Nat => valTo es v n
def rowL (n : Nat) (es : List Ed) (v : Nat) : List Int := (List.range n).map fun u => joinE es v u
def rowsL (n : Nat) (es : List Ed) : List (List Int) := (List.range n).map fun v => rowL n es v
def firedL (n : Nat) (es : List Ed) (c : List Int) (v : Nat) (k : Int) : List Int := (List.range n).map fun u => c.getD u 0 + joinE es v u * k - if u = v then k * valTo es v n else 0
theorem rg_get (f : Nat → Int) (n v : Nat) : ((List.range n).map f).getD v 0 = if v < n then f v else 0 := by
  by_cases h : v < n <;> simp [List.getD_eq_getElem?_getD, h]
theorem fired_moved {n : Nat} {es : List Ed} (hg : GoodG n es) {d s : List Int} (hd : d.length = n) (hs : s.length = n) {v : Nat} (hv : v < n) (k : Int) : firedL n es (movedE es s d) v k = movedE es (moreS s v k) d := by
  refine ext_getD (by simp [firedL, movedE_length, hd]) fun u hu => ?_
  simp only [firedL, List.length_map, List.length_range] at hu
  rw [firedL, rg_get]
  simp only [hu, if_true]
  rw [aft_more hg hd s v k (by omega) hv]
/-- While a vertex is fired. -/
def fireTo (n : Nat) (es : List Ed) (c : List Int) (v : Nat) (k : Int) (m : Nat) : List Int := (List.range n).map fun u => c.getD u 0 + (if u < m then joinE es v u * k else 0) - if u = v then k * valTo es v n else 0
theorem fireTo_get {n : Nat} {es : List Ed} {c : List Int} {v : Nat} {k : Int} {m u : Nat} (hu : u < n) : (fireTo n es c v k m).getD u 0 = c.getD u 0 + (if u < m then joinE es v u * k else 0) - if u = v then k * valTo es v n else 0 := by
  rw [fireTo, rg_get]
  exact if_pos hu
theorem fireTo_0 {n : Nat} {es : List Ed} {c : List Int} (hc : c.length = n) {v : Nat} (k : Int) : c.set v (c.getD v 0 - k * valTo es v n) = fireTo n es c v k 0 := by
  refine ext_getD (by simp [fireTo, hc]) fun u hu => ?_
  simp only [List.length_set] at hu
  rw [fireTo_get (by omega), getD_set]
  by_cases h : u = v
  · subst h; simp [hu]
  · have h' : ¬ v = u := fun e => h e.symm
    simp [h, h']
theorem fireTo_len (n : Nat) (es : List Ed) (c : List Int) (v : Nat) (k : Int) (m : Nat) : (fireTo n es c v k m).length = n := by simp [fireTo]
theorem fireTo_succ {n : Nat} {es : List Ed} {c : List Int} {v : Nat} (k : Int) {m : Nat} (hm : m < n) : (fireTo n es c v k m).set m ((fireTo n es c v k m).getD m 0 + k * joinE es v m) = fireTo n es c v k (m + 1) := by
  refine ext_getD (by simp [fireTo]) fun u hu => ?_
  simp only [List.length_set, fireTo_len] at hu
  rw [getD_set, fireTo_get hm, fireTo_get hu, fireTo_get hu, fireTo_len]
  have hj := Int.mul_comm k (joinE es v m)
  by_cases h : m = u
  · subst h
    simp only [hm, and_self, if_true, Nat.lt_irrefl, if_false, Nat.lt_succ_self]
    omega
  · have h2 : (u < m + 1) = (u < m) := by simp only [eq_iff_iff]; omega
    simp only [h, false_and, if_false, h2]
theorem fireTo_n (n : Nat) (es : List Ed) (c : List Int) (v : Nat) (k : Int) : fireTo n es c v k n = firedL n es c v k := by
  refine ext_getD (by simp [fireTo, firedL]) fun u hu => ?_
  rw [fireTo_len] at hu
  rw [fireTo_get hu, firedL, rg_get]
  simp only [hu, if_true]
theorem valsL_len (n : Nat) (es : List Ed) : (valsL n es).length = n := by simp [valsL]
theorem val_bd {n : Nat} {es : List Ed} (hg : GoodG n es) (v : Nat) : 0 ≤ valTo es v n ∧ valTo es v n ≤ 600 := by
  refine ⟨valTo_nn hg v n, ?_⟩
  rw [valTo_sum]
  have : ∀ k : Nat, sumN (fun u => joinE es v u) k ≤ 50 * k := by
    intro k
    induction k with
    | zero => simp [sumN]
    | succ k ih => simp only [sumN]; have := (joinE_bd hg v k).2; push_cast; omega
  have := this n
  have := hg.n12
  omega
section
variable {n : Nat} {es : List Ed} {q : Int} {c s : List Int} {b0 : AO} {T : List AO} {K : AV → List AO → Prop}
end
end Go.Proofs.Ytamiekhoaggpkaa
end
section
set_option linter.unusedSimpArgs false
set_option linter.unusedVariables false
namespace Go.Proofs.Ytamiekhoaggpkaa
open Go.Abs Go.Sand
theorem singles_ok (N : Int) (es : List Ed) : PC Try.prog 112 [G N es] (.fn (.func 125) [] [.ptr 0 1 0 0]) [.box (.p (G N es))] := by
  refine PC_of_W cfn112 ?_
  simp -implicitDefEqProofs (disch := omega) [c112, List.getElem?_cons_zero, List.getElem?_cons_succ, wrap_id]
  exact fin1 [0] trivial rfl (by rfl) ⟨rfl, rfl⟩
/-- The objects while the edges are ranged over. -/
abbrev endsH (N : Int) (es : List Ed) (lp : AO) (L : List (Int × Int)) (T : List AO) : List AO := .box (.p (G N es)) :: .box (.os 4 0 L.length) :: .box (.p (G N es)) :: lp :: .row (L.map pP) 2 143 false :: T
theorem ends_range (N : Int) (es : List Ed) (hg : ∀ x ∈ es, Right N x) (he : es.length ≤ 1000) (t : List (Nat × AV)) (ht : Abs.get t 5 = .ptr 1 1 0 0) (hf : loT 4 t = true) {K : AV → List AO → Prop}
    (hK : ∀ r, K r (endsH N es (.lp 26 t [15, 16] rc96_0a rc96_0c .ready) (endsL es) [])) :
    HC Try.prog false 125 [.yl 3, .ptr 2 1 0 0] [.box (.p (G N es)), .box (.p .nil), .box (.p (G N es)), .lp 26 t [15, 16] rc96_0a rc96_0c .ready] K := by
  have hlp : ∀ H, AO.ren H (Abs.idx [0, 1, 2, 3, 4] 0) (.lp 26 t [15, 16] rc96_0a rc96_0c .ready) = .lp 26 t [15, 16] rc96_0a rc96_0c .ready := fun H => lp_ren hf (by decide)
  have hlp5 : ∀ H, AO.ren H (Abs.idx [0, 1, 2, 3, 4, 5] 0) (.lp 26 t [15, 16] rc96_0a rc96_0c .ready) = .lp 26 t [15, 16] rc96_0a rc96_0c .ready := fun H => lp_ren hf (by decide)
  refine HC_of_W (af := _) ((by exact cfn125 : cfn _ _ _ = some _)) ?_
  simp -implicitDefEqProofs (disch := omega) [c125, List.getElem?_cons_zero, List.getElem?_cons_succ, wrap_id]
  refine loopW es.length (fun k s => s = ⟨[(9, .i k), (8, .i es.length), (7, .p (.sl (es.map edP))), (3, .i (endsL (es.take k)).length), (0, .yl 3), (1, .ptr 2 1 0 0)], endsH N es (.lp 26 t [15, 16] rc96_0a rc96_0c .ready) (endsL (es.take k)) []⟩)
    (((Wk_nilB 1 0 2 143 rfl rfl).trans (Wk_flat 1 (x := .agg [.os 4 0 0]) (y := .os 4 0 0) rfl rfl)).trans (wk_norm [0, 1, 2, 3, 4] [9, 8, 7, 3, 0, 1] rfl (by simp -implicitDefEqProofs [-AO.ren, norm, renH, ren_box, ren_fbx, ren_row, ren_tab, ren_dict, Abs.get, AV.ren, idx_at, idx_at0, hlp, show endsL [] = [] from rfl]))) rfl ?_
  rintro k s hk rfl
  have hL := endsL_take_len hg he k
  by_cases hlt : k < es.length
  · have hr := hg es[k] (List.getElem_mem hlt)
    obtain ⟨m, hm⟩ : ∃ m : Nat, es[k].m = m := ⟨es[k].m.toNat, by have := hr.m1; omega⟩
    have hm50 : m ≤ 50 := by have := hr.m50; omega
    simp -implicitDefEqProofs (disch := omega) [List.getElem?_cons_zero, List.getElem?_cons_succ, wrap_id, hlt, hm]
    refine loopS m (fun j s => s = ⟨[(15, .i j), (14, .i m), (5, .ptr 5 1 0 0), (9, .i k), (8, .i es.length), (7, .p (.sl (es.map edP))), (3, .i ((endsL (es.take k)).length + j : Nat)), (0, .yl 3), (1, .ptr 2 1 0 0)], endsH N es (.lp 26 t [15, 16] rc96_0a rc96_0c .ready) (endsL (es.take k) ++ List.replicate j (es[k].a, es[k].b)) [.box (.p (edP es[k]))]⟩)
      [0, 1, 2, 3, 4, 5] [15, 14, 5, 9, 8, 7, 3, 0, 1] rfl (by simp -implicitDefEqProofs [-AO.ren, norm, renH, ren_box, ren_fbx, ren_row, ren_tab, ren_dict, Abs.get, AV.ren, idx_at, idx_at0, hlp5, hm, endsH]) ?_
    rintro j s hj rfl
    by_cases hlj : j < m
    · have hL2 : (endsL (es.take k)).length + (j + 1) ≤ 1048576 := by omega
      simp -implicitDefEqProofs (disch := omega) [List.getElem?_cons_zero, List.getElem?_cons_succ, wrap_id, hlj]
      refine HY_of_W rfl rcc96_0a rcc96_0c rfl rfl rfl rfl ?_
      simp -implicitDefEqProofs (disch := omega) [List.getElem?_cons_zero, List.getElem?_cons_succ, wrap_id, ra96_0a, ra96_0c, ht, hL2, Nat.add_assoc]
      exact round_end [0, 1, 2, 3, 4, 5] [15, 14, 5, 9, 8, 7, 3, 0, 1] hlj rfl (by simp -implicitDefEqProofs [-AO.ren, norm, renH, ren_box, ren_fbx, ren_row, ren_tab, ren_dict, Abs.get, AV.ren, idx_at, idx_at0, hlp5, List.replicate_succ', endsH, Int.add_assoc])
    · have hjm : j = m := by omega
      subst hjm
      have hs := endsL_snoc es k hlt
      rw [hm, Int.toNat_natCast] at hs
      simp -implicitDefEqProofs (disch := omega) [List.getElem?_cons_zero, List.getElem?_cons_succ, wrap_id]
      exact round_end [0, 1, 2, 3, 4] [9, 8, 7, 3, 0, 1] hlt rfl (by simp -implicitDefEqProofs [-AO.ren, norm, renH, ren_box, ren_fbx, ren_row, ren_tab, ren_dict, Abs.get, AV.ren, idx_at, idx_at0, hlp, hs, endsH])
  · have hk : k = es.length := by omega
    subst hk
    rw [List.take_length]
    simp -implicitDefEqProofs (disch := omega) [List.getElem?_cons_zero, List.getElem?_cons_succ, wrap_id]
    exact finH trivial rfl (hK _)
theorem gends_ok (N : Int) (es : List Ed) (hel : es.length ≤ 1000) (hgc : gcheck N es = 0) : PC Try.prog 96 [G N es] (.tup [.p (.ps (endsL es)), .i 0]) [] := by
  have hg := gcheck_ok hgc
  refine PC_of_W cfn96 ?_
  simp -implicitDefEqProofs (disch := omega) [c96, List.getElem?_cons_zero, List.getElem?_cons_succ, wrap_id]
  refine HC_of_PC rfl (gcheck_ok' N es (by omega)) ?_
  simp -implicitDefEqProofs (disch := omega) [List.getElem?_cons_zero, List.getElem?_cons_succ, wrap_id, hgc]
  refine HC_of_PC rfl (singles_ok N es) ?_
  simp -implicitDefEqProofs (disch := omega) [List.getElem?_cons_zero, List.getElem?_cons_succ, wrap_id]
  refine ⟨by kernel_rfl, ends_range N es hg.right hel _ rfl rfl fun r => AfterR_ready rfl ?_⟩
  simp -implicitDefEqProofs (disch := omega) [List.getElem?_cons_zero, List.getElem?_cons_succ, wrap_id]
  (refine fin0 trivial rfl ?_; simp -implicitDefEqProofs (disch := omega) [List.getElem?_cons_zero, List.getElem?_cons_succ, idx, wrap_id])
end Go.Proofs.Ytamiekhoaggpkaa
end
section
set_option linter.unusedSimpArgs false
set_option linter.unusedVariables false
namespace Go.Proofs.Ytamiekhoaggpkaa
open Go.Abs Go.Sand
/-- How many single edges join two vertices. -/
def joinC (l : List (Int × Int)) (u w : Nat) : Int := if w = u then 0 else ((l.filter fun x => decide (x = ((u : Int), (w : Int)) ∨ x = ((w : Int), (u : Int)))).length : Int)
/-- A table, and a list, of n numbers. -/
def tabL (n : Nat) (f : Nat → Nat → Int) : List (List Int) := (List.range n).map fun u => (List.range n).map (f u)
def lisL (n : Nat) (f : Nat → Int) : List Int := (List.range n).map f
def tabR (n : Nat) (f : Nat → Nat → Int) : List AO := (tabL n f).map rowI
theorem tabR_len (n : Nat) (f : Nat → Nat → Int) : (tabR n f).length = n := by simp [tabR, tabL]
theorem tabR_get {n : Nat} {f : Nat → Nat → Int} {a : Nat} (ha : a < n) : (tabR n f)[a]? = some (rowI (lisL n (f a))) := by simp [tabR, tabL, lisL, ha]
end Go.Proofs.Ytamiekhoaggpkaa
end
section
set_option linter.unusedSimpArgs false
set_option linter.unusedVariables false
namespace Go.Proofs.Ytamiekhoaggpkaa
open Go.Abs Go.Sand
/-- The table's things: row a is object o + a. -/
def tabE (o n k : Nat) : List AV := (List.range k).map fun a => .os (a + o) 0 n
theorem tabE_len (o n k : Nat) : (tabE o n k).length = k := by simp [tabE]
theorem tabE_get {o n k a : Nat} (h : a < k) : (tabE o n k)[a]? = some (.os (a + o) 0 n) := by simp [tabE, h]
theorem tabE_succ (o n k : Nat) : tabE o n k ++ [.os (k + o) 0 n] = tabE o n (k + 1) := by simp [tabE, List.range_succ]
theorem tabE_lo (o n m : Nat) : ∀ k, k + o ≤ m → loL m (tabE o n k) = true := by
  intro k
  induction k with
  | zero => intro _; rfl
  | succ k ih =>
    intro h
    have h1 := ih (by omega)
    have app : ∀ (l l' : List AV), loL m l = true → loL m l' = true → loL m (l ++ l') = true := by
      intro l
      induction l with
      | nil => intro l' _ h; exact h
      | cons x l ih => intro l' h h'; simp only [loL, Bool.and_eq_true, List.cons_append] at h ⊢; exact ⟨h.1, ih l' h.2 h'⟩
    rw [← tabE_succ]
    exact app _ _ h1 (by simp [loL, loA]; omega)
/-- Own rows of a table, read. -/
theorem tab_rows {H : List AO} {ρ : Nat → Option Nat} {o o' n : Nat} {t : TypeId} {fz : Bool} {L : List (List Int)} (ho : H[o]? = some (.tab (tabE o' n n) t fz)) (hρ : ρ o = none) (hL : L.length = n) (hR : ∀ a (h : a < n), L[a].length = n ∧ ρ (a + o') = none ∧ H[a + o']? = some (rowI L[a])) :
    AV.ren H ρ (.os o 0 n) = .p (.iss L) := by
  rw [AV.ren]
  simp only [hρ, ho, tabE_len, Nat.zero_add, if_true, List.drop_zero]
  have e : (tabE o' n n).map (ren0 H ρ) = (L.map PV.is).map AV.p := by
    refine List.ext_getElem? fun a => ?_
    by_cases h : a < n
    · obtain ⟨h1, h2, h3⟩ := hR a h
      rw [List.getElem?_map, tabE_get h]
      simp [ren0, h2, h3, h1, h, hL]
    · rw [List.getElem?_eq_none (by simp [tabE_len]; omega), List.getElem?_eq_none (by simp [hL]; omega)]
  rw [e, allOne_ps _ (fun x hx => by obtain ⟨y, _, rfl⟩ := List.mem_map.1 hx; rfl)]
end Go.Proofs.Ytamiekhoaggpkaa
end
