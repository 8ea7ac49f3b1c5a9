/-
  Contracts: the sets of a script, in package firing.
-/
import Derived.Test.YtjkmhjjfipnbbaaMrc
import Derived.Test.YtjkmhjjfipnbbaaMae
set_option linter.unusedSimpArgs false
namespace Go.Proofs.Ytjkmhjjfipnbbaa
open Go.Abs Go.Sand

theorem min_ok (s : List Int) (hs : 0 < s.length) (hx : s.length ≤ 4611686018427387904) : PC Try.prog 65 [.is s] (.i (minT s s.length)) [] := by
  refine PC_of_W cfn65 ?_
  have hs1 : ¬ (s.length : Int) < 1 := by omega
  have hT1 : minT s 1 = s[0] := by rw [minT, minT, getD_get hs]; simp
  simp -implicitDefEqProofs (disch := omega) [c65, List.getElem?_cons_zero, List.getElem?_cons_succ, wrap_id, hs, hs1]
  refine loopW (s.length - 1) (fun k st => st = ⟨[(4, .i (k + 1 : Nat)), (3, .i (minT s (k + 1))), (0, .p (.is s))], []⟩) (wk_norm [] [4, 3, 0] rfl rfl) (by rw [hT1]; rfl) ?_
  rintro k st hk rfl
  by_cases hlt : k + 1 < s.length
  · have hT : minT s (k + 1 + 1) = min (minT s (k + 1)) s[k + 1] := by rw [minT, getD_get hlt]
    have hlt' : (k : Int) + 1 < s.length := by omega
    simp -implicitDefEqProofs (disch := omega) [List.getElem?_cons_zero, List.getElem?_cons_succ, wrap_id, hlt, hlt']
    exact round_end [] [4, 3, 0] (show k + 1 ≤ s.length - 1 by omega) rfl (by rw [hT]; rfl)
  · have hk : k + 1 = s.length := by omega
    simp -implicitDefEqProofs (disch := omega) [List.getElem?_cons_zero, List.getElem?_cons_succ, wrap_id, hlt, hk]
    (refine fin0 trivial rfl ?_; simp -implicitDefEqProofs (disch := omega) [List.getElem?_cons_zero, List.getElem?_cons_succ, idx, wrap_id, hk])
theorem max_ok (s : List Int) (hs : 0 < s.length) (hx : s.length ≤ 4611686018427387904) : PC Try.prog 66 [.is s] (.i (maxT s s.length)) [] := by
  refine PC_of_W cfn66 ?_
  have hs1 : ¬ (s.length : Int) < 1 := by omega
  have hT1 : maxT s 1 = s[0] := by rw [maxT, maxT, getD_get hs]; simp
  simp -implicitDefEqProofs (disch := omega) [c66, List.getElem?_cons_zero, List.getElem?_cons_succ, wrap_id, hs, hs1]
  refine loopW (s.length - 1) (fun k st => st = ⟨[(4, .i (k + 1 : Nat)), (3, .i (maxT s (k + 1))), (0, .p (.is s))], []⟩) (wk_norm [] [4, 3, 0] rfl rfl) (by rw [hT1]; rfl) ?_
  rintro k st hk rfl
  by_cases hlt : k + 1 < s.length
  · have hT : maxT s (k + 1 + 1) = max (maxT s (k + 1)) s[k + 1] := by rw [maxT, getD_get hlt]
    have hlt' : (k : Int) + 1 < s.length := by omega
    simp -implicitDefEqProofs (disch := omega) [List.getElem?_cons_zero, List.getElem?_cons_succ, wrap_id, hlt, hlt']
    exact round_end [] [4, 3, 0] (show k + 1 ≤ s.length - 1 by omega) rfl (by rw [hT]; rfl)
  · have hk : k + 1 = s.length := by omega
    simp -implicitDefEqProofs (disch := omega) [List.getElem?_cons_zero, List.getElem?_cons_succ, wrap_id, hlt, hk]
    (refine fin0 trivial rfl ?_; simp -implicitDefEqProofs (disch := omega) [List.getElem?_cons_zero, List.getElem?_cons_succ, idx, wrap_id, hk])
def upTo (s : List Int) (c : Int) (k : Nat) : List Int := ((List.range k).filter fun v => decide (c < s.getD v 0)).map fun v : Nat => (v : Int)
theorem upTo_snoc (s : List Int) (c : Int) (k : Nat) (h : k < s.length) : upTo s c (k + 1) = upTo s c k ++ if c < s[k] then [(k : Int)] else [] := by
  unfold upTo
  rw [List.range_succ, List.filter_append, List.map_append]
  simp only [List.filter_cons, List.filter_nil, getD_get h, decide_eq_true_eq]
  split <;> simp
theorem upTo_len (s : List Int) (c : Int) (k : Nat) : (upTo s c k).length ≤ k := by
  unfold upTo
  rw [List.length_map]
  exact Nat.le_trans (List.length_filter_le _ _) (by simp)
def hiT (s : List Int) : Int := maxT s s.length
def loT (s : List Int) : Int := minT s s.length
def setsL (s : List Int) : List (List Int) := (List.range (hiT s - loT s).toNat).map fun i : Nat => upTo s (hiT s - (i + 1)) s.length
def setsE (N : Int) (es : List Ed) (s : List Int) : Int := if givenE N es s ≠ 0 then givenE N es s else if 256 < hiT s - loT s then 12 else 0
def setsR (N : Int) (es : List Ed) (s : List Int) : List (List Int) := if setsE N es s = 0 then setsL s else []
theorem minT_bd {B : Int} {s : List Int} (h : Bd B s) : ∀ k, -B ≤ minT s k ∧ minT s k ≤ B
  | 0 => h 0
  | k + 1 => by have := minT_bd h k; have := h k; rw [minT]; omega
theorem maxT_bd {B : Int} {s : List Int} (h : Bd B s) : ∀ k, -B ≤ maxT s k ∧ maxT s k ≤ B
  | 0 => h 0
  | k + 1 => by have := maxT_bd h k; have := h k; rw [maxT]; omega
abbrev _root_.Go.Abs.PV.iss (l : List (List Int)) : PV := .sl (l.map PV.is)
def lsP (s : List Int) (k : Nat) : List PV := (List.range k).map fun i : Nat => .is (upTo s (hiT s - (i + 1)) s.length)
theorem lsP_p (s : List Int) (k : Nat) : ∀ x ∈ (lsP s k).map AV.p, ∃ q, x = .p q := fun x hx => by
  obtain ⟨q, _, rfl⟩ := List.mem_map.1 hx
  exact ⟨q, rfl⟩
theorem lsP_succ (s : List Int) (k : Nat) : lsP s (k + 1) = lsP s k ++ [.is (upTo s (hiT s - (k + 1)) s.length)] := by simp [lsP, List.range_succ]
theorem lsP_len (s : List Int) (k : Nat) : (lsP s k).length = k := by simp [lsP]
theorem lsP_one (s : List Int) (k : Nat) : ∀ e ∈ lsP s k, e.one = true := fun e he => by
  obtain ⟨i, _, rfl⟩ := List.mem_map.1 he
  rfl
theorem norm_tab1 {els : List AV} {t : TypeId} {fz : Bool} {Hr : List AO} {keep : List Nat} {T : List (Nat × AV)} (h : ∀ x ∈ els, ∃ q, x = .p q) : norm [0] keep ⟨T, .tab els t fz :: Hr⟩ = ⟨keep.map fun i => (i, (Abs.get T i).ren (.tab els t fz :: Hr) (Abs.idx [0] 0)), [.tab els t fz]⟩ := by
  simp [norm, AO.ren, renL_ps h]
theorem norm_tab2 {els : List AV} {t u : TypeId} {fz gz : Bool} {l : List PV} {sz : Nat} {Hr : List AO} {keep : List Nat} {T : List (Nat × AV)} (h : ∀ x ∈ els, ∃ q, x = .p q) : norm [0, 1] keep ⟨T, .tab els t fz :: .row l sz u gz :: Hr⟩ = ⟨keep.map fun i => (i, (Abs.get T i).ren (.tab els t fz :: .row l sz u gz :: Hr) (Abs.idx [0, 1] 0)), [.tab els t fz, .row l sz u gz]⟩ := by
  simp [norm, AO.ren, renL_ps h]
theorem renL_app {H : List AO} {ρ : Nat → Option Nat} : ∀ {a b : List AV}, renL H ρ (a ++ b) = renL H ρ a ++ renL H ρ b
  | [], _ => rfl
  | x :: a, b => by rw [List.cons_append, renL, renL_app, renL]; rfl
theorem norm_push {els : List AV} {t u : TypeId} {fz gz : Bool} {l : List PV} {sz n : Nat} {Hr : List AO} {keep : List Nat} {T : List (Nat × AV)} (h : ∀ x ∈ els, ∃ q, x = .p q) (hn : n = l.length) : norm [0] keep ⟨T, .tab (els ++ [.os 1 0 n]) t fz :: .row l sz u gz :: Hr⟩ = ⟨keep.map fun i => (i, (Abs.get T i).ren (.tab (els ++ [.os 1 0 n]) t fz :: .row l sz u gz :: Hr) (Abs.idx [0] 0)), [.tab (els ++ [.p (.sl l)]) t fz]⟩ := by
  subst hn
  simp [norm, AO.ren, renL_app, renL_ps h, renL, AV.ren, Abs.idx]
theorem sets_ok (N : Int) (es : List Ed) (s : List Int) (he : es.length ≤ 1000) (hs : s.length ≤ 4611686018427387904) :
    PC Try.prog 25 [G N es, .is s] (.tup [.p (.iss (setsR N es s)), .i (setsE N es s)]) [] := by
  refine PC_of_W cfn25 ?_
  simp -implicitDefEqProofs (disch := omega) [c25, List.getElem?_cons_zero, List.getElem?_cons_succ, wrap_id]
  refine HC_of_PC rfl (fcheck_ok N es s (by omega) hs) ?_
  by_cases h0 : givenE N es s = 0
  rotate_left
  · have h1 : setsE N es s = givenE N es s := by rw [setsE, if_pos h0]
    have h2 : setsR N es s = [] := by rw [setsR, if_neg (by rw [h1]; exact h0)]
    simp -implicitDefEqProofs (disch := omega) [List.getElem?_cons_zero, List.getElem?_cons_succ, wrap_id, h0]
    refine finW (Wk_nil0 4 rfl) ?_
    (refine fin0 trivial rfl ?_; simp -implicitDefEqProofs (disch := omega) [List.getElem?_cons_zero, List.getElem?_cons_succ, idx, wrap_id, h1, h2])
  obtain ⟨n, rfl, hg, hl, hb, hn1, hn⟩ := given_ok h0
  have hb1 := minT_bd hb s.length
  have hb2 := maxT_bd hb s.length
  simp -implicitDefEqProofs (disch := omega) [List.getElem?_cons_zero, List.getElem?_cons_succ, wrap_id, h0]
  refine HC_of_PC rfl (min_ok s (by omega) hs) ?_
  simp -implicitDefEqProofs (disch := omega) [List.getElem?_cons_zero, List.getElem?_cons_succ, wrap_id]
  refine HC_of_PC rfl (max_ok s (by omega) hs) ?_
  have e1 : maxT s s.length = hiT s := rfl
  have e2 : minT s s.length = loT s := rfl
  rw [e1] at hb2 ⊢
  rw [e2] at hb1 ⊢
  by_cases h3 : 256 < hiT s - loT s
  · have h1 : setsE n es s = 12 := by rw [setsE, if_neg (by simp [h0]), if_pos h3]
    have h2 : setsR n es s = [] := by rw [setsR, if_neg (by rw [h1]; simp)]
    simp -implicitDefEqProofs (disch := omega) [List.getElem?_cons_zero, List.getElem?_cons_succ, wrap_id, h3]
    refine finW (Wk_nil0 4 rfl) ?_
    (refine fin0 trivial rfl ?_; simp -implicitDefEqProofs (disch := omega) [List.getElem?_cons_zero, List.getElem?_cons_succ, idx, wrap_id, h1, h2])
  have h1 : setsE n es s = 0 := by rw [setsE, if_neg (by simp [h0]), if_neg h3]
  have h2 : setsR n es s = setsL s := by rw [setsR, if_pos h1]
  simp -implicitDefEqProofs (disch := omega) [List.getElem?_cons_zero, List.getElem?_cons_succ, wrap_id, h3]
  obtain ⟨D, hD⟩ : ∃ D, D = (hiT s - loT s).toNat := ⟨_, rfl⟩
  refine loopW D (fun k st => st = ⟨[(10, .i (k + 1 : Nat)), (9, .os 0 0 k), (8, .i (hiT s)), (7, .i (loT s)), (1, .p (.is s))], [.tab ((lsP s k).map AV.p) 25 false]⟩) ((Wk_nilT 9 25 rfl).trans (wk_norm [1] [10, 9, 8, 7, 1] rfl rfl)) rfl ?_
  rintro k st hk rfl
  by_cases hlt : k < D
  rotate_left
  · have hkD : k = D := by omega
    have hc : ¬ (k : Int) + 1 ≤ hiT s - loT s := by omega
    subst hkD
    simp -implicitDefEqProofs (disch := omega) [List.getElem?_cons_zero, List.getElem?_cons_succ, wrap_id, hc]
    refine fin0 (x := .tup [.os 0 0 k, .i 0]) trivial rfl ?_
    rw [AV.ren, renL, renL, renL, tab_read (lsP_one s k) (lsP_len s k).symm rfl, AV.ren, h1, h2, setsL, ← hD]
    simp [lsP]
  have hc : (k : Int) + 1 ≤ hiT s - loT s := by omega
  have hk2 : k ≤ 1048575 := by omega
  simp -implicitDefEqProofs (disch := omega) [List.getElem?_cons_zero, List.getElem?_cons_succ, wrap_id, hc]
  refine loopW s.length (fun j st => st = ⟨[(37, .i j), (36, .i s.length), (35, .p (.is s)), (11, .os 1 0 (upTo s (hiT s - (k + 1)) j).length), (10, .i (k + 1 : Nat)), (9, .os 0 0 k), (8, .i (hiT s)), (7, .i (loT s)), (1, .p (.is s))], [.tab ((lsP s k).map AV.p) 25 false, .row ((upTo s (hiT s - (k + 1)) j).map .i) 1 3 false]⟩) ((Wk_nil 11 1 3 rfl).trans (wk_norm [0, 1] [37, 36, 35, 11, 10, 9, 8, 7, 1] rfl ((norm_tab2 (lsP_p s k)).trans rfl))) rfl ?_
  rintro j st hj rfl
  have hul := upTo_len s (hiT s - (k + 1)) j
  have hul2 : (upTo s (hiT s - (k + 1)) j).length ≤ 1048575 := by omega
  by_cases hlj : j < s.length
  · have hsn := upTo_snoc s (hiT s - (k + 1)) j hlj
    by_cases h4 : hiT s - (k + 1) < s[j]
    · rw [if_pos h4] at hsn
      simp -implicitDefEqProofs (disch := omega) [List.getElem?_cons_zero, List.getElem?_cons_succ, wrap_id, hlj, h4, hul2]
      exact round_end [0, 1] [37, 36, 35, 11, 10, 9, 8, 7, 1] hlj rfl ((norm_tab2 (lsP_p s k)).trans (by rw [hsn, List.length_append, List.map_append]; rfl))
    · rw [if_neg h4, List.append_nil] at hsn
      simp -implicitDefEqProofs (disch := omega) [List.getElem?_cons_zero, List.getElem?_cons_succ, wrap_id, hlj, h4]
      exact round_end [0, 1] [37, 36, 35, 11, 10, 9, 8, 7, 1] hlj rfl ((norm_tab2 (lsP_p s k)).trans (by rw [hsn]; rfl))
  · have hjl : j = s.length := by omega
    subst hjl
    have hll := lsP_len s k
    simp -implicitDefEqProofs (disch := omega) [List.getElem?_cons_zero, List.getElem?_cons_succ, wrap_id, hk2, hll]
    refine round_end [0] [10, 9, 8, 7, 1] hlt rfl ((norm_push (lsP_p s k) (by simp)).trans ?_)
    rw [lsP_succ, List.map_append]
    rfl
theorem sameSets_ok (a b : List (List Int)) (hx : a.length ≤ 4611686018427387904) (hy : ∀ x ∈ a, x.length ≤ 4611686018427387904) : PC Try.prog 27 [.iss a, .iss b] (.b (decide (a = b))) [] := by
  refine PC_of_W cfn27 ?_
  by_cases hl : a.length = b.length
  rotate_left
  · have hne : a ≠ b := fun e => hl (by rw [e])
    have hl' : ¬ (a.length : Int) = b.length := by omega
    simp -implicitDefEqProofs (disch := omega) [c27, List.getElem?_cons_zero, List.getElem?_cons_succ, wrap_id, hl']
    (refine fin0 trivial rfl ?_; simp -implicitDefEqProofs (disch := omega) [List.getElem?_cons_zero, List.getElem?_cons_succ, idx, wrap_id, hne])
  simp -implicitDefEqProofs (disch := omega) [c27, List.getElem?_cons_zero, List.getElem?_cons_succ, wrap_id, hl]
  refine loopW a.length (fun k s => s = ⟨[(5, .i k), (0, .p (.iss a)), (1, .p (.iss b))], []⟩ ∧ a.take k = b.take k) (wk_norm [] [5, 0, 1] rfl rfl) ⟨rfl, rfl⟩ ?_
  rintro k s hk ⟨rfl, hI⟩
  by_cases hlt : k < a.length
  · have hlt' : k < b.length := by omega
    simp -implicitDefEqProofs (disch := omega) [List.getElem?_cons_zero, List.getElem?_cons_succ, wrap_id, hlt, hlt']
    refine HC_of_PC rfl (sameInts_ok a[k] b[k] (hy _ (List.getElem_mem hlt))) ?_
    by_cases h1 : a[k] = b[k]
    · simp -implicitDefEqProofs (disch := omega) [List.getElem?_cons_zero, List.getElem?_cons_succ, wrap_id, h1]
      exact round_end [] [5, 0, 1] hlt rfl ⟨rfl, by rw [List.take_succ_eq_append_getElem hlt, List.take_succ_eq_append_getElem hlt', hI, h1]⟩
    · have hne : a ≠ b := fun e => h1 (by subst e; rfl)
      simp -implicitDefEqProofs (disch := omega) [List.getElem?_cons_zero, List.getElem?_cons_succ, wrap_id, h1]
      (refine fin0 trivial rfl ?_; simp -implicitDefEqProofs (disch := omega) [List.getElem?_cons_zero, List.getElem?_cons_succ, idx, wrap_id, hne])
  · have heq : a = b := by rwa [List.take_of_length_le (by omega), List.take_of_length_le (by omega)] at hI
    simp -implicitDefEqProofs (disch := omega) [List.getElem?_cons_zero, List.getElem?_cons_succ, wrap_id, hlt]
    (refine fin0 trivial rfl ?_; simp -implicitDefEqProofs (disch := omega) [List.getElem?_cons_zero, List.getElem?_cons_succ, idx, wrap_id, heq])
end Go.Proofs.Ytjkmhjjfipnbbaa
