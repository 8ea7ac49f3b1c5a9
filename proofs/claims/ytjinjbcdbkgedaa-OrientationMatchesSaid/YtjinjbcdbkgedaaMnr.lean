/-
  Contracts: powers, numbers and members in the reference; errors of Equivalent.
-/
import Derived.Test.YtjinjbcdbkgedaaMnk
import Derived.Test.YtjinjbcdbkgedaaNy
import Derived.Test.YtjinjbcdbkgedaaNla
set_option linter.unusedSimpArgs false
set_option linter.unusedVariables false
namespace Go.Sand
theorem pw_succ (k : Nat) : Go.Abs.powN (k + 1) = 2 * Go.Abs.powN k := by unfold Go.Abs.powN; rw [Nat.pow_succ]; omega
theorem codeB_lt (l : List Bool) : codeB l < 2 ^ l.length := (num_code l.length l rfl).2
def memP (d i : Nat) : Bool := decide (dv2 d i % 2 = 1)
/-- The members of a set that is given as a number. -/
def memK (n d : Nat) : List Int := selK (memP d) n
end Go.Sand
namespace Go.Proofs.Ytjinjbcdbkgedaa
open Go.Abs Go.Sand

theorem power_ok (n : Nat) (hn : n ≤ 60) : PC Try.prog 92 [.i n] (.i (powN n : Nat)) [] := by
  refine PC_of_W cfn92 ?_
  simp -implicitDefEqProofs (disch := omega) [c92, List.getElem?_cons_zero, List.getElem?_cons_succ, wrap_id]
  refine loopW n (fun k s => s = ⟨[(4, .i k), (3, .i (powN k : Nat)), (0, .i n)], []⟩) (wk_norm [] [4, 3, 0] rfl rfl) rfl ?_
  rintro k s hk rfl
  have hp := pw_succ k
  have hb : powN k ≤ 1152921504606846976 := by
    have : powN k ≤ 2 ^ 60 := Nat.pow_le_pow_right (by omega) (by omega)
    omega
  by_cases hlt : k < n
  · obtain ⟨x, hx⟩ : ∃ x, x = powN k := ⟨_, rfl⟩
    rw [← hx] at hp hb ⊢
    simp -implicitDefEqProofs (disch := omega) [List.getElem?_cons_zero, List.getElem?_cons_succ, wrap_id, hlt]
    exact round_end [] [4, 3, 0] hlt rfl (by rw [hp]; rfl)
  · have hke : k = n := by omega
    subst hke
    simp -implicitDefEqProofs (disch := omega) [List.getElem?_cons_zero, List.getElem?_cons_succ, wrap_id]
    (refine fin0 trivial rfl ?_; simp -implicitDefEqProofs (disch := omega) [List.getElem?_cons_zero, List.getElem?_cons_succ, idx, wrap_id])
theorem code_ok (o : List Bool) (ho : o.length ≤ 60) : PC Try.prog 64 [.bo o] (.i (codeB o : Nat)) [] := by
  refine PC_of_W cfn64 ?_
  simp -implicitDefEqProofs (disch := omega) [c64, List.getElem?_cons_zero, List.getElem?_cons_succ, wrap_id]
  refine loopW o.length (fun k s => s = ⟨[(4, .i k), (3, .i (codeB (o.take k) : Nat)), (0, .p (.bo o))], []⟩) (wk_norm [] [4, 3, 0] rfl rfl) rfl ?_
  rintro k s hk rfl
  by_cases hlt : k < o.length
  · have hs : codeB (o.take (k + 1)) = 2 * codeB (o.take k) + if o[k] then 1 else 0 := by rw [List.take_succ_eq_append_getElem hlt, codeB_snoc]
    have hb : codeB (o.take k) ≤ 1152921504606846976 := by
      have h1 := codeB_lt (o.take k)
      have h2 : 2 ^ (o.take k).length ≤ 2 ^ 60 := Nat.pow_le_pow_right (by omega) (by rw [List.length_take]; omega)
      omega
    obtain ⟨x, hx⟩ : ∃ x, x = codeB (o.take k) := ⟨_, rfl⟩
    rw [← hx] at hs hb ⊢
    cases hok : o[k]
    · rw [hok] at hs
      simp -implicitDefEqProofs (disch := omega) [List.getElem?_cons_zero, List.getElem?_cons_succ, wrap_id, hlt, hok]
      exact round_end [] [4, 3, 0] hlt rfl (by rw [hs]; rfl)
    · rw [hok] at hs
      simp -implicitDefEqProofs (disch := omega) [List.getElem?_cons_zero, List.getElem?_cons_succ, wrap_id, hlt, hok]
      exact round_end [] [4, 3, 0] hlt rfl (by rw [hs]; rfl)
  · have hke : k = o.length := by omega
    subst hke
    rw [List.take_length]
    simp -implicitDefEqProofs (disch := omega) [List.getElem?_cons_zero, List.getElem?_cons_succ, wrap_id]
    (refine fin0 trivial rfl ?_; simp -implicitDefEqProofs (disch := omega) [List.getElem?_cons_zero, List.getElem?_cons_succ, idx, wrap_id])
theorem members_ok (n d : Nat) (hn : n ≤ 1000) (hd : d ≤ 1000000000) : PC Try.prog 104 [.i n, .i d] (.p (.is (memK n d))) [] := by
  refine PC_of_W cfn104 ?_
  simp -implicitDefEqProofs (disch := omega) [c104, List.getElem?_cons_zero, List.getElem?_cons_succ, wrap_id]
  refine loopW n (fun k s => s = ⟨[(6, .i k), (5, .os 0 0 (selK (memP d) k).length), (0, .i n), (1, .i (dv2 d k))], [rowZ (selK (memP d) k)]⟩) ((Wk_nil 5 1 3 rfl).trans (wk_norm [0] [6, 5, 0, 1] rfl rfl)) (by rw [dv2_zero]; rfl) ?_
  rintro k s hk rfl
  have hsl := selK_len (memP d) k
  have hss := selK_succ (memP d) k
  have hdd := dv2_succ d k
  have hsm : dv2 d k ≤ 1000000000 := Nat.le_trans (dv2_le d k) hd
  by_cases hlt : k < n
  · have hmp : memP d k = decide (dv2 d k % 2 = 1) := rfl
    obtain ⟨x, hx⟩ : ∃ x, x = dv2 d k := ⟨_, rfl⟩
    rw [← hx] at hdd hsm hmp ⊢
    obtain ⟨y, hy⟩ : ∃ y, y = x % 2 := ⟨_, rfl⟩
    obtain ⟨z, hz⟩ : ∃ z, z = x / 2 := ⟨_, rfl⟩
    have hm1 : (x : Int).tmod 2 = (y : Int) := by rw [hy]; rfl
    have hd1 : (x : Int).tdiv 2 = (z : Int) := by rw [hz]; rfl
    rw [← hz] at hdd
    rw [← hy] at hmp
    have hz1 : (z : Int) ≤ 9223372036854775807 := by omega
    rw [hmp] at hss
    obtain ⟨S, hS⟩ : ∃ S, S = selK (memP d) k := ⟨_, rfl⟩
    rw [← hS] at hss hsl ⊢
    have hS1 : S.length + 1 ≤ 1048576 := by omega
    by_cases h1 : y = 1
    · have h1' : (y : Int) = 1 := by omega
      rw [decide_eq_true h1, if_pos rfl] at hss
      simp -implicitDefEqProofs (disch := omega) [List.getElem?_cons_zero, List.getElem?_cons_succ, wrap_id, hlt, hm1, hd1, h1, hS1]
      exact round_end [0] [6, 5, 0, 1] hlt rfl (by simp only [hss, hdd, List.length_append, rowZ, List.map_append]; rfl)
    · have h1' : ¬ (y : Int) = 1 := by omega
      rw [decide_eq_false h1, if_neg (by simp), List.append_nil] at hss
      simp -implicitDefEqProofs (disch := omega) [List.getElem?_cons_zero, List.getElem?_cons_succ, wrap_id, hlt, hm1, hd1, h1']
      exact round_end [0] [6, 5, 0, 1] hlt rfl (by rw [hss, hdd]; rfl)
  · have hke : k = n := by omega
    subst hke
    simp -implicitDefEqProofs (disch := omega) [List.getElem?_cons_zero, List.getElem?_cons_succ, wrap_id]
    exact fin0 trivial rfl (by simp [memK, AV.ren, Abs.idx])
end Go.Proofs.Ytjinjbcdbkgedaa
/-
  Contracts: errors of Equivalent, in the program and in the reference.
-/
set_option linter.unusedSimpArgs false
set_option linter.unusedVariables false
namespace Go.Sand
def eqvE (N : Int) (es : List Ed) (a b : List Bool) : Int := if oE N es a ≠ 0 then oE N es a else if oE N es b ≠ 0 then oE N es b else if 12 < a.length then 12 else 0
def eqvI (N : Int) (es : List Ed) (a b : List Bool) (k : Nat) : Prop := (1 ≤ k → oE N es a = 0) ∧ (2 ≤ k → oE N es b = 0)
end Go.Sand
namespace Go.Proofs.Ytjinjbcdbkgedaa
open Go.Abs Go.Sand

theorem aequiv_err (N : Int) (es : List Ed) (a b : List Bool) (hel : es.length ≤ 1000) (hla : a.length ≤ 100) (hlb : b.length ≤ 100) (h : eqvE N es a b ≠ 0) :
    PC Try.prog 14 [G N es, .bo a, .bo b] (.tup [.b false, .i (eqvE N es a b)]) [] := by
  refine PC_of_W cfn14 ?_
  simp -implicitDefEqProofs (disch := omega) [c14, List.getElem?_cons_zero, List.getElem?_cons_succ, wrap_id]
  refine loopW 2 (fun k s => s = ⟨[(32, .i k), (31, .i 2), (30, .p (.bos [a, b])), (3, .ptr 0 1 0 0), (1, .p (.bo a)), (2, .p (.bo b))], [.box (.p (G N es))]⟩ ∧ eqvI N es a b k) (wk_norm [0] [32, 31, 30, 3, 1, 2] rfl rfl) ⟨rfl, ⟨fun h => by omega, fun h => by omega⟩⟩ ?_
  rintro k s hk ⟨rfl, ⟨i1, i2⟩⟩
  by_cases hlt : k < 2
  · rcases (by omega : k = 0 ∨ k = 1) with rfl | rfl
    · simp -implicitDefEqProofs (disch := omega) [List.getElem?_cons_zero, List.getElem?_cons_succ, wrap_id]
      refine HC_of_PC rfl (ocheck_ok N es a hel (by omega)) ?_
      by_cases ha : oE N es a = 0
      · simp -implicitDefEqProofs (disch := omega) [List.getElem?_cons_zero, List.getElem?_cons_succ, wrap_id, ha]
        exact round_end [0] [32, 31, 30, 3, 1, 2] hlt rfl ⟨rfl, ⟨fun _ => ha, fun h => by omega⟩⟩
      · simp -implicitDefEqProofs (disch := omega) [List.getElem?_cons_zero, List.getElem?_cons_succ, wrap_id, ha]
        (refine fin0 trivial rfl ?_; simp -implicitDefEqProofs (disch := omega) [List.getElem?_cons_zero, List.getElem?_cons_succ, idx, wrap_id, eqvE, ha])
    · have ha := i1 (by omega)
      simp -implicitDefEqProofs (disch := omega) [List.getElem?_cons_zero, List.getElem?_cons_succ, wrap_id]
      refine HC_of_PC rfl (ocheck_ok N es b hel (by omega)) ?_
      by_cases hb : oE N es b = 0
      · simp -implicitDefEqProofs (disch := omega) [List.getElem?_cons_zero, List.getElem?_cons_succ, wrap_id, hb]
        exact round_end [0] [32, 31, 30, 3, 1, 2] hlt rfl ⟨rfl, ⟨fun _ => ha, fun _ => hb⟩⟩
      · simp -implicitDefEqProofs (disch := omega) [List.getElem?_cons_zero, List.getElem?_cons_succ, wrap_id, hb]
        (refine fin0 trivial rfl ?_; simp -implicitDefEqProofs (disch := omega) [List.getElem?_cons_zero, List.getElem?_cons_succ, idx, wrap_id, eqvE, ha, hb])
  · have hk2 : k = 2 := by omega
    subst hk2
    have ha := i1 (by omega)
    have hb := i2 (by omega)
    have hl12 : (12 : Int) < a.length := by
      refine Classical.byContradiction fun hn => h ?_
      rw [eqvE, if_neg (by simp [ha]), if_neg (by simp [hb]), if_neg (by omega)]
    have hl12' : 12 < a.length := by omega
    simp -implicitDefEqProofs (disch := omega) [List.getElem?_cons_zero, List.getElem?_cons_succ, wrap_id, hl12]
    (refine fin0 trivial rfl ?_; simp -implicitDefEqProofs (disch := omega) [List.getElem?_cons_zero, List.getElem?_cons_succ, idx, wrap_id, eqvE, ha, hb, hl12'])
theorem requiv_err (N : Int) (es : List Ed) (a b : List Bool) (hel : es.length ≤ 1000) (hla : a.length ≤ 100) (hlb : b.length ≤ 100) (h : eqvE N es a b ≠ 0) :
    PC Try.prog 15 [G N es, .bo a, .bo b] (.tup [.b false, .i (eqvE N es a b)]) [] := by
  refine PC_of_W cfn15 ?_
  simp -implicitDefEqProofs (disch := omega) [c15, List.getElem?_cons_zero, List.getElem?_cons_succ, wrap_id]
  refine HC_of_PC rfl (rocheck_ok N es a hel (by omega)) ?_
  by_cases ha : oE N es a = 0
  rotate_left
  · simp -implicitDefEqProofs (disch := omega) [List.getElem?_cons_zero, List.getElem?_cons_succ, wrap_id, ha]
    (refine fin0 trivial rfl ?_; simp -implicitDefEqProofs (disch := omega) [List.getElem?_cons_zero, List.getElem?_cons_succ, idx, wrap_id, eqvE, ha])
  simp -implicitDefEqProofs (disch := omega) [List.getElem?_cons_zero, List.getElem?_cons_succ, wrap_id, ha]
  refine HC_of_PC rfl (rocheck_ok N es b hel (by omega)) ?_
  by_cases hb : oE N es b = 0
  rotate_left
  · simp -implicitDefEqProofs (disch := omega) [List.getElem?_cons_zero, List.getElem?_cons_succ, wrap_id, hb]
    (refine fin0 trivial rfl ?_; simp -implicitDefEqProofs (disch := omega) [List.getElem?_cons_zero, List.getElem?_cons_succ, idx, wrap_id, eqvE, ha, hb])
  have hl12 : (12 : Int) < a.length := by
    refine Classical.byContradiction fun hn => h ?_
    rw [eqvE, if_neg (by simp [ha]), if_neg (by simp [hb]), if_neg (by omega)]
  have hl12' : 12 < a.length := by omega
  simp -implicitDefEqProofs (disch := omega) [List.getElem?_cons_zero, List.getElem?_cons_succ, wrap_id, hb, hl12]
  (refine fin0 trivial rfl ?_; simp -implicitDefEqProofs (disch := omega) [List.getElem?_cons_zero, List.getElem?_cons_succ, idx, wrap_id, eqvE, ha, hb, hl12'])
end Go.Proofs.Ytjinjbcdbkgedaa
/-
  Contracts: directed cycles, in the reference.
-/
set_option linter.unusedSimpArgs false
set_option linter.unusedVariables false
namespace Go.Sand
/-- Head and tail of a single edge by its number. -/
def hdZ (al : List (Int × Int)) (x : Int) : Int := (al.getD x.toNat (0, 0)).2
def tlZ (al : List (Int × Int)) (x : Int) : Int := (al.getD x.toNat (0, 0)).1
def hdS (al : List (Int × Int)) (set : List Int) : List Int := set.map (hdZ al)
def tlS (al : List (Int × Int)) (set : List Int) : List Int := set.map (tlZ al)
theorem hdS_take (al : List (Int × Int)) (set : List Int) (k : Nat) : (hdS al set).take k = hdS al (set.take k) := by simp [hdS, List.map_take]
theorem hdS_len (al : List (Int × Int)) (set : List Int) : (hdS al set).length = set.length := by simp [hdS]
theorem tlS_len (al : List (Int × Int)) (set : List Int) : (tlS al set).length = set.length := by simp [tlS]
theorem hdS_at {al : List (Int × Int)} {set : List Int} {k : Nat} (h : k < (hdS al set).length) : (hdS al set)[k] = hdZ al (set[k]'(by rw [← hdS_len al]; exact h)) := by simp [hdS]
theorem tlS_at {al : List (Int × Int)} {set : List Int} {k : Nat} (h : k < (tlS al set).length) : (tlS al set)[k] = tlZ al (set[k]'(by rw [← tlS_len al]; exact h)) := by simp [tlS]
/-- Each vertex is left as often as it is entered, at most once. -/
def balV (n : Nat) (hs ts : List Int) (v : Nat) : Bool := decide ((degL n hs).getD v 0 = (degL n ts).getD v 0) && decide ((degL n hs).getD v 0 ≤ 1)
def balB (n : Nat) (hs ts : List Int) : Bool := (List.range n).all (balV n hs ts)
/-- The next vertex on the way. -/
def onV (al : List (Int × Int)) (v : Int) : List Int → Int
  | [] => v
  | x :: l => if tlZ al x = v then hdZ al x else onV al v l
def wlk (al : List (Int × Int)) (set : List Int) (v : Int) : Nat → Int
  | 0 => v
  | k + 1 => onV al (wlk al set v k) set
/-- The way comes back only at its end. -/
def wayB (al : List (Int × Int)) (set : List Int) (v t : Int) : Bool := (List.range (set.length - 1)).all fun k => decide (wlk al set v k ≠ t)
def circB (n : Nat) (al : List (Int × Int)) (set : List Int) : Bool := balB n (hdS al set) (tlS al set) && wayB al set (hdZ al (set.getD 0 0)) (tlZ al (set.getD 0 0))
def walkI (al : List (Int × Int)) (set : List Int) (v t : Int) (k : Nat) : Prop := k < set.length ∧ ∀ j, j < k → wlk al set v j ≠ t
theorem onV_drop {al : List (Int × Int)} {v : Int} {set : List Int} {k : Nat} (h : k < set.length) : onV al v (set.drop k) = if tlZ al set[k] = v then hdZ al set[k] else onV al v (set.drop (k + 1)) := by
  rw [List.drop_eq_getElem_cons h, onV]
end Go.Sand
namespace Go.Proofs.Ytjinjbcdbkgedaa
open Go.Abs Go.Sand

section
variable {n : Nat} {es : List Ed} {o : List Bool} {set : List Int}
theorem hdZ_at (hol : o.length = (endsL es).length) {i : Nat} (hi : i < (endsL es).length) : hdZ (arwsL es o) i = (arw (endsL es)[i] (o[i]'(by omega))).2 ∧ tlZ (arwsL es o) i = (arw (endsL es)[i] (o[i]'(by omega))).1 := by
  have hl := arwsL_len hol
  unfold hdZ tlZ
  rw [Int.toNat_natCast, List.getD_eq_getElem?_getD, List.getElem?_eq_getElem (by omega), Option.getD_some, arwsL_at hol i hi]
  exact ⟨rfl, rfl⟩
/-- What is read at a member of a set. -/
theorem set_at (hgr : ∀ x ∈ es, Right (n : Int) x) (hol : o.length = (endsL es).length) (hsr : ∀ x ∈ set, 0 ≤ x ∧ x < (endsL es).length) {k : Nat} (hk : k < set.length) :
    ∃ i : Nat, set[k] = i ∧ ∃ hi : i < (endsL es).length, ∃ u v : Nat, hdZ (arwsL es o) (set[k]) = u ∧ tlZ (arwsL es o) (set[k]) = v ∧ u < n ∧ v < n ∧
      PC Try.prog 97 [pP (endsL es)[i], .b (o[i]'(by omega))] (.i u) [] ∧ PC Try.prog 98 [pP (endsL es)[i], .b (o[i]'(by omega))] (.i v) [] := by
  have h1 := hsr _ (List.getElem_mem hk)
  have hi : set[k].toNat < (endsL es).length := by omega
  have hio : set[k].toNat < o.length := by omega
  have hx : set[k] = (set[k].toNat : Nat) := by omega
  obtain ⟨e1, e2⟩ := hdZ_at hol hi
  rw [← hx] at e1 e2
  have hm := List.getElem_mem (l := arwsL es o) (n := set[k].toNat) (by rw [arwsL_len hol]; exact hi)
  rw [arwsL_at hol _ hi] at hm
  have hr := arw_mem hgr _ hm
  have c1 := head_ok (endsL es)[set[k].toNat] o[set[k].toNat]
  have c2 := tail_ok (endsL es)[set[k].toNat] o[set[k].toNat]
  refine ⟨set[k].toNat, hx, hi, (arw (endsL es)[set[k].toNat] o[set[k].toNat]).2.toNat, (arw (endsL es)[set[k].toNat] o[set[k].toNat]).1.toNat, by rw [e1]; omega, by rw [e2]; omega, by omega, by omega, ?_, ?_⟩
  · rw [Int.toNat_of_nonneg hr.2.1]; exact c1
  · rw [Int.toNat_of_nonneg hr.1.1]; exact c2
end
theorem bump_row1 {L : List Int} {u : Nat} (hu : u < L.length) : (L.map PV.i).set u (PV.v (Value.int .i64 (L[u] + 1))) = (bumpL 1 L u).map PV.i := by
  unfold bumpL
  rw [Int.toNat_natCast, getD_get hu, List.map_set]
theorem deg_bd {n : Nat} {vs : List Int} (h : ∀ u ∈ vs, 0 ≤ u) {q : Nat} (hq : q < (degL n vs).length) : 0 ≤ (degL n vs)[q] ∧ (degL n vs)[q] ≤ vs.length := by
  have hqn : q < n := by rw [degL_len] at hq; exact hq
  have := degL_get h q hqn
  rw [getD_get hq] at this
  rw [this]
  have hc := List.count_le_length (a := (q : Int)) (l := vs)
  omega
theorem circles_ok (n : Nat) (es : List Ed) (o : List Bool) (set : List Int) (hg : gcheck n es = 0) (hel : es.length ≤ 1000) (hol : o.length = (endsL es).length) (hs0 : set ≠ []) (hsl : set.length ≤ 1000) (hsr : ∀ x ∈ set, 0 ≤ x ∧ x < (endsL es).length) :
    PC Try.prog 105 [G n es, .bo o, .is set] (.b (circB n (arwsL es o) set)) [] := by
  have hgood := gcheck_ok hg
  have hn := hgood.n12
  have hn2 : n ≤ 1048576 := by omega
  have e0 : List.replicate n (PV.v (Value.int .i64 0)) = (degL n []).map PV.i := by simp [degL]
  obtain ⟨al, hal⟩ : ∃ al, al = arwsL es o := ⟨_, rfl⟩
  rw [← hal]
  have hnn : ∀ k, ∀ u ∈ (hdS al set).take k, 0 ≤ u := fun k u hu => by
    obtain ⟨j, hj, rfl⟩ := List.mem_iff_getElem.1 (List.mem_of_mem_take hu)
    obtain ⟨_, _, _, u', v', h1, _⟩ := set_at hgood.right hol hsr (show j < set.length by rw [hdS_len] at hj; exact hj)
    rw [hdS_at hj]; rw [← hal] at h1; rw [h1]; omega
  have hnt : ∀ k, ∀ u ∈ (tlS al set).take k, 0 ≤ u := fun k u hu => by
    obtain ⟨j, hj, rfl⟩ := List.mem_iff_getElem.1 (List.mem_of_mem_take hu)
    obtain ⟨_, _, _, u', v', _, h1, _⟩ := set_at hgood.right hol hsr (show j < set.length by rw [tlS_len] at hj; exact hj)
    rw [tlS_at hj]; rw [← hal] at h1; rw [h1]; omega
  refine PC_of_W cfn105 ?_
  simp -implicitDefEqProofs (disch := omega) [c105, List.getElem?_cons_zero, List.getElem?_cons_succ, wrap_id]
  refine HC_of_PC rfl (ends_ok n es hgood.right hel) ?_
  simp -implicitDefEqProofs (disch := omega) [List.getElem?_cons_zero, List.getElem?_cons_succ, wrap_id]
  refine tree_join (s0 := ⟨[(8, .os 1 0 n), (9, .os 2 0 n), (7, .p (.ps (endsL es))), (1, .p (.bo o)), (2, .p (.is set)), (3, .ptr 0 1 0 0)], [.box (.p (G n es)), rowZ (degL n []), rowZ (degL n [])]⟩) ?_ ?_
  rotate_left
  · simp -implicitDefEqProofs (disch := omega) [List.getElem?_cons_zero, List.getElem?_cons_succ, wrap_id, hn2, e0]
    exact ⟨wk_norm [0, 1, 2] [8, 9, 7, 1, 2, 3] rfl rfl, wk_norm [0, 2, 1] [8, 9, 7, 1, 2, 3] rfl rfl⟩
  simp -implicitDefEqProofs (disch := omega) [List.getElem?_cons_zero, List.getElem?_cons_succ, wrap_id]
  refine loopW set.length (fun k s => s = ⟨[(10, .i k), (8, .os 1 0 n), (9, .os 2 0 n), (7, .p (.ps (endsL es))), (1, .p (.bo o)), (2, .p (.is set)), (3, .ptr 0 1 0 0)], [.box (.p (G n es)), rowZ (degL n ((hdS al set).take k)), rowZ (degL n ((tlS al set).take k))]⟩) (Wk_keep [10, 8, 9, 7, 1, 2, 3]) rfl ?_
  rintro k s hk rfl
  by_cases hlt : k < set.length
  · obtain ⟨i, hx, hi, u, v, hu, hv, hun, hvn, c1, c2⟩ := set_at hgood.right hol hsr hlt
    rw [← hal] at hu hv
    have hD := degL_take (n := n) (vs := hdS al set) (k := k) (by rw [hdS_len]; exact hlt)
    have hT := degL_take (n := n) (vs := tlS al set) (k := k) (by rw [tlS_len]; exact hlt)
    rw [hdS_at] at hD
    rw [tlS_at] at hT
    rw [hu] at hD
    rw [hv] at hT
    obtain ⟨A, hA⟩ : ∃ A, A = degL n ((hdS al set).take k) := ⟨_, rfl⟩
    obtain ⟨B, hB⟩ : ∃ B, B = degL n ((tlS al set).take k) := ⟨_, rfl⟩
    have hAl : A.length = n := by rw [hA, degL_len]
    have hBl : B.length = n := by rw [hB, degL_len]
    have huA : u < A.length := by omega
    have hvB : v < B.length := by omega
    have hbA : 0 ≤ A[u] ∧ A[u] ≤ 1000 := by
      have := deg_bd (n := n) (vs := (hdS al set).take k) (hnn _) (q := u) (by rw [← hA]; exact huA)
      subst hA
      have hl : ((hdS al set).take k).length ≤ 1000 := by rw [List.length_take, hdS_len]; omega
      omega
    have hbB : 0 ≤ B[v] ∧ B[v] ≤ 1000 := by
      have := deg_bd (n := n) (vs := (tlS al set).take k) (hnt _) (q := v) (by rw [← hB]; exact hvB)
      subst hB
      have hl : ((tlS al set).take k).length ≤ 1000 := by rw [List.length_take, tlS_len]; omega
      omega
    have hrA := bump_row1 huA
    have hrB := bump_row1 hvB
    rw [← hA] at hD ⊢
    rw [← hB] at hT ⊢
    obtain ⟨p, hp⟩ : ∃ p, p = (endsL es)[i] := ⟨_, rfl⟩
    obtain ⟨d, hd⟩ : ∃ d, d = o[i]'(by omega) := ⟨_, rfl⟩
    rw [← hp, ← hd] at c1 c2
    have hp' := hp.symm
    have hd' := hd.symm
    have hio : i < o.length := by omega
    have hi0 : ¬ (i : Int) < 0 := by omega
    have hu0 : ¬ (u : Int) < 0 := by omega
    have hv0 : ¬ (v : Int) < 0 := by omega
    obtain ⟨x, hxA⟩ : ∃ x, x = A[u] := ⟨_, rfl⟩
    obtain ⟨y, hyB⟩ : ∃ y, y = B[v] := ⟨_, rfl⟩
    rw [← hxA] at hbA hrA
    rw [← hyB] at hbB hrB
    have hxA' := hxA.symm
    have hyB' := hyB.symm
    simp -implicitDefEqProofs (disch := omega) [List.getElem?_cons_zero, List.getElem?_cons_succ, wrap_id, hlt, hx, hi, hio, hi0, hp', hd']
    refine HC_of_PC rfl (c1) ?_
    simp -implicitDefEqProofs (disch := omega) [List.getElem?_cons_zero, List.getElem?_cons_succ, wrap_id]
    refine HC_of_PC rfl (c2) ?_
    simp -implicitDefEqProofs (disch := omega) [List.getElem?_cons_zero, List.getElem?_cons_succ, wrap_id]
    refine tree_join (s0 := ⟨[(10, .i k), (8, .os 1 0 n), (9, .os 2 0 n), (7, .p (.ps (endsL es))), (1, .p (.bo o)), (2, .p (.is set)), (3, .ptr 0 1 0 0)], [.box (.p (G n es)), rowZ (bumpL 1 A u), rowZ (bumpL 1 B v)]⟩) ?_ ?_
    rotate_left
    · simp -implicitDefEqProofs (disch := omega) [List.getElem?_cons_zero, List.getElem?_cons_succ, wrap_id, hAl, hBl, huA, hvB, hun, hvn, hu0, hv0, hxA', hyB', hrA, hrB]
      repeat' (first | refine ⟨?_, ?_⟩ | exact Wk_keep [10, 8, 9, 7, 1, 2, 3])
    · simp -implicitDefEqProofs (disch := omega) [List.getElem?_cons_zero, List.getElem?_cons_succ, wrap_id]
      exact round_keep [10, 8, 9, 7, 1, 2, 3] hlt (by rw [hD, hT]; rfl)
  · have hke : k = set.length := by omega
    subst hke
    have hA0 : (hdS al set).take set.length = hdS al set := by rw [← hdS_len al, List.take_length]
    have hB0 : (tlS al set).take set.length = tlS al set := by rw [← tlS_len al, List.take_length]
    rw [hA0, hB0]
    obtain ⟨A, hA⟩ : ∃ A, A = degL n (hdS al set) := ⟨_, rfl⟩
    obtain ⟨B, hB⟩ : ∃ B, B = degL n (tlS al set) := ⟨_, rfl⟩
    have hAl : A.length = n := by rw [hA, degL_len]
    have hBl : B.length = n := by rw [hB, degL_len]
    rw [← hA, ← hB]
    simp -implicitDefEqProofs (disch := omega) [List.getElem?_cons_zero, List.getElem?_cons_succ, wrap_id]
    refine loopW n (fun k s => s = ⟨[(13, .i k), (8, .os 1 0 n), (9, .os 2 0 n), (7, .p (.ps (endsL es))), (1, .p (.bo o)), (2, .p (.is set)), (3, .ptr 0 1 0 0)], [.box (.p (G n es)), rowZ A, rowZ B]⟩ ∧ ∀ v, v < k → balV n (hdS al set) (tlS al set) v = true) (Wk_keep [13, 8, 9, 7, 1, 2, 3]) ⟨rfl, fun v hv => by omega⟩ ?_
    rintro k s hk ⟨rfl, hI⟩
    by_cases hlt : k < n
    · have hkA : k < A.length := by omega
      have hkB : k < B.length := by omega
      obtain ⟨x, hxA⟩ : ∃ x, x = A[k] := ⟨_, rfl⟩
      obtain ⟨y, hyB⟩ : ∃ y, y = B[k] := ⟨_, rfl⟩
      have hxA' := hxA.symm
      have hyB' := hyB.symm
      have hbv : balV n (hdS al set) (tlS al set) k = (decide (x = y) && decide (x ≤ 1)) := by
        unfold balV
        rw [← hA, ← hB, getD_get hkA, getD_get hkB, hxA', hyB']
      have hcf : ∀ (hh : balV n (hdS al set) (tlS al set) k = false), circB n al set = false := fun hh => by
        have : balB n (hdS al set) (tlS al set) = false := List.all_eq_false.2 ⟨k, List.mem_range.2 hlt, by rw [hh]; decide⟩
        unfold circB
        rw [this]; rfl
      by_cases h1 : x = y
      · by_cases h2 : 1 < x
        · have hc := hcf (by rw [hbv, decide_eq_false (show ¬ x ≤ 1 by omega), Bool.and_false])
          rw [h1] at hxA' h2
          simp -implicitDefEqProofs (disch := omega) [List.getElem?_cons_zero, List.getElem?_cons_succ, wrap_id, hlt, hAl, hBl, hkA, hkB, hxA', hyB', h2]
          (refine fin0 trivial rfl ?_; simp -implicitDefEqProofs (disch := omega) [List.getElem?_cons_zero, List.getElem?_cons_succ, idx, wrap_id, hc])
        · have hv : balV n (hdS al set) (tlS al set) k = true := by rw [hbv, decide_eq_true h1, decide_eq_true (show x ≤ 1 by omega)]; rfl
          rw [h1] at hxA' h2
          simp -implicitDefEqProofs (disch := omega) [List.getElem?_cons_zero, List.getElem?_cons_succ, wrap_id, hlt, hAl, hBl, hkA, hkB, hxA', hyB', h2]
          exact round_keep [13, 8, 9, 7, 1, 2, 3] hlt ⟨rfl, fun v hvk => by
            by_cases e : v = k
            · rw [e]; exact hv
            · exact hI v (by omega)⟩
      · have hc := hcf (by rw [hbv, decide_eq_false h1, Bool.false_and])
        simp -implicitDefEqProofs (disch := omega) [List.getElem?_cons_zero, List.getElem?_cons_succ, wrap_id, hlt, hAl, hBl, hkA, hkB, hxA', hyB', h1]
        (refine fin0 trivial rfl ?_; simp -implicitDefEqProofs (disch := omega) [List.getElem?_cons_zero, List.getElem?_cons_succ, idx, wrap_id, hc])
    have hbal : balB n (hdS al set) (tlS al set) = true := List.all_eq_true.2 fun v hv => hI v (by have := List.mem_range.1 hv; omega)
    have hlen : 0 < set.length := List.length_pos_iff.2 hs0
    obtain ⟨i, hx, hi, u, v, hu, hv, hun, hvn, c1, c2⟩ := set_at hgood.right hol hsr hlen
    rw [← hal] at hu hv
    have hcirc : circB n al set = wayB al set u v := by
      unfold circB
      rw [hbal, getD_get hlen, hu, hv]; rfl
    rw [hcirc]
    obtain ⟨p, hp⟩ : ∃ p, p = (endsL es)[i] := ⟨_, rfl⟩
    obtain ⟨d, hd⟩ : ∃ d, d = o[i]'(by omega) := ⟨_, rfl⟩
    rw [← hp, ← hd] at c1 c2
    have hp' := hp.symm
    have hd' := hd.symm
    have hio : i < o.length := by omega
    have hi0 : ¬ (i : Int) < 0 := by omega
    simp -implicitDefEqProofs (disch := omega) [List.getElem?_cons_zero, List.getElem?_cons_succ, wrap_id, hlt, hx, hlen, hi, hio, hi0, hp', hd']
    refine HC_of_PC rfl (c1) ?_
    simp -implicitDefEqProofs (disch := omega) [List.getElem?_cons_zero, List.getElem?_cons_succ, wrap_id]
    refine loopW set.length (fun k s => s = ⟨[(15, .i (k + 1 : Nat)), (14, .i (wlk al set u k)), (7, .p (.ps (endsL es))), (1, .p (.bo o)), (2, .p (.is set)), (3, .ptr 0 1 0 0)], [.box (.p (G n es)), rowZ A, rowZ B]⟩ ∧ walkI al set u v k) (Wk_keep [15, 14, 7, 1, 2, 3]) ⟨rfl, ⟨hlen, fun j hj => by omega⟩⟩ ?_
    rintro k s hk ⟨rfl, ⟨hkl, hJ⟩⟩
    obtain ⟨w, hw⟩ : ∃ w, w = wlk al set u k := ⟨_, rfl⟩
    rw [← hw]
    by_cases hk1 : k + 1 < set.length
    rotate_left
    · have hke : k + 1 = set.length := by omega
      have hkeI : (k : Int) + 1 = set.length := by omega
      have hk1I : ¬ (k : Int) + 1 < set.length := by omega
      have hwb : wayB al set u v = true := List.all_eq_true.2 fun j hj => decide_eq_true (hJ j (by have := List.mem_range.1 hj; omega))
      rw [hwb]
      simp -implicitDefEqProofs (disch := omega) [List.getElem?_cons_zero, List.getElem?_cons_succ, wrap_id, hk1I, hkeI]
      (refine fin0 trivial rfl ?_; simp -implicitDefEqProofs (disch := omega) [List.getElem?_cons_zero, List.getElem?_cons_succ, idx, wrap_id])
    have hk1I : (k : Int) + 1 < set.length := by omega
    have hkne : ¬ (k : Int) + 1 = set.length := by omega
    simp -implicitDefEqProofs (disch := omega) [List.getElem?_cons_zero, List.getElem?_cons_succ, wrap_id, hk1I, hx, hlen, hi, hio, hi0, hp', hd']
    refine HC_of_PC rfl (c2) ?_
    by_cases hwv : w = (v : Int)
    · have hwb : wayB al set u v = false := List.all_eq_false.2 ⟨k, List.mem_range.2 (by omega), by rw [← hw, hwv]; simp⟩
      rw [hwb]
      simp -implicitDefEqProofs (disch := omega) [List.getElem?_cons_zero, List.getElem?_cons_succ, wrap_id, hwv, hkne]
      (refine fin0 trivial rfl ?_; simp -implicitDefEqProofs (disch := omega) [List.getElem?_cons_zero, List.getElem?_cons_succ, idx, wrap_id])
    simp -implicitDefEqProofs (disch := omega) [List.getElem?_cons_zero, List.getElem?_cons_succ, wrap_id, hwv]
    refine loopW set.length (fun j s => s = ⟨[(16, .i j), (15, .i (k + 1 : Nat)), (14, .i w), (7, .p (.ps (endsL es))), (1, .p (.bo o)), (2, .p (.is set)), (3, .ptr 0 1 0 0)], [.box (.p (G n es)), rowZ A, rowZ B]⟩ ∧ onV al w set = onV al w (set.drop j)) (Wk_keep [16, 15, 14, 7, 1, 2, 3]) ⟨rfl, rfl⟩ ?_
    rintro j s hj ⟨rfl, hJ2⟩
    have hwi : walkI al set u v (k + 1) := ⟨hk1, fun t ht => by
      by_cases e : t = k
      · rw [e, ← hw]; exact hwv
      · exact hJ t (by omega)⟩
    by_cases hjl : j < set.length
    · obtain ⟨i2, hx2, hi2, u2, v2, hu2, hv2, hun2, hvn2, c3, c4⟩ := set_at hgood.right hol hsr hjl
      rw [← hal] at hu2 hv2
      have hod := onV_drop (al := al) (v := w) hjl
      rw [hu2, hv2] at hod
      obtain ⟨p2, hp2⟩ : ∃ p, p = (endsL es)[i2] := ⟨_, rfl⟩
      obtain ⟨d2, hd2⟩ : ∃ d, d = o[i2]'(by omega) := ⟨_, rfl⟩
      rw [← hp2, ← hd2] at c3 c4
      have hp2' := hp2.symm
      have hd2' := hd2.symm
      have hio2 : i2 < o.length := by omega
      have hi02 : ¬ (i2 : Int) < 0 := by omega
      simp -implicitDefEqProofs (disch := omega) [List.getElem?_cons_zero, List.getElem?_cons_succ, wrap_id, hjl, hx2, hi2, hio2, hi02, hp2', hd2']
      refine HC_of_PC rfl (c4) ?_
      by_cases hvw : (v2 : Int) = w
      · rw [if_pos hvw] at hod
        have hnx : wlk al set u (k + 1) = u2 := by rw [wlk, ← hw, hJ2, hod]
        simp -implicitDefEqProofs (disch := omega) [List.getElem?_cons_zero, List.getElem?_cons_succ, wrap_id, hvw, hjl, hx2, hi2, hio2, hi02, hp2', hd2']
        refine HC_of_PC rfl (c3) ?_
        simp -implicitDefEqProofs (disch := omega) [List.getElem?_cons_zero, List.getElem?_cons_succ, wrap_id]
        exact round_keep [15, 14, 7, 1, 2, 3] hkl ⟨by rw [hnx]; rfl, hwi⟩
      · rw [if_neg hvw] at hod
        simp -implicitDefEqProofs (disch := omega) [List.getElem?_cons_zero, List.getElem?_cons_succ, wrap_id, hvw]
        exact round_keep [16, 15, 14, 7, 1, 2, 3] hjl ⟨rfl, by rw [hJ2, hod]⟩
    · have hnx : wlk al set u (k + 1) = w := by rw [wlk, ← hw, hJ2, List.drop_of_length_le (by omega)]; rfl
      simp -implicitDefEqProofs (disch := omega) [List.getElem?_cons_zero, List.getElem?_cons_succ, wrap_id, hjl]
      exact round_keep [15, 14, 7, 1, 2, 3] hkl ⟨by rw [hnx]; rfl, hwi⟩
end Go.Proofs.Ytjinjbcdbkgedaa
/-
  Contracts: the sets that may be reversed, in the reference.
-/
set_option linter.unusedSimpArgs false
set_option linter.unusedVariables false
namespace Go.Sand
theorem mem_ne : ∀ (m d : Nat), 0 < d → d < 2 ^ m → memK m d ≠ []
  | 0, d, h0, h => by simp at h; omega
  | m + 1, d, h0, h => by
    intro he
    have hno : ∀ i, i < m + 1 → memP d i = false := fun i hi => by
      cases hp : memP d i
      · rfl
      · have : (i : Int) ∈ memK (m + 1) d := selK_mem.2 ⟨i, rfl, hi, hp⟩
        rw [he] at this; simp at this
    have h1 := hno 0 (by omega)
    unfold memP at h1
    rw [dv2_zero] at h1
    have h2 : ¬ d % 2 = 1 := by simpa using h1
    rw [Nat.pow_succ] at h
    have ih := mem_ne m (d / 2) (by omega) (by omega)
    apply ih
    refine List.eq_nil_iff_forall_not_mem.2 fun x hx => ?_
    obtain ⟨i, rfl, hi, hp⟩ := selK_mem.1 hx
    have h3 := hno (i + 1) (by omega)
    unfold memP at hp h3
    have : dv2 (d / 2) i = dv2 d (i + 1) := by unfold dv2; rw [Nat.div_div_eq_div_mul, Nat.pow_succ, Nat.mul_comm 2]
    rw [this, h3] at hp; cases hp
def cutP (n : Nat) (es : List Ed) (o : List Bool) (j : Nat) : Bool := decide (wayP (memB (memK n (j + 1))) es o ≠ 0)
def cycP (n m : Nat) (al : List (Int × Int)) (j : Nat) : Bool := circB n al (memK m (j + 1))
def cutsK (n : Nat) (es : List Ed) (o : List Bool) (k : Nat) : List (List Int) := ((List.range k).filter (cutP n es o)).map fun j => cutL (memB (memK n (j + 1))) es
def cycsK (n m : Nat) (al : List (Int × Int)) (k : Nat) : List (List Int) := ((List.range k).filter (cycP n m al)).map fun j => memK m (j + 1)
theorem cutsK_succ (n : Nat) (es : List Ed) (o : List Bool) (k : Nat) : cutsK n es o (k + 1) = cutsK n es o k ++ if cutP n es o k then [cutL (memB (memK n (k + 1))) es] else [] := by
  unfold cutsK
  rw [List.range_succ, List.filter_append, List.map_append]
  cases h : cutP n es o k <;> simp [h]
theorem cycsK_succ (n m : Nat) (al : List (Int × Int)) (k : Nat) : cycsK n m al (k + 1) = cycsK n m al k ++ if cycP n m al k then [memK m (k + 1)] else [] := by
  unfold cycsK
  rw [List.range_succ, List.filter_append, List.map_append]
  cases h : cycP n m al k <;> simp [h]
theorem cutsK_len (n : Nat) (es : List Ed) (o : List Bool) (k : Nat) : (cutsK n es o k).length ≤ k := by
  unfold cutsK; rw [List.length_map]; exact Nat.le_trans (List.length_filter_le _ _) (by simp)
theorem cycsK_len (n m : Nat) (al : List (Int × Int)) (k : Nat) : (cycsK n m al k).length ≤ k := by
  unfold cycsK; rw [List.length_map]; exact Nat.le_trans (List.length_filter_le _ _) (by simp)
def mixK (L : List (List Int)) (n m : Nat) (al : List (Int × Int)) (k : Nat) : List (List Int) := L ++ cycsK n m al k
theorem mixK_zero (L : List (List Int)) (n m : Nat) (al : List (Int × Int)) : mixK L n m al 0 = L := by simp [mixK, cycsK]
theorem mixK_succ (L : List (List Int)) (n m : Nat) (al : List (Int × Int)) (k : Nat) : mixK L n m al (k + 1) = mixK L n m al k ++ if cycP n m al k then [memK m (k + 1)] else [] := by
  unfold mixK
  rw [cycsK_succ, List.append_assoc]
/-- The sets that may be reversed. -/
def stepsL (n : Nat) (es : List Ed) (o : List Bool) : List (List Int) := cutsK n es o (2 ^ n - 2) ++ cycsK n o.length (arwsL es o) (2 ^ o.length - 1)
end Go.Sand
namespace Go.Proofs.Ytjinjbcdbkgedaa
open Go.Abs Go.Sand

abbrev _root_.Go.Abs.PV.iss (l : List (List Int)) : PV := .sl (l.map PV.is)
abbrev tabI (l : List (List Int)) : AO := .tab (l.map fun x => .p (.is x)) 45 false
theorem renL_iss (l : List (List Int)) (H : List AO) (ρ : Nat → Option Nat) : renL H ρ (l.map fun x => AV.p (.is x)) = l.map fun x => AV.p (.is x) := by
  rw [renL_eq, List.map_map]
  exact List.map_congr_left fun x _ => by simp [AV.ren]
theorem norm_iss {x : AV} {l : List (List Int)} {Hr : List AO} {keep : List Nat} {T : List (Nat × AV)} : norm [0, 1] keep ⟨T, .box x :: tabI l :: Hr⟩ =
    ⟨keep.map fun i => (i, (Abs.get T i).ren (.box x :: tabI l :: Hr) (Abs.idx [0, 1] 0)), [.box (x.ren (.box x :: tabI l :: Hr) (Abs.idx [0, 1] 0)), tabI l]⟩ := by
  simp [norm, AO.ren, renL_iss]
theorem norm_iss1 {x : AV} {l : List (List Int)} {C : List Int} {Hr : List AO} {keep : List Nat} {T : List (Nat × AV)} : norm [0, 1] keep ⟨T, .box x :: .tab ((l.map fun x => .p (.is x)) ++ [.os 2 0 C.length]) 45 false :: rowZ C :: Hr⟩ =
    ⟨keep.map fun i => (i, (Abs.get T i).ren (.box x :: .tab ((l.map fun x => .p (.is x)) ++ [.os 2 0 C.length]) 45 false :: rowZ C :: Hr) (Abs.idx [0, 1] 0)), [.box (x.ren (.box x :: .tab ((l.map fun x => .p (.is x)) ++ [.os 2 0 C.length]) 45 false :: rowZ C :: Hr) (Abs.idx [0, 1] 0)), tabI (l ++ [C])]⟩ := by
  simp [norm, AO.ren, renL_app, renL_iss, renL, AV.ren, Abs.idx]
theorem read_issB {x : AO} {l : List (List Int)} {n : Nat} {Hr : List AO} (hn : n = l.length) : AV.ren (x :: tabI l :: Hr) (Abs.idx [] 0) (.os 1 0 n) = .p (.iss l) := by
  have hp : ∀ x ∈ (l.map PV.is).map AV.p, ∃ q, x = .p q := fun x hx => by obtain ⟨q, _, rfl⟩ := List.mem_map.1 hx; exact ⟨q, rfl⟩
  have h1 : ∀ e ∈ l.map PV.is, e.one = true := fun e he => by obtain ⟨o, _, rfl⟩ := List.mem_map.1 he; rfl
  have e1 : (l.map fun o => AV.p (.is o)) = (l.map PV.is).map AV.p := by rw [List.map_map]; rfl
  subst hn
  unfold tabI
  rw [AV.ren, e1]
  simp only [idx_at0, List.getElem?_cons_succ, List.getElem?_cons_zero, ren0_ps hp, allOne_ps _ h1, Nat.zero_add, List.length_map, if_true, List.drop_zero]
theorem steps_ok (n : Nat) (es : List Ed) (o : List Bool) (hg : gcheck n es = 0) (hel : es.length ≤ 1000) (hol : o.length = (endsL es).length) (hm : o.length ≤ 12) :
    PC Try.prog 93 [G n es, .bo o] (.p (.iss (stepsL n es o))) [] := by
  have hgood := gcheck_ok hg
  have hn := hgood.n12
  have hn1 := hgood.n1
  have hpn : powN n ≤ 4096 := Nat.pow_le_pow_right (n := 2) (by omega) (show n ≤ 12 by omega)
  have hpn2 : 2 ≤ powN n := Nat.pow_le_pow_right (n := 2) (i := 1) (by omega) (by omega)
  have hpm : powN o.length ≤ 4096 := Nat.pow_le_pow_right (n := 2) (by omega) hm
  have hpm2 : 1 ≤ powN o.length := Nat.pow_pos (by omega)
  refine PC_of_W cfn93 ?_
  simp -implicitDefEqProofs (disch := omega) [c93, List.getElem?_cons_zero, List.getElem?_cons_succ, wrap_id]
  refine loopW (powN n - 2) (fun k s => s = ⟨[(6, .i (k + 1 : Nat)), (5, .os 1 0 (cutsK n es o k).length), (1, .p (.bo o)), (2, .ptr 0 1 0 0)], [.box (.p (G n es)), tabI (cutsK n es o k)]⟩) ((Wk_nilT 5 45 rfl).trans (Wk_keep [6, 5, 1, 2])) rfl ?_
  rintro k s hk rfl
  have hcl := cutsK_len n es o k
  have hcs := cutsK_succ n es o k
  obtain ⟨L, hL⟩ : ∃ L, L = cutsK n es o k := ⟨_, rfl⟩
  rw [← hL] at hcl hcs ⊢
  by_cases hlt : k < powN n - 2
  · have hlI : (k : Int) + 1 < (powN n : Nat) - 1 := by omega
    have hLb : L.length + 1 ≤ 1048576 := by omega
    have hsl : (memK n (k + 1)).length ≤ 1000 := by have := selK_len (memP (k + 1)) n; unfold memK; omega
    have hkd : k + 1 ≤ 1000000000 := by omega
    have hmo := members_ok n (k + 1) (by omega) hkd
    simp -implicitDefEqProofs (disch := omega) [List.getElem?_cons_zero, List.getElem?_cons_succ, wrap_id]
    refine HC_of_PC rfl (power_ok n (by omega)) ?_
    simp -implicitDefEqProofs (disch := omega) [List.getElem?_cons_zero, List.getElem?_cons_succ, wrap_id, hlI]
    refine HC_of_PC rfl (hmo) ?_
    simp -implicitDefEqProofs (disch := omega) [List.getElem?_cons_zero, List.getElem?_cons_succ, wrap_id]
    refine HC_of_PC rfl (rway_ok n es o (memK n (k + 1)) hg hel hol hsl) ?_
    by_cases hw : wayP (memB (memK n (k + 1))) es o = 0
    · have hcp : cutP n es o k = false := by unfold cutP; simp [hw]
      rw [hcp] at hcs
      simp only [Bool.false_eq_true, if_false, List.append_nil] at hcs
      simp -implicitDefEqProofs (disch := omega) [List.getElem?_cons_zero, List.getElem?_cons_succ, wrap_id, hw]
      exact round_keep [6, 5, 1, 2] hlt (by simp [hcs, Abs.get])
    · have hcp : cutP n es o k = true := by unfold cutP; simp [hw]
      rw [hcp, if_pos rfl] at hcs
      obtain ⟨C, hC⟩ : ∃ C, C = cutL (memB (memK n (k + 1))) es := ⟨_, rfl⟩
      have hrc := rcut_ok n es (memK n (k + 1)) hg hel hsl
      rw [← hC] at hcs hrc
      simp -implicitDefEqProofs (disch := omega) [List.getElem?_cons_zero, List.getElem?_cons_succ, wrap_id, hw]
      refine HC_of_PC rfl (hrc) ?_
      simp -implicitDefEqProofs (disch := omega) [List.getElem?_cons_zero, List.getElem?_cons_succ, wrap_id, hLb]
      refine round_end [0, 1] [6, 5, 1, 2] hlt rfl ?_
      rw [norm_iss1]
      simp [hcs, Abs.get, AV.ren, Abs.idx]
  · have hke : k = powN n - 2 := by omega
    have hlI : ¬ (k : Int) + 1 < (powN n : Nat) - 1 := by omega
    have hL0 : L = cutsK n es o (2 ^ n - 2) := by rw [hL, hke]; rfl
    have hcl2 : L.length ≤ 4096 := by omega
    simp -implicitDefEqProofs (disch := omega) [List.getElem?_cons_zero, List.getElem?_cons_succ, wrap_id]
    refine HC_of_PC rfl (power_ok n (by omega)) ?_
    simp -implicitDefEqProofs (disch := omega) [List.getElem?_cons_zero, List.getElem?_cons_succ, wrap_id, hlI]
    refine loopW (powN o.length - 1) (fun k s => s = ⟨[(8, .i (k + 1 : Nat)), (5, .os 1 0 (mixK L n o.length (arwsL es o) k).length), (1, .p (.bo o)), (2, .ptr 0 1 0 0)], [.box (.p (G n es)), tabI (mixK L n o.length (arwsL es o) k)]⟩) (Wk_keep [8, 5, 1, 2]) (by simp [mixK_zero, Abs.get]) ?_
    rintro k s hk ⟨rfl⟩
    have hcl := cycsK_len n o.length (arwsL es o) k
    have hcs2 := mixK_succ L n o.length (arwsL es o) k
    obtain ⟨M, hM⟩ : ∃ M, M = mixK L n o.length (arwsL es o) k := ⟨_, rfl⟩
    have hMl : M.length ≤ 8192 := by rw [hM, mixK, List.length_append]; omega
    rw [← hM] at hcs2 ⊢
    by_cases hlt2 : k < powN o.length - 1
    · have hlI2 : (k : Int) + 1 < (powN o.length : Nat) := by omega
      have hLb : M.length + 1 ≤ 1048576 := by omega
      have hsl : (memK o.length (k + 1)).length ≤ 1000 := by have := selK_len (memP (k + 1)) o.length; unfold memK; omega
      have hmo := members_ok o.length (k + 1) (by omega) (by omega)
      have hcir := circles_ok n es o (memK o.length (k + 1)) hg hel hol (mem_ne _ _ (by omega) (show k + 1 < 2 ^ o.length by unfold powN at hlt2; omega)) hsl (fun x hx => by obtain ⟨v, rfl, hv, _⟩ := selK_mem.1 hx; omega)
      simp -implicitDefEqProofs (disch := omega) [List.getElem?_cons_zero, List.getElem?_cons_succ, wrap_id]
      refine HC_of_PC rfl (power_ok o.length (by omega)) ?_
      simp -implicitDefEqProofs (disch := omega) [List.getElem?_cons_zero, List.getElem?_cons_succ, wrap_id, hlI2]
      refine HC_of_PC rfl (hmo) ?_
      simp -implicitDefEqProofs (disch := omega) [List.getElem?_cons_zero, List.getElem?_cons_succ, wrap_id]
      refine HC_of_PC rfl (hcir) ?_
      cases hcy : circB n (arwsL es o) (memK o.length (k + 1))
      · have hcp : cycP n o.length (arwsL es o) k = false := hcy
        rw [hcp] at hcs2
        simp only [Bool.false_eq_true, if_false, List.append_nil] at hcs2
        simp -implicitDefEqProofs (disch := omega) [List.getElem?_cons_zero, List.getElem?_cons_succ, wrap_id]
        exact round_keep [8, 5, 1, 2] hlt2 (by simp [hcs2, Abs.get])
      · have hcp : cycP n o.length (arwsL es o) k = true := hcy
        rw [hcp, if_pos rfl] at hcs2
        simp -implicitDefEqProofs (disch := omega) [List.getElem?_cons_zero, List.getElem?_cons_succ, wrap_id, hLb]
        refine round_end [0, 1] [8, 5, 1, 2] hlt2 rfl ?_
        have hmp : (M.map fun x => AV.p (.is x)) ++ [AV.p (.is (memK o.length (k + 1)))] = (M ++ [memK o.length (k + 1)]).map fun x => AV.p (.is x) := by simp
        simp only [hmp]
        rw [norm_iss]
        simp [hcs2, Abs.get, AV.ren, Abs.idx]
    · have hke : k = powN o.length - 1 := by omega
      have hlI2 : ¬ (k : Int) + 1 < (powN o.length : Nat) := by omega
      have hfin : M = stepsL n es o := by rw [hM, hL0, hke]; rfl
      simp -implicitDefEqProofs (disch := omega) [List.getElem?_cons_zero, List.getElem?_cons_succ, wrap_id]
      refine HC_of_PC rfl (power_ok o.length (by omega)) ?_
      simp -implicitDefEqProofs (disch := omega) [List.getElem?_cons_zero, List.getElem?_cons_succ, wrap_id, hlI2]
      rw [← hfin]
      exact fin0 trivial rfl (read_issB rfl)
end Go.Proofs.Ytjinjbcdbkgedaa
/-
  Contracts: the class of an orientation, and Equivalent, in the reference.
-/
set_option linter.unusedSimpArgs false
set_option linter.unusedVariables false
namespace Go.Sand
/-- One step of the reference: a set is reversed. -/
def StepR (n : Nat) (es : List Ed) (o o' : List Bool) : Prop := ∃ S ∈ stepsL n es o, flipL o S = o'
inductive ReachR (n : Nat) (es : List Ed) (a : List Bool) : List Bool → Prop
  | refl : ReachR n es a a
  | step {o o' : List Bool} (h : ReachR n es a o) (s : StepR n es o o') : ReachR n es a o'
theorem ReachR.len {n : Nat} {es : List Ed} {a o : List Bool} (h : ReachR n es a o) : o.length = a.length := by
  induction h with
  | refl => rfl
  | step _ s ih => obtain ⟨S, _, rfl⟩ := s; rw [flipL_len]; exact ih
noncomputable def reachRB (n : Nat) (es : List Ed) (a o : List Bool) : Bool := @decide (ReachR n es a o) (Classical.propDecidable _)
theorem reachRB_iff {n : Nat} {es : List Ed} {a o : List Bool} : reachRB n es a o = true ↔ ReachR n es a o := @decide_eq_true_iff _ (Classical.propDecidable _)
/-- What has been found, as marks. -/
def markL (m : Nat) (L : List (List Bool)) : List Bool := (List.range (2 ^ m)).map fun c => decide (numB m c ∈ L)
theorem markL_len (m : Nat) (L : List (List Bool)) : (markL m L).length = Go.Abs.powN m := by simp [markL, Go.Abs.powN]
theorem markL_at {m : Nat} {L : List (List Bool)} {x : List Bool} (hx : x.length = m) (h : codeB x < (markL m L).length) : (markL m L)[codeB x] = decide (x ∈ L) := by
  simp only [markL, List.getElem_map, List.getElem_range]
  rw [(num_code m x hx).1]
theorem markL_nil (m : Nat) : List.replicate (Go.Abs.powN m) false = markL m [] := by
  apply List.ext_getElem?
  intro i
  by_cases h : i < 2 ^ m <;> simp [markL, Go.Abs.powN, h]
theorem markL_set {m : Nat} {L : List (List Bool)} {x : List Bool} (hx : x.length = m) : (markL m L).set (codeB x) true = markL m (L ++ [x]) := by
  apply List.ext_getElem (by simp [markL])
  intro i h1 h2
  have hi : i < 2 ^ m := by simpa [markL] using h2
  rw [List.getElem_set]
  simp only [markL, List.getElem_map, List.getElem_range, List.mem_append, List.mem_singleton]
  by_cases e : codeB x = i
  · rw [if_pos e, ← e, (num_code m x hx).1]; simp
  · rw [if_neg e]
    have : ¬ numB m i = x := fun h => e (by rw [← h, code_num m i hi])
    simp [this]
/-- What has been found from an orientation. -/
structure RcD (n : Nat) (es : List Ed) (a : List Bool) (i : Nat) (L : List (List Bool)) : Prop where
  nd : L.Nodup
  st : a ∈ L
  re : ∀ o ∈ L, ReachR n es a o
  cl : ∀ o ∈ L.take i, ∀ o', StepR n es o o' → o' ∈ L
theorem RcD.start (n : Nat) (es : List Ed) (a : List Bool) : RcD n es a 0 [a] := ⟨by simp, by simp, fun o ho => by simp at ho; subst ho; exact .refl, fun o ho => by simp at ho⟩
theorem RcD.len {n : Nat} {es : List Ed} {a : List Bool} {i : Nat} {L : List (List Bool)} (h : RcD n es a i L) : L.length ≤ 2 ^ a.length := by
  have := nodup_len h.nd (m := wholeL a.length) fun o ho => wholeL_mem.2 (h.re o ho).len
  rw [wholeL_len] at this
  exact this
theorem RcD.add {n : Nat} {es : List Ed} {a : List Bool} {i : Nat} {L : List (List Bool)} (h : RcD n es a i L) (hi : i ≤ L.length) {x : List Bool} (hx : x ∉ L) (hr : ReachR n es a x) : RcD n es a i (L ++ [x]) :=
  ⟨List.nodup_append.2 ⟨h.nd, by simp, fun p hp q hq => by simp only [List.mem_singleton] at hq; subst hq; rintro rfl; exact hx hp⟩, List.mem_append_left _ h.st, fun o ho => by
    rcases List.mem_append.1 ho with ho | ho
    · exact h.re o ho
    · simp only [List.mem_singleton] at ho; subst ho; exact hr, fun o ho o' s => by
    rw [List.take_append_of_le_length hi] at ho
    exact List.mem_append_left _ (h.cl o ho o' s)⟩
theorem RcD.all {n : Nat} {es : List Ed} {a : List Bool} {L : List (List Bool)} (h : RcD n es a L.length L) (o : List Bool) : o ∈ L ↔ ReachR n es a o := by
  constructor
  · exact h.re o
  · intro hr
    induction hr with
    | refl => exact h.st
    | step _ s ih => exact h.cl _ (by rw [List.take_length]; exact ih) _ s
noncomputable def clsL (n m : Nat) (es : List Ed) (a : List Bool) : List Bool := (List.range (2 ^ m)).map fun c => reachRB n es a (numB m c)
theorem cls_eq {n : Nat} {es : List Ed} {a : List Bool} {L : List (List Bool)} (h : RcD n es a L.length L) : markL a.length L = clsL n a.length es a := by
  refine List.map_congr_left fun c _ => ?_
  rw [Bool.eq_iff_iff, reachRB_iff, decide_eq_true_eq]
  exact h.all _
/-- The first k steps are found. -/
def DoneR (o : List Bool) (S : List (List Int)) (k : Nat) (L : List (List Bool)) : Prop := ∀ s ∈ S.take k, flipL o s ∈ L
theorem steps_mem {n : Nat} {es : List Ed} {o : List Bool} (hol : o.length = (endsL es).length) {S : List Int} (h : S ∈ stepsL n es o) : (∀ x ∈ S, 0 ≤ x ∧ x < o.length) ∧ S.length ≤ o.length := by
  rcases List.mem_append.1 h with h | h
  · obtain ⟨j, _, rfl⟩ := List.mem_map.1 h
    refine ⟨fun x hx => by obtain ⟨v, rfl, hv, _⟩ := selK_mem.1 hx; omega, ?_⟩
    have := selK_len (cutB (memB (memK n (j + 1))) (endsL es)) (endsL es).length
    unfold cutL; omega
  · obtain ⟨j, _, rfl⟩ := List.mem_map.1 h
    refine ⟨fun x hx => by obtain ⟨v, rfl, hv, _⟩ := selK_mem.1 hx; omega, selK_len _ _⟩
theorem stepsL_len {n : Nat} {es : List Ed} {o : List Bool} (hn : n ≤ 12) (hm : o.length ≤ 12) : (stepsL n es o).length ≤ 8192 := by
  have h1 := cutsK_len n es o (2 ^ n - 2)
  have h2 := cycsK_len n o.length (arwsL es o) (2 ^ o.length - 1)
  have h3 : 2 ^ n ≤ 4096 := Nat.pow_le_pow_right (n := 2) (by omega) hn
  have h4 : 2 ^ o.length ≤ 4096 := Nat.pow_le_pow_right (n := 2) (by omega) hm
  unfold stepsL
  rw [List.length_append]
  omega
end Go.Sand
namespace Go.Proofs.Ytjinjbcdbkgedaa
open Go.Abs Go.Sand

abbrev tabB (l : List (List Bool)) : AO := .tab (l.map fun x => .p (.bo x)) 25 false
theorem norm_cls {x : AV} {M : List Bool} {l : List (List Bool)} {Hr : List AO} {keep : List Nat} {T : List (Nat × AV)} : norm [0, 1, 2] keep ⟨T, .box x :: rowB M :: tabB l :: Hr⟩ =
    ⟨keep.map fun i => (i, (Abs.get T i).ren (.box x :: rowB M :: tabB l :: Hr) (Abs.idx [0, 1, 2] 0)), [.box (x.ren (.box x :: rowB M :: tabB l :: Hr) (Abs.idx [0, 1, 2] 0)), rowB M, tabB l]⟩ := by
  simp [norm, AO.ren, renL_bos]
theorem norm_cls1 {x : AV} {M : List Bool} {l : List (List Bool)} {b : List Bool} {m : Nat} (hb : b.length = m) {Hr : List AO} {keep : List Nat} {T : List (Nat × AV)} : norm [0, 1, 2] keep ⟨T, .box x :: rowB M :: .tab ((l.map fun x => .p (.bo x)) ++ [.os 3 0 m]) 25 false :: rowB b :: Hr⟩ =
    ⟨keep.map fun i => (i, (Abs.get T i).ren (.box x :: rowB M :: .tab ((l.map fun x => .p (.bo x)) ++ [.os 3 0 m]) 25 false :: rowB b :: Hr) (Abs.idx [0, 1, 2] 0)), [.box (x.ren (.box x :: rowB M :: .tab ((l.map fun x => .p (.bo x)) ++ [.os 3 0 m]) 25 false :: rowB b :: Hr) (Abs.idx [0, 1, 2] 0)), rowB M, tabB (l ++ [b])]⟩ := by
  subst hb
  simp [norm, AO.ren, renL_app, renL_bos, renL, AV.ren, Abs.idx]
def RcI (n : Nat) (es : List Ed) (a : List Bool) (i : Nat) (s : St) : Prop := ∃ L, i ≤ L.length ∧ RcD n es a i L ∧ s = ⟨[(7, .i i), (6, .os 2 0 L.length), (5, .os 1 0 (powN a.length)), (2, .ptr 0 1 0 0)], [.box (.p (G n es)), rowB (markL a.length L), tabB L]⟩
def RcJ (n : Nat) (es : List Ed) (a : List Bool) (i : Nat) (o : List Bool) (S : List (List Int)) (k : Nat) (s : St) : Prop := ∃ L, i < L.length ∧ L[i]? = some o ∧ RcD n es a i L ∧ DoneR o S k L ∧
  s = ⟨[(9, .i k), (8, .p (.iss S)), (7, .i i), (6, .os 2 0 L.length), (5, .os 1 0 (powN a.length)), (2, .ptr 0 1 0 0)], [.box (.p (G n es)), rowB (markL a.length L), tabB L]⟩
theorem class_ok (n : Nat) (es : List Ed) (a : List Bool) (hg : gcheck n es = 0) (hel : es.length ≤ 1000) (hol : a.length = (endsL es).length) (hm : a.length ≤ 12) :
    PC Try.prog 63 [G n es, .bo a] (.os 0 0 (powN a.length)) [rowB (clsL n a.length es a)] := by
  have hgood := gcheck_ok hg
  have hn := hgood.n12
  have hpm : powN a.length ≤ 4096 := Nat.pow_le_pow_right (n := 2) (by omega) hm
  have hpm3 : powN a.length ≤ 1048576 := by omega
  have hca := codeB_lt a
  have hca2 : codeB a < powN a.length := hca
  have hca3 : codeB a < (markL a.length []).length := by rw [markL_len]; exact hca
  have hml := markL_len a.length []
  have e0 : List.replicate (powN a.length) (PV.v (Value.bool false)) = (markL a.length []).map PV.b := by rw [← markL_nil, List.map_replicate]
  have hset := markL_set (m := a.length) (L := []) (x := a) rfl
  have hms : ((markL a.length []).map PV.b).set (codeB a) (PV.v (Value.bool true)) = (markL a.length ([] ++ [a])).map PV.b := by rw [← hset, List.map_set]
  refine PC_of_W cfn63 ?_
  simp -implicitDefEqProofs (disch := omega) [c63, List.getElem?_cons_zero, List.getElem?_cons_succ, wrap_id]
  refine HC_of_PC rfl (power_ok a.length (by omega)) ?_
  simp -implicitDefEqProofs (disch := omega) [List.getElem?_cons_zero, List.getElem?_cons_succ, wrap_id, hpm3, e0]
  refine HC_of_PC rfl (code_ok a (by omega)) ?_
  simp -implicitDefEqProofs (disch := omega) [List.getElem?_cons_zero, List.getElem?_cons_succ, wrap_id, hca2, hca3, hml, hms]
  refine loopW (2 ^ a.length) (RcI n es a) (Wk_keep [7, 6, 5, 2]) ⟨[a], by simp, RcD.start n es a, by simp [Abs.get]⟩ ?_
  rintro i s hi ⟨L, hiL, hR, rfl⟩
  have hLl := hR.len
  have h4096 : 2 ^ a.length ≤ 4096 := hpm
  by_cases hlt : i < L.length
  · obtain ⟨o, hLi⟩ : ∃ o, L[i]? = some o := ⟨_, List.getElem?_eq_getElem hlt⟩
    have hLia : L[i] = o := by rw [List.getElem?_eq_getElem hlt] at hLi; exact Option.some.inj hLi
    have hoL : o ∈ L := List.mem_of_getElem? hLi
    have hor := hR.re o hoL
    have hoa := hor.len
    have hoe : o.length = (endsL es).length := by omega
    obtain ⟨S, hS⟩ : ∃ S, S = stepsL n es o := ⟨_, rfl⟩
    have hSl : S.length ≤ 8192 := by rw [hS]; exact stepsL_len (by omega) (by omega)
    have hst := steps_ok n es o hg hel hoe (by omega)
    rw [← hS] at hst
    simp -implicitDefEqProofs (disch := omega) [List.getElem?_cons_zero, List.getElem?_cons_succ, wrap_id, hlt, hLia]
    refine HC_of_PC rfl (hst) ?_
    simp -implicitDefEqProofs (disch := omega) [List.getElem?_cons_zero, List.getElem?_cons_succ, wrap_id]
    refine loopW S.length (RcJ n es a i o S) (Wk_keep [9, 8, 7, 6, 5, 2]) ⟨L, hlt, hLi, hR, fun s hs => by simp at hs, by simp [Abs.get]⟩ ?_
    rintro k s hk ⟨L2, hiL2, hLi2, hR2, hD2, rfl⟩
    have hLia2 : L2[i] = o := by rw [List.getElem?_eq_getElem hiL2] at hLi2; exact Option.some.inj hLi2
    have hLl2 := hR2.len
    by_cases hlk : k < S.length
    · obtain ⟨c, hc⟩ : ∃ c, c = S[k] := ⟨_, rfl⟩
      have hc' := hc.symm
      have hcS : c ∈ stepsL n es o := by rw [← hS, hc]; exact List.getElem_mem hlk
      obtain ⟨hcr, hcl⟩ := steps_mem hoe hcS
      have htu := turnedR_ok o c (by omega) hcr (by omega)
      obtain ⟨x, hx⟩ : ∃ x, x = flipL o c := ⟨_, rfl⟩
      rw [← hx] at htu
      have hxo : x.length = o.length := by rw [hx, flipL_len]
      have hxa : x.length = a.length := by omega
      have hre : ReachR n es a x := .step hor ⟨c, hcS, hx.symm⟩
      have hml2 := markL_len a.length L2
      have hcx := codeB_lt x
      have hcx2 : codeB x < powN a.length := by rw [hxa] at hcx; exact hcx
      have hcx3 : codeB x < (markL a.length L2).length := by rw [hml2]; exact hcx2
      have hat := markL_at (L := L2) hxa hcx3
      have hdn : ∀ L', (∀ q ∈ L2, q ∈ L') → x ∈ L' → DoneR o S (k + 1) L' := fun L' h1 h2 q hq => by
        rw [List.take_succ_eq_append_getElem hlk] at hq
        rcases List.mem_append.1 hq with hq | hq
        · exact h1 _ (hD2 q hq)
        · simp only [List.mem_singleton] at hq
          rw [hq, hc', ← hx]; exact h2
      simp -implicitDefEqProofs (disch := omega) [List.getElem?_cons_zero, List.getElem?_cons_succ, wrap_id, hlk, hiL2, hLia2, hc']
      refine HC_of_PC rfl (htu) ?_
      simp -implicitDefEqProofs (disch := omega) [List.getElem?_cons_zero, List.getElem?_cons_succ, wrap_id]
      refine HC_of_PC (by simp [views, view, viewC, ownEls, hxo]) (code_ok x (by omega)) ?_
      by_cases hin : x ∈ L2
      · rw [decide_eq_true hin] at hat
        simp -implicitDefEqProofs (disch := omega) [List.getElem?_cons_zero, List.getElem?_cons_succ, wrap_id, hcx2, hcx3, hml2, hat]
        refine round_end [0, 1, 2] [9, 8, 7, 6, 5, 2] hlk rfl ⟨L2, hiL2, hLi2, hR2, hdn L2 (fun q hq => hq) hin, ?_⟩
        rw [norm_cls]
        simp [Abs.get, AV.ren, Abs.idx]
      · rw [decide_eq_false hin] at hat
        have hst2 := markL_set (L := L2) hxa
        have hms2 : ((markL a.length L2).map PV.b).set (codeB x) (PV.v (Value.bool true)) = (markL a.length (L2 ++ [x])).map PV.b := by rw [← hst2, List.map_set]
        have hLb : L2.length + 1 ≤ 1048576 := by omega
        simp -implicitDefEqProofs (disch := omega) [List.getElem?_cons_zero, List.getElem?_cons_succ, wrap_id, hcx2, hcx3, hml2, hat]
        refine HC_of_PC (by simp [views, view, viewC, ownEls, hxo]) (code_ok x (by omega)) ?_
        simp -implicitDefEqProofs (disch := omega) [List.getElem?_cons_zero, List.getElem?_cons_succ, wrap_id, hcx2, hcx3, hml2, hms2, hLb, hxo]
        refine round_end [0, 1, 2] [9, 8, 7, 6, 5, 2] hlk rfl ⟨L2 ++ [x], by simp; omega, by rw [List.getElem?_append_left hiL2]; exact hLi2, hR2.add (by omega) hin hre, hdn _ (fun q hq => List.mem_append_left _ hq) (by simp), ?_⟩
        rw [norm_cls1 hxo]
        simp [Abs.get, AV.ren, Abs.idx]
    · have hke : k = S.length := by omega
      have hi1 : i + 1 ≤ 2 ^ a.length := by omega
      simp -implicitDefEqProofs (disch := omega) [List.getElem?_cons_zero, List.getElem?_cons_succ, wrap_id, hlk]
      refine round_keep [7, 6, 5, 2] hi1 ⟨L2, hiL2, ⟨hR2.nd, hR2.st, hR2.re, fun q hq q' hs => ?_⟩, by simp [Abs.get]⟩
      rw [List.take_succ_eq_append_getElem hiL2, hLia2] at hq
      rcases List.mem_append.1 hq with hq | hq
      · exact hR2.cl q hq q' hs
      · simp only [List.mem_singleton] at hq
        subst hq
        obtain ⟨c, hc1, hc2⟩ := hs
        rw [← hc2]
        exact hD2 c (by rw [hke, List.take_length, hS]; exact hc1)
  · have hie : i = L.length := by omega
    rw [hie] at hR
    have hce := cls_eq hR
    simp -implicitDefEqProofs (disch := omega) [List.getElem?_cons_zero, List.getElem?_cons_succ, wrap_id, hlt]
    rw [hce]
    exact fin1 [1] trivial rfl (by rfl) ⟨rfl, rfl⟩
end Go.Proofs.Ytjinjbcdbkgedaa
/-
  Contracts: Equivalent, in the reference; the law Matches, if both reach the same.
-/
set_option linter.unusedSimpArgs false
set_option linter.unusedVariables false
namespace Go.Proofs.Ytjinjbcdbkgedaa
open Go.Abs Go.Sand

theorem requiv_ok (n : Nat) (es : List Ed) (a b : List Bool) (hel : es.length ≤ 1000) (ha : oE n es a = 0) (hb : oE n es b = 0) (hm : a.length ≤ 12) :
    PC Try.prog 15 [G n es, .bo a, .bo b] (.tup [.b (reachRB n es a b), .i 0]) [] := by
  obtain ⟨hg, hla⟩ := oE_ok ha
  obtain ⟨_, hlb⟩ := oE_ok hb
  have hl12 : ¬ (12 : Int) < a.length := by omega
  have hcl : (clsL n a.length es a).length = powN a.length := by simp [clsL, powN]
  have hcb : codeB b < powN a.length := by have := codeB_lt b; unfold powN; rw [hla, ← hlb]; exact this
  have hcb2 : codeB b < (clsL n a.length es a).length := by omega
  have hat : (clsL n a.length es a)[codeB b] = reachRB n es a b := by
    simp only [clsL, List.getElem_map, List.getElem_range]
    rw [(num_code a.length b (by omega)).1]
  refine PC_of_W cfn15 ?_
  simp -implicitDefEqProofs (disch := omega) [c15, List.getElem?_cons_zero, List.getElem?_cons_succ, wrap_id]
  refine HC_of_PC rfl (rocheck_ok n es a hel (by omega)) ?_
  simp -implicitDefEqProofs (disch := omega) [List.getElem?_cons_zero, List.getElem?_cons_succ, wrap_id, ha]
  refine HC_of_PC rfl (rocheck_ok n es b hel (by omega)) ?_
  simp -implicitDefEqProofs (disch := omega) [List.getElem?_cons_zero, List.getElem?_cons_succ, wrap_id, hb, hl12]
  refine HC_of_PC rfl (class_ok n es a hg hel hla hm) ?_
  simp -implicitDefEqProofs (disch := omega) [List.getElem?_cons_zero, List.getElem?_cons_succ, wrap_id]
  refine HC_of_PC rfl (code_ok b (by omega)) ?_
  simp -implicitDefEqProofs (disch := omega) [List.getElem?_cons_zero, List.getElem?_cons_succ, wrap_id, hcl, hcb, hcb2, hat]
  (refine fin0 trivial rfl ?_; simp -implicitDefEqProofs (disch := omega) [List.getElem?_cons_zero, List.getElem?_cons_succ, idx, wrap_id])
end Go.Proofs.Ytjinjbcdbkgedaa
/-
  Plain laws: what the reference's steps do to the indegrees. No program.
-/
set_option linter.unusedSimpArgs false
set_option linter.unusedVariables false
namespace Go.Sand
theorem hdZ_at' {es : List Ed} {o : List Bool} (hol : o.length = (endsL es).length) {i : Nat} (hi : i < (endsL es).length) : hdZ (arwsL es o) i = (arw (endsL es)[i] (o[i]'(by omega))).2 ∧ tlZ (arwsL es o) i = (arw (endsL es)[i] (o[i]'(by omega))).1 := by
  have hl := arwsL_len hol
  unfold hdZ tlZ
  rw [Int.toNat_natCast, List.getD_eq_getElem?_getD, List.getElem?_eq_getElem (by omega), Option.getD_some, arwsL_at hol i hi]
  exact ⟨rfl, rfl⟩
theorem flip_keep_at {o : List Bool} {S : List Int} (hS : ∀ x ∈ S, 0 ≤ x) (hd : S.Nodup) {k : Nat} (hk : k < S.length) {i : Nat} (hi : S[k] = i) (hio : i < o.length) : (flipL o (S.take k))[i]'(by rw [flipL_len]; exact hio) = o[i] := by
  have hn : (i : Int) ∉ S.take k := by
    intro hm
    rw [← hi] at hm
    obtain ⟨j, hj, hje⟩ := List.mem_iff_getElem.1 hm
    rw [List.length_take] at hj
    rw [List.getElem_take] at hje
    exact List.pairwise_iff_getElem.1 hd j k (by omega) hk (by omega) hje
  have := flipL_keep (S.take k) o i (fun x hx => hS x (List.mem_of_mem_take hx)) hn
  rw [getDB_get (by rw [flipL_len]; exact hio), getDB_get hio] at this
  exact this
/-- A set is reversed: the indegrees. -/
theorem flipS_in {n : Nat} {es : List Ed} (hg : ∀ x ∈ es, Right (n : Int) x) {o : List Bool} (hol : o.length = (endsL es).length) {S : List Int} (hS : ∀ x ∈ S, 0 ≤ x ∧ x < o.length) (hd : S.Nodup) {u : Nat} (hu : u < n) : ∀ k, k ≤ S.length →
    (inL n es (flipL o (S.take k))).getD u 0 + ((hdS (arwsL es o) (S.take k)).count (u : Int) : Nat) = (inL n es o).getD u 0 + ((tlS (arwsL es o) (S.take k)).count (u : Int) : Nat)
  | 0, _ => by simp [flipL, hdS, tlS]
  | k + 1, hk => by
    have ih := flipS_in hg hol hS hd hu k (by omega)
    have hkl : k < S.length := by omega
    have hr := hS _ (List.getElem_mem hkl)
    obtain ⟨i, hi⟩ : ∃ i : Nat, S[k] = i := ⟨S[k].toNat, by omega⟩
    have hio : i < o.length := by omega
    have hie : i < (endsL es).length := by omega
    have hlk : (flipL o (S.take k)).length = (endsL es).length := by rw [flipL_len]; exact hol
    have hkeep := flip_keep_at (fun x hx => (hS x hx).1) hd hkl hi hio
    have hc := flip_count hlk hie (fun p => decide (p.2 = (u : Int)))
    rw [hkeep] at hc
    obtain ⟨e1, e2⟩ := hdZ_at' hol hie
    have hsw : (arw (endsL es)[i] (!o[i])).2 = (arw (endsL es)[i] o[i]).1 := by cases o[i] <;> rfl
    rw [hsw, ← e1, ← e2] at hc
    rw [flipL_take _ _ _ hkl, List.take_succ_eq_append_getElem hkl, hi]
    simp only [hdS, tlS, List.map_append, List.map_cons, List.map_nil, List.count_append, List.count_singleton] at ih ⊢
    rw [in_count hg hu] at ih ⊢
    rw [in_count hg hu] at ih ⊢
    simp only [decide_eq_true_eq, beq_iff_eq] at hc ⊢
    push_cast at ih hc ⊢
    split at hc <;> split at hc <;> simp_all <;> omega
end Go.Sand
/-
  Plain laws: steps of the reference and of the program. No program.
-/
set_option linter.unusedSimpArgs false
set_option linter.unusedVariables false
namespace Go.Sand
theorem flipL_at : ∀ (l : List Int) (o : List Bool) (i : Nat), (∀ x ∈ l, 0 ≤ x) → l.Nodup → i < o.length → (flipL o l).getD i false = if (i : Int) ∈ l then !o.getD i false else o.getD i false
  | [], o, i, _, _, _ => by simp [flipL]
  | x :: l, o, i, h, hd, hi => by
    have h0 := h x (by simp)
    obtain ⟨n1, n2⟩ := List.nodup_cons.1 hd
    have e : flipL o (x :: l) = flipL (flip1 o x) l := rfl
    rw [e, flipL_at l (flip1 o x) i (fun y hy => h y (by simp [hy])) n2 (by rw [flip1_len]; exact hi)]
    by_cases e1 : x.toNat = i
    · have e2 : (i : Int) = x := by omega
      have e3 : (i : Int) ∉ l := by rw [e2]; exact n1
      have e4 : (i : Int) ∈ x :: l := by rw [e2]; simp
      rw [if_neg e3, if_pos e4]
      simp only [flip1, e1, List.getD_eq_getElem?_getD, List.getElem?_set_self hi, Option.getD_some]
    · have e2 : ¬ (i : Int) = x := by omega
      rw [flip1_getB o x i e1]
      simp [e2]
theorem mem_mark {n d : Nat} {v : Int} (h0 : 0 ≤ v) (hv : v < n) : memB (memK n d) v = mkB (setM n d) v := by
  have hvn : v.toNat < n := by omega
  have e1 : mkB (setM n d) v = decide (Go.Abs.bitN d v.toNat = 1) := by
    unfold mkB
    rw [getDB_get (by rw [setM_len]; exact hvn), setM_at]
  rw [e1]
  unfold memB
  rw [decide_eq_decide]
  constructor
  · intro h
    obtain ⟨i, rfl, hi, hp⟩ := selK_mem.1 h
    rw [Int.toNat_natCast]
    exact of_decide_eq_true hp
  · intro h
    exact selK_mem.2 ⟨v.toNat, by omega, hvn, decide_eq_true h⟩
theorem way_mark {n d : Nat} {es : List Ed} (hg : ∀ x ∈ es, Right (n : Int) x) (o : List Bool) : wayP (memB (memK n d)) es o = wayP (mkB (setM n d)) es o := by
  obtain ⟨h1, h2⟩ := outN_congr hg (o := o) (f := memB (memK n d)) (g := mkB (setM n d)) fun v h0 hv => mem_mark h0 hv
  unfold wayP
  rw [h1, h2]
theorem cut_turn {n d : Nat} {es : List Ed} (hg : ∀ x ∈ es, Right (n : Int) x) {o : List Bool} (hol : o.length = (endsL es).length) : flipL o (cutL (memB (memK n d)) es) = turnL es (setM n d) o := by
  apply List.ext_getElem (by rw [flipL_len, turnL_len hol]; exact hol)
  intro i h1 h2
  have hio : i < o.length := by rw [flipL_len] at h1; exact h1
  have hi : i < (endsL es).length := by omega
  have hf := flipL_at (cutL (memB (memK n d)) es) o i (fun x hx => by obtain ⟨v, rfl, _⟩ := selK_mem.1 hx; omega) (selK_nodup _ _) hio
  rw [getDB_get h1, getDB_get hio] at hf
  rw [hf, turnL_at hol i hi]
  have hm := endsL_mem hg _ (List.getElem_mem hi)
  have hc : ((i : Int) ∈ cutL (memB (memK n d)) es) ↔ (mkB (setM n d) (endsL es)[i].1 != mkB (setM n d) (endsL es)[i].2) = true := by
    rw [← mem_mark (n := n) (d := d) (v := (endsL es)[i].1) (by omega) (by omega), ← mem_mark (n := n) (d := d) (v := (endsL es)[i].2) (by omega) (by omega)]
    constructor
    · intro h
      obtain ⟨j, hj, _, hp⟩ := selK_mem.1 h
      have : j = i := by omega
      subst this
      unfold cutB at hp
      rw [List.getElem?_eq_getElem hi] at hp
      exact hp
    · intro h
      refine selK_mem.2 ⟨i, rfl, hi, ?_⟩
      unfold cutB
      rw [List.getElem?_eq_getElem hi]
      exact h
  unfold turn1
  by_cases h : (mkB (setM n d) (endsL es)[i].1 != mkB (setM n d) (endsL es)[i].2) = true
  · rw [if_pos h, if_pos (hc.2 h)]
  · rw [if_neg h, if_neg (fun hh => h (hc.1 hh))]
theorem cyc_in {n : Nat} {es : List Ed} (hg : ∀ x ∈ es, Right (n : Int) x) {o : List Bool} (hol : o.length = (endsL es).length) {S : List Int} (hS : ∀ x ∈ S, 0 ≤ x ∧ x < o.length) (hd : S.Nodup)
    (hb : ∀ u : Nat, u < n → (hdS (arwsL es o) S).count (u : Int) = (tlS (arwsL es o) S).count (u : Int)) : inL n es (flipL o S) = inL n es o := by
  refine ext_getD (by rw [inL_len, inL_len]) fun u hu => ?_
  rw [inL_len] at hu
  have := flipS_in hg hol hS hd hu S.length (Nat.le_refl _)
  rw [List.take_length, hb u hu] at this
  omega
/-- What the reference does, the program does. -/
theorem StepR.toD {n : Nat} {es : List Ed} (hgood : GoodG n es) {o o' : List Bool} (hol : o.length = (endsL es).length) (h : StepR n es o o') : StepD n o.length es (inL n es o) (inL n es o') ∨ inL n es o' = inL n es o := by
  obtain ⟨S, hS, rfl⟩ := h
  rcases List.mem_append.1 hS with h | h
  · obtain ⟨j, hj, rfl⟩ := List.mem_map.1 h
    obtain ⟨hj1, hj2⟩ := List.mem_filter.1 hj
    have hj3 := List.mem_range.1 hj1
    refine .inl ⟨o, rfl, rfl, j + 1, by omega, ?_, ?_⟩
    · rw [← way_mark hgood.right]
      exact of_decide_eq_true hj2
    · rw [cut_turn hgood.right hol]
  · obtain ⟨j, hj, rfl⟩ := List.mem_map.1 h
    obtain ⟨hj1, hj2⟩ := List.mem_filter.1 hj
    right
    have hr : ∀ x ∈ memK o.length (j + 1), 0 ≤ x ∧ x < o.length := fun x hx => by obtain ⟨v, rfl, hv, _⟩ := selK_mem.1 hx; omega
    refine cyc_in hgood.right hol hr (selK_nodup _ _) fun u hu => ?_
    unfold cycP circB at hj2
    have hb := (Bool.and_eq_true _ _ ▸ hj2).1
    have := List.all_eq_true.1 hb u (List.mem_range.2 hu)
    unfold balV at this
    simp only [Bool.and_eq_true, decide_eq_true_eq] at this
    have hh : ∀ x ∈ memK o.length (j + 1), 0 ≤ hdZ (arwsL es o) x ∧ 0 ≤ tlZ (arwsL es o) x := fun x hx => by
      have h1 := hr x hx
      have hi : x.toNat < (endsL es).length := by omega
      obtain ⟨e1, e2⟩ := hdZ_at' hol hi
      rw [Int.toNat_of_nonneg h1.1] at e1 e2
      have hm := List.getElem_mem (l := arwsL es o) (n := x.toNat) (by rw [arwsL_len hol]; exact hi)
      rw [arwsL_at hol _ hi] at hm
      have := arw_mem hgood.right _ hm
      omega
    have h1 := this.1
    rw [degL_get (fun v hv => by obtain ⟨x, hx, rfl⟩ := List.mem_map.1 hv; exact (hh x hx).1) u hu, degL_get (fun v hv => by obtain ⟨x, hx, rfl⟩ := List.mem_map.1 hv; exact (hh x hx).2) u hu] at h1
    omega
theorem ReachR.toD {n : Nat} {es : List Ed} (hgood : GoodG n es) {a o : List Bool} (hol : a.length = (endsL es).length) (h : ReachR n es a o) : ReachD n a.length es (inL n es a) (inL n es o) := by
  induction h with
  | refl => exact .refl
  | step h1 s ih =>
    have hl := h1.len
    rcases s.toD hgood (by omega) with h2 | h2
    · rw [hl] at h2
      exact .step ih h2
    · rw [h2]; exact ih
end Go.Sand
/-
  Plain laws: cuts as steps; cycles among balanced arrows. No program.
-/
set_option linter.unusedSimpArgs false
set_option linter.unusedVariables false
namespace Go.Sand
theorem bits_ex : ∀ (m : Nat) (P : Nat → Bool), ∃ d, d < 2 ^ m ∧ ∀ i, i < m → memP d i = P i
  | 0, P => ⟨0, by simp, fun i hi => by omega⟩
  | m + 1, P => by
    obtain ⟨d, hd, hb⟩ := bits_ex m (fun i => P (i + 1))
    have key : ∀ c : Nat, c ≤ 1 → ∀ i, i < m → memP (2 * d + c) (i + 1) = P (i + 1) := fun c hc i hi => by
      rw [← hb i hi]
      unfold memP
      have : dv2 (2 * d + c) (i + 1) = dv2 d i := by
        unfold dv2
        rw [Nat.pow_succ, Nat.mul_comm (2 ^ i) 2, ← Nat.div_div_eq_div_mul]
        congr 1
        omega
      rw [this]
    have h2 : 2 ^ (m + 1) = 2 * 2 ^ m := by rw [Nat.pow_succ]; omega
    cases h0 : P 0
    · refine ⟨2 * d + 0, by omega, fun i hi => ?_⟩
      cases i with
      | zero => rw [h0]; unfold memP; rw [dv2_zero]; exact decide_eq_false (by omega)
      | succ i => exact key 0 (by omega) i (by omega)
    · refine ⟨2 * d + 1, by omega, fun i hi => ?_⟩
      cases i with
      | zero => rw [h0]; unfold memP; rw [dv2_zero]; exact decide_eq_true (by omega)
      | succ i => exact key 1 (by omega) i (by omega)
theorem way_same {f : Int → Bool} {es : List Ed} {o : List Bool} {n : Int} (hg : ∀ x ∈ es, Right n x) (c : Bool) (h : ∀ v, 0 ≤ v → v < n → f v = c) : wayP f es o = 0 := by
  obtain ⟨h1, h2⟩ := outN_congr hg (o := o) (f := f) (g := fun _ => c) h
  unfold wayP
  rw [h1, h2]
  have e1 : outN (fun _ => c) (arwsL es o) = 0 := List.countP_eq_zero.2 fun q _ => by simp [outB]
  have e2 : intN (fun _ => c) (arwsL es o) = 0 := List.countP_eq_zero.2 fun q _ => by simp [intB]
  rw [e1, e2]; rfl
theorem cut_stepR {n : Nat} {es : List Ed} (hg : ∀ x ∈ es, Right (n : Int) x) {o : List Bool} (hol : o.length = (endsL es).length) {j : Nat} (hj : j < 2 ^ n) (hw : wayP (mkB (setM n j)) es o ≠ 0) : StepR n es o (turnL es (setM n j) o) := by
  have hmk : ∀ v : Int, 0 ≤ v → v < n → mkB (setM n j) v = decide (Go.Abs.bitN j v.toNat = 1) := fun v h0 hv => by
    unfold mkB
    rw [getDB_get (by rw [setM_len]; omega), setM_at]
  have h0 : j ≠ 0 := by
    rintro rfl
    refine hw (way_same hg false fun v h0 hv => ?_)
    rw [hmk v h0 hv]
    exact decide_eq_false (by unfold Go.Abs.bitN; rw [Nat.zero_div]; decide)
  have h1 : j + 1 ≠ 2 ^ n := by
    intro he
    refine hw (way_same hg true fun v h0 hv => ?_)
    rw [hmk v h0 hv]
    refine decide_eq_true ((Go.Abs.bitN_iff _ _).2 ?_)
    have : j = 2 ^ n - 1 := by omega
    rw [this, Nat.testBit_two_pow_sub_one]
    exact decide_eq_true (by omega)
  refine ⟨cutL (memB (memK n j)) es, List.mem_append_left _ (List.mem_map.2 ⟨j - 1, List.mem_filter.2 ⟨List.mem_range.2 (by omega), ?_⟩, by rw [show j - 1 + 1 = j by omega]⟩), cut_turn hg hol⟩
  unfold cutP
  rw [show j - 1 + 1 = j by omega, way_mark hg]
  exact decide_eq_true hw
theorem exists_min {P : Nat → Prop} : ∀ j, P j → ∃ k, P k ∧ ∀ i, i < k → ¬ P i := by
  intro j
  induction j using Nat.strongRecOn with
  | _ j ih =>
    intro hj
    by_cases h : ∃ i, i < j ∧ P i
    · obtain ⟨i, h1, h2⟩ := h
      exact ih i h1 h2
    · exact ⟨j, hj, fun i hi hp => h ⟨i, hi, hp⟩⟩
/-- Among more values than there are places two are equal. -/
theorem two_same {n : Nat} {V : Nat → Int} (hV : ∀ k, 0 ≤ V k ∧ V k < n) : ∃ j i, i < j ∧ V i = V j ∧ ∀ p q, p < q → q < j → V p ≠ V q := by
  have hex : ∃ j, ∃ i, i < j ∧ V i = V j := by
    refine Classical.byContradiction fun h => ?_
    have hnd : ∀ k, ((List.range k).map V).Nodup := by
      intro k
      induction k with
      | zero => simp
      | succ k ih =>
        rw [List.range_succ, List.map_append]
        refine List.nodup_append.2 ⟨ih, by simp, fun a ha b hb => ?_⟩
        obtain ⟨i, hi, rfl⟩ := List.mem_map.1 ha
        simp only [List.map_cons, List.map_nil, List.mem_singleton] at hb
        subst hb
        exact fun e => h ⟨k, i, List.mem_range.1 hi, e⟩
    have := nodup_len (hnd (n + 1)) (m := (List.range n).map fun v : Nat => (v : Int)) fun x hx => by
      obtain ⟨i, _, rfl⟩ := List.mem_map.1 hx
      have := hV i
      exact List.mem_map.2 ⟨(V i).toNat, by simp; omega, by omega⟩
    simp at this
    omega
  obtain ⟨j0, hj0⟩ := hex
  obtain ⟨j, ⟨i, h1, h2⟩, hmin⟩ := exists_min (P := fun j => ∃ i, i < j ∧ V i = V j) j0 hj0
  exact ⟨j, i, h1, h2, fun p q hpq hq e => hmin q hq ⟨p, hpq, e⟩⟩
theorem onV_spec {al : List (Int × Int)} {v : Int} : ∀ {l : List Int}, (∃ x ∈ l, tlZ al x = v) → ∃ x ∈ l, tlZ al x = v ∧ onV al v l = hdZ al x
  | [], h => by obtain ⟨x, hx, _⟩ := h; simp at hx
  | y :: l, h => by
    rw [onV]
    by_cases e : tlZ al y = v
    · rw [if_pos e]; exact ⟨y, by simp, e, rfl⟩
    · rw [if_neg e]
      obtain ⟨x, hx, hv⟩ := h
      rcases List.mem_cons.1 hx with rfl | hx
      · exact absurd hv e
      · obtain ⟨z, h1, h2, h3⟩ := onV_spec ⟨x, hx, hv⟩
        exact ⟨z, List.mem_cons_of_mem _ h1, h2, h3⟩
theorem count_pos_of {l : List Int} {v : Int} (h : v ∈ l) : 0 < l.count v := List.count_pos_iff.2 h
theorem range_nodup {α : Type} {g : Nat → α} : ∀ {L : Nat}, (∀ r s, r < L → s < L → g r = g s → r = s) → ((List.range L).map g).Nodup
  | 0, _ => by simp
  | L + 1, h => by
    rw [List.range_succ, List.map_append]
    refine List.nodup_append.2 ⟨range_nodup fun r s hr hs => h r s (by omega) (by omega), by simp, fun a ha b hb => ?_⟩
    obtain ⟨i, hi, rfl⟩ := List.mem_map.1 ha
    simp only [List.map_cons, List.map_nil, List.mem_singleton] at hb
    subst hb
    intro e
    have h1 := List.mem_range.1 hi
    have := h i L (by omega) (by omega) e
    omega
theorem count_one {l : List Int} (h : l.Nodup) (v : Int) : l.count v ≤ 1 := by
  induction l with
  | nil => simp
  | cons x l ih =>
    obtain ⟨h1, h2⟩ := List.nodup_cons.1 h
    rw [List.count_cons]
    have := ih h2
    by_cases e : x = v
    · subst e
      rw [List.count_eq_zero.2 h1]; simp
    · simp [e]; exact this
theorem onV_one {al : List (Int × Int)} {v : Int} {x : Int} : ∀ {l : List Int}, x ∈ l → tlZ al x = v → (∀ y ∈ l, tlZ al y = v → hdZ al y = hdZ al x) → onV al v l = hdZ al x
  | [], h, _, _ => by simp at h
  | y :: l, h, hv, hu => by
    rw [onV]
    by_cases e : tlZ al y = v
    · rw [if_pos e]; exact hu y (by simp) e
    · rw [if_neg e]
      rcases List.mem_cons.1 h with rfl | h
      · exact absurd hv e
      · exact onV_one h hv fun z hz => hu z (List.mem_cons_of_mem _ hz)
/-- A directed cycle among balanced arrows. -/
theorem cyc_ex {n m : Nat} {al : List (Int × Int)} (hal : ∀ i : Nat, i < m → (0 ≤ hdZ al i ∧ hdZ al i < n) ∧ 0 ≤ tlZ al i ∧ tlZ al i < n) {P : Nat → Bool} (hne : ∃ i, i < m ∧ P i = true)
    (hb : ∀ u : Nat, u < n → (hdS al (selK P m)).count (u : Int) = (tlS al (selK P m)).count (u : Int)) :
    ∃ d, d < 2 ^ m ∧ 0 < d ∧ (∀ i, i < m → memP d i = true → P i = true) ∧ (∃ i, i < m ∧ memP d i = true) ∧ circB n al (memK m d) = true := by
  obtain ⟨x0, hx0, hP0⟩ := hne
  obtain ⟨D, hD⟩ : ∃ D, D = selK P m := ⟨_, rfl⟩
  rw [← hD] at hb
  have hDm : ∀ x ∈ D, ∃ i : Nat, x = i ∧ i < m ∧ P i = true := fun x hx => by rw [hD] at hx; exact selK_mem.1 hx
  have hx0D : (x0 : Int) ∈ D := by rw [hD]; exact selK_mem.2 ⟨x0, rfl, hx0, hP0⟩
  obtain ⟨V, hV0, hVs⟩ : ∃ V : Nat → Int, V 0 = hdZ al x0 ∧ ∀ k, V (k + 1) = onV al (V k) D := ⟨fun k => wlk al D (hdZ al x0) k, rfl, fun k => rfl⟩
  have hback : ∀ x ∈ D, ∃ y ∈ D, tlZ al y = hdZ al x := fun x hx => by
    obtain ⟨i, rfl, hi, _⟩ := hDm x hx
    have hr := (hal i hi).1
    have hu : (hdZ al i) = ((hdZ al i).toNat : Nat) := by omega
    have hc := hb (hdZ al i).toNat (by omega)
    rw [← hu] at hc
    have h1 : 0 < (hdS al D).count (hdZ al i) := List.count_pos_iff.2 (List.mem_map.2 ⟨_, hx, rfl⟩)
    rw [hc] at h1
    obtain ⟨y, hy, hyv⟩ := List.mem_map.1 (List.count_pos_iff.1 h1)
    exact ⟨y, hy, hyv⟩
  have hhd : ∀ k, ∃ x ∈ D, hdZ al x = V k := by
    intro k
    induction k with
    | zero => exact ⟨x0, hx0D, hV0.symm⟩
    | succ k ih =>
      obtain ⟨x, hx, hxv⟩ := ih
      obtain ⟨y, hy, hyv⟩ := hback x hx
      obtain ⟨z, h1, _, h3⟩ := onV_spec (l := D) (v := V k) ⟨y, hy, hyv.trans hxv⟩
      exact ⟨z, h1, by rw [hVs, h3]⟩
  have hedge : ∀ k, ∃ e : Nat, e < m ∧ P e = true ∧ tlZ al e = V k ∧ hdZ al e = V (k + 1) := fun k => by
    obtain ⟨x, hx, hxv⟩ := hhd k
    obtain ⟨y, hy, hyv⟩ := hback x hx
    obtain ⟨z, h1, h2, h3⟩ := onV_spec (l := D) (v := V k) ⟨y, hy, hyv.trans hxv⟩
    obtain ⟨i, rfl, hi, hPi⟩ := hDm z h1
    exact ⟨i, hi, hPi, h2, by rw [hVs, h3]⟩
  have hVr : ∀ k, 0 ≤ V k ∧ V k < n := fun k => by
    obtain ⟨x, hx, hxv⟩ := hhd k
    obtain ⟨i, rfl, hi, _⟩ := hDm x hx
    rw [← hxv]; exact (hal i hi).1
  obtain ⟨E, hE⟩ : ∃ E : Nat → Nat, ∀ k, E k < m ∧ P (E k) = true ∧ tlZ al (E k) = V k ∧ hdZ al (E k) = V (k + 1) := ⟨fun k => Classical.choose (hedge k), fun k => Classical.choose_spec (hedge k)⟩
  obtain ⟨j, i, hij, hVij, hinj⟩ := two_same hVr
  obtain ⟨L, hL⟩ : ∃ L, L = j - i := ⟨_, rfl⟩
  have hL1 : 1 ≤ L := by omega
  obtain ⟨f, hf⟩ : ∃ f : Nat → Int, ∀ r, f r = V (i + r % L) := ⟨_, fun _ => rfl⟩
  obtain ⟨F, hF⟩ : ∃ F : Nat → Nat, ∀ r, F r = E (i + r % L) := ⟨_, fun _ => rfl⟩
  have hmod : ∀ r, r % L < L := fun r => Nat.mod_lt _ (by omega)
  have hFt : ∀ r, tlZ al (F r) = f r := fun r => by rw [hF, hf]; exact (hE _).2.2.1
  have hFh : ∀ r, hdZ al (F r) = f (r + 1) := fun r => by
    rw [hF, hf, (hE _).2.2.2]
    have h1 := hmod r
    by_cases e : r % L + 1 < L
    · have : (r + 1) % L = r % L + 1 := by rw [Nat.add_mod, Nat.mod_eq_of_lt (show 1 < L by omega), Nat.mod_eq_of_lt e]
      rw [this, Nat.add_assoc]
    · have h2 : r % L + 1 = L := by omega
      have : (r + 1) % L = 0 := by
        have h3 := Nat.div_add_mod r L
        have : r + 1 = L * (r / L + 1) := by rw [Nat.mul_add]; omega
        rw [this, Nat.mul_mod_right]
      rw [this, show i + 0 = i from rfl, hVij]
      congr 1
      omega
  have hfi : ∀ r s, f r = f s → r % L = s % L := fun r s e => by
    rw [hf, hf] at e
    have h1 := hmod r
    have h2 := hmod s
    rcases Nat.lt_trichotomy (r % L) (s % L) with h | h | h
    · exact absurd e (hinj _ _ (by omega) (by omega))
    · exact h
    · exact absurd e.symm (hinj _ _ (by omega) (by omega))
  have hFm : ∀ r, F r < m := fun r => by rw [hF]; exact (hE _).1
  have hFmod : ∀ r s, r % L = s % L → F r = F s := fun r s e => by rw [hF, hF, e]
  obtain ⟨Q, hQ⟩ : ∃ Q : Nat → Bool, ∀ x, Q x = (List.range L).any fun r => decide (F r = x) := ⟨_, fun _ => rfl⟩
  have hQi : ∀ x, Q x = true ↔ ∃ r, r < L ∧ F r = x := fun x => by
    rw [hQ, List.any_eq_true]
    constructor
    · rintro ⟨r, hr, he⟩; exact ⟨r, List.mem_range.1 hr, of_decide_eq_true he⟩
    · rintro ⟨r, hr, he⟩; exact ⟨r, List.mem_range.2 hr, decide_eq_true he⟩
  obtain ⟨d, hd, hdb⟩ := bits_ex m Q
  have hSm : ∀ x : Int, x ∈ memK m d ↔ ∃ r, r < L ∧ (F r : Int) = x := fun x => by
    constructor
    · intro h
      obtain ⟨v, rfl, hv, hp⟩ := selK_mem.1 h
      rw [hdb v hv] at hp
      obtain ⟨r, hr, he⟩ := (hQi v).1 hp
      exact ⟨r, hr, by omega⟩
    · rintro ⟨r, hr, rfl⟩
      exact selK_mem.2 ⟨F r, rfl, hFm r, by rw [hdb _ (hFm r)]; exact (hQi _).2 ⟨r, hr, rfl⟩⟩
  refine ⟨d, hd, ?_, fun x hx hp => ?_, ⟨F 0, hFm 0, ?_⟩, ?_⟩
  · refine Nat.pos_of_ne_zero fun h0 => ?_
    subst h0
    have := hdb (F 0) (hFm 0)
    rw [(hQi _).2 ⟨0, by omega, rfl⟩] at this
    unfold memP dv2 at this
    rw [Nat.zero_div] at this
    simp at this
  · rw [hdb x hx] at hp
    obtain ⟨r, _, rfl⟩ := (hQi x).1 hp
    rw [hF]; exact (hE _).2.1
  · rw [hdb _ (hFm 0)]; exact (hQi _).2 ⟨0, by omega, rfl⟩
  · obtain ⟨S, hS⟩ : ∃ S, S = memK m d := ⟨_, rfl⟩
    rw [← hS] at hSm ⊢
    have hSn : S.Nodup := by rw [hS]; exact selK_nodup _ _
    have hrs : ∀ r s, r < L → s < L → f r = f s → r = s := fun r s hr hs e => by
      have := hfi r s e
      rwa [Nat.mod_eq_of_lt hr, Nat.mod_eq_of_lt hs] at this
    have hTn : ((List.range L).map fun r => (F r : Int)).Nodup := range_nodup fun r s hr hs e => hrs r s hr hs (by rw [← hFt, ← hFt, e])
    have hperm : S.Perm ((List.range L).map fun r => (F r : Int)) := (List.perm_ext_iff_of_nodup hSn hTn).2 fun x => by
      rw [hSm, List.mem_map]
      constructor
      · rintro ⟨r, hr, he⟩; exact ⟨r, List.mem_range.2 hr, he⟩
      · rintro ⟨r, hr, he⟩; exact ⟨r, List.mem_range.1 hr, he⟩
    have hlen : S.length = L := by rw [hperm.length_eq, List.length_map, List.length_range]
    have hch : ∀ v, (hdS al S).count v = ((List.range L).map fun r => f (r + 1)).count v := fun v => by
      have := (hperm.map (hdZ al)).count_eq v
      rw [List.map_map] at this
      unfold hdS
      rw [this]
      congr 1
      exact List.map_congr_left fun r _ => hFh r
    have hct : ∀ v, (tlS al S).count v = ((List.range L).map f).count v := fun v => by
      have := (hperm.map (tlZ al)).count_eq v
      rw [List.map_map] at this
      unfold tlS
      rw [this]
      congr 1
      exact List.map_congr_left fun r _ => hFt r
    have hf0 : f L = f 0 := by rw [hf, hf, Nat.mod_self, Nat.zero_mod]
    have hrot : ∀ v, ((List.range L).map fun r => f (r + 1)).count v = ((List.range L).map f).count v := fun v => by
      have e1 : (List.range (L + 1)).map f = f 0 :: (List.range L).map fun r => f (r + 1) := by rw [List.range_succ_eq_map, List.map_cons, List.map_map]; rfl
      have e2 : (List.range (L + 1)).map f = (List.range L).map f ++ [f L] := by rw [List.range_succ, List.map_append]; rfl
      have := congrArg (List.count v) (e1.symm.trans e2)
      rw [List.count_cons, List.count_append, List.count_singleton, hf0] at this
      omega
    have hSr : ∀ x ∈ S, 0 ≤ hdZ al x ∧ 0 ≤ tlZ al x := fun x hx => by
      obtain ⟨r, hr, rfl⟩ := (hSm x).1 hx
      have := hal (F r) (hFm r)
      omega
    have hbal : balB n (hdS al S) (tlS al S) = true := List.all_eq_true.2 fun u hu => by
      have hun := List.mem_range.1 hu
      unfold balV
      rw [degL_get (fun v hv => by obtain ⟨x, hx, rfl⟩ := List.mem_map.1 hv; exact (hSr x hx).1) u hun, degL_get (fun v hv => by obtain ⟨x, hx, rfl⟩ := List.mem_map.1 hv; exact (hSr x hx).2) u hun, hch, hct, hrot]
      have := count_one (range_nodup hrs) (u : Int)
      simp
      omega
    have hSpos : 0 < S.length := by omega
    obtain ⟨r0, hr0, hx0e⟩ := (hSm _).1 (List.getElem_mem hSpos)
    have hhd0 : hdZ al (S.getD 0 0) = f (r0 + 1) := by rw [getD_get hSpos, ← hx0e, hFh]
    have htl0 : tlZ al (S.getD 0 0) = f r0 := by rw [getD_get hSpos, ← hx0e, hFt]
    have hon : ∀ q, onV al (f q) S = f (q + 1) := fun q => by
      have hqS : ((F q : Nat) : Int) ∈ S := (hSm _).2 ⟨q % L, hmod q, by rw [hFmod (q % L) q (Nat.mod_mod _ _)]⟩
      rw [onV_one hqS (hFt q) fun y hy hyt => ?_, hFh]
      obtain ⟨t, ht, rfl⟩ := (hSm y).1 hy
      rw [hFt] at hyt
      rw [hFmod t q (hfi _ _ hyt)]
    have hwl : ∀ k, wlk al S (f (r0 + 1)) k = f (r0 + 1 + k) := by
      intro k
      induction k with
      | zero => rfl
      | succ k ih => rw [wlk, ih, hon]; rfl
    unfold circB
    rw [hbal, hhd0, htl0, Bool.true_and]
    refine List.all_eq_true.2 fun k hk => decide_eq_true ?_
    have hkL := List.mem_range.1 hk
    rw [hlen] at hkL
    rw [hwl]
    intro e
    have := hfi _ _ e
    rw [Nat.mod_eq_of_lt hr0] at this
    by_cases hlt : r0 + 1 + k < L
    · rw [Nat.mod_eq_of_lt hlt] at this; omega
    · rw [Nat.mod_eq_sub_mod (by omega), Nat.mod_eq_of_lt (by omega)] at this
      omega
end Go.Sand
/-
  The law Matches: the program and the reference reach the same.
-/
set_option linter.unusedSimpArgs false
set_option linter.unusedVariables false
namespace Go.Sand
theorem ReachR.trans {n : Nat} {es : List Ed} {a b c : List Bool} (h : ReachR n es a b) (k : ReachR n es b c) : ReachR n es a c := by
  induction k with
  | refl => exact h
  | step _ s ih => exact .step ih s
theorem circ_in {n : Nat} {es : List Ed} (hgood : GoodG n es) {o : List Bool} (hol : o.length = (endsL es).length) {S : List Int} (hr : ∀ x ∈ S, 0 ≤ x ∧ x < o.length) (hd : S.Nodup) (hc : circB n (arwsL es o) S = true) : inL n es (flipL o S) = inL n es o := by
  refine cyc_in hgood.right hol hr hd fun u hu => ?_
  unfold circB at hc
  have hb := (Bool.and_eq_true _ _ ▸ hc).1
  have := List.all_eq_true.1 hb u (List.mem_range.2 hu)
  unfold balV at this
  simp only [Bool.and_eq_true, decide_eq_true_eq] at this
  have hh : ∀ x ∈ S, 0 ≤ hdZ (arwsL es o) x ∧ 0 ≤ tlZ (arwsL es o) x := fun x hx => by
    have h1 := hr x hx
    have hi : x.toNat < (endsL es).length := by omega
    obtain ⟨e1, e2⟩ := hdZ_at' hol hi
    rw [Int.toNat_of_nonneg h1.1] at e1 e2
    have hm := List.getElem_mem (l := arwsL es o) (n := x.toNat) (by rw [arwsL_len hol]; exact hi)
    rw [arwsL_at hol _ hi] at hm
    have := arw_mem hgood.right _ hm
    omega
  have h1 := this.1
  rw [degL_get (fun v hv => by obtain ⟨x, hx, rfl⟩ := List.mem_map.1 hv; exact (hh x hx).1) u hu, degL_get (fun v hv => by obtain ⟨x, hx, rfl⟩ := List.mem_map.1 hv; exact (hh x hx).2) u hu] at h1
  omega
def difP (o o' : List Bool) (i : Nat) : Bool := o.getD i false != o'.getD i false
/-- Equal indegrees: joined by directed cycles. -/
theorem cyc_reach {n : Nat} {es : List Ed} (hgood : GoodG n es) : ∀ (N : Nat) (o o' : List Bool), o.length = (endsL es).length → o'.length = (endsL es).length → inL n es o = inL n es o' → (selK (difP o o') o.length).length = N → ReachR n es o o' := by
  intro N
  induction N using Nat.strongRecOn with
  | _ N ih =>
    intro o o' hol hol' hin hN
    by_cases hne : ∃ i, i < o.length ∧ difP o o' i = true
    rotate_left
    · have : o = o' := by
        apply List.ext_getElem (by omega)
        intro i h1 h2
        have h3 : difP o o' i = false := by
          cases h : difP o o' i
          · rfl
          · exact absurd ⟨i, h1, h⟩ hne
        unfold difP at h3
        rw [getDB_get h1, getDB_get h2] at h3
        simpa using h3
      subst this
      exact .refl
    · have hDr : ∀ x ∈ selK (difP o o') o.length, 0 ≤ x ∧ x < o.length := fun x hx => by obtain ⟨v, rfl, hv, _⟩ := selK_mem.1 hx; omega
      have hDn := selK_nodup (difP o o') o.length
      have hfl : flipL o (selK (difP o o') o.length) = o' := by
        apply List.ext_getElem (by rw [flipL_len]; omega)
        intro i h1 h2
        have hio : i < o.length := by rw [flipL_len] at h1; exact h1
        have := flipL_at _ o i (fun x hx => (hDr x hx).1) hDn hio
        rw [getDB_get h1, getDB_get hio] at this
        rw [this]
        have hmem : (i : Int) ∈ selK (difP o o') o.length ↔ difP o o' i = true := by
          constructor
          · intro h
            obtain ⟨v, hv, _, hp⟩ := selK_mem.1 h
            have : v = i := by omega
            rw [← this]; exact hp
          · exact fun h => selK_mem.2 ⟨i, rfl, hio, h⟩
        have hdf : difP o o' i = (o[i] != o'[i]) := by unfold difP; rw [getDB_get hio, getDB_get h2]
        rw [hdf] at hmem
        by_cases h : (i : Int) ∈ selK (difP o o') o.length
        · rw [if_pos h]
          have := hmem.1 h
          cases h1 : o[i] <;> cases h2 : o'[i] <;> simp_all
        · rw [if_neg h]
          have : ¬ (o[i] != o'[i]) = true := fun hh => h (hmem.2 hh)
          simpa using this
      have hcnt : ∀ u : Nat, u < n → (hdS (arwsL es o) (selK (difP o o') o.length)).count (u : Int) = (tlS (arwsL es o) (selK (difP o o') o.length)).count (u : Int) := fun u hu => by
        have := flipS_in hgood.right hol hDr hDn hu _ (Nat.le_refl _)
        rw [List.take_length, hfl, hin] at this
        omega
      have hal : ∀ i : Nat, i < o.length → (0 ≤ hdZ (arwsL es o) i ∧ hdZ (arwsL es o) i < n) ∧ 0 ≤ tlZ (arwsL es o) i ∧ tlZ (arwsL es o) i < n := fun i hi => by
        have hie : i < (endsL es).length := by omega
        obtain ⟨e1, e2⟩ := hdZ_at' hol hie
        have hm := List.getElem_mem (l := arwsL es o) (n := i) (by rw [arwsL_len hol]; exact hie)
        rw [arwsL_at hol _ hie] at hm
        have := arw_mem hgood.right _ hm
        rw [e1, e2]; omega
      obtain ⟨d, hd, hd0, hdP, ⟨i0, hi0, hdi0⟩, hcirc⟩ := cyc_ex hal hne hcnt
      have hSr : ∀ x ∈ memK o.length d, 0 ≤ x ∧ x < o.length := fun x hx => by obtain ⟨v, rfl, hv, _⟩ := selK_mem.1 hx; omega
      have hSn : (memK o.length d).Nodup := selK_nodup _ _
      have hstep : StepR n es o (flipL o (memK o.length d)) := by
        refine ⟨memK o.length d, List.mem_append_right _ (List.mem_map.2 ⟨d - 1, List.mem_filter.2 ⟨List.mem_range.2 (by omega), ?_⟩, by rw [show d - 1 + 1 = d by omega]⟩), rfl⟩
        unfold cycP
        rw [show d - 1 + 1 = d by omega]
        exact hcirc
      have hin1 := circ_in hgood hol hSr hSn hcirc
      have hl1 : (flipL o (memK o.length d)).length = o.length := flipL_len _ _
      refine ReachR.trans (.step .refl hstep) (ih _ ?_ _ o' (by omega) hol' (hin1.trans hin) rfl)
      rw [hl1, ← hN]
      have hi0S : (i0 : Int) ∈ selK (difP o o') o.length := selK_mem.2 ⟨i0, rfl, hi0, hdP i0 hi0 hdi0⟩
      have hle := nodup_len (selK_nodup (difP (flipL o (memK o.length d)) o') o.length) (m := (selK (difP o o') o.length).erase i0) fun x hx => by
        obtain ⟨i, rfl, hi, hp⟩ := selK_mem.1 hx
        have hat := flipL_at _ o i (fun x hx => (hSr x hx).1) hSn hi
        unfold difP at hp
        rw [hat] at hp
        have hni : (i : Int) ∉ memK o.length d := fun hm => by
          obtain ⟨v, hv, _, hpv⟩ := selK_mem.1 hm
          have : v = i := by omega
          rw [this] at hpv
          have hpi := hdP i hi hpv
          unfold difP at hpi
          rw [if_pos hm] at hp
          cases h1 : o.getD i false <;> cases h2 : o'.getD i false <;> simp_all
        rw [if_neg hni] at hp
        have hne0 : (i : Int) ≠ i0 := fun e => hni (by rw [e]; exact selK_mem.2 ⟨i0, rfl, hi0, hdi0⟩)
        exact (List.mem_erase_of_ne hne0).2 (selK_mem.2 ⟨i, rfl, hi, hp⟩)
      rw [List.length_erase_of_mem hi0S] at hle
      have := List.length_pos_of_mem hi0S
      omega
theorem ReachD.toR {n : Nat} {es : List Ed} (hgood : GoodG n es) {a : List Bool} (hol : a.length = (endsL es).length) {d : List Int} (h : ReachD n a.length es (inL n es a) d) : ∀ o : List Bool, o.length = a.length → inL n es o = d → ReachR n es a o := by
  induction h with
  | refl => exact fun o ho hd => cyc_reach hgood _ a o hol (by omega) hd.symm rfl
  | step _ s ih =>
    intro o ho hd
    obtain ⟨o0, ho0, hod, j, hj, hw, hd'⟩ := s
    have hol0 : o0.length = (endsL es).length := by omega
    have h1 := ih o0 ho0 hod
    have h2 := cut_stepR hgood.right hol0 hj hw
    exact ReachR.trans (.step h1 h2) (cyc_reach hgood _ _ o (turnL_len hol0) (by omega) (hd'.trans hd.symm) rfl)
theorem reach_same {n : Nat} {es : List Ed} (hgood : GoodG n es) {a b : List Bool} (hla : a.length = (endsL es).length) (hlb : b.length = (endsL es).length) : reachB n a.length es (inL n es a) (inL n es b) = reachRB n es a b := by
  rw [Bool.eq_iff_iff, reachB_iff, reachRB_iff]
  exact ⟨fun h => h.toR hgood hla b (by omega) rfl, fun h => h.toD hgood hla⟩
theorem eqv_ok {N : Int} {es : List Ed} {a b : List Bool} (h : eqvE N es a b = 0) : oE N es a = 0 ∧ oE N es b = 0 ∧ a.length ≤ 12 := by
  unfold eqvE at h
  split at h
  · rename_i h1; exact absurd h h1
  · rename_i h1
    split at h
    · rename_i h2; exact absurd h h2
    · rename_i h2
      split at h
      · cases h
      · exact ⟨by simpa using h1, by simpa using h2, by omega⟩
end Go.Sand
namespace Go.Proofs.Ytjinjbcdbkgedaa
open Go.Abs Go.Sand

set_option maxRecDepth 100000 in
theorem matches14_law (N : Int) (es : List Ed) (a b : List Bool) : PC Try.prog 3 [G N es, .bo a, .bo b] (.b true) [] := by
  refine PC_of_W cfn3 ?_
  simp -implicitDefEqProofs (disch := omega) [c3, List.getElem?_cons_zero, List.getElem?_cons_succ, wrap_id]
  refine HC_of_PC rfl (fewT_ok N es) ?_
  cases hf : smallG N es 5 8
  · simp -implicitDefEqProofs (disch := omega) [List.getElem?_cons_zero, List.getElem?_cons_succ, wrap_id]
    refine HC_of_PC rfl (awake14_ok) ?_
    simp -implicitDefEqProofs (disch := omega) [List.getElem?_cons_zero, List.getElem?_cons_succ, wrap_id]
    (refine fin0 trivial rfl ?_; simp -implicitDefEqProofs (disch := omega) [List.getElem?_cons_zero, List.getElem?_cons_succ, idx, wrap_id])
  have hel := small_len14 hf (by decide)
  by_cases hla : (100 : Int) < a.length
  · simp -implicitDefEqProofs (disch := omega) [List.getElem?_cons_zero, List.getElem?_cons_succ, wrap_id, hla]
    refine HC_of_PC rfl (awake14_ok) ?_
    simp -implicitDefEqProofs (disch := omega) [List.getElem?_cons_zero, List.getElem?_cons_succ, wrap_id]
    (refine fin0 trivial rfl ?_; simp -implicitDefEqProofs (disch := omega) [List.getElem?_cons_zero, List.getElem?_cons_succ, idx, wrap_id])
  by_cases hlb : (100 : Int) < b.length
  · simp -implicitDefEqProofs (disch := omega) [List.getElem?_cons_zero, List.getElem?_cons_succ, wrap_id, hla, hlb]
    refine HC_of_PC rfl (awake14_ok) ?_
    simp -implicitDefEqProofs (disch := omega) [List.getElem?_cons_zero, List.getElem?_cons_succ, wrap_id]
    (refine fin0 trivial rfl ?_; simp -implicitDefEqProofs (disch := omega) [List.getElem?_cons_zero, List.getElem?_cons_succ, idx, wrap_id])
  have ha1 : a.length ≤ 100 := by omega
  have hb1 : b.length ≤ 100 := by omega
  simp -implicitDefEqProofs (disch := omega) [List.getElem?_cons_zero, List.getElem?_cons_succ, wrap_id, hla, hlb]
  by_cases he : eqvE N es a b = 0
  · obtain ⟨ha, hb, hm⟩ := eqv_ok he
    obtain ⟨n, rfl⟩ := oE_nat ha
    obtain ⟨hg, hea⟩ := oE_ok ha
    obtain ⟨_, heb⟩ := oE_ok hb
    have c1 := aequiv_ok n es a b hel ha hb hm _ reachB_iff
    have c2 := requiv_ok n es a b hel ha hb hm
    rw [reach_same (gcheck_ok hg) hea heb] at c1
    obtain ⟨r, hr⟩ : ∃ r, r = reachRB n es a b := ⟨_, rfl⟩
    rw [← hr] at c1 c2
    refine HC_of_PC rfl (c1) ?_
    simp -implicitDefEqProofs (disch := omega) [List.getElem?_cons_zero, List.getElem?_cons_succ, wrap_id]
    refine HC_of_PC rfl (c2) ?_
    simp -implicitDefEqProofs (disch := omega) [List.getElem?_cons_zero, List.getElem?_cons_succ, wrap_id]
    refine HC_of_PC rfl (awake14_ok) ?_
    simp -implicitDefEqProofs (disch := omega) [List.getElem?_cons_zero, List.getElem?_cons_succ, wrap_id]
    (refine fin0 trivial rfl ?_; simp -implicitDefEqProofs (disch := omega) [List.getElem?_cons_zero, List.getElem?_cons_succ, idx, wrap_id])
  · refine HC_of_PC rfl (aequiv_err N es a b hel ha1 hb1 he) ?_
    simp -implicitDefEqProofs (disch := omega) [List.getElem?_cons_zero, List.getElem?_cons_succ, wrap_id]
    refine HC_of_PC rfl (requiv_err N es a b hel ha1 hb1 he) ?_
    simp -implicitDefEqProofs (disch := omega) [List.getElem?_cons_zero, List.getElem?_cons_succ, wrap_id]
    refine HC_of_PC rfl (awake14_ok) ?_
    simp -implicitDefEqProofs (disch := omega) [List.getElem?_cons_zero, List.getElem?_cons_succ, wrap_id]
    (refine fin0 trivial rfl ?_; simp -implicitDefEqProofs (disch := omega) [List.getElem?_cons_zero, List.getElem?_cons_succ, idx, wrap_id])
end Go.Proofs.Ytjinjbcdbkgedaa
