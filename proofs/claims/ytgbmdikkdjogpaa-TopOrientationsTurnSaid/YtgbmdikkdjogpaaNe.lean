/-
  Contracts: orientations: reversing single edges, directed sets.
-/
import Derived.Test.YtgbmdikkdjogpaaNd
import Derived.Test.YtgbmdikkdjogpaaMrc
set_option linter.unusedSimpArgs false
set_option linter.unusedVariables false
namespace Go.Sand
/-- The errors of a list of different numbers below m. -/
def revErr (m : Int) : List Int → List Int → Int
  | _, [] => 0
  | pre, x :: l => if x < 0 ∨ m ≤ x then 2 else if x ∈ pre then 7 else revErr m (pre ++ [x]) l
theorem revErr_drop (m : Int) (xs : List Int) (k : Nat) (h : k < xs.length) : revErr m (xs.take k) (xs.drop k) = if xs[k] < 0 ∨ m ≤ xs[k] then 2 else if xs[k] ∈ xs.take k then 7 else revErr m (xs.take (k + 1)) (xs.drop (k + 1)) := by
  rw [List.drop_eq_getElem_cons h, revErr, List.take_succ_eq_append_getElem h]
theorem revErr_end (m : Int) (xs : List Int) (k : Nat) (h : xs.length ≤ k) : revErr m (xs.take k) (xs.drop k) = 0 := by
  rw [List.drop_of_length_le h]; rfl
theorem revErr_ok {m : Int} : ∀ {pre l : List Int}, revErr m pre l = 0 → (∀ x ∈ l, 0 ≤ x ∧ x < m) ∧ l.Nodup ∧ ∀ x ∈ l, x ∉ pre
  | pre, [], _ => ⟨fun x h => by simp at h, List.nodup_nil, fun x h => by simp at h⟩
  | pre, x :: l, h => by
    rw [revErr] at h
    split at h
    · cases h
    · rename_i h1
      split at h
      · cases h
      · rename_i h2
        obtain ⟨k1, k2, k3⟩ := revErr_ok h
        refine ⟨fun y hy => ?_, List.nodup_cons.2 ⟨fun hx => k3 x hx (by simp), k2⟩, fun y hy => ?_⟩
        · rcases List.mem_cons.1 hy with rfl | hy
          · omega
          · exact k1 y hy
        · rcases List.mem_cons.1 hy with rfl | hy
          · exact h2
          · exact fun hp => k3 y hy (by simp [hp])
theorem revErr_of {m : Int} : ∀ {pre l : List Int}, (∀ x ∈ l, 0 ≤ x ∧ x < m) → l.Nodup → (∀ x ∈ l, x ∉ pre) → revErr m pre l = 0
  | pre, [], _, _, _ => rfl
  | pre, x :: l, h1, h2, h3 => by
    obtain ⟨n1, n2⟩ := List.nodup_cons.1 h2
    have := h1 x (by simp)
    rw [revErr, if_neg (by omega), if_neg (h3 x (by simp)), revErr_of (fun y hy => h1 y (by simp [hy])) n2 (fun y hy hp => ?_)]
    rcases List.mem_append.1 hp with hp | hp
    · exact h3 y (by simp [hy]) hp
    · simp only [List.mem_singleton] at hp
      subst hp
      exact n1 hy
def flip1 (o : List Bool) (x : Int) : List Bool := o.set x.toNat (!o.getD x.toNat false)
/-- The single edges of a list have the other direction. -/
def flipL (o : List Bool) (set : List Int) : List Bool := set.foldl flip1 o
theorem flip1_len (o : List Bool) (x : Int) : (flip1 o x).length = o.length := by simp [flip1]
theorem flipL_len (o : List Bool) (set : List Int) : (flipL o set).length = o.length := by
  induction set generalizing o with
  | nil => rfl
  | cons x l ih => exact (ih (flip1 o x)).trans (flip1_len o x)
theorem flipL_take (o : List Bool) (set : List Int) (k : Nat) (h : k < set.length) : flipL o (set.take (k + 1)) = flip1 (flipL o (set.take k)) set[k] := by
  rw [List.take_succ_eq_append_getElem h, flipL, List.foldl_append]; rfl
theorem getDB_get {s : List Bool} {k : Nat} (h : k < s.length) : s.getD k false = s[k] := by simp [List.getD, h]
def rvE (N : Int) (es : List Ed) (o : List Bool) (set : List Int) : Int := if oE N es o ≠ 0 then oE N es o else revErr o.length [] set
end Go.Sand
namespace Go.Proofs.Ytgbmdikkdjogpaa
open Go.Abs Go.Sand

theorem cloneB_ok (xs : List Bool) (hx : xs.length ≤ 1000000) : PC Try.prog 24 [.bo xs] (.os 0 0 xs.length) [rowB xs] := by
  refine PC_of_W cfn24 ?_
  simp -implicitDefEqProofs (disch := omega) [c24, List.getElem?_cons_zero, List.getElem?_cons_succ, wrap_id, stepK_eqn, eqnP]
  have hx' : xs.length ≤ 1048576 := by omega
  refine ⟨?_, ?_⟩
  · rintro rfl
    simp -implicitDefEqProofs (disch := omega) [List.getElem?_cons_zero, List.getElem?_cons_succ, wrap_id]
    refine finW (Wk_nil 2 1 4 rfl) ?_
    exact fin1 [0] trivial rfl rfl ⟨rfl, rfl⟩
  · simp -implicitDefEqProofs (disch := omega) [List.getElem?_cons_zero, List.getElem?_cons_succ, wrap_id, hx']
    exact fin1 [0] trivial rfl rfl ⟨rfl, rfl⟩
theorem areverse_ok (N : Int) (es : List Ed) (o : List Bool) (set : List Int) (hel : es.length ≤ 1000) (ho : o.length ≤ 100) (hsl : set.length ≤ 1000) (h : rvE N es o set = 0) :
    PC Try.prog 8 [G N es, .bo o, .is set] (.tup [.os 0 0 o.length, .i 0]) [rowB (flipL o set)] := by
  have h0 : oE N es o = 0 := by
    by_cases h0 : oE N es o = 0
    · exact h0
    · rw [rvE, if_pos h0] at h; exact absurd h h0
  have hr : revErr o.length [] set = 0 := by rw [rvE, if_neg (by simp [h0])] at h; exact h
  obtain ⟨hs, _, _⟩ := revErr_ok hr
  refine PC_of_W cfn8 ?_
  simp -implicitDefEqProofs (disch := omega) [c8, List.getElem?_cons_zero, List.getElem?_cons_succ, wrap_id]
  refine HC_of_PC rfl (ocheck_ok N es o hel (by omega)) ?_
  simp -implicitDefEqProofs (disch := omega) [List.getElem?_cons_zero, List.getElem?_cons_succ, wrap_id, h0]
  refine loopW set.length (fun k s => s = ⟨[(22, .i k), (21, .i set.length), (20, .p (.is set)), (1, .p (.bo o)), (2, .p (.is set))], []⟩ ∧ revErr o.length (set.take k) (set.drop k) = 0) (wk_norm [] [22, 21, 20, 1, 2] rfl rfl) ⟨rfl, hr⟩ ?_
  rintro k s hk ⟨rfl, hI⟩
  by_cases hlt : k < set.length
  · have hd := revErr_drop o.length set k hlt
    have h1 := hs _ (List.getElem_mem hlt)
    have h1a : ¬ set[k] < 0 := by omega
    have h1b : ¬ (o.length : Int) ≤ set[k] := by omega
    rw [if_neg (by omega)] at hd
    by_cases hm : set[k] ∈ set.take k
    · rw [if_pos hm, hI] at hd; cases hd
    · rw [if_neg hm] at hd
      have hkk : k ≤ set.length := hk
      simp -implicitDefEqProofs (disch := omega) [List.getElem?_cons_zero, List.getElem?_cons_succ, wrap_id, hlt, h1a, h1b, hkk]
      refine HC_of_PC (by simp [views, view, viewC]) (contains_ok (set.take k) set[k] (by rw [List.length_take]; omega)) ?_
      simp -implicitDefEqProofs (disch := omega) [List.getElem?_cons_zero, List.getElem?_cons_succ, wrap_id, hm]
      exact round_end [] [22, 21, 20, 1, 2] hlt rfl ⟨rfl, by rw [← hd]; exact hI⟩
  · simp -implicitDefEqProofs (disch := omega) [List.getElem?_cons_zero, List.getElem?_cons_succ, wrap_id, hlt]
    refine HC_of_PC rfl (cloneB_ok o (by omega)) ?_
    simp -implicitDefEqProofs (disch := omega) [List.getElem?_cons_zero, List.getElem?_cons_succ, wrap_id]
    refine loopW set.length (fun k s => s = ⟨[(45, .i k), (44, .i set.length), (43, .p (.is set)), (11, .os 0 0 o.length)], [rowB (flipL o (set.take k))]⟩) (wk_norm [0] [45, 44, 43, 11] rfl rfl) rfl ?_
    rintro k s hk rfl
    by_cases hlt : k < set.length
    · have h1 := hs _ (List.getElem_mem hlt)
      have hf := flipL_take o set k hlt
      have hl := flipL_len o (set.take k)
      obtain ⟨u, hu⟩ : ∃ u : Nat, set[k] = u := ⟨(set[k]).toNat, by omega⟩
      obtain ⟨D, hD⟩ : ∃ D, D = flipL o (set.take k) := ⟨_, rfl⟩
      rw [← hD] at hf hl ⊢
      rw [hu] at hf
      have huD : u < D.length := by omega
      have huo : u < o.length := by omega
      rw [flip1, Int.toNat_natCast, getDB_get huD] at hf
      simp -implicitDefEqProofs (disch := omega) [List.getElem?_cons_zero, List.getElem?_cons_succ, wrap_id, hlt, hu, hl, huD, huo]
      exact round_end [0] [45, 44, 43, 11] hlt rfl (by rw [hf, rowB, List.map_set]; rfl)
    · have hke : k = set.length := by omega
      subst hke
      rw [List.take_length]
      simp -implicitDefEqProofs (disch := omega) [List.getElem?_cons_zero, List.getElem?_cons_succ, wrap_id]
      exact fin1 [0] trivial rfl (by rfl) ⟨rfl, rfl⟩
theorem areverse_err (N : Int) (es : List Ed) (o : List Bool) (set : List Int) (hel : es.length ≤ 1000) (ho : o.length ≤ 100) (hsl : set.length ≤ 1000) (h : rvE N es o set ≠ 0) :
    PC Try.prog 8 [G N es, .bo o, .is set] (.tup [.p (.is []), .i (rvE N es o set)]) [] := by
  refine PC_of_W cfn8 ?_
  simp -implicitDefEqProofs (disch := omega) [c8, List.getElem?_cons_zero, List.getElem?_cons_succ, wrap_id]
  refine HC_of_PC rfl (ocheck_ok N es o hel (by omega)) ?_
  by_cases h0 : oE N es o = 0
  rotate_left
  · simp -implicitDefEqProofs (disch := omega) [List.getElem?_cons_zero, List.getElem?_cons_succ, wrap_id, h0]
    refine finW (Wk_nil0 6 rfl) ?_
    (refine fin0 trivial rfl ?_; simp -implicitDefEqProofs (disch := omega) [List.getElem?_cons_zero, List.getElem?_cons_succ, idx, wrap_id, rvE, h0])
  have hr : rvE N es o set = revErr o.length [] set := by rw [rvE, if_neg (by simp [h0])]
  rw [hr] at h ⊢
  simp -implicitDefEqProofs (disch := omega) [List.getElem?_cons_zero, List.getElem?_cons_succ, wrap_id, h0]
  refine loopW set.length (fun k s => s = ⟨[(22, .i k), (21, .i set.length), (20, .p (.is set)), (1, .p (.bo o)), (2, .p (.is set)), (6, .p .nil)], []⟩ ∧ revErr o.length [] set = revErr o.length (set.take k) (set.drop k)) (wk_norm [] [22, 21, 20, 1, 2, 6] rfl rfl) ⟨rfl, rfl⟩ ?_
  rintro k s hk ⟨rfl, hI⟩
  by_cases hlt : k < set.length
  · have hd := revErr_drop o.length set k hlt
    by_cases h1 : set[k] < 0
    · rw [if_pos (.inl h1)] at hd
      simp -implicitDefEqProofs (disch := omega) [List.getElem?_cons_zero, List.getElem?_cons_succ, wrap_id, hlt, h1]
      refine finW (Wk_nil0 6 rfl) ?_
      (refine fin0 trivial rfl ?_; simp -implicitDefEqProofs (disch := omega) [List.getElem?_cons_zero, List.getElem?_cons_succ, idx, wrap_id, hI, hd])
    · by_cases h2 : (o.length : Int) ≤ set[k]
      · rw [if_pos (.inr h2)] at hd
        simp -implicitDefEqProofs (disch := omega) [List.getElem?_cons_zero, List.getElem?_cons_succ, wrap_id, hlt, h1, h2]
        refine finW (Wk_nil0 6 rfl) ?_
        (refine fin0 trivial rfl ?_; simp -implicitDefEqProofs (disch := omega) [List.getElem?_cons_zero, List.getElem?_cons_succ, idx, wrap_id, hI, hd])
      · rw [if_neg (by omega)] at hd
        have hkk : k ≤ set.length := hk
        simp -implicitDefEqProofs (disch := omega) [List.getElem?_cons_zero, List.getElem?_cons_succ, wrap_id, hlt, h1, h2, hkk]
        refine HC_of_PC (by simp [views, view, viewC]) (contains_ok (set.take k) set[k] (by rw [List.length_take]; omega)) ?_
        by_cases hm : set[k] ∈ set.take k
        · rw [if_pos hm] at hd
          simp -implicitDefEqProofs (disch := omega) [List.getElem?_cons_zero, List.getElem?_cons_succ, wrap_id, hm]
          refine finW (Wk_nil0 6 rfl) ?_
          (refine fin0 trivial rfl ?_; simp -implicitDefEqProofs (disch := omega) [List.getElem?_cons_zero, List.getElem?_cons_succ, idx, wrap_id, hI, hd])
        · rw [if_neg hm] at hd
          simp -implicitDefEqProofs (disch := omega) [List.getElem?_cons_zero, List.getElem?_cons_succ, wrap_id, hm]
          exact round_end [] [22, 21, 20, 1, 2, 6] hlt rfl ⟨rfl, by rw [hI, hd]⟩
  · rw [revErr_end _ _ _ (by omega)] at hI
    exact absurd hI h
end Go.Proofs.Ytgbmdikkdjogpaa
