/-
  Contracts: orientations are looked through, class by class.
-/
import Derived.Test.YtjinjbcdbkgedaaNt
set_option linter.unusedSimpArgs false
set_option linter.unusedVariables false
namespace Go.Sand
/-- The set of marks of a number. -/
def setM (n k : Nat) : List Bool := (List.range n).map fun v => decide (Go.Abs.bitN k v = 1)
/-- The set of marks of a number while it is made. -/
def setJ (n k j : Nat) : List Bool := (List.range n).map fun v => decide (v < j ∧ Go.Abs.bitN k v = 1)
theorem setJ_len (n k j : Nat) : (setJ n k j).length = n := by simp [setJ]
theorem setJ_zero (n k : Nat) : setJ n k 0 = List.replicate n false := by
  apply List.ext_getElem?
  intro i
  by_cases h : i < n <;> simp [setJ, h]
theorem setJ_end (n k : Nat) : setJ n k n = setM n k := by
  refine List.map_congr_left fun v hv => ?_
  have := List.mem_range.1 hv
  simp [this]
theorem setJ_set {n k j : Nat} (h : j < n) : (setJ n k j).set j (decide (Go.Abs.bitN k j = 1)) = setJ n k (j + 1) := by
  apply List.ext_getElem?
  intro i
  rw [List.getElem?_set]
  simp only [setJ, List.length_map, List.length_range, h, if_true, List.getElem?_map]
  by_cases hi : i < n
  · rw [List.getElem?_range hi]
    by_cases e : j = i
    · subst e; simp
    · rw [if_neg e]
      simp only [Option.map_some, Option.some.injEq]
      rw [decide_eq_decide]
      constructor
      · rintro ⟨a, b⟩; exact ⟨by omega, b⟩
      · rintro ⟨a, b⟩; exact ⟨by omega, b⟩
  · rw [List.getElem?_eq_none (by simpa using hi), if_neg (by omega)]; rfl
theorem setM_len (n k : Nat) : (setM n k).length = n := by simp [setM]
theorem setM_at {n k v : Nat} (h : v < (setM n k).length) : (setM n k)[v] = decide (Go.Abs.bitN k v = 1) := by simp [setM]
def setsK (n k : Nat) : List (List Bool) := (List.range k).map (setM n)
theorem setsK_succ (n k : Nat) : setsK n (k + 1) = setsK n k ++ [setM n k] := by simp [setsK, List.range_succ]
theorem setsK_len (n k : Nat) : (setsK n k).length = k := by simp [setsK]
theorem setsK_at {n k j : Nat} (h : j < (setsK n k).length) : (setsK n k)[j] = setM n j := by simp [setsK]
/-- One step: a directed cut is reversed. -/
def StepD (n m : Nat) (es : List Ed) (d d' : List Int) : Prop := ∃ o : List Bool, o.length = m ∧ inL n es o = d ∧ ∃ j, j < 2 ^ n ∧ wayP (mkB (setM n j)) es o ≠ 0 ∧ inL n es (turnL es (setM n j) o) = d'
inductive ReachD (n m : Nat) (es : List Ed) (a : List Int) : List Int → Prop
  | refl : ReachD n m es a a
  | step {d d' : List Int} (h : ReachD n m es a d) (s : StepD n m es d d') : ReachD n m es a d'
end Go.Sand
namespace Go.Proofs.Ytjinjbcdbkgedaa
open Go.Abs Go.Sand

abbrev rowS (l : List (List Int)) : AO := .row (l.map PV.st) 1 9 false
def seenD (S : List (List Int)) : List (KV × AV) := S.map fun d => (.ks (dk d), .p (.v (.bool true)))
theorem seenD_ren (S : List (List Int)) (H : List AO) (ρ : Nat → Option Nat) : (seenD S).map (fun x => (x.1, x.2.ren H ρ)) = seenD S := by
  simp only [seenD, List.map_map]
  refine List.map_congr_left fun x _ => ?_
  simp [AV.ren]
theorem alF_ren (L : Cls) (H : List AO) (ρ : Nat → Option Nat) : (alF L).map (fun x => (x.1, x.2.ren H ρ)) = alF L := by
  simp only [alF, List.map_map]
  refine List.map_congr_left fun x _ => ?_
  simp [AV.ren]
theorem renL_app (H : List AO) (ρ : Nat → Option Nat) (a b : List AV) : renL H ρ (a ++ b) = renL H ρ a ++ renL H ρ b := by simp [renL_eq]
theorem read_at {l : List (List Bool)} {t : TypeId} {fz : Bool} {n o : Nat} {H : List AO} {ρ : Nat → Option Nat} (ho : H[o]? = some (.tab (l.map fun o => AV.p (.bo o)) t fz)) (hρ : ρ o = none) (hn : n = l.length) : AV.ren H ρ (.os o 0 n) = .p (.bos l) := by
  have hp : ∀ x ∈ (l.map PV.bo).map AV.p, ∃ q, x = .p q := fun x hx => by obtain ⟨q, _, rfl⟩ := List.mem_map.1 hx; exact ⟨q, rfl⟩
  have h1 : ∀ e ∈ l.map PV.bo, e.one = true := fun e he => by obtain ⟨o, _, rfl⟩ := List.mem_map.1 he; rfl
  have e1 : (l.map fun o => AV.p (.bo o)) = (l.map PV.bo).map AV.p := by rw [List.map_map]; rfl
  subst hn
  rw [AV.ren]
  simp only [hρ, ho, e1, ren0_ps hp, allOne_ps _ h1, Nat.zero_add, List.length_map, if_true, List.drop_zero]
theorem seenD_none {S : List (List Int)} (hS : ∀ x ∈ S, ∀ y ∈ x, 0 ≤ y ∧ y < 256) {d : List Int} (hd : ∀ y ∈ d, 0 ≤ y ∧ y < 256) (h : d ∉ S) : dIdx (.ks (dk d)) (seenD S) = none := by
  cases hi : dIdx (.ks (dk d)) (seenD S) with
  | none => rfl
  | some i =>
    obtain ⟨x, hx, rfl⟩ := (dIdx_map (fun d => (.ks (dk d), .p (.v (.bool true)))) (fun d => d) (fun _ => rfl) hd hS i).1 hi
    exact absurd (List.mem_of_getElem? hx) h
theorem seenD_some {S : List (List Int)} (hS : ∀ x ∈ S, ∀ y ∈ x, 0 ≤ y ∧ y < 256) {d : List Int} (hd : ∀ y ∈ d, 0 ≤ y ∧ y < 256) (h : d ∈ S) : ∃ i, dIdx (.ks (dk d)) (seenD S) = some i ∧ ∃ x, (seenD S)[i]? = some (x, .p (.v (.bool true))) := by
  cases hi : dIdx (.ks (dk d)) (seenD S) with
  | none => exact absurd rfl ((dIdx_map (fun d => (.ks (dk d), .p (.v (.bool true)))) (fun d => d) (fun _ => rfl) hd hS 0).2 hi d h)
  | some i =>
    obtain ⟨x, hx, _⟩ := (dIdx_map (fun d => (.ks (dk d), .p (.v (.bool true)))) (fun d => d) (fun _ => rfl) hd hS i).1 hi
    exact ⟨i, rfl, .ks (dk x), by simp [seenD, hx]⟩
theorem seenD_snoc (S : List (List Int)) (d : List Int) : seenD (S ++ [d]) = seenD S ++ [(.ks (dk d), .p (.v (.bool true)))] := by simp [seenD]
theorem ones_S (l : List (List Int)) : (l.map PV.st).all (·.one) = true := by simp [List.all_map]
/-- The objects while classes are looked through. -/
abbrev bfH (N : Int) (es : List Ed) (AL : Cls) (rw_ sn : List (List Int)) : List AO := [.box (.p (G N es)), .dict .str (alF AL), .box (.mp 1), rowS rw_, .dict .str (seenD sn)]
theorem norm_bf {N : Int} {es : List Ed} {AL : Cls} {rw_ sn : List (List Int)} {keep : List Nat} {T : List (Nat × AV)} {Hr : List AO} : norm [0, 1, 2, 3, 4] keep ⟨T, .box (.p (G N es)) :: .dict .str (alF AL) :: .box (.mp 1) :: rowS rw_ :: .dict .str (seenD sn) :: Hr⟩ =
    ⟨keep.map fun i => (i, (Abs.get T i).ren (.box (.p (G N es)) :: .dict .str (alF AL) :: .box (.mp 1) :: rowS rw_ :: .dict .str (seenD sn) :: Hr) (Abs.idx [0, 1, 2, 3, 4] 0)), bfH N es AL rw_ sn⟩ := by
  simp [norm, AO.ren, alF_ren, seenD_ren, AV.ren, Abs.idx]
theorem norm_bfT {N : Int} {es : List Ed} {AL : Cls} {rw_ sn : List (List Int)} {l : List (List Bool)} {keep : List Nat} {T : List (Nat × AV)} {Hr : List AO} : norm [0, 1, 2, 3, 4, 5] keep ⟨T, .box (.p (G N es)) :: .dict .str (alF AL) :: .box (.mp 1) :: rowS rw_ :: .dict .str (seenD sn) :: .tab (l.map fun o => .p (.bo o)) 25 false :: Hr⟩ =
    ⟨keep.map fun i => (i, (Abs.get T i).ren (.box (.p (G N es)) :: .dict .str (alF AL) :: .box (.mp 1) :: rowS rw_ :: .dict .str (seenD sn) :: .tab (l.map fun o => .p (.bo o)) 25 false :: Hr) (Abs.idx [0, 1, 2, 3, 4, 5] 0)), bfH N es AL rw_ sn ++ [.tab (l.map fun o => .p (.bo o)) 25 false]⟩ := by
  simp [norm, AO.ren, alF_ren, seenD_ren, AV.ren, Abs.idx, renL_bos]
theorem norm_bfU {N : Int} {es : List Ed} {AL : Cls} {rw_ sn : List (List Int)} {l : List (List Bool)} {b : List Bool} {n : Nat} (hb : b.length = n) {keep : List Nat} {T : List (Nat × AV)} {Hr : List AO} : norm [0, 1, 2, 3, 4, 5] keep ⟨T, .box (.p (G N es)) :: .dict .str (alF AL) :: .box (.mp 1) :: rowS rw_ :: .dict .str (seenD sn) :: .tab ((l.map fun o => .p (.bo o)) ++ [.os 6 0 n]) 25 false :: rowB b :: Hr⟩ =
    ⟨keep.map fun i => (i, (Abs.get T i).ren (.box (.p (G N es)) :: .dict .str (alF AL) :: .box (.mp 1) :: rowS rw_ :: .dict .str (seenD sn) :: .tab ((l.map fun o => .p (.bo o)) ++ [.os 6 0 n]) 25 false :: rowB b :: Hr) (Abs.idx [0, 1, 2, 3, 4, 5] 0)), bfH N es AL rw_ sn ++ [.tab ((l ++ [b]).map fun o => .p (.bo o)) 25 false]⟩ := by
  simp [norm, AO.ren, alF_ren, seenD_ren, AV.ren, Abs.idx, renL_app, renL_bos, renL, hb]
end Go.Proofs.Ytjinjbcdbkgedaa
