/-
  Texts joined: Ws Wq.
-/
import Derived.Test.YtamiekhoaggpkaaKa30

section
set_option linter.unusedSimpArgs false
set_option linter.unusedVariables false
namespace Go.Proofs.Ytamiekhoaggpkaa
open Go.Abs Go.Sand
section
variable (n : Nat) (es : List Ed) (d : List Int)
def snF : Nat → Nat → Option (Nat × Nat)
  | 0, _ => none
  | f + 1, k => match fstC n es d k with
    | some i => some (k, i)
    | none => snF f (k + 1)
theorem snF_succ (f k : Nat) : snF n es d (f + 1) k = match fstC n es d k with
    | some i => some (k, i)
    | none => snF n es d f (k + 1) := rfl
def cL (k : Nat) : List (List Int) := (List.range k).map fun i => rdC n es (-1) d i
def tbC (k : Nat) : List AV := (List.range k).map fun i => AV.p (.is (rdC n es (-1) d i))
def frC (k : Nat) : List Int := (List.range k).map fun i => ((rdyL n es (-1) (rdC n es (-1) d i)).length : Int)
end
theorem tbC_len (n : Nat) (es : List Ed) (d : List Int) (k : Nat) : (tbC n es d k).length = k := by simp [tbC]
theorem frC_len (n : Nat) (es : List Ed) (d : List Int) (k : Nat) : (frC n es d k).length = k := by simp [frC]
theorem tbC_succ (n : Nat) (es : List Ed) (d : List Int) (k : Nat) : tbC n es d (k + 1) = tbC n es d k ++ [.p (.is (rdC n es (-1) d k))] := by simp [tbC, List.range_succ]
theorem frC_succ (n : Nat) (es : List Ed) (d : List Int) (k : Nat) : frC n es d (k + 1) = frC n es d k ++ [((rdyL n es (-1) (rdC n es (-1) d k)).length : Int)] := by simp [frC, List.range_succ]
theorem tbC_lo (n : Nat) (es : List Ed) (d : List Int) (k m : Nat) : loL m (tbC n es d k) = true := by
  have : ∀ l : List Nat, loL m (l.map fun i => AV.p (.is (rdC n es (-1) d i))) = true := by
    intro l
    induction l with
    | nil => rfl
    | cons x l ih => simp [loL, loA, ih]
  exact this _
theorem tbC_ren {n : Nat} {es : List Ed} {d : List Int} {k o : Nat} {H : List AO} {ρ : Nat → Option Nat} {t : TypeId} {fz : Bool} (ho : H[o]? = some (.tab (tbC n es d k) t fz)) (hρ : ρ o = none) : (AV.os o 0 k).ren H ρ = .p (.iss (cL n es d k)) := by
  have h0 : ∀ l : List Nat, allP ((l.map fun i => AV.p (.is (rdC n es (-1) d i))).map (ren0 H ρ)) = some ((l.map fun i => rdC n es (-1) d i).map PV.is) := by
    intro l
    induction l with
    | nil => rfl
    | cons x l ih =>
      rw [List.map_cons, List.map_cons]
      show (allP _).map _ = _
      rw [ih]; rfl
  have h1 : ∀ l : List Nat, allOne ((l.map fun i => AV.p (.is (rdC n es (-1) d i))).map (ren0 H ρ)) = some ((l.map fun i => rdC n es (-1) d i).map PV.is) := by
    intro l
    unfold allOne
    rw [h0]
    show (if _ then _ else _) = _
    rw [if_pos]
    rw [List.all_eq_true]
    intro x hx
    obtain ⟨y, -, rfl⟩ := List.mem_map.1 hx
    rfl
  rw [AV.ren, hρ]
  simp only [ho, tbC_len, Nat.zero_add, if_true, List.drop_zero]
  rw [tbC, h1]
  rfl
def SnI (n : Nat) (es : List Ed) (d : List Int) (k : Nat) : Prop := k ≤ 4096 ∧ snF n es d (4096 - k) k = snF n es d 4096 0
section
variable {n : Nat} {es : List Ed} (hg : GoodG n es) {d : List Int} (hd : d.length = n) (hdb : Bd 1000000000 d) (hel : es.length ≤ 900)
include hg hd hdb hel
set_option maxRecDepth 10000 in
set_option maxHeartbeats 1000000 in
theorem seen_ok (r : AV) (hr1 : ∀ k i, snF n es d 4096 0 = some (k, i) → r = .tup [.p (.iss (cL n es d (k + 1))), .p (.is (frC n es d (k + 1))), .i i, .b true])
    (hr2 : snF n es d 4096 0 = none → r = .tup [.p .nil, .p .nil, .i 0, .b false]) : PC Try.prog 60 [G n es, .is d] r [] := by
  have hn := hg.n12
  have hbd : ∀ k : Nat, k ≤ 5000 → Bd 100000000000 (rdC n es (-1) d k) := fun k hk => (rdC_bd hg hd hdb (by omega) k).more (by omega)
  refine PC_of_W cfn60 ?_
  simp -implicitDefEqProofs (disch := omega) [c60, List.getElem?_cons_zero, List.getElem?_cons_succ, wrap_id]
  refine HC_of_PC rfl (rows_ok n es hel hg) ?_
  simp -implicitDefEqProofs (disch := omega) [List.getElem?_cons_zero, List.getElem?_cons_succ, wrap_id]
  refine HC_of_PC rfl (valences_ok n es hel hg) ?_
  simp -implicitDefEqProofs (disch := omega) [List.getElem?_cons_zero, List.getElem?_cons_succ, wrap_id]
  have hT0 : [AV.p (PV.is d)] = tbC n es d 1 := by
    simp only [tbC, List.range_succ, List.range_zero, List.nil_append, List.map_cons, List.map_nil]
    rw [rdC_zero hg hd]
  refine loopW 4096 (fun k st => SnI n es d k ∧ st = ⟨[(11, .os 2 0 k), (10, .os 1 0 (k + 1)), (9, .p (.is (valsL n es))), (8, .p (.iss (rowsL n es)))],
      [.box (.p (G n es)), .tab (tbC n es d (k + 1)) 26 false, rowI (frC n es d k)]⟩)
    ((Wk_nil 11 1 3 rfl).trans (Wk_keep [11, 10, 9, 8])) ⟨⟨Nat.zero_le _, rfl⟩, by rw [← hT0]; rfl⟩ ?_
  rintro k st hk ⟨⟨hI1, hI2⟩, rfl⟩
  have htl := tbC_len n es d (k + 1)
  have hfl := frC_len n es d k
  by_cases hk4 : k < 4096
  rotate_left
  · have hkk : k = 4096 := by omega
    subst hkk
    have hr := hr2 (by rw [← hI2]; rfl)
    simp -implicitDefEqProofs (disch := omega) [List.getElem?_cons_zero, List.getElem?_cons_succ, wrap_id, htl]
    (refine fin0 trivial rfl ?_; simp -implicitDefEqProofs (disch := omega) [List.getElem?_cons_zero, List.getElem?_cons_succ, idx, wrap_id, hr])
  have hk5 : (k : Int) + 1 ≤ 4096 := by omega
  obtain ⟨g, hg'⟩ : ∃ g, 4096 - k = g + 1 := ⟨4095 - k, by omega⟩
  rw [hg', snF_succ] at hI2
  have hcl := rdC_len (q := -1) (es := es) hd k
  have hcl1 := rdC_len (q := -1) (es := es) hd (k + 1)
  have hfd := rfired_ok hg hcl (hbd k (by omega)) _ (rdyL_12 hg (q := -1) (rdC n es (-1) d k)) (rdyL_lt _)
  rw [← rdC_succ hg hd] at hfd
  have hTk : ∀ h, (tbC n es d (k + 1))[k]'h = .p (.is (rdC n es (-1) d k)) := fun h => by simp [tbC]
  have hk6 : k ≤ 1048575 := by omega
  have hk7 : ¬ (k : Int) + 1 - 1 < 0 := by omega
  have hfs := frC_succ n es d k
  simp -implicitDefEqProofs (disch := omega) [List.getElem?_cons_zero, List.getElem?_cons_succ, wrap_id, hk5, htl, hTk]
  refine HC_of_PC rfl (rready_ok hg hcl) ?_
  simp -implicitDefEqProofs (disch := omega) [List.getElem?_cons_zero, List.getElem?_cons_succ, wrap_id]
  refine HC_of_PC rfl (hfd) ?_
  simp -implicitDefEqProofs (disch := omega) [List.getElem?_cons_zero, List.getElem?_cons_succ, wrap_id, hfl, hk6]
  refine loopW (k + 1) (fun i st => st = ⟨[(15, .i i), (14, .p (.is (rdC n es (-1) d (k + 1)))), (11, .os 2 0 (k + 1)), (10, .os 1 0 (k + 1)), (9, .p (.is (valsL n es))), (8, .p (.iss (rowsL n es)))],
      [.box (.p (G n es)), .tab (tbC n es d (k + 1)) 26 false, rowI (frC n es d (k + 1))]⟩ ∧ ∀ j, j < i → rdC n es (-1) d j ≠ rdC n es (-1) d (k + 1))
    (Wk_pop 3 [15, 14, 11, 10, 9, 8] (by omega) (by simp) (H' := [.box (.p (G n es)), .tab (tbC n es d (k + 1)) 26 false, rowI (frC n es d (k + 1))]) (by rw [hfs, rowI, List.map_append]; rfl) ?_ ?_) ⟨rfl, fun j hj => by omega⟩ ?_
  · intro i hi
    simp only [List.mem_cons, List.not_mem_nil, or_false] at hi
    rcases hi with rfl | rfl | rfl | rfl | rfl | rfl <;> simp [Abs.get, loA]
  · intro ob hob
    simp only [List.mem_cons, List.not_mem_nil, or_false] at hob
    rcases hob with rfl | rfl | rfl
    · rfl
    · exact tbC_lo _ _ _ _ _
    · rfl
  rintro i st hi ⟨rfl, hne⟩
  have hfl1 := frC_len n es d (k + 1)
  by_cases hik : i < k + 1
  · have hTi : ∀ h, (tbC n es d (k + 1))[i]'h = .p (.is (rdC n es (-1) d i)) := fun h => by simp [tbC]
    have hci := rdC_len (q := -1) (es := es) hd i
    have hsm := same_ok (rdC n es (-1) d i) (rdC n es (-1) d (k + 1)) (by omega)
    have hik' : (i : Int) < (k : Int) + 1 := by omega
    by_cases he : rdC n es (-1) d i = rdC n es (-1) d (k + 1)
    · have hF := fstC_at (by omega) he hne
      rw [hF] at hI2
      have hr := hr1 k i hI2.symm
      rw [decide_eq_true he] at hsm
      simp -implicitDefEqProofs (disch := omega) [List.getElem?_cons_zero, List.getElem?_cons_succ, wrap_id, hik, hik', htl, hTi]
      refine HC_of_PC rfl (hsm) ?_
      simp -implicitDefEqProofs (disch := omega) [List.getElem?_cons_zero, List.getElem?_cons_succ, wrap_id]
      refine fin0 trivial rfl ?_
      have hren : AV.ren [AO.box (AV.p (G n es)), AO.tab (tbC n es d (k + 1)) 26 false, rowI (frC n es d (k + 1))] (Abs.idx [] 0) (.os 1 0 (k + 1)) = .p (.iss (cL n es d (k + 1))) := tbC_ren rfl rfl
      have hren2 : AV.ren [AO.box (AV.p (G n es)), AO.tab (tbC n es d (k + 1)) 26 false, rowI (frC n es d (k + 1))] (fun _ => none) (.os 1 0 (k + 1)) = .p (.iss (cL n es d (k + 1))) := tbC_ren rfl rfl
      rw [hr]
      simp -implicitDefEqProofs [List.getElem?_cons_zero, List.getElem?_cons_succ, Abs.idx, ↓hren, ↓hren2, hfl1]
    · rw [decide_eq_false he] at hsm
      simp -implicitDefEqProofs (disch := omega) [List.getElem?_cons_zero, List.getElem?_cons_succ, wrap_id, hik, hik', htl, hTi]
      refine HC_of_PC rfl (hsm) ?_
      simp -implicitDefEqProofs (disch := omega) [List.getElem?_cons_zero, List.getElem?_cons_succ, wrap_id]
      exact round_keep [15, 14, 11, 10, 9, 8] hik ⟨by simp [Abs.get], fun j hj => by
        rcases Nat.lt_or_ge j i with h | h
        · exact hne j h
        · have e : j = i := by omega
          subst e; exact he⟩
  · have hik2 : i = k + 1 := by omega
    subst hik2
    have hik' : ¬ ((k + 1 : Nat) : Int) < (k : Int) + 1 := by omega
    have hF := fstC_no (n := n) (es := es) (d := d) (k := k) fun j hj => hne j (by omega)
    rw [hF] at hI2
    have hts := tbC_succ n es d (k + 1)
    have hk8 : k ≤ 1048574 := by omega
    simp -implicitDefEqProofs (disch := omega) [List.getElem?_cons_zero, List.getElem?_cons_succ, wrap_id, hik', htl, hk8]
    refine round_end' (by omega) (Wk_pop 3 [11, 10, 9, 8] (by omega) (by simp) (H' := [.box (.p (G n es)), .tab (tbC n es d (k + 1 + 1)) 26 false, rowI (frC n es d (k + 1))]) (by rw [hts]; rfl) ?_ ?_) (by exact ⟨⟨by omega, by rw [← hI2]; congr 1; omega⟩, by simp [Abs.get]⟩)
    · intro i hi
      simp only [List.mem_cons, List.not_mem_nil, or_false] at hi
      rcases hi with rfl | rfl | rfl | rfl <;> simp [Abs.get, loA]
    · intro ob hob
      simp only [List.mem_cons, List.not_mem_nil, or_false] at hob
      rcases hob with rfl | rfl | rfl
      · rfl
      · exact tbC_lo _ _ _ _ _
      · rfl
end
end Go.Proofs.Ytamiekhoaggpkaa
end
section
set_option linter.unusedSimpArgs false
set_option linter.unusedVariables false
namespace Go.Proofs.Ytamiekhoaggpkaa
open Go.Abs Go.Sand
/-- The graph of cuts in a round of Play. -/
noncomputable def playD : List ADN := (dagOf ra23_0c).getD []
/-- What stands in the memory in a round of Play. -/
def pgQ (n : Nat) (es : List Ed) (c2 : List Int) (ents : List (KV × AV)) (k f : Int) (lo : AO) : List AO :=
  [.box (.p (.agg [PV.i n, PV.sl (es.map edP)])), .box (.p (.agg [.i 0, .i 0, .i 0, .b false])), .box (.p (.i 0)), .box (.fn (.func 58) [] []), .dict (.arr 12) ents, .box (.mp 4), .box (.i k), .box (.i f),
   .box (.agg [.p (.is (valsL n es)), .p (.iss (rowsL n es)), .i (-1)]), .box (.ptr 8 1 0 0), .box (.p (.is c2)), lo]
section
variable (n : Nat) (es : List Ed) (c2 : List Int) (ents : List (KV × AV)) (k f : Int) (lo : AO)
@[simp] abbrev pgT (l : List (Nat × AV)) : List (Nat × AV) := ((7, AV.ptr 3 1 0 0) :: (8, AV.ptr 5 1 0 0) :: (9, AV.ptr 6 1 0 0) :: (10, AV.ptr 7 1 0 0) :: (12, AV.p (PV.is c2)) :: l)
@[simp] abbrev pgo63 : AOper := (AOper.mk (some 63) (.load false 1 (.tmp 8)) none)
@[simp] abbrev pgo64 : AOper := (AOper.mk (some 64) (.load false 1 (.tmp 7)) none)
@[simp] abbrev pgo65 : AOper := (AOper.mk (some 65) (.mov (.tmp 12)) none)
@[simp] abbrev pgo66 : AOper := (AOper.mk (some 66) (.callv (.tmp 64) [.tmp 65]) none)
@[simp] abbrev pgo67 : AOper := (AOper.mk (some 67) (.load false 1 (.tmp 9)) none)
@[simp] abbrev pgo68 : AOper := (AOper.mk (some 68) (.load false 1 (.tmp 10)) none)
@[simp] abbrev pgo69 : AOper := (AOper.mk (some 69) (.bld [.v (.int .i64 0), .v (.int .i64 0)] [(0, 1), (1, 1)] [(0, .tmp 67), (1, .tmp 68)]) none)
@[simp] abbrev pgom : AOper := (AOper.mk none (.mset (.arr 12) (.tmp 63) (.tmp 66) (.tmp 69)) none)
def pgS0 : St := ⟨pgT c2 [], pgQ n es c2 ents k f lo⟩
def pgS1 : St := ⟨pgT c2 [(63, .mp 4), (64, .fn (.func 58) [] []), (65, .p (.is c2))], pgQ n es c2 ents k f lo⟩
def pgS2 : St := ⟨pgT c2 [(64, .fn (.func 58) [] []), (65, .p (.is c2)), (66, .p (.agg ((padI c2).map PV.i)))], pgQ n es c2 ents k f lo⟩
def pgS3 : St := ⟨pgT c2 [(64, .fn (.func 58) [] []), (65, .p (.is c2)), (67, .i k)], pgQ n es c2 ents k f lo⟩
def pgS4 : St := ⟨pgT c2 [(64, .fn (.func 58) [] []), (65, .p (.is c2)), (68, .i f)], pgQ n es c2 ents k f lo⟩
def pgS5 : St := ⟨pgT c2 [(63, .mp 4), (64, .fn (.func 58) [] []), (65, .p (.is c2)), (66, .p (.agg ((padI c2).map PV.i)))], pgQ n es c2 ents k f lo⟩
def pgS6 : St := ⟨pgT c2 [(63, .mp 4), (64, .fn (.func 58) [] []), (65, .p (.is c2)), (67, .i k)], pgQ n es c2 ents k f lo⟩
def pgS7 : St := ⟨pgT c2 [(63, .mp 4), (64, .fn (.func 58) [] []), (65, .p (.is c2)), (68, .i f)], pgQ n es c2 ents k f lo⟩
def pgS8 : St := ⟨pgT c2 [(63, .mp 4), (64, .fn (.func 58) [] []), (65, .p (.is c2)), (66, .p (.agg ((padI c2).map PV.i))), (67, .i k), (68, .i f), (69, .p (.agg [.i k, .i f]))], pgQ n es c2 (ents ++ [(.kl (padI c2), .p (.agg [.i k, .i f]))]) k f lo⟩
def pgS9 : St := ⟨pgT c2 [(64, .fn (.func 58) [] []), (65, .p (.is c2)), (66, .p (.agg ((padI c2).map PV.i))), (67, .i k)], pgQ n es c2 ents k f lo⟩
def pgS10 : St := ⟨pgT c2 [(64, .fn (.func 58) [] []), (65, .p (.is c2)), (67, .i k), (68, .i f)], pgQ n es c2 ents k f lo⟩
def pgS11 : St := ⟨pgT c2 [(64, .fn (.func 58) [] []), (65, .p (.is c2)), (66, .p (.agg ((padI c2).map PV.i))), (68, .i f)], pgQ n es c2 ents k f lo⟩
def pgS12 : St := ⟨pgT c2 [(63, .mp 4), (64, .fn (.func 58) [] []), (65, .p (.is c2)), (66, .p (.agg ((padI c2).map PV.i))), (67, .i k)], pgQ n es c2 ents k f lo⟩
def pgS13 : St := ⟨pgT c2 [(63, .mp 4), (64, .fn (.func 58) [] []), (65, .p (.is c2)), (67, .i k), (68, .i f)], pgQ n es c2 ents k f lo⟩
def pgS14 : St := ⟨pgT c2 [(63, .mp 4), (64, .fn (.func 58) [] []), (65, .p (.is c2)), (66, .p (.agg ((padI c2).map PV.i))), (68, .i f)], pgQ n es c2 ents k f lo⟩
def pgS15 : St := ⟨pgT c2 [(64, .fn (.func 58) [] []), (65, .p (.is c2)), (66, .p (.agg ((padI c2).map PV.i))), (67, .i k), (68, .i f)], pgQ n es c2 ents k f lo⟩
def pgS16 : St := ⟨pgT c2 [(64, .fn (.func 58) [] []), (65, .p (.is c2)), (67, .i k), (68, .i f), (69, .p (.agg [.i k, .i f]))], pgQ n es c2 ents k f lo⟩
def pgS17 : St := ⟨pgT c2 [(63, .mp 4), (64, .fn (.func 58) [] []), (65, .p (.is c2)), (66, .p (.agg ((padI c2).map PV.i))), (67, .i k), (68, .i f)], pgQ n es c2 ents k f lo⟩
def pgS18 : St := ⟨pgT c2 [(63, .mp 4), (64, .fn (.func 58) [] []), (65, .p (.is c2)), (67, .i k), (68, .i f), (69, .p (.agg [.i k, .i f]))], pgQ n es c2 ents k f lo⟩
def pgS19 : St := ⟨pgT c2 [(64, .fn (.func 58) [] []), (65, .p (.is c2)), (66, .p (.agg ((padI c2).map PV.i))), (67, .i k), (68, .i f), (69, .p (.agg [.i k, .i f]))], pgQ n es c2 ents k f lo⟩
def pgS20 : St := ⟨pgT c2 [(63, .mp 4), (64, .fn (.func 58) [] []), (65, .p (.is c2)), (66, .p (.agg ((padI c2).map PV.i))), (67, .i k), (68, .i f), (69, .p (.agg [.i k, .i f]))], pgQ n es c2 ents k f lo⟩
def pgL : List St := [pgS0 n es c2 ents k f lo, pgS1 n es c2 ents k f lo, pgS2 n es c2 ents k f lo, pgS3 n es c2 ents k f lo, pgS4 n es c2 ents k f lo, pgS5 n es c2 ents k f lo, pgS6 n es c2 ents k f lo, pgS7 n es c2 ents k f lo, pgS8 n es c2 ents k f lo, pgS9 n es c2 ents k f lo, pgS10 n es c2 ents k f lo, pgS11 n es c2 ents k f lo, pgS12 n es c2 ents k f lo, pgS13 n es c2 ents k f lo, pgS14 n es c2 ents k f lo, pgS15 n es c2 ents k f lo, pgS16 n es c2 ents k f lo, pgS17 n es c2 ents k f lo, pgS18 n es c2 ents k f lo, pgS19 n es c2 ents k f lo, pgS20 n es c2 ents k f lo]
def pgG (K : St → Prop) (c : ADN) (s : St) : Prop := Wops Try.prog c.look (fun s1 => (c.acts = [] → K s1) ∧ ∀ x ∈ c.acts, Wop Try.prog x.1 x.2.1 (fun s2 => ∃ s3, Wk 12 s2 s3 ∧ (pgL n es c2 ents k f lo)[x.2.2]? = some s3) s1) s
def pgD0 : ADN := .mk [pgo64, pgo65] [(true, pgo63, 1), (false, pgo66, 2), (true, pgo67, 3), (true, pgo68, 4)]
def pgD1 : ADN := .mk [] [(false, pgo66, 5), (true, pgo67, 6), (true, pgo68, 7)]
def pgD2 : ADN := .mk [pgo63, pgo67, pgo68, pgo69] [(false, pgom, 8)]
def pgD3 : ADN := .mk [] [(true, pgo63, 6), (false, pgo66, 9), (true, pgo68, 10)]
def pgD4 : ADN := .mk [] [(true, pgo63, 7), (false, pgo66, 11), (true, pgo67, 10)]
def pgD5 : ADN := .mk [pgo67, pgo68, pgo69] [(false, pgom, 8)]
def pgD6 : ADN := .mk [] [(false, pgo66, 12), (true, pgo68, 13)]
def pgD7 : ADN := .mk [] [(false, pgo66, 14), (true, pgo67, 13)]
def pgD8 : ADN := .mk [] []
def pgD9 : ADN := .mk [pgo63, pgo68, pgo69] [(false, pgom, 8)]
def pgD10 : ADN := .mk [] [(true, pgo63, 13), (false, pgo66, 15), (true, pgo69, 16)]
def pgD11 : ADN := .mk [pgo63, pgo67, pgo69] [(false, pgom, 8)]
def pgD12 : ADN := .mk [pgo68, pgo69] [(false, pgom, 8)]
def pgD13 : ADN := .mk [] [(false, pgo66, 17), (true, pgo69, 18)]
def pgD14 : ADN := .mk [pgo67, pgo69] [(false, pgom, 8)]
def pgD15 : ADN := .mk [pgo63, pgo69] [(false, pgom, 8)]
def pgD16 : ADN := .mk [] [(true, pgo63, 18), (false, pgo66, 19)]
def pgD17 : ADN := .mk [pgo69] [(false, pgom, 8)]
def pgD18 : ADN := .mk [] [(false, pgo66, 20)]
def pgD19 : ADN := .mk [pgo63] [(false, pgom, 8)]
def pgD20 : ADN := .mk [] [(false, pgom, 8)]
theorem pgg0 {K : St → Prop} (hc : c2.length ≤ 12) (hkey : keyA (.p (.agg ((padI c2).map PV.i))) = some (.kl (padI c2))) (hpl : (padI c2).length = 12) (hwf : (∀ x, x ∈ padI c2 → (Lit.int .i64 x).wf = true) = True) (hdi : dIdx (.kl (padI c2)) ents = none) : pgG n es c2 ents k f lo K pgD0 (pgS0 n es c2 ents k f lo) := by
  unfold pgG pgD0 pgS0 pgQ
  simp -implicitDefEqProofs (disch := omega) [List.getElem?_cons_zero, List.getElem?_cons_succ, wrap_id, -keyA, ↓hkey, hpl, hwf, hdi, List.forall_mem_cons]
  refine ⟨?_, ?_, ?_, ?_⟩
  · exact ⟨_, Wk_keep [7, 8, 9, 10, 12, 63, 64, 65], rfl⟩
  · refine ⟨by kernel_rfl, ?_⟩; refine HC_of_PC rfl (key_ok c2 hc) ?_
    simp -implicitDefEqProofs (disch := omega) [List.getElem?_cons_zero, List.getElem?_cons_succ, wrap_id, -keyA, ↓hkey, hpl, hwf, hdi, List.forall_mem_cons]
    exact ⟨_, Wk_keep [7, 8, 9, 10, 12, 64, 65, 66], rfl⟩
  · exact ⟨_, Wk_keep [7, 8, 9, 10, 12, 64, 65, 67], rfl⟩
  · exact ⟨_, Wk_keep [7, 8, 9, 10, 12, 64, 65, 68], rfl⟩
theorem pgg1 {K : St → Prop} (hc : c2.length ≤ 12) (hkey : keyA (.p (.agg ((padI c2).map PV.i))) = some (.kl (padI c2))) (hpl : (padI c2).length = 12) (hwf : (∀ x, x ∈ padI c2 → (Lit.int .i64 x).wf = true) = True) (hdi : dIdx (.kl (padI c2)) ents = none) : pgG n es c2 ents k f lo K pgD1 (pgS1 n es c2 ents k f lo) := by
  unfold pgG pgD1 pgS1 pgQ
  simp -implicitDefEqProofs (disch := omega) [List.getElem?_cons_zero, List.getElem?_cons_succ, wrap_id, -keyA, ↓hkey, hpl, hwf, hdi, List.forall_mem_cons]
  refine ⟨?_, ?_, ?_⟩
  · refine ⟨by kernel_rfl, ?_⟩; refine HC_of_PC rfl (key_ok c2 hc) ?_
    simp -implicitDefEqProofs (disch := omega) [List.getElem?_cons_zero, List.getElem?_cons_succ, wrap_id, -keyA, ↓hkey, hpl, hwf, hdi, List.forall_mem_cons]
    exact ⟨_, Wk_keep [7, 8, 9, 10, 12, 63, 64, 65, 66], rfl⟩
  · exact ⟨_, Wk_keep [7, 8, 9, 10, 12, 63, 64, 65, 67], rfl⟩
  · exact ⟨_, Wk_keep [7, 8, 9, 10, 12, 63, 64, 65, 68], rfl⟩
theorem pgg2 {K : St → Prop} (hc : c2.length ≤ 12) (hkey : keyA (.p (.agg ((padI c2).map PV.i))) = some (.kl (padI c2))) (hpl : (padI c2).length = 12) (hwf : (∀ x, x ∈ padI c2 → (Lit.int .i64 x).wf = true) = True) (hdi : dIdx (.kl (padI c2)) ents = none) : pgG n es c2 ents k f lo K pgD2 (pgS2 n es c2 ents k f lo) := by
  unfold pgG pgD2 pgS2 pgQ
  simp -implicitDefEqProofs (disch := omega) [List.getElem?_cons_zero, List.getElem?_cons_succ, wrap_id, -keyA, ↓hkey, hpl, hwf, hdi, List.forall_mem_cons]
  exact ⟨_, Wk_keep [7, 8, 9, 10, 12, 63, 64, 65, 66, 67, 68, 69], rfl⟩
theorem pgg3 {K : St → Prop} (hc : c2.length ≤ 12) (hkey : keyA (.p (.agg ((padI c2).map PV.i))) = some (.kl (padI c2))) (hpl : (padI c2).length = 12) (hwf : (∀ x, x ∈ padI c2 → (Lit.int .i64 x).wf = true) = True) (hdi : dIdx (.kl (padI c2)) ents = none) : pgG n es c2 ents k f lo K pgD3 (pgS3 n es c2 ents k f lo) := by
  unfold pgG pgD3 pgS3 pgQ
  simp -implicitDefEqProofs (disch := omega) [List.getElem?_cons_zero, List.getElem?_cons_succ, wrap_id, -keyA, ↓hkey, hpl, hwf, hdi, List.forall_mem_cons]
  refine ⟨?_, ?_, ?_⟩
  · exact ⟨_, Wk_keep [7, 8, 9, 10, 12, 63, 64, 65, 67], rfl⟩
  · refine ⟨by kernel_rfl, ?_⟩; refine HC_of_PC rfl (key_ok c2 hc) ?_
    simp -implicitDefEqProofs (disch := omega) [List.getElem?_cons_zero, List.getElem?_cons_succ, wrap_id, -keyA, ↓hkey, hpl, hwf, hdi, List.forall_mem_cons]
    exact ⟨_, Wk_keep [7, 8, 9, 10, 12, 64, 65, 66, 67], rfl⟩
  · exact ⟨_, Wk_keep [7, 8, 9, 10, 12, 64, 65, 67, 68], rfl⟩
theorem pgg4 {K : St → Prop} (hc : c2.length ≤ 12) (hkey : keyA (.p (.agg ((padI c2).map PV.i))) = some (.kl (padI c2))) (hpl : (padI c2).length = 12) (hwf : (∀ x, x ∈ padI c2 → (Lit.int .i64 x).wf = true) = True) (hdi : dIdx (.kl (padI c2)) ents = none) : pgG n es c2 ents k f lo K pgD4 (pgS4 n es c2 ents k f lo) := by
  unfold pgG pgD4 pgS4 pgQ
  simp -implicitDefEqProofs (disch := omega) [List.getElem?_cons_zero, List.getElem?_cons_succ, wrap_id, -keyA, ↓hkey, hpl, hwf, hdi, List.forall_mem_cons]
  refine ⟨?_, ?_, ?_⟩
  · exact ⟨_, Wk_keep [7, 8, 9, 10, 12, 63, 64, 65, 68], rfl⟩
  · refine ⟨by kernel_rfl, ?_⟩; refine HC_of_PC rfl (key_ok c2 hc) ?_
    simp -implicitDefEqProofs (disch := omega) [List.getElem?_cons_zero, List.getElem?_cons_succ, wrap_id, -keyA, ↓hkey, hpl, hwf, hdi, List.forall_mem_cons]
    exact ⟨_, Wk_keep [7, 8, 9, 10, 12, 64, 65, 66, 68], rfl⟩
  · exact ⟨_, Wk_keep [7, 8, 9, 10, 12, 64, 65, 67, 68], rfl⟩
theorem pgg5 {K : St → Prop} (hc : c2.length ≤ 12) (hkey : keyA (.p (.agg ((padI c2).map PV.i))) = some (.kl (padI c2))) (hpl : (padI c2).length = 12) (hwf : (∀ x, x ∈ padI c2 → (Lit.int .i64 x).wf = true) = True) (hdi : dIdx (.kl (padI c2)) ents = none) : pgG n es c2 ents k f lo K pgD5 (pgS5 n es c2 ents k f lo) := by
  unfold pgG pgD5 pgS5 pgQ
  simp -implicitDefEqProofs (disch := omega) [List.getElem?_cons_zero, List.getElem?_cons_succ, wrap_id, -keyA, ↓hkey, hpl, hwf, hdi, List.forall_mem_cons]
  exact ⟨_, Wk_keep [7, 8, 9, 10, 12, 63, 64, 65, 66, 67, 68, 69], rfl⟩
theorem pgg6 {K : St → Prop} (hc : c2.length ≤ 12) (hkey : keyA (.p (.agg ((padI c2).map PV.i))) = some (.kl (padI c2))) (hpl : (padI c2).length = 12) (hwf : (∀ x, x ∈ padI c2 → (Lit.int .i64 x).wf = true) = True) (hdi : dIdx (.kl (padI c2)) ents = none) : pgG n es c2 ents k f lo K pgD6 (pgS6 n es c2 ents k f lo) := by
  unfold pgG pgD6 pgS6 pgQ
  simp -implicitDefEqProofs (disch := omega) [List.getElem?_cons_zero, List.getElem?_cons_succ, wrap_id, -keyA, ↓hkey, hpl, hwf, hdi, List.forall_mem_cons]
  refine ⟨?_, ?_⟩
  · refine ⟨by kernel_rfl, ?_⟩; refine HC_of_PC rfl (key_ok c2 hc) ?_
    simp -implicitDefEqProofs (disch := omega) [List.getElem?_cons_zero, List.getElem?_cons_succ, wrap_id, -keyA, ↓hkey, hpl, hwf, hdi, List.forall_mem_cons]
    exact ⟨_, Wk_keep [7, 8, 9, 10, 12, 63, 64, 65, 66, 67], rfl⟩
  · exact ⟨_, Wk_keep [7, 8, 9, 10, 12, 63, 64, 65, 67, 68], rfl⟩
theorem pgg7 {K : St → Prop} (hc : c2.length ≤ 12) (hkey : keyA (.p (.agg ((padI c2).map PV.i))) = some (.kl (padI c2))) (hpl : (padI c2).length = 12) (hwf : (∀ x, x ∈ padI c2 → (Lit.int .i64 x).wf = true) = True) (hdi : dIdx (.kl (padI c2)) ents = none) : pgG n es c2 ents k f lo K pgD7 (pgS7 n es c2 ents k f lo) := by
  unfold pgG pgD7 pgS7 pgQ
  simp -implicitDefEqProofs (disch := omega) [List.getElem?_cons_zero, List.getElem?_cons_succ, wrap_id, -keyA, ↓hkey, hpl, hwf, hdi, List.forall_mem_cons]
  refine ⟨?_, ?_⟩
  · refine ⟨by kernel_rfl, ?_⟩; refine HC_of_PC rfl (key_ok c2 hc) ?_
    simp -implicitDefEqProofs (disch := omega) [List.getElem?_cons_zero, List.getElem?_cons_succ, wrap_id, -keyA, ↓hkey, hpl, hwf, hdi, List.forall_mem_cons]
    exact ⟨_, Wk_keep [7, 8, 9, 10, 12, 63, 64, 65, 66, 68], rfl⟩
  · exact ⟨_, Wk_keep [7, 8, 9, 10, 12, 63, 64, 65, 67, 68], rfl⟩
theorem pgg8 {K : St → Prop} (hc : c2.length ≤ 12) (hkey : keyA (.p (.agg ((padI c2).map PV.i))) = some (.kl (padI c2))) (hpl : (padI c2).length = 12) (hwf : (∀ x, x ∈ padI c2 → (Lit.int .i64 x).wf = true) = True) (hdi : dIdx (.kl (padI c2)) ents = none) (hK : K (pgS8 n es c2 ents k f lo)) : pgG n es c2 ents k f lo K pgD8 (pgS8 n es c2 ents k f lo) := by
  unfold pgG pgD8 pgS8
  unfold pgS8 at hK
  simp -implicitDefEqProofs (disch := omega) [List.getElem?_cons_zero, List.getElem?_cons_succ, wrap_id, -keyA, ↓hkey, hpl, hwf, hdi, List.forall_mem_cons, hK]
theorem pgg9 {K : St → Prop} (hc : c2.length ≤ 12) (hkey : keyA (.p (.agg ((padI c2).map PV.i))) = some (.kl (padI c2))) (hpl : (padI c2).length = 12) (hwf : (∀ x, x ∈ padI c2 → (Lit.int .i64 x).wf = true) = True) (hdi : dIdx (.kl (padI c2)) ents = none) : pgG n es c2 ents k f lo K pgD9 (pgS9 n es c2 ents k f lo) := by
  unfold pgG pgD9 pgS9 pgQ
  simp -implicitDefEqProofs (disch := omega) [List.getElem?_cons_zero, List.getElem?_cons_succ, wrap_id, -keyA, ↓hkey, hpl, hwf, hdi, List.forall_mem_cons]
  exact ⟨_, Wk_keep [7, 8, 9, 10, 12, 63, 64, 65, 66, 67, 68, 69], rfl⟩
theorem pgg10 {K : St → Prop} (hc : c2.length ≤ 12) (hkey : keyA (.p (.agg ((padI c2).map PV.i))) = some (.kl (padI c2))) (hpl : (padI c2).length = 12) (hwf : (∀ x, x ∈ padI c2 → (Lit.int .i64 x).wf = true) = True) (hdi : dIdx (.kl (padI c2)) ents = none) : pgG n es c2 ents k f lo K pgD10 (pgS10 n es c2 ents k f lo) := by
  unfold pgG pgD10 pgS10 pgQ
  simp -implicitDefEqProofs (disch := omega) [List.getElem?_cons_zero, List.getElem?_cons_succ, wrap_id, -keyA, ↓hkey, hpl, hwf, hdi, List.forall_mem_cons]
  refine ⟨?_, ?_, ?_⟩
  · exact ⟨_, Wk_keep [7, 8, 9, 10, 12, 63, 64, 65, 67, 68], rfl⟩
  · refine ⟨by kernel_rfl, ?_⟩; refine HC_of_PC rfl (key_ok c2 hc) ?_
    simp -implicitDefEqProofs (disch := omega) [List.getElem?_cons_zero, List.getElem?_cons_succ, wrap_id, -keyA, ↓hkey, hpl, hwf, hdi, List.forall_mem_cons]
    exact ⟨_, Wk_keep [7, 8, 9, 10, 12, 64, 65, 66, 67, 68], rfl⟩
  · exact ⟨_, Wk_keep [7, 8, 9, 10, 12, 64, 65, 67, 68, 69], rfl⟩
theorem pgg11 {K : St → Prop} (hc : c2.length ≤ 12) (hkey : keyA (.p (.agg ((padI c2).map PV.i))) = some (.kl (padI c2))) (hpl : (padI c2).length = 12) (hwf : (∀ x, x ∈ padI c2 → (Lit.int .i64 x).wf = true) = True) (hdi : dIdx (.kl (padI c2)) ents = none) : pgG n es c2 ents k f lo K pgD11 (pgS11 n es c2 ents k f lo) := by
  unfold pgG pgD11 pgS11 pgQ
  simp -implicitDefEqProofs (disch := omega) [List.getElem?_cons_zero, List.getElem?_cons_succ, wrap_id, -keyA, ↓hkey, hpl, hwf, hdi, List.forall_mem_cons]
  exact ⟨_, Wk_keep [7, 8, 9, 10, 12, 63, 64, 65, 66, 67, 68, 69], rfl⟩
theorem pgg12 {K : St → Prop} (hc : c2.length ≤ 12) (hkey : keyA (.p (.agg ((padI c2).map PV.i))) = some (.kl (padI c2))) (hpl : (padI c2).length = 12) (hwf : (∀ x, x ∈ padI c2 → (Lit.int .i64 x).wf = true) = True) (hdi : dIdx (.kl (padI c2)) ents = none) : pgG n es c2 ents k f lo K pgD12 (pgS12 n es c2 ents k f lo) := by
  unfold pgG pgD12 pgS12 pgQ
  simp -implicitDefEqProofs (disch := omega) [List.getElem?_cons_zero, List.getElem?_cons_succ, wrap_id, -keyA, ↓hkey, hpl, hwf, hdi, List.forall_mem_cons]
  exact ⟨_, Wk_keep [7, 8, 9, 10, 12, 63, 64, 65, 66, 67, 68, 69], rfl⟩
theorem pgg13 {K : St → Prop} (hc : c2.length ≤ 12) (hkey : keyA (.p (.agg ((padI c2).map PV.i))) = some (.kl (padI c2))) (hpl : (padI c2).length = 12) (hwf : (∀ x, x ∈ padI c2 → (Lit.int .i64 x).wf = true) = True) (hdi : dIdx (.kl (padI c2)) ents = none) : pgG n es c2 ents k f lo K pgD13 (pgS13 n es c2 ents k f lo) := by
  unfold pgG pgD13 pgS13 pgQ
  simp -implicitDefEqProofs (disch := omega) [List.getElem?_cons_zero, List.getElem?_cons_succ, wrap_id, -keyA, ↓hkey, hpl, hwf, hdi, List.forall_mem_cons]
  refine ⟨?_, ?_⟩
  · refine ⟨by kernel_rfl, ?_⟩; refine HC_of_PC rfl (key_ok c2 hc) ?_
    simp -implicitDefEqProofs (disch := omega) [List.getElem?_cons_zero, List.getElem?_cons_succ, wrap_id, -keyA, ↓hkey, hpl, hwf, hdi, List.forall_mem_cons]
    exact ⟨_, Wk_keep [7, 8, 9, 10, 12, 63, 64, 65, 66, 67, 68], rfl⟩
  · exact ⟨_, Wk_keep [7, 8, 9, 10, 12, 63, 64, 65, 67, 68, 69], rfl⟩
theorem pgg14 {K : St → Prop} (hc : c2.length ≤ 12) (hkey : keyA (.p (.agg ((padI c2).map PV.i))) = some (.kl (padI c2))) (hpl : (padI c2).length = 12) (hwf : (∀ x, x ∈ padI c2 → (Lit.int .i64 x).wf = true) = True) (hdi : dIdx (.kl (padI c2)) ents = none) : pgG n es c2 ents k f lo K pgD14 (pgS14 n es c2 ents k f lo) := by
  unfold pgG pgD14 pgS14 pgQ
  simp -implicitDefEqProofs (disch := omega) [List.getElem?_cons_zero, List.getElem?_cons_succ, wrap_id, -keyA, ↓hkey, hpl, hwf, hdi, List.forall_mem_cons]
  exact ⟨_, Wk_keep [7, 8, 9, 10, 12, 63, 64, 65, 66, 67, 68, 69], rfl⟩
theorem pgg15 {K : St → Prop} (hc : c2.length ≤ 12) (hkey : keyA (.p (.agg ((padI c2).map PV.i))) = some (.kl (padI c2))) (hpl : (padI c2).length = 12) (hwf : (∀ x, x ∈ padI c2 → (Lit.int .i64 x).wf = true) = True) (hdi : dIdx (.kl (padI c2)) ents = none) : pgG n es c2 ents k f lo K pgD15 (pgS15 n es c2 ents k f lo) := by
  unfold pgG pgD15 pgS15 pgQ
  simp -implicitDefEqProofs (disch := omega) [List.getElem?_cons_zero, List.getElem?_cons_succ, wrap_id, -keyA, ↓hkey, hpl, hwf, hdi, List.forall_mem_cons]
  exact ⟨_, Wk_keep [7, 8, 9, 10, 12, 63, 64, 65, 66, 67, 68, 69], rfl⟩
theorem pgg16 {K : St → Prop} (hc : c2.length ≤ 12) (hkey : keyA (.p (.agg ((padI c2).map PV.i))) = some (.kl (padI c2))) (hpl : (padI c2).length = 12) (hwf : (∀ x, x ∈ padI c2 → (Lit.int .i64 x).wf = true) = True) (hdi : dIdx (.kl (padI c2)) ents = none) : pgG n es c2 ents k f lo K pgD16 (pgS16 n es c2 ents k f lo) := by
  unfold pgG pgD16 pgS16 pgQ
  simp -implicitDefEqProofs (disch := omega) [List.getElem?_cons_zero, List.getElem?_cons_succ, wrap_id, -keyA, ↓hkey, hpl, hwf, hdi, List.forall_mem_cons]
  refine ⟨?_, ?_⟩
  · exact ⟨_, Wk_keep [7, 8, 9, 10, 12, 63, 64, 65, 67, 68, 69], rfl⟩
  · refine ⟨by kernel_rfl, ?_⟩; refine HC_of_PC rfl (key_ok c2 hc) ?_
    simp -implicitDefEqProofs (disch := omega) [List.getElem?_cons_zero, List.getElem?_cons_succ, wrap_id, -keyA, ↓hkey, hpl, hwf, hdi, List.forall_mem_cons]
    exact ⟨_, Wk_keep [7, 8, 9, 10, 12, 64, 65, 66, 67, 68, 69], rfl⟩
theorem pgg17 {K : St → Prop} (hc : c2.length ≤ 12) (hkey : keyA (.p (.agg ((padI c2).map PV.i))) = some (.kl (padI c2))) (hpl : (padI c2).length = 12) (hwf : (∀ x, x ∈ padI c2 → (Lit.int .i64 x).wf = true) = True) (hdi : dIdx (.kl (padI c2)) ents = none) : pgG n es c2 ents k f lo K pgD17 (pgS17 n es c2 ents k f lo) := by
  unfold pgG pgD17 pgS17 pgQ
  simp -implicitDefEqProofs (disch := omega) [List.getElem?_cons_zero, List.getElem?_cons_succ, wrap_id, -keyA, ↓hkey, hpl, hwf, hdi, List.forall_mem_cons]
  exact ⟨_, Wk_keep [7, 8, 9, 10, 12, 63, 64, 65, 66, 67, 68, 69], rfl⟩
theorem pgg18 {K : St → Prop} (hc : c2.length ≤ 12) (hkey : keyA (.p (.agg ((padI c2).map PV.i))) = some (.kl (padI c2))) (hpl : (padI c2).length = 12) (hwf : (∀ x, x ∈ padI c2 → (Lit.int .i64 x).wf = true) = True) (hdi : dIdx (.kl (padI c2)) ents = none) : pgG n es c2 ents k f lo K pgD18 (pgS18 n es c2 ents k f lo) := by
  unfold pgG pgD18 pgS18 pgQ
  simp -implicitDefEqProofs (disch := omega) [List.getElem?_cons_zero, List.getElem?_cons_succ, wrap_id, -keyA, ↓hkey, hpl, hwf, hdi, List.forall_mem_cons]
  refine ⟨by kernel_rfl, ?_⟩; refine HC_of_PC rfl (key_ok c2 hc) ?_
  simp -implicitDefEqProofs (disch := omega) [List.getElem?_cons_zero, List.getElem?_cons_succ, wrap_id, -keyA, ↓hkey, hpl, hwf, hdi, List.forall_mem_cons]
  exact ⟨_, Wk_keep [7, 8, 9, 10, 12, 63, 64, 65, 66, 67, 68, 69], rfl⟩
theorem pgg19 {K : St → Prop} (hc : c2.length ≤ 12) (hkey : keyA (.p (.agg ((padI c2).map PV.i))) = some (.kl (padI c2))) (hpl : (padI c2).length = 12) (hwf : (∀ x, x ∈ padI c2 → (Lit.int .i64 x).wf = true) = True) (hdi : dIdx (.kl (padI c2)) ents = none) : pgG n es c2 ents k f lo K pgD19 (pgS19 n es c2 ents k f lo) := by
  unfold pgG pgD19 pgS19 pgQ
  simp -implicitDefEqProofs (disch := omega) [List.getElem?_cons_zero, List.getElem?_cons_succ, wrap_id, -keyA, ↓hkey, hpl, hwf, hdi, List.forall_mem_cons]
  exact ⟨_, Wk_keep [7, 8, 9, 10, 12, 63, 64, 65, 66, 67, 68, 69], rfl⟩
theorem pgg20 {K : St → Prop} (hc : c2.length ≤ 12) (hkey : keyA (.p (.agg ((padI c2).map PV.i))) = some (.kl (padI c2))) (hpl : (padI c2).length = 12) (hwf : (∀ x, x ∈ padI c2 → (Lit.int .i64 x).wf = true) = True) (hdi : dIdx (.kl (padI c2)) ents = none) : pgG n es c2 ents k f lo K pgD20 (pgS20 n es c2 ents k f lo) := by
  unfold pgG pgD20 pgS20 pgQ
  simp -implicitDefEqProofs (disch := omega) [List.getElem?_cons_zero, List.getElem?_cons_succ, wrap_id, -keyA, ↓hkey, hpl, hwf, hdi, List.forall_mem_cons]
  exact ⟨_, Wk_keep [7, 8, 9, 10, 12, 63, 64, 65, 66, 67, 68, 69], rfl⟩
theorem pgeq : playD = [pgD0, pgD1, pgD2, pgD3, pgD4, pgD5, pgD6, pgD7, pgD8, pgD9, pgD10, pgD11, pgD12, pgD13, pgD14, pgD15, pgD16, pgD17, pgD18, pgD19, pgD20] := by kernel_rfl
theorem pgdag {Q : AExit → St → Prop} (hc : c2.length ≤ 12) (hkey : keyA (.p (.agg ((padI c2).map PV.i))) = some (.kl (padI c2))) (hpl : (padI c2).length = 12) (hwf : (∀ x, x ∈ padI c2 → (Lit.int .i64 x).wf = true) = True) (hdi : dIdx (.kl (padI c2)) ents = none) (hQ : Q .normal (pgS8 n es c2 ents k f lo)) : W Try.prog 12 (.dag playD) Q (pgS0 n es c2 ents k f lo) := by
  have hz : ∀ p ∈ List.zip [pgD0, pgD1, pgD2, pgD3, pgD4, pgD5, pgD6, pgD7, pgD8, pgD9, pgD10, pgD11, pgD12, pgD13, pgD14, pgD15, pgD16, pgD17, pgD18, pgD19, pgD20] (pgL n es c2 ents k f lo), pgG n es c2 ents k f lo (Q .normal) p.1 p.2 := by
    unfold pgL
    simp only [List.zip_cons_cons, List.zip_nil_left, List.forall_mem_cons]
    exact ⟨pgg0 n es c2 ents k f lo hc hkey hpl hwf hdi, pgg1 n es c2 ents k f lo hc hkey hpl hwf hdi, pgg2 n es c2 ents k f lo hc hkey hpl hwf hdi, pgg3 n es c2 ents k f lo hc hkey hpl hwf hdi, pgg4 n es c2 ents k f lo hc hkey hpl hwf hdi, pgg5 n es c2 ents k f lo hc hkey hpl hwf hdi, pgg6 n es c2 ents k f lo hc hkey hpl hwf hdi, pgg7 n es c2 ents k f lo hc hkey hpl hwf hdi, pgg8 n es c2 ents k f lo hc hkey hpl hwf hdi hQ, pgg9 n es c2 ents k f lo hc hkey hpl hwf hdi, pgg10 n es c2 ents k f lo hc hkey hpl hwf hdi, pgg11 n es c2 ents k f lo hc hkey hpl hwf hdi, pgg12 n es c2 ents k f lo hc hkey hpl hwf hdi, pgg13 n es c2 ents k f lo hc hkey hpl hwf hdi, pgg14 n es c2 ents k f lo hc hkey hpl hwf hdi, pgg15 n es c2 ents k f lo hc hkey hpl hwf hdi, pgg16 n es c2 ents k f lo hc hkey hpl hwf hdi, pgg17 n es c2 ents k f lo hc hkey hpl hwf hdi, pgg18 n es c2 ents k f lo hc hkey hpl hwf hdi, pgg19 n es c2 ents k f lo hc hkey hpl hwf hdi, pgg20 n es c2 ents k f lo hc hkey hpl hwf hdi, fun x hx => by cases hx⟩
  refine ⟨fun i s => (pgL n es c2 ents k f lo)[i]? = some s, ⟨_, Wk.refl _ _, rfl⟩, fun i c hc s hs => ?_⟩
  rw [pgeq] at hc
  exact hz (c, s) (List.mem_iff_getElem?.2 ⟨i, by rw [List.getElem?_zip_eq_some]; exact ⟨hc, hs⟩⟩)
end
end Go.Proofs.Ytamiekhoaggpkaa
end
