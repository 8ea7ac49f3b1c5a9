/-
  Behind the map of all orientations.
-/
import Derived.Test.YtjinjbcdbkgedaaNu
set_option linter.unusedSimpArgs false
set_option linter.unusedVariables false
namespace Go.Proofs.Ytjinjbcdbkgedaa
open Go.Abs Go.Sand

/-- Behind the map: what reads alone is read, the rest is let go. -/
theorem wk_al {N : Int} {es : List Ed} {AL : Cls} {B4 B5 B6 R1 R2 : AO} {w sn : List (List Int)} {T : List (Nat × AV)} {x80 x81 x14 : PV}
    (h81 : Abs.get T 81 = .p x81) (h80 : Abs.get T 80 = .p x80) (h17 : Abs.get T 17 = .p .nil) (h16 : Abs.get T 16 = .mp ((alT AL).length + 3 + 1 + 1 + 1 + 1 + 1 + 1)) (h15 : Abs.get T 15 = .os ((alT AL).length + 2 + 1 + 1 + 1 + 1 + 1 + 1) 0 w.length)
    (h14 : Abs.get T 14 = .p x14) (h11 : Abs.get T 11 = .ptr 2 1 0 0) (h3 : Abs.get T 3 = .ptr 0 1 0 0) :
    Wk 0 ⟨T, .box (.p (G N es)) :: .dict .str (alD 6 AL) :: .box (.mp 1) :: B4 :: B5 :: B6 :: (alT AL ++ [R1, R2, rowS w, .dict .str (seenD sn)])⟩
      ⟨[(81, .p x81), (80, .p x80), (17, .p .nil), (16, .mp 4), (15, .os 3 0 w.length), (14, .p x14), (11, .ptr 2 1 0 0), (3, .ptr 0 1 0 0)], bfH N es AL w sn⟩ := by
  obtain ⟨c, hc⟩ : ∃ c, c = (alT AL).length := ⟨_, rfl⟩
  obtain ⟨H, hH⟩ : ∃ H, H = AO.box (.p (G N es)) :: .dict .str (alD 6 AL) :: .box (.mp 1) :: B4 :: B5 :: B6 :: (alT AL ++ [R1, R2, rowS w, .dict .str (seenD sn)]) := ⟨_, rfl⟩
  rw [← hH]
  have hl : H.length = c + 10 := by rw [hH, hc]; simp
  have hσ : okσ [0, 1, 2, c + 8, c + 9] 0 H = true := by
    simp [okσ, nodupB, firstB, hl]
  have g0 : H[0]? = some (.box (.p (G N es))) := by rw [hH]; rfl
  have g1 : H[1]? = some (.dict .str (alD 6 AL)) := by rw [hH]; rfl
  have g2 : H[2]? = some (.box (.mp 1)) := by rw [hH]; rfl
  have g8 : H[c + 8]? = some (rowS w) := by rw [hH, hc]; simp
  have g9 : H[c + 9]? = some (.dict .str (seenD sn)) := by rw [hH, hc]; simp
  have gT : ∀ i x, AL[i]? = some x → H[i + 6]? = some (.tab (x.2.map fun o => .p (.bo o)) 25 false) := fun i x hx => by
    have h1 := alT_get hx
    rw [hH]
    simp only [List.getElem?_cons_succ]
    rw [List.getElem?_append_left (List.getElem?_eq_some_iff.1 h1).1]
    exact h1
  refine (Wk_norm [0, 1, 2, c + 8, c + 9] [81, 80, 17, 16, 15, 14, 11, 3] hσ).trans ?_
  have e : norm [0, 1, 2, c + 8, c + 9] [81, 80, 17, 16, 15, 14, 11, 3] ⟨T, H⟩ = ⟨[(81, .p x81), (80, .p x80), (17, .p .nil), (16, .mp 4), (15, .os 3 0 w.length), (14, .p x14), (11, .ptr 2 1 0 0), (3, .ptr 0 1 0 0)], bfH N es AL w sn⟩ := by
    have i0 : Abs.idx [0, 1, 2, c + 8, c + 9] 0 0 = some 0 := rfl
    have i1 : Abs.idx [0, 1, 2, c + 8, c + 9] 0 1 = some 1 := rfl
    have i2 : Abs.idx [0, 1, 2, c + 8, c + 9] 0 2 = some 2 := rfl
    have i8 : Abs.idx [0, 1, 2, c + 8, c + 9] 0 (c + 8) = some 3 := by simp [Abs.idx]
    have i9 : Abs.idx [0, 1, 2, c + 8, c + 9] 0 (c + 9) = some 4 := by simp [Abs.idx]
    have iT : ∀ i, i < c → Abs.idx [0, 1, 2, c + 8, c + 9] 0 (i + 6) = none := fun i hi => by
      simp only [Abs.idx]
      rw [if_neg (by omega), if_neg (by omega), if_neg (by omega), if_neg (by omega), if_neg (by omega)]
    have hρ : ∃ ρ, Abs.idx [0, 1, 2, c + 8, c + 9] 0 = ρ := ⟨_, rfl⟩
    obtain ⟨ρ, hρ⟩ := hρ
    simp only [norm, hρ] at *
    have hD : (alD 6 AL).map (fun x => (x.1, x.2.ren H ρ)) = alF AL := by
      unfold alD alF
      rw [List.map_map]
      apply List.ext_getElem?
      intro i
      simp only [List.getElem?_map, List.getElem?_zipIdx]
      cases hx : AL[i]? with
      | none => rfl
      | some x =>
        have hi : i < c := by rw [hc, alT_len]; exact (List.getElem?_eq_some_iff.1 hx).1
        have := read_at (gT i x hx) (iT i hi) (rfl : (x.2.length) = _)
        simp only [Option.map_some, Nat.zero_add]
        exact congrArg some (Prod.ext rfl this)
    rw [← hc] at h15 h16
    simp only [norm, List.map_cons, List.map_nil, h81, h80, h17, h16, h15, h14, h11, h3, List.getD_eq_getElem?_getD, g0, g1, g2, g8, g9, Option.getD_some]
    simp only [AO.ren, hD, seenD_ren, AV.ren, i0, i1, i2]
    rw [show c + 3 + 1 + 1 + 1 + 1 + 1 + 1 = c + 9 by omega, show c + 2 + 1 + 1 + 1 + 1 + 1 + 1 = c + 8 by omega, i8, i9]
  rw [e]
  exact Wk.refl _ _
theorem strN_size (l : List Int) : (strN l).size = l.length := by
  have h1 := dk_len l
  unfold dk at h1
  rw [← h1, Array.length_toList]; rfl
end Go.Proofs.Ytjinjbcdbkgedaa
