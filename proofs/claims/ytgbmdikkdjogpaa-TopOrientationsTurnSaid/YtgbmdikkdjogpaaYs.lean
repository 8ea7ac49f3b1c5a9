/-
  Contracts: how far vertices are, the loop.
-/
import Derived.Test.YtgbmdikkdjogpaaYr
set_option linter.unusedSimpArgs false
set_option linter.unusedVariables false
namespace Go.Proofs.Ytgbmdikkdjogpaa
open Go.Abs Go.Sand

/-- What holds ahead of each round. -/
def DsI (n : Nat) (es : List Ed) (q : Nat) (st : List AO) (k : Nat) (s1 : St) : Prop := ∃ far W H o off els, Bf n es q (-1) far W ∧ QH n st far W H o off els ∧ k + W.length = cntG far ∧ s1 = ⟨[(0, .ptr 1 1 0 0), (3, .ptr 5 1 0 0), (4, .ptr 7 1 0 0)], H⟩
/-- What holds while the edges at a vertex are looked at. -/
def DsJ (n : Nat) (es : List Ed) (q : Nat) (st : List AO) (m : Nat) (v : Nat) (L : AO) (c : Nat) (k : Nat) (H : List AO) : Prop := ∃ far W o off els, Bf n es q v far W ∧ QH n st far W H o off els ∧ VH m v L H o ∧ c + W.length = cntG far ∧ 0 ≤ far.getD v 0 ∧
  ∀ x ∈ es.take k, incB v x = true → 0 ≤ far.getD (x.a + x.b - v).toNat 0
theorem QH.set {n : Nat} {st : List AO} {far W : List Int} {H : List AO} {o off : Nat} {els : List Int} (h : QH n st far W H o off els) {i : Nat} (h8 : 8 ≤ i) (ho : i ≠ o) (x : AO) : QH n st far W (H.set i x) o off els := by
  refine ⟨fun j hj => ?_, ?_, ?_, ?_, ?_, h.hd, h.hl, h.hc, h.hn⟩
  · rw [List.getElem?_set_ne (by omega)]; exact h.hs j hj
  · rw [List.getElem?_set_ne (by omega)]; exact h.h4
  · rw [List.getElem?_set_ne (by omega)]; exact h.h5
  · rw [List.getElem?_set_ne (by omega)]; exact h.h7
  · rw [List.getElem?_set_ne (by omega)]; exact h.ho
section
variable {n : Nat} {es : List Ed} (hr : ∀ x ∈ es, Right n x) (hn : n ≤ 12) (hel : es.length ≤ 1000) {q : Nat} (hq : q < n) {d s : List Int} {er : Int} (hd : d.length = n) (hs : s.length = n)
include hr hn hel hq hd hs
theorem dist_hc {K : AV → List AO → Prop} (hK : ∀ far : List Int, FarOk n es q far → K (.os 4 0 n) (stH n es q d s er ++ [rowZ far])) : HC Try.prog false 69 [.ptr 1 1 0 0] (stH n es q d s er) K := by
  refine HC_norm ?_
  refine HC_of_W (af := _) ((by exact cfn69 : cfn _ _ _ = some _)) ?_
  simp -implicitDefEqProofs (disch := omega) [c69, List.getElem?_cons_zero, List.getElem?_cons_succ, wrap_id]
  refine HC_of_PC rfl (repeat_ok n (by omega) hn (-1)) ?_
  simp -implicitDefEqProofs (disch := omega) [List.getElem?_cons_zero, List.getElem?_cons_succ, wrap_id, hq]
  refine loopW n (DsI n es q (stH n es q d s er)) (wk_norm [0, 1, 2, 3, 5, 6, 7, 8] [0, 3, 4] rfl rfl)
    ⟨_, _, _, 6, 0, [(q : Int)], Bf.init hq, ⟨fun i hi => ?_, by rw [rowZ, List.map_set, List.map_replicate]; rfl, rfl, rfl, rfl, rfl, by simp, ?_, .inl rfl⟩, ?_, rfl⟩ ?_
  · match i, hi with
    | 0, _ => rfl
    | 1, _ => rfl
    | 2, _ => rfl
    | 3, _ => rfl
  · have := cntG_set (far := List.replicate n (-1)) (u := q) (y := 0) (by simpa using hq) (by rw [getD_rep hq]; omega) (by omega)
    rw [this]; simp
  · have := cntG_set (far := List.replicate n (-1)) (u := q) (y := 0) (by simpa using hq) (by rw [getD_rep hq]; omega) (by omega)
    rw [this]; unfold cntG; rw [List.countP_replicate]; simp
  rintro k s1 hk ⟨far, W, H, o, off, els, hB, hQ, hcnt, rfl⟩
  have h5 := hQ.h5
  have h7 := hQ.h7
  have ho := hQ.ho
  have hlen := lt_some h7
  have hl := hQ.hl
  cases W with
  | nil =>
    have hl' : off = els.length := by simpa using hl
    have g0 := hQ.hs 0 (by omega)
    have g1 := hQ.hs 1 (by omega)
    have g2 := hQ.hs 2 (by omega)
    have g3 := hQ.hs 3 (by omega)
    have h4 := hQ.h4
    simp -implicitDefEqProofs (disch := omega) [List.getElem?_cons_zero, List.getElem?_cons_succ, wrap_id, h5, h7, hl', ho, -getElem?_pos]
    refine finH trivial rfl ⟨[0, 1, 2, 3, 4], ?_, ?_⟩
    · simp [okσ, nodupB, firstB]; omega
    · have := hK far hB.ok
      simp only [stH, List.getElem?_cons_zero, List.getElem?_cons_succ] at g0 g1 g2 g3
      simp only [renH, List.map_cons, List.map_nil, List.getD_eq_getElem?_getD, g0, g1, g2, g3, h4, Option.getD_some]
      exact this
  | cons w W =>
    obtain ⟨hw0, hwn, hwf⟩ := hB.w w (by simp)
    obtain ⟨v, rfl⟩ : ∃ v : Nat, w = v := ⟨w.toNat, by omega⟩
    rw [Int.toNat_natCast] at hwf
    have hvn : v < n := by omega
    rw [List.length_cons] at h7 hl
    have hl2 : off + (W.length + 1) = els.length := hl
    have hl3 : off + 1 + W.length = els.length := by omega
    have hpos : (0 : Int) < (W.length : Int) + 1 := by omega
    have hpos2 : 0 < W.length + 1 := by omega
    have hdr := hQ.hd
    have e0 : els[off]? = some (v : Int) := by
      have := congrArg (fun l : List Int => l[0]?) hdr
      simpa using this
    have f1 : ∀ y, (H ++ [y])[H.length]? = some y := fun y => by simp
    have f3 : ∀ y z, (H ++ [y]).set H.length z = H ++ [z] := fun y z => by simp
    have f7 : ∀ Z, (H ++ Z)[7]? = _ := fun Z => app_some h7 Z
    have fo : ∀ Z, (H ++ Z)[o]? = _ := fun Z => app_some ho Z
    have ho7 : o ≠ 7 := by have := hQ.hn; omega
    have hoH := lt_some ho
    obtain ⟨X, hX⟩ : ∃ X, X = H.set 7 (.box (.os o (off + 1) W.length)) ++ [AO.box (.p (.i v))] := ⟨_, rfl⟩
    have hXl : X.length = H.length + 1 := by rw [hX]; simp
    have hXm : X[H.length]? = some (.box (.i v)) := by rw [hX, List.getElem?_append_right (by simp)]; simp
    simp -implicitDefEqProofs (disch := omega) [List.getElem?_cons_zero, List.getElem?_cons_succ, wrap_id, h5, h7, hl2, hl3, ho, e0, f1, f3, f7, fo, hpos, hpos2, ← hX, hXm, -getElem?_pos]
    have hX1 : ∀ L, (X ++ L)[1]? = (stH n es q d s er)[1]? := fun L => by
      rw [List.getElem?_append_left (by omega), hX, List.getElem?_append_left (by simp; omega), List.getElem?_set_ne (by omega)]
      exact hQ.hs 1 (by omega)
    refine links_hc (fun L => by simp [boxable, solid, hX1]) ?_
    simp -implicitDefEqProofs (disch := omega) [List.getElem?_cons_zero, List.getElem?_cons_succ, wrap_id, hXl]
    obtain ⟨t, ht, ht3, ht4, ht5⟩ : ∃ t : List (Nat × AV), t = [(35, AV.fn (Fn.func 93) [] [AV.ptr (H.length + 1) 1 0 0, AV.ptr (H.length + 1 + 1) 1 0 0]),
          (34, AV.p (PV.v (Value.int IntKind.i64 (v : Int)))), (33, AV.ptr 1 1 0 0), (32, AV.os o (off + 1) W.length),
          (31, AV.os o off (W.length + 1)), (5, AV.ptr H.length 1 0 0), (30, AV.p (PV.i v)),
          (29, AV.ptr o els.length off 0), (28, AV.os o off (W.length + 1)), (27, AV.p (PV.v (Value.bool true))),
          (26, AV.p (PV.v (Value.int IntKind.i64 ((W.length : Int) + 1)))), (25, AV.os o off (W.length + 1)),
          (0, AV.ptr 1 1 0 0), (3, AV.ptr 5 1 0 0), (4, AV.ptr 7 1 0 0)] ∧ Abs.get t 3 = .ptr 5 1 0 0 ∧ Abs.get t 4 = .ptr 7 1 0 0 ∧ Abs.get t 5 = .ptr H.length 1 0 0 := ⟨_, rfl, rfl, rfl, rfl⟩
    have ht0 : Abs.get t 0 = .ptr 1 1 0 0 := by rw [ht]; rfl
    rw [← ht]
    have hoX : o ≠ H.length := by omega
    have hQX : QH n (stH n es q d s er) far W X o (off + 1) els := by
      have hx : ∀ i, i < H.length → i ≠ 7 → X[i]? = H[i]? := fun i h1 h2 => by rw [hX, List.getElem?_append_left (by simp; omega), List.getElem?_set_ne (by omega)]
      refine ⟨fun i hi => by rw [hx i (by omega) (by omega)]; exact hQ.hs i hi, ?_, ?_, ?_, ?_, ?_, by omega, hQ.hc, hQ.hn⟩
      · rw [hx 4 (by omega) (by omega)]; exact hQ.h4
      · rw [hx 5 (by omega) (by omega)]; exact hQ.h5
      · rw [hX, List.getElem?_append_left (by simp; omega), List.getElem?_set_self (by omega)]
      · rw [hx o (by omega) (by omega)]; exact ho
      · rw [← List.drop_drop, hdr]; rfl
    have ap : ∀ (Z : List AO) (i j : Nat), i = H.length + 1 + j → (X ++ Z)[i]? = Z[j]? := fun Z i j e => by
      rw [List.getElem?_append_right (by omega), show i - X.length = j by omega]
    refine ⟨by kernel_rfl, links_rangeJ hr hn hel (v := (v : Int)) (by omega) (o := 1) (xi := H.length + 1) (vi := H.length + 1 + 1) (lp := H.length + 1 + 2) (L := .lp 56 t [36, 37] rc69_0a rc69_0c .ready) (J := DsJ n es q (stH n es q d s er) H.length v (.lp 56 t [36, 37] rc69_0a rc69_0c .ready) (k + 1))
      ⟨far, W, o, off + 1, els, hB.pop, hQX.app _, ⟨app_some hXm _, ?_, ?_, ?_, by omega, by omega⟩, by simp at hcnt; omega, hwf, fun x hx => by simp at hx⟩ (hX1 _) ?_ ?_ ?_ rfl ?_ ?_ ?_ ?_⟩
    · rw [ap _ _ 0 (by omega)]; rfl
    · rw [ap _ _ 1 (by omega)]; rfl
    · rw [ap _ _ 2 (by omega)]; rfl
    · rw [ap _ _ 0 (by omega)]; rfl
    · rintro i H1 ⟨far, W, o, off, els, hB, hQ, hV, h⟩
      exact hV.g2
    · rintro i H1 ⟨far, W, o, off, els, hB, hQ, hV, h⟩
      exact hV.g3
    · rintro i H1 Z ⟨far, W, o, off, els, hB, hQ, hV, h⟩
      exact ⟨far, W, o, off, els, hB, hQ.app Z, hV.app Z, h⟩
    · rintro i hi H1 hinc ⟨far, W, o, off, els, hB, hQ, hV, h1, h2, h3⟩
      refine ⟨far, W, o, off, els, hB, hQ, hV, h1, h2, fun x hx hix => ?_⟩
      rw [List.take_succ_eq_append_getElem hi] at hx
      rcases List.mem_append.1 hx with hx | hx
      · exact h3 x hx hix
      · simp only [List.mem_singleton] at hx
        rw [hx, hinc] at hix
        cases hix
    · rintro i hi H1 K' hinc ⟨far, W, o, off, els, hB, hQ, hV, h1, h2, h3⟩ hK'
      obtain ⟨r1, r2, r3, r4, r5, r6, r7⟩ := hr es[i] (List.getElem_mem hi)
      have hinc2 := hinc
      simp only [incB, decide_eq_true_eq] at hinc2
      obtain ⟨u, hu⟩ : ∃ u : Nat, es[i].a + es[i].b - v = u := ⟨(es[i].a + es[i].b - v).toNat, by omega⟩
      have hun : u < n := by omega
      have hiu : incB u es[i] = true := by
        simp only [incB, decide_eq_true_eq]
        omega
      have hback : (es[i].a + es[i].b - (u : Int)).toNat = v := by omega
      have hfr := hB.rng v hvn
      have hcl := cntG_le far
      rw [hB.len] at hcl
      rw [hu]
      have hk1 : ∀ far' : List Int, (∀ y, 0 ≤ far.getD y 0 → 0 ≤ far'.getD y 0) → 0 ≤ far'.getD u 0 → ∀ x ∈ es.take (i + 1), incB v x = true → 0 ≤ far'.getD (x.a + x.b - v).toNat 0 := fun far' hmono hu0 x hx hix => by
        rw [List.take_succ_eq_append_getElem hi] at hx
        rcases List.mem_append.1 hx with hx | hx
        · exact hmono _ (h3 x hx hix)
        · simp only [List.mem_singleton] at hx
          rw [hx, hu, Int.toNat_natCast]
          exact hu0
      refine dist_body hn hvn ht3 ht4 ht5 hQ hV hB.len hun (by omega) (fun hf H' hQ' hV' => ?_) (fun hf H' o' off' els' hQ' hV' => ?_)
      · exact hK' H' ⟨far, W, o, off, els, hB, hQ', hV', h1, h2, hk1 far (fun _ h => h) hf⟩
      · have hul : u < far.length := by rw [hB.len]; exact hun
        have hmono : ∀ y, 0 ≤ far.getD y 0 → 0 ≤ (far.set u (far.getD v 0 + 1)).getD y 0 := fun y hy => by
          rw [getD_set' hul]
          split <;> omega
        refine hK' H' ⟨_, _, o', off', els', hB.push hun hf hvn h2 ⟨es[i], List.getElem_mem hi, hiu, hback⟩, hQ', hV', ?_, hmono _ h2, hk1 _ hmono ?_⟩
        · rw [cntG_set hul hf (by omega)]; simp; omega
        · rw [getD_set' hul, if_pos rfl]; omega
    · rintro r H1 ⟨far, W, o, off, els, hB, hQ, hV, h1, h2, h3⟩
      rw [List.take_length] at h3
      have hcl := cntG_le far
      rw [hB.len] at hcl
      have hno := hV.hn
      refine AfterR_ready hV.g3 ?_
      simp -implicitDefEqProofs (disch := omega) [List.getElem?_cons_zero, List.getElem?_cons_succ, wrap_id]
      refine round_keep [0, 3, 4] (by omega) ⟨far, W, _, o, off, els, hB.done h3, hQ.set (i := H.length + 1 + 2) (by omega) (by omega) (.lp 56 t [36, 37] rc69_0a rc69_0c .over), by omega, ?_⟩
      simp [Abs.get, ht]
end
end Go.Proofs.Ytgbmdikkdjogpaa
