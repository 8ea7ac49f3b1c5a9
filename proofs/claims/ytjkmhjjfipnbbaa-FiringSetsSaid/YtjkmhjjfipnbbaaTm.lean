/-
  Contracts: is the firing of a set legal?
-/
import Derived.Test.YtjkmhjjfipnbbaaTl
set_option linter.unusedSimpArgs false
namespace Go.Proofs.Ytjkmhjjfipnbbaa
open Go.Abs Go.Sand

abbrev HLS (n : Nat) (d l : List Int) : List AO := [.box (.p (.is d)), .box (.os 2 0 n), .row (l.map .i) 1 3 false, .box (.fn (.func 70) [] [.ptr 0 1 0 0, .ptr 1 1 0 0])]
theorem legal1_ok (n : Nat) (d l : List Int) (v : Nat) (hn : l.length = n) (h1 : v < d.length) (h2 : v < l.length) {R : AV → List AO → Prop} (hR : R (.b (decide (l[v] ≤ d[v]))) (HLS n d l)) :
    HC Try.prog false 70 [.i v, .ptr 0 1 0 0, .ptr 1 1 0 0] (HLS n d l) R := by
  subst hn
  refine HC_of_W (af := _) ((by exact cfn70 : cfn _ _ _ = some _)) ?_
  simp -implicitDefEqProofs (disch := omega) [c70, List.getElem?_cons_zero, List.getElem?_cons_succ, wrap_id, h1, h2]
  exact finH trivial rfl hR
theorem legal2_ok (n : Nat) (d l : List Int) (v : Nat) (hn : l.length = n) (h1 : v < d.length) (h2 : v < l.length) {R : AV → List AO → Prop} (hR : R (.b (!decide (l[v] ≤ d[v]))) (HLS n d l)) :
    HC Try.prog false 72 [.i v, .ptr 3 1 0 0] (HLS n d l) R := by
  subst hn
  refine HC_of_W (af := _) ((by exact cfn72 : cfn _ _ _ = some _)) ?_
  simp -implicitDefEqProofs (disch := omega) [c72, List.getElem?_cons_zero, List.getElem?_cons_succ, wrap_id, h1, h2]
  refine ⟨by kernel_rfl, legal1_ok _ d l v rfl h1 h2 ?_⟩
  simp -implicitDefEqProofs (disch := omega) [List.getElem?_cons_zero, List.getElem?_cons_succ, wrap_id]
  exact finH trivial rfl hR
theorem leaves_snoc (es : List Ed) (set : List Int) (k : Nat) (h : k < es.length) : leaves (es.take (k + 1)) set = (leaves (es.take k) set || (decide (es[k].a ∈ set) != decide (es[k].b ∈ set))) := by
  unfold leaves
  rw [List.take_succ_eq_append_getElem h, List.any_append]
  simp
theorem lost_bd {n : Nat} {es : List Ed} (h : ∀ x ∈ es, Right n x) (he : es.length ≤ 1000) (set : List Int) (k p : Nat) (hp : p < n) (hl : p < (lostL n (es.take k) set).length) : 0 ≤ (lostL n (es.take k) set)[p] ∧ (lostL n (es.take k) set)[p] ≤ 50000 := by
  have h1 := lostV_bd (n := n) (es := es.take k) (fun x hx => h x (List.mem_of_mem_take hx)) set p
  have h2 := lostL_getD n (es.take k) set p hp
  have h3 : (es.take k).length ≤ 1000 := by rw [List.length_take]; omega
  rw [getD_get hl] at h2
  rw [h2]
  omega
theorem legalset_ok (N : Int) (es : List Ed) (d set : List Int) (he : es.length ≤ 1000) (hd : d.length ≤ 4611686018427387904) (hset : set.length ≤ 4611686018427387904) :
    PC Try.prog 32 [G N es, .is d, .is set] (.tup [.b (resB (subE N es d set) (legalSet N.toNat es d set)), .i (subE N es d set)]) [] := by
  refine PC_of_W cfn32 ?_
  simp -implicitDefEqProofs (disch := omega) [c32, List.getElem?_cons_zero, List.getElem?_cons_succ, wrap_id]
  refine HC_of_PC rfl (fsubset_ok N es d set (by omega) hd hset) ?_
  by_cases h0 : subE N es d set = 0
  rotate_left
  · have hr := resB_err (b := legalSet N.toNat es d set) h0
    simp -implicitDefEqProofs (disch := omega) [List.getElem?_cons_zero, List.getElem?_cons_succ, wrap_id, h0]
    (refine fin0 trivial rfl ?_; simp -implicitDefEqProofs (disch := omega) [List.getElem?_cons_zero, List.getElem?_cons_succ, idx, wrap_id, h0, hr])
  obtain ⟨hg0, hs0⟩ := subE_ok h0
  obtain ⟨n, rfl, hg, hl, hb, hn1, hn⟩ := given_ok hg0
  have hn' : n ≤ 1048576 := by omega
  have hss := (subErr_ok hs0).1
  simp -implicitDefEqProofs (disch := omega) [List.getElem?_cons_zero, List.getElem?_cons_succ, wrap_id, h0, hn']
  refine loopW es.length (fun k s => s = ⟨[(29, .i k), (28, .i es.length), (27, .p (.sl (es.map edP))), (4, .ptr 0 1 0 0), (9, .ptr 1 1 0 0), (10, .b (leaves (es.take k) set)), (2, .p (.is set))], [.box (.p (.is d)), .box (.os 2 0 n), .row ((lostL n (es.take k) set).map .i) 1 3 false]⟩) (wk_norm [1, 3, 2] [29, 28, 27, 4, 9, 10, 2] rfl rfl) (by simp [norm, renH, Abs.get, AV.ren, AO.ren, idx, lostL, lostV, sumI, leaves, List.map_const']) ?_
  rintro k s hk rfl
  have hll := lostL_length n (es.take k) set
  by_cases hlt : k < es.length
  rotate_left
  · have : k = es.length := by omega
    subst this
    rw [List.take_length] at hll ⊢
    cases hlv : leaves es set
    · simp -implicitDefEqProofs (disch := omega) [List.getElem?_cons_zero, List.getElem?_cons_succ, wrap_id]
      (refine fin0 trivial rfl ?_; simp -implicitDefEqProofs (disch := omega) [List.getElem?_cons_zero, List.getElem?_cons_succ, idx, wrap_id, resB_ok, legalSet, hlv])
    · simp -implicitDefEqProofs (disch := omega) [List.getElem?_cons_zero, List.getElem?_cons_succ, wrap_id]
      refine hasfI_ok (p := fun v => !decide ((lostL n es set).getD v.toNat 0 ≤ d.getD v.toNat 0)) set hset (by kernel_rfl) (fun u hu K hK => ?_) ?_
      · obtain ⟨v, rfl⟩ : ∃ v : Nat, u = v := ⟨u.toNat, by have := hss u hu; omega⟩
        have hv := hss _ hu
        refine legal2_ok n d (lostL n es set) v hll (by omega) (by omega) ?_
        rw [Int.toNat_natCast, getD_get (by omega), getD_get (by omega)] at hK
        exact hK
      · simp -implicitDefEqProofs (disch := omega) [List.getElem?_cons_zero, List.getElem?_cons_succ, wrap_id]
        (refine fin0 trivial rfl ?_; simp -implicitDefEqProofs (disch := omega) [List.getElem?_cons_zero, List.getElem?_cons_succ, idx, wrap_id, resB_ok, legalSet, hlv])
  have hx := hg.right es[k] (List.getElem_mem hlt)
  have hls := leaves_snoc es set k hlt
  obtain ⟨a, ha⟩ : ∃ a : Nat, es[k].a = a := ⟨es[k].a.toNat, by have := hx.a0; omega⟩
  obtain ⟨b, hb⟩ : ∃ b : Nat, es[k].b = b := ⟨es[k].b.toNat, by have := hx.b0; omega⟩
  have han : a < n := by have := hx.an; omega
  have hbn : b < n := by have := hx.bn; omega
  have hm1 := hx.m1
  have hm2 := hx.m50
  have hba := lost_bd hg.right he set k a han (by omega)
  have hbb := lost_bd hg.right he set k b hbn (by omega)
  simp -implicitDefEqProofs (disch := omega) [List.getElem?_cons_zero, List.getElem?_cons_succ, wrap_id, hlt, ha, hb]
  refine HC_of_PC rfl (contains_ok set a hset) ?_
  simp -implicitDefEqProofs (disch := omega) [List.getElem?_cons_zero, List.getElem?_cons_succ, wrap_id, ha, hb]
  refine HC_of_PC rfl (contains_ok set b hset) ?_
  by_cases h1 : (a : Int) ∈ set <;> by_cases h2 : (b : Int) ∈ set
  · have hsm := lost_same n es set k hlt (by simp [ha, hb, h1, h2]) (by simp [ha, hb, h1, h2])
    simp -implicitDefEqProofs (disch := omega) [List.getElem?_cons_zero, List.getElem?_cons_succ, wrap_id, h1, h2]
    exact round_end [0, 1, 2] [29, 28, 27, 4, 9, 10, 2] hlt rfl (by rw [hsm, hls, ha, hb]; simp [h1, h2]; rfl)
  · have hsm := lost_a n es set k hlt a ha (by rwa [ha]) (by rwa [hb])
    rw [getD_get (by omega)] at hsm
    simp -implicitDefEqProofs (disch := omega) [List.getElem?_cons_zero, List.getElem?_cons_succ, wrap_id, h1, h2, han, hbn, hll, ha, hb]
    exact round_end [0, 1, 2] [29, 28, 27, 4, 9, 10, 2] hlt rfl (by rw [hsm, hls, ha, hb, List.map_set]; simp [h1, h2]; rfl)
  · have hsm := lost_b n es set k hlt b hb (by rwa [hb]) (by rwa [ha])
    rw [getD_get (by omega)] at hsm
    simp -implicitDefEqProofs (disch := omega) [List.getElem?_cons_zero, List.getElem?_cons_succ, wrap_id, h1, h2, han, hbn, hll, ha, hb]
    exact round_end [0, 1, 2] [29, 28, 27, 4, 9, 10, 2] hlt rfl (by rw [hsm, hls, ha, hb, List.map_set]; simp [h1, h2]; rfl)
  · have hsm := lost_same n es set k hlt (by simp [ha, hb, h1, h2]) (by simp [ha, hb, h1, h2])
    simp -implicitDefEqProofs (disch := omega) [List.getElem?_cons_zero, List.getElem?_cons_succ, wrap_id, h1, h2]
    exact round_end [0, 1, 2] [29, 28, 27, 4, 9, 10, 2] hlt rfl (by rw [hsm, hls, ha, hb]; simp [h1, h2]; rfl)
end Go.Proofs.Ytjkmhjjfipnbbaa
