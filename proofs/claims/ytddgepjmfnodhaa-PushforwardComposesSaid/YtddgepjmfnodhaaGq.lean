/-
  Contracts: the genus: graph.Genus.
-/
import Derived.Test.YtddgepjmfnodhaaGn
import Derived.Test.YtddgepjmfnodhaaGm
import Derived.Test.YtddgepjmfnodhaaMua
import Derived.Test.YtddgepjmfnodhaaMae
set_option linter.unusedSimpArgs false
set_option linter.unusedVariables false
namespace Go.Proofs.Ytddgepjmfnodhaa
open Go.Abs Go.Sand

attribute [local simp ↓ 10000] putA_ints
theorem F_view (H : List AO) : ∀ F : List Int, viewL H ((F.map PV.i).map AV.p) = some (F.map PV.i)
  | [] => rfl
  | x :: F => by
    show viewL H (.p (.i x) :: (F.map PV.i).map AV.p) = _
    rw [viewL, F_view H F]; rfl
theorem groot_ok {e : Bool} {F : List Int} {c : Nat → Nat} {H : List AO} {o : Nat} {R : AV → List AO → Prop} (hF : Forest F c) (ho : H[o]? = some (boxF F)) (v : Nat) (hv : v < 12) (hR : R (.i (c v)) H) : HC Try.prog e 75 [.ptr o 1 0 0, .i v] H R := by
  have hview : view H (.agg (AV.p (.agg (F.map PV.i))).flat) = some (.agg (F.map PV.i)) := by
    show (match viewL H ((F.map PV.i).map AV.p) with
      | some m => if m.all (·.one) then some (PV.agg m) else none
      | none => none) = _
    rw [F_view]
    dsimp only
    rw [if_pos]
    refine List.all_eq_true.2 fun e he => ?_
    obtain ⟨x, _, rfl⟩ := List.mem_map.1 he
    rfl
  refine HC_ptr (rest := [.i v]) (ps := F.map PV.i) (x := .int .i64 (c v)) cfn75 ho hview ?_ hR
  simp -implicitDefEqProofs (disch := omega) [c75, List.getElem?_cons_zero, List.getElem?_cons_succ, wrap_id]
  refine loopW v (fun k s => ∃ u : Nat, s = ⟨[(1, .i u), (0, .sp (.agg (F.map PV.i)) 0), (4, .i 0)], []⟩ ∧ u + k ≤ v ∧ c u = c v) (Wk_keep [1, 0, 4]) ⟨v, rfl, by omega, rfl⟩ ?_
  rintro k s hk ⟨u, rfl, huk, hc⟩
  obtain ⟨p, h1, h2, h3, h4⟩ := hF.par u (by omega)
  have hg := get_F h1
  have hu : u < 12 := by omega
  by_cases e : p = u
  · have hcu := h4 e
    subst e
    have hcv : c v = p := by rw [← hc, hcu]
    simp -implicitDefEqProofs (disch := omega) [List.getElem?_cons_zero, List.getElem?_cons_succ, wrap_id, hg, hu]
    (refine fin0 trivial rfl ?_; simp -implicitDefEqProofs (disch := omega) [List.getElem?_cons_zero, List.getElem?_cons_succ, idx, wrap_id, hcv])
  · have e' : ¬ ((p : Int) = (u : Int)) := by omega
    simp -implicitDefEqProofs (disch := omega) [List.getElem?_cons_zero, List.getElem?_cons_succ, wrap_id, hg, hu, e']
    exact round_keep [1, 0, 4] (by omega) ⟨p, rfl, by omega, by rw [h3]; exact hc⟩
/-- The objects while the genus is counted. -/
abbrev genH (N : Int) (es : List Ed) (lp : AO) (L : List (Int × Int)) (T : List AO) : List AO := .box (.p (G N es)) :: boxF (gFo L) :: .box (.p (.i (gSt L).2)) :: .box (.p (G N es)) :: lp :: T
theorem gen_range (n : Nat) (es : List Ed) (hn : n ≤ 12) (hg : ∀ x ∈ es, Right n x) (he : es.length ≤ 1000) (t : List (Nat × AV)) (ht5 : Abs.get t 5 = .ptr 1 1 0 0) (ht7 : Abs.get t 7 = .ptr 2 1 0 0) (hf : loT 5 t = true) {K : AV → List AO → Prop}
    (hK : ∀ r, K r (genH n es (.lp 47 t [26, 27] rc44_0a rc44_0c .ready) (endsL es) [])) :
    HC Try.prog false 98 [.yl 4, .ptr 3 1 0 0] (genH n es (.lp 47 t [26, 27] rc44_0a rc44_0c .ready) [] []) K := by
  have hlp : ∀ H, AO.ren H (Abs.idx [0, 1, 2, 3, 4] 0) (.lp 47 t [26, 27] rc44_0a rc44_0c .ready) = .lp 47 t [26, 27] rc44_0a rc44_0c .ready := fun H => lp_ren hf (by decide)
  have hlp5 : ∀ H, AO.ren H (Abs.idx [0, 1, 2, 3, 4, 5] 0) (.lp 47 t [26, 27] rc44_0a rc44_0c .ready) = .lp 47 t [26, 27] rc44_0a rc44_0c .ready := fun H => lp_ren hf (by decide)
  refine HC_of_W (af := _) ((by exact cfn98 : cfn _ _ _ = some _)) ?_
  simp -implicitDefEqProofs (disch := omega) [c98, List.getElem?_cons_zero, List.getElem?_cons_succ, wrap_id]
  refine loopS es.length (fun k s => s = ⟨[(9, .i k), (8, .i es.length), (7, .p (.sl (es.map edP))), (3, .i (endsL (es.take k)).length), (0, .yl 4), (1, .ptr 3 1 0 0)], genH n es (.lp 47 t [26, 27] rc44_0a rc44_0c .ready) (endsL (es.take k)) []⟩)
    [0, 1, 2, 3, 4] [9, 8, 7, 3, 0, 1] rfl (by simp -implicitDefEqProofs [-AO.ren, norm, renH, ren_box, ren_fbx, ren_row, ren_tab, ren_dict, Abs.get, AV.ren, idx_at, idx_at0, hlp, show endsL [] = [] from rfl]) ?_
  rintro k s hk rfl
  have hL := endsL_take_len hg he k
  by_cases hlt : k < es.length
  · have hr := hg es[k] (List.getElem_mem hlt)
    obtain ⟨m, hm⟩ : ∃ m : Nat, es[k].m = m := ⟨es[k].m.toNat, by have := hr.m1; omega⟩
    have hm50 : m ≤ 50 := by have := hr.m50; omega
    simp -implicitDefEqProofs (disch := omega) [List.getElem?_cons_zero, List.getElem?_cons_succ, wrap_id, hlt, hm]
    refine loopS m (fun j s => s = ⟨[(15, .i j), (14, .i m), (5, .ptr 5 1 0 0), (9, .i k), (8, .i es.length), (7, .p (.sl (es.map edP))), (3, .i ((endsL (es.take k)).length + j : Nat)), (0, .yl 4), (1, .ptr 3 1 0 0)], genH n es (.lp 47 t [26, 27] rc44_0a rc44_0c .ready) (endsL (es.take k) ++ List.replicate j (es[k].a, es[k].b)) [.box (.p (edP es[k]))]⟩)
      [0, 1, 2, 3, 4, 5] [15, 14, 5, 9, 8, 7, 3, 0, 1] rfl (by simp -implicitDefEqProofs [-AO.ren, norm, renH, ren_box, ren_fbx, ren_row, ren_tab, ren_dict, Abs.get, AV.ren, idx_at, idx_at0, hlp5, hm, genH]) ?_
    rintro j s hj rfl
    by_cases hlj : j < m
    · have hL2 : (endsL (es.take k)).length + (j + 1) ≤ 1048576 := by omega
      have h1 := hr.a0
      have h2 := hr.an
      have h3 := hr.b0
      have h4 := hr.bn
      obtain ⟨a, ha⟩ : ∃ a : Nat, es[k].a = a := ⟨es[k].a.toNat, by omega⟩
      obtain ⟨b, hb⟩ : ∃ b : Nat, es[k].b = b := ⟨es[k].b.toNat, by omega⟩
      have hsn : endsL (es.take k) ++ List.replicate (j + 1) ((a : Int), (b : Int)) = endsL (es.take k) ++ List.replicate j ((a : Int), (b : Int)) ++ [((a : Int), (b : Int))] := by rw [List.replicate_succ', List.append_assoc]
      rw [ha, hb]
      obtain ⟨L, hLd⟩ : ∃ L, L = endsL (es.take k) ++ List.replicate j ((a : Int), (b : Int)) := ⟨_, rfl⟩
      rw [← hLd] at hsn ⊢
      have hLin : ∀ p ∈ L, (0 ≤ p.1 ∧ p.1 < (n : Int)) ∧ 0 ≤ p.2 ∧ p.2 < (n : Int) := fun p hp => by
        rw [hLd] at hp
        rcases List.mem_append.1 hp with hp | hp
        · simp only [endsL, List.mem_flatMap, List.mem_replicate] at hp
          obtain ⟨x, hx, _, rfl⟩ := hp
          have r := hg x (List.mem_of_mem_take hx)
          exact ⟨⟨r.a0, r.an⟩, r.b0, r.bn⟩
        · rw [List.eq_of_mem_replicate hp]
          exact ⟨⟨by omega, by omega⟩, by omega, by omega⟩
      have hF := gSt_forest hn L hLin
      have hFl := hF.len
      have hcnt := gSt_count hn _ L rfl hLin
      have hroot : rootN (gSt L).1 n ≤ n := by unfold rootN; have := List.length_filter_le (fun v => decide ((gSt L).1 v = v)) (List.range n); simpa using this
      have hLl : L.length ≤ 60000 := by rw [hLd, List.length_append, List.length_replicate]; omega
      have hg6 : (gSt L).2 ≤ 60000 := by omega
      have e1 := gFo_snoc L ((a : Int), (b : Int))
      have e2 : (gSt (L ++ [((a : Int), (b : Int))])).2 = (gSt L).2 + if (gSt L).1 a = (gSt L).1 b then 1 else 0 := by rw [gSt_snoc]; rfl
      simp only [Int.toNat_natCast] at e1
      obtain ⟨c, hc⟩ : ∃ c, c = (gSt L).1 := ⟨_, rfl⟩
      obtain ⟨F, hFd⟩ : ∃ F, F = gFo L := ⟨_, rfl⟩
      obtain ⟨g, hgd⟩ : ∃ g, g = (gSt L).2 := ⟨_, rfl⟩
      rw [← hc, ← hFd] at hF e1
      rw [← hc, ← hgd] at e2
      rw [← hFd] at hFl
      rw [← hgd] at hg6
      rw [genH, ← hFd, ← hgd]
      obtain ⟨a1, _⟩ := hF.le a (by omega)
      obtain ⟨b1, _⟩ := hF.le b (by omega)
      have m1 : max (c a : Int) (c b) = ((max (c a) (c b) : Nat) : Int) := by omega
      have m2 : min (c a : Int) (c b) = ((min (c a) (c b) : Nat) : Int) := by omega
      obtain ⟨M, hM⟩ : ∃ M, M = max (c a) (c b) := ⟨_, rfl⟩
      rw [← hM] at m1 e1
      have hM12 : M < 12 := by omega
      have hset : (F.set M ((min (c a) (c b) : Nat) : Int)) = gFo (L ++ [((a : Int), (b : Int))]) := e1.symm
      simp -implicitDefEqProofs (disch := omega) [List.getElem?_cons_zero, List.getElem?_cons_succ, wrap_id, hlj, ha, hb]
      refine HY_of_W rfl rcc44_0a rcc44_0c rfl rfl rfl rfl ?_
      simp -implicitDefEqProofs (disch := omega) [List.getElem?_cons_zero, List.getElem?_cons_succ, wrap_id, ra44_0a, ra44_0c, ht5, ht7, hL2]
      refine groot_ok hF (o := 1) rfl a (by omega) ?_
      simp -implicitDefEqProofs (disch := omega) [List.getElem?_cons_zero, List.getElem?_cons_succ, wrap_id, ht5, ht7]
      refine groot_ok hF (o := 1) rfl b (by omega) ?_
      by_cases hab : c a = c b
      · have hab' : ((c a : Nat) : Int) = c b := by omega
        rw [if_pos hab] at e2
        have hMb : M = c b := by omega
        have hmb : min (c a) (c b) = c b := by omega
        have hcb : c b < 12 := by omega
        rw [hMb, hmb] at e1
        simp -implicitDefEqProofs (disch := omega) [List.getElem?_cons_zero, List.getElem?_cons_succ, wrap_id, ht5, ht7, hab', hcb, hFl]
        exact round_end [0, 1, 2, 3, 4, 5] [15, 14, 5, 9, 8, 7, 3, 0, 1] hlj rfl (by simp -implicitDefEqProofs [-AO.ren, norm, renH, ren_box, ren_fbx, ren_row, ren_tab, ren_dict, Abs.get, AV.ren, idx_at, idx_at0, hlp5, genH, hsn, e1, e2, List.map_set, Int.add_assoc])
      · have hab' : ¬ ((c a : Nat) : Int) = c b := by omega
        rw [if_neg hab, Nat.add_zero] at e2
        simp -implicitDefEqProofs (disch := omega) [List.getElem?_cons_zero, List.getElem?_cons_succ, wrap_id, ht5, ht7, hab', m1, m2, hM12, hFl]
        exact round_end [0, 1, 2, 3, 4, 5] [15, 14, 5, 9, 8, 7, 3, 0, 1] hlj rfl (by simp -implicitDefEqProofs [-AO.ren, norm, renH, ren_box, ren_fbx, ren_row, ren_tab, ren_dict, Abs.get, AV.ren, idx_at, idx_at0, hlp5, genH, hsn, e1, e2, List.map_set, Int.add_assoc])
    · have hjm : j = m := by omega
      subst hjm
      have hs := endsL_snoc es k hlt
      rw [hm, Int.toNat_natCast] at hs
      simp -implicitDefEqProofs (disch := omega) [List.getElem?_cons_zero, List.getElem?_cons_succ, wrap_id]
      exact round_end [0, 1, 2, 3, 4] [9, 8, 7, 3, 0, 1] hlt rfl (by simp -implicitDefEqProofs [-AO.ren, norm, renH, ren_box, ren_fbx, ren_row, ren_tab, ren_dict, Abs.get, AV.ren, idx_at, idx_at0, hlp, hs, genH])
  · have hk : k = es.length := by omega
    subst hk
    rw [List.take_length]
    simp -implicitDefEqProofs (disch := omega) [List.getElem?_cons_zero, List.getElem?_cons_succ, wrap_id]
    exact finH trivial rfl (hK _)
theorem ggenus_ok (N : Int) (es : List Ed) (hel : es.length ≤ 900) : PC Try.prog 44 [G N es] (.tup [.i (if gcheck N es = 0 then genI N es else 0), .i (gcheck N es)]) [] := by
  refine PC_of_W cfn44 ?_
  simp -implicitDefEqProofs (disch := omega) [c44, List.getElem?_cons_zero, List.getElem?_cons_succ, wrap_id]
  refine HC_of_PC rfl (gcheck_ok' N es (by omega)) ?_
  by_cases hgc : gcheck N es = 0
  rotate_left
  · simp -implicitDefEqProofs (disch := omega) [List.getElem?_cons_zero, List.getElem?_cons_succ, wrap_id, hgc]
    (refine fin0 trivial rfl ?_; simp -implicitDefEqProofs (disch := omega) [List.getElem?_cons_zero, List.getElem?_cons_succ, idx, wrap_id, hgc])
  have hg := gcheck_ok hgc
  have hn1 := hg.n1
  have hn12 := hg.n12
  obtain ⟨n, rfl⟩ : ∃ n : Nat, N = n := ⟨N.toNat, by omega⟩
  have hn : n ≤ 12 := by omega
  simp -implicitDefEqProofs (disch := omega) [List.getElem?_cons_zero, List.getElem?_cons_succ, wrap_id, hgc]
  refine loopW 12 (fun k s => s = ⟨[(17, .i k), (5, .ptr 1 1 0 0), (1, .ptr 0 1 0 0)], [.box (.p (G n es)), boxF (gF k)]⟩) (wk_norm [0, 1] [17, 5, 1] rfl rfl) rfl ?_
  rintro k s hk rfl
  by_cases hlt : k < 12
  · have hl : (gF k).length = 12 := by simp [gF]
    have hs := congrArg (List.map PV.i) (gF_set k hlt)
    rw [List.map_set] at hs
    have hlt' : (k : Int) < 12 := by omega
    simp -implicitDefEqProofs (disch := omega) [List.getElem?_cons_zero, List.getElem?_cons_succ, wrap_id, hlt', hlt, hl, hs]
    exact round_end [0, 1] [17, 5, 1] hlt rfl rfl
  · have hk12 : k = 12 := by omega
    subst hk12
    simp -implicitDefEqProofs (disch := omega) [List.getElem?_cons_zero, List.getElem?_cons_succ, wrap_id]
    refine HC_of_PC rfl (singles_ok n es) ?_
    simp -implicitDefEqProofs (disch := omega) [List.getElem?_cons_zero, List.getElem?_cons_succ, wrap_id]
    have hgen := gSt_gen hn hg.right
    refine ⟨by kernel_rfl, gen_range n es hn hg.right (by omega) _ rfl rfl rfl fun r => AfterR_ready rfl ?_⟩
    simp -implicitDefEqProofs (disch := omega) [List.getElem?_cons_zero, List.getElem?_cons_succ, wrap_id]
    (refine fin0 trivial rfl ?_; simp -implicitDefEqProofs (disch := omega) [List.getElem?_cons_zero, List.getElem?_cons_succ, idx, wrap_id, hgc, hgen])
end Go.Proofs.Ytddgepjmfnodhaa
