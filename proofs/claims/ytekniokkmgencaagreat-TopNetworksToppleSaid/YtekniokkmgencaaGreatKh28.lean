/-
  Texts joined: Iac Ial Iae Iaf.
-/
import Derived.Test.YtekniokkmgencaaGreatKh27

section
set_option linter.unusedSimpArgs false
set_option linter.unusedVariables false
namespace Go.Proofs.YtekniokkmgencaaGreat
open Go.Abs Go.Sand
def runB (R : List (List Rl)) (fs : List Int) (lim : Int) : Nat → WS → WS × Int
  | 0, w => (w, 12)
  | f + 1, w => if busyR R w = true then
      if w.tk = lim then (w, 12)
      else if (tickS R fs w).large = true then (tickS R fs w, 11) else runB R fs lim f (tickS R fs w)
    else (w, 0)
def snV (R : List (List Rl)) (w : WS) (q : Int) : AV := .agg [.p (.sl (R.map procP)), .p (stP w.st), .p (.sl (w.wt.map wtP)), .p (.sl (w.cn.map wtP)), .p (.i w.tk), .p (.i w.sent), .p (.i w.fl.length), .p (.i q)]
def noV : AV := .p (.agg [.nil, .nil, .nil, .nil, .i 0, .i 0, .i 0, .i 0])
def runV (R : List (List Rl)) (r : WS × Int) : AV := if r.2 = 0 then snV R r.1 (quN r.1 (R.length * R.length)) else noV
section
variable {R : List (List Rl)} {fs : List Int} {m : Nm → Nat} {off : Nat → Nat} {w : WS} {H : List AO}
theorem rows_ren {n : Nat} {c : List Int} (f : Nat → Nat) (hc : c.length = n) (hf : ∀ p, p < n → H[f p]? = some (rowQ [c.getD p 0])) : allOne (((List.range n).map fun p => AV.os (f p) 0 1).map (ren0 H (idx [] 0))) = some (c.map wtP) := by
  have h1 : ((List.range n).map fun p => AV.os (f p) 0 1).map (ren0 H (idx [] 0)) = (List.range n).map fun p => AV.p (wtP (c.getD p 0)) := by
    rw [List.map_map]
    refine List.map_congr_left fun p hp => ?_
    have := hf p (List.mem_range.1 hp)
    simp only [Function.comp_def, ren0, idx, this]
    rfl
  have h2 : (List.range n).map (fun p => wtP (c.getD p 0)) = c.map wtP := by
    apply List.ext_getElem (by simp [hc])
    intro i h1 h2
    simp only [List.length_map, List.length_range] at h1 h2
    simp [List.getD_eq_getElem?_getD, h2]
  rw [h1, allOne_mp (fun p : Nat => wtP (c.getD p 0)) (fun _ => rfl), h2]
theorem snA_ren (h : WH R fs m off w H) (hs : w.st.length = R.length) (hw : w.wt.length = R.length) (hc : w.cn.length = R.length) (q : Int) : (snA R m w q).ren H (idx [] 0) = snV R w q := by
  have hS := h.at' .St trivial
  have hT := h.at' .Wt trivial
  have hC := h.at' .Cn trivial
  simp only [hpC] at hS hT hC
  have r1 := rows_ren (H := H) (n := R.length) (fun p => m (.wr p)) hw fun p hp => h.at' (.wr p) hp
  have r2 := rows_ren (H := H) (n := R.length) (fun p => m (.cr p)) hc fun p hp => h.at' (.cr p) hp
  have r1' : allOne (((List.range R.length).map fun p => AV.os (m (.wr p)) 0 1).map (ren0 H fun _ => none)) = _ := r1
  have r2' : allOne (((List.range R.length).map fun p => AV.os (m (.cr p)) 0 1).map (ren0 H fun _ => none)) = _ := r2
  simp only [snA, AV.ren, renL, idx, hS, hT, hC, snV]
  rw [if_pos (by simp [hs]), if_pos (by simp), if_pos (by simp), r1', r2']
  simp
end
theorem begun_ln (x : Net) (k : Nat) : lnAt (begunS x) k = if k < x.rules.length * x.rules.length then ln0 x.rules.length k else default := by
  unfold lnAt begunS
  rw [List.getD_eq_getElem?_getD]
  dsimp only
  rw [List.getElem?_map]
  split
  · rename_i hk; rw [List.getElem?_range hk]; rfl
  · rename_i hk; rw [List.getElem?_eq_none (by simpa using hk)]; rfl
theorem begun_wok (x : Net) (hx : GoodNet x) : WOk x.rules.length 1048576 (begunS x) := by
  have hn := hx.n1
  have hl : ∀ k, (lnAt (begunS x) k).q = 0 ∧ (lnAt (begunS x) k).rem = 0 ∧ (lnAt (begunS x) k).acc = 0 ∧ (lnAt (begunS x) k).snt = 0 := fun k => by
    rw [begun_ln]; split <;> exact ⟨rfl, rfl, rfl, rfl⟩
  refine ⟨by simp [begunS], hx.wl, by simp [begunS], hx.sl, fun k hk => ?_, fun x hx => by simp [begunS] at hx, by simp [begunS], fun k => by rw [(hl k).2.2.1]; omega, fun k => by rw [(hl k).1, (hl k).2.1]; omega, fun p => ?_, fun k => by rw [(hl k).2.2.2]; omega⟩
  · rw [begun_ln, if_pos hk]
    exact Nat.mod_lt _ (by omega)
  · show 0 ≤ x.wt.getD p 0 ∧ _
    by_cases hp : p < x.wt.length
    · have := hx.wt _ (List.getElem_mem hp)
      have e1 : x.wt.getD p 0 = x.wt[p] := by rw [List.getD_eq_getElem?_getD, List.getElem?_eq_getElem hp]; rfl
      exact ⟨by omega, by show x.wt.getD p 0 ≤ _; omega⟩
    · have e1 : x.wt.getD p 0 = 0 := by rw [List.getD_eq_getElem?_getD, List.getElem?_eq_none (by omega)]; rfl
      exact ⟨by omega, by show x.wt.getD p 0 ≤ _; omega⟩
theorem begun_sok (x : Net) (hx : GoodNet x) : SOk x.rules 1048576 (begunS x) := by
  refine ⟨fun p h h2 => hx.st p h h2, fun p => ?_⟩
  show 0 ≤ (List.replicate x.rules.length (0 : Int)).getD p 0 ∧ _
  have e1 : (List.replicate x.rules.length (0 : Int)).getD p 0 = 0 := by
    rw [List.getD_eq_getElem?_getD, List.getElem?_replicate]; split <;> rfl
  exact ⟨by omega, by show (List.replicate x.rules.length (0 : Int)).getD p 0 ≤ _; omega⟩
theorem run_ok (x : Net) (fs : List Int) (L : Nat) (hx : GoodNet x) (hfs : fs.length ≤ 4096) (hf : fs.any badF = false) (hl : L ≤ 2000) (hph : 6 * (x.rules.length * x.rules.length) * L ≤ 800000) :
    PC Tryz.prog 9 [netP x, .is fs, .i L] (.tup [runV x.rules (runB x.rules fs L (L + 1) (begunS x)), .i (runB x.rules fs L (L + 1) (begunS x)).2]) [] := by
  have hf' : ∀ f ∈ fs, 0 ≤ f ∧ f ≤ 3 := fun f hm => by
    have := List.any_eq_false.1 hf f hm
    simp only [badF, Bool.or_eq_true, decide_eq_true_eq] at this
    omega
  refine PC_of_W cfn9 ?_
  simp -implicitDefEqProofs (disch := omega) [c9, List.getElem?_cons_zero, List.getElem?_cons_succ, wrap_id]
  refine begun_hc x fs L hx hfs hf (by omega) ?_
  intro H1 m1 hw1 hlo1 hle1 hold1
  obtain ⟨Z, hZ⟩ : ∃ Z : AO, Z = AO.box (AV.p (PV.agg [PV.v (Value.slice none 0 0), PV.v (Value.slice none 0 0), PV.v (Value.slice none 0 0), PV.v (Value.slice none 0 0), PV.v (Value.int IntKind.i64 0), PV.v (Value.int IntKind.i64 0), PV.v (Value.int IntKind.i64 0), PV.v (Value.int IntKind.i64 0)])) := ⟨_, rfl⟩
  have hZ1 : H1[1]? = some Z := by rw [hold1 1 (by simp), hZ]; rfl
  simp only [List.length_cons, List.length_nil] at hlo1 hle1
  clear hold1
  have hR : GoodR x.rules := hx.pr
  have hn1 := hx.n1
  have hn12 := hx.n12
  obtain ⟨W0, hW0⟩ : ∃ W0, W0 = runB x.rules fs L (L + 1) (begunS x) := ⟨_, rfl⟩
  rw [← hW0]
  simp -implicitDefEqProofs (disch := omega) [List.getElem?_cons_zero, List.getElem?_cons_succ, wrap_id]
  refine loopW L (fun j s => ∃ H' m off w, s = ⟨[(8, .ptr (m .W) 1 0 0), (2, .i L), (6, .ptr 1 1 0 0), (7, .i 0)], H'⟩ ∧ WH x.rules fs m off w H' ∧ WOk x.rules.length (1048576 + 3001000 * j) w ∧ SOk x.rules (1048576 + 3001000 * j) w ∧
    phi w.fl ≤ 6 * (x.rules.length * x.rules.length) * j ∧ (∀ k, off k + (lnAt w k).q ≤ 192 * j) ∧ w.tk = j ∧ H'[1]? = some Z ∧ (∀ y, vN x.rules.length y → 2 ≤ m y) ∧ W0 = runB x.rules fs L (L + 1 - j) w) (Wk_keep [8, 2, 6, 7]) ?_ ?_
  · refine ⟨H1, m1, _, _, rfl, hw1, (begun_wok x hx).mono (by omega), (begun_sok x hx).of (by omega) rfl rfl, by simp [begunS, phi], fun k => ?_, rfl, hZ1, hlo1, hW0⟩
    rw [begun_ln]; split <;> simp [ln0, default, instInhabitedLn.default]
  rintro j s hj ⟨H', m, off, w, rfl, hw, hok, hso, hphi, hq, htk, hZ', hlo, hrun⟩
  obtain ⟨f, hf1⟩ : ∃ f, L + 1 - j = f + 1 := ⟨L - j, by omega⟩
  have hphi2 : 6 * (x.rules.length * x.rules.length) * j ≤ 800000 := Nat.le_trans (Nat.mul_le_mul_left _ hj) hph
  rw [hf1] at hrun
  simp -implicitDefEqProofs (disch := omega) [List.getElem?_cons_zero, List.getElem?_cons_succ, wrap_id]
  refine busy_hc hw rfl hn12 ?_
  cases hbz : busyR x.rules w
  · have hrun' : W0 = (w, 0) := by rw [hrun, runB, hbz]; rfl
    simp -implicitDefEqProofs (disch := omega) [List.getElem?_cons_zero, List.getElem?_cons_succ, wrap_id]
    refine seen_hc hw rfl hn1 hn12 hR hok.sl (fun k => by have := hq k; omega) ?_
    intro H2 hw2 hn2
    have hZ2 : H2[1]? = some Z := by
      rw [hn2.old 1 (by have := (List.getElem?_eq_some_iff.1 hZ').1; omega) (fun y hy => by have := hlo y hy; omega)]
      exact hZ'
    have hS := hw2.at' .St trivial
    have hT := hw2.at' .Wt trivial
    have hC := hw2.at' .Cn trivial
    simp only [hpC] at hS hT hC
    have hSL : (x.rules.length = w.st.length) = True := eq_true hok.sl.symm
    have hset : ∀ y, (H2.set 1 y)[1]? = some y := fun y => List.getElem?_set_self (List.getElem?_eq_some_iff.1 hZ2).1
    rw [hZ] at hZ2
    simp -implicitDefEqProofs (disch := omega) [List.getElem?_cons_zero, List.getElem?_cons_succ, wrap_id, hZ2, hS, hT, hC, hSL, hset]
    have h7 : ∀ ob, (snA x.rules m w (quN w (x.rules.length * x.rules.length))).ren (H2.set 1 ob) (idx [] 0) = _ := fun ob => snA_ren (hw2.oth (o := 1) (fun y hy => by have := hlo y hy; omega) ob) hok.sl hok.wl hok.cl (quN w (x.rules.length * x.rules.length))
    refine fin0 (x := .tup [snA x.rules m w (quN w (x.rules.length * x.rules.length)), .i 0]) trivial (by simp [resOf, Abs.resL, res1, resT, astep, aev, Abs.get, hset, partA]) ?_
    rw [hrun', AV.ren, renL, renL, renL, h7]
    rfl
  have hW := hw.at' .W trivial
  simp only [hpC] at hW
  by_cases hlast : j = L
  · have hrun' : W0 = (w, 12) := by rw [hrun, runB, hbz, if_pos rfl, if_pos (by rw [htk, hlast])]
    have hq1 : (w.tk = (L : Int)) = True := eq_true (by omega)
    have hset : ∀ y, (H'.set 1 y)[1]? = some y := fun y => List.getElem?_set_self (List.getElem?_eq_some_iff.1 hZ').1
    rw [hZ] at hZ'
    simp -implicitDefEqProofs (disch := omega) [List.getElem?_cons_zero, List.getElem?_cons_succ, wrap_id, hW, hq1, hZ', hset]
    refine fin0 (x := .tup [noV, .i 12]) trivial (by simp [resOf, Abs.resL, res1, resT, astep, aev, Abs.get, hset, partA, noV]) ?_
    rw [hrun']
    rfl
  have hq1 : (w.tk = (L : Int)) = False := eq_false (by omega)
  simp -implicitDefEqProofs (disch := omega) [List.getElem?_cons_zero, List.getElem?_cons_succ, wrap_id, hW, hq1]
  refine tick_hc hn12 hw hR hok hso (by omega) (by omega) (fun k => by have := hq k; omega) hfs hf' (by omega) ?_
  intro H2 m2 off2 hw2 hq2 hn2 hok2 hso2 hphi3 htk2
  have e2 : m2 .W = m .W := hn2.fix .W trivial
  have hW2 := hw2.at' .W trivial
  simp only [hpC, e2] at hW2
  have hZ2 : H2[1]? = some Z := by
    rw [hn2.old 1 (by have := (List.getElem?_eq_some_iff.1 hZ').1; omega) (fun y hy => by have := hlo y hy; omega)]
    exact hZ'
  have hlo2 : ∀ y, vN x.rules.length y → 2 ≤ m2 y := fun y hy => by
    rcases hn2.mv y hy with e | e
    · rw [e]; exact hlo y hy
    · have := (List.getElem?_eq_some_iff.1 hZ').1; omega
  cases hlg : (tickS x.rules fs w).large
  · rw [hlg] at hW2
    simp -implicitDefEqProofs (disch := omega) [List.getElem?_cons_zero, List.getElem?_cons_succ, wrap_id, hW2]
    have hfj : f = L + 1 - (j + 1) := by omega
    refine round_keep [8, 2, 6, 7] (by omega) ⟨H2, m2, by rw [e2]; rfl, off2, _, hw2, hok2.mono (by omega), hso2.of (by omega) rfl rfl, ?_, fun k => by have := hq k; have := hq2 k; omega, by rw [htk2, htk]; rfl, hZ2, hlo2, ?_⟩
    · rw [Nat.mul_succ]; omega
    · rw [hrun, runB, hbz, if_pos rfl, if_neg (by omega), hlg, ← hfj]; rfl
  · rw [hlg] at hW2
    have hrun' : W0 = (tickS x.rules fs w, 11) := by rw [hrun, runB, hbz, if_pos rfl, if_neg (by omega), hlg]; rfl
    have hset : ∀ y, (H2.set 1 y)[1]? = some y := fun y => List.getElem?_set_self (List.getElem?_eq_some_iff.1 hZ2).1
    rw [hZ] at hZ2
    simp -implicitDefEqProofs (disch := omega) [List.getElem?_cons_zero, List.getElem?_cons_succ, wrap_id, hW2, hZ2, hset]
    refine fin0 (x := .tup [noV, .i 11]) trivial (by simp [resOf, Abs.resL, res1, resT, astep, aev, Abs.get, hset, partA, noV]) ?_
    rw [hrun']
    rfl
end Go.Proofs.YtekniokkmgencaaGreat
end
section
set_option linter.unusedSimpArgs false
set_option linter.unusedVariables false
namespace Go.Proofs.YtekniokkmgencaaGreat
open Go.Abs Go.Sand
def pairN : Net := ⟨[[(0, [1])], [(0, [])]], [0, 0], [1, 0]⟩
theorem pair_ok : PC Tryz.prog 17 [] (netV pairN) [] := by
  refine PC_of_S (fn := Tryz.f17) (c := .seq _ (.seq _ (.seq _ (.seq _ _)))) (rs := AFn.res c17) Tryz.func17 rfl (by kernel_rfl) ?_
  intro M hM
  have hl : M.H.length = 0 := by rw [hM]; rfl
  refine WSm.seq (fun s' => s' = ⟨[(0, .ptr 0 1 0 0)], [.box (.p (.agg [.nil, .nil, .nil]))]⟩) (WSm.of_W (ac := acL (AFn.body c17)) (by kernel_rfl) ?_) ?_
  · rw [hl]
    simp -implicitDefEqProofs (disch := omega) [c17, List.getElem?_cons_zero, List.getElem?_cons_succ, wrap_id, acL, acR]
  rintro _ rfl
  refine WSm.seq (fun s' => Wk 0 s' ⟨[(0, .ptr 0 1 0 0), (1, .ptr 1 1 0 0)], [.box (.p (.agg [.nil, .nil, .nil])), .box (.agg [.p (.i 1), .p (.i 1), .p (.sl [.sl [.agg [.i 0, .sl [outP 1]]]])])]⟩) (WSm.of_W (ac := acL (acR (AFn.body c17))) (by kernel_rfl) ?_) ?_
  · rw [hl]
    simp -implicitDefEqProofs (disch := omega) [c17, List.getElem?_cons_zero, List.getElem?_cons_succ, wrap_id, acL, acR]
    exact wk_norm [0, 4] [0, 1] rfl rfl
  intro s' hw
  refine WSm.wk (s2 := ⟨[(0, .ptr 0 1 0 0), (1, .ptr 1 1 0 0)], [.box (.p (.agg [.nil, .nil, .nil])), .box (.agg [.p (.i 1), .p (.i 1), .p (.sl [.sl [.agg [.i 0, .sl [outP 1]]]])])]⟩) (by rw [hl]; exact hw) ?_
  clear hw s'
  refine WSm.seq (fun s' => Wk 0 s' ⟨[(0, .ptr 0 1 0 0), (1, .ptr 1 1 0 0), (2, .ptr 2 1 0 0)], [.box (.p (.agg [.nil, .nil, .nil])), .box (.agg [.p (.i 1), .p (.i 1), .p (.sl [.sl [.agg [.i 0, .sl [outP 1]]]])]), .box (.agg [.p (.i 1), .p (.i 1), .p (.sl [.sl [.agg [.i 0, .nil]]])])]⟩) (WSm.of_W (ac := acL (acR (acR (AFn.body c17)))) (by kernel_rfl) ?_) ?_
  · rw [hl]
    simp -implicitDefEqProofs (disch := omega) [c17, List.getElem?_cons_zero, List.getElem?_cons_succ, wrap_id, acL, acR]
    exact wk_norm [0, 1, 4] [0, 1, 2] rfl rfl
  intro s' hw
  refine WSm.wk (s2 := ⟨[(0, .ptr 0 1 0 0), (1, .ptr 1 1 0 0), (2, .ptr 2 1 0 0)], [.box (.p (.agg [.nil, .nil, .nil])), .box (.agg [.p (.i 1), .p (.i 1), .p (.sl [.sl [.agg [.i 0, .sl [outP 1]]]])]), .box (.agg [.p (.i 1), .p (.i 1), .p (.sl [.sl [.agg [.i 0, .nil]]])])]⟩) (by rw [hl]; exact hw) ?_
  clear hw s'
  refine WSm.of_W (ac := acR (acR (acR (AFn.body c17)))) (by kernel_rfl) ?_
  rw [hl]
  simp -implicitDefEqProofs (disch := omega) [c17, List.getElem?_cons_zero, List.getElem?_cons_succ, wrap_id, acL, acR]
  exact fin0 (x := .agg [.os 3 0 2, .os 4 0 2, .os 7 0 2]) trivial rfl rfl
theorem nrm_outs (l : List Nat) : PV.nrm (.sl (l.map outP)) = .sl (l.map outP) := by
  rw [PV.nrm, nrmL_eq, List.map_map]; rfl
theorem nrm_rule (r : Rl) : (ruleQ r).nrm = ruleP r := by
  obtain ⟨a, l⟩ := r
  show PV.agg [PV.nrm (.i a), PV.nrm (toQ l)] = _
  by_cases h : l = []
  · subst h; rfl
  · rw [toQ, if_neg h, nrm_outs]; rfl
theorem nrm_proc (R : List Rl) : (procQ R).nrm = procP R := by
  show PV.agg [PV.nrm (.i R.length), PV.nrm (.i 1), PV.nrm (.sl (R.map rrowQ))] = _
  have h1 : PV.nrm (.sl (R.map rrowQ)) = .sl (R.map rrowP) := by
    rw [PV.nrm, nrmL_eq, List.map_map]
    congr 1
    refine List.map_congr_left fun r _ => ?_
    show PV.sl [PV.nrm (ruleQ r)] = _
    rw [nrm_rule]
  rw [h1]; rfl
theorem nrm_net (x : Net) : (netQ x).nrm = netP x := by
  show PV.agg [PV.nrm (.sl (x.rules.map procQ)), PV.nrm (stP x.st), PV.nrm (.sl (x.wt.map wtP))] = _
  have h1 : PV.nrm (.sl (x.rules.map procQ)) = .sl (x.rules.map procP) := by
    rw [PV.nrm, nrmL_eq, List.map_map]
    congr 1
    exact List.map_congr_left fun r _ => nrm_proc r
  have h2 : PV.nrm (stP x.st) = stP x.st := by
    rw [stP, PV.nrm, nrmL_eq, List.map_map]; rfl
  have h3 : PV.nrm (.sl (x.wt.map wtP)) = .sl (x.wt.map wtP) := by
    rw [PV.nrm, nrmL_eq, List.map_map]; rfl
  rw [h1, h2, h3]
theorem run_okQ (x : Net) (fs : List Int) (L : Nat) (hx : GoodNet x) (hfs : fs.length ≤ 4096) (hf : fs.any badF = false) (hl : L ≤ 2000) (hph : 6 * (x.rules.length * x.rules.length) * L ≤ 800000) :
    PC Tryz.prog 9 [netQ x, .is fs, .i L] (.tup [runV x.rules (runB x.rules fs L (L + 1) (begunS x)), .i (runB x.rules fs L (L + 1) (begunS x)).2]) [] := by
  refine PC_nrm ?_
  have h2 : PV.nrm (.is fs) = .is fs := by
    rw [PV.is, PV.nrm, nrmL_eq, List.map_map]; rfl
  have h3 : PV.nrm (.i L) = .i L := rfl
  simp only [List.map_cons, List.map_nil, nrm_net, h2, h3]
  exact run_ok x fs L hx hfs hf hl hph
end Go.Proofs.YtekniokkmgencaaGreat
end
section
set_option linter.unusedSimpArgs false
set_option linter.unusedVariables false
namespace Go.Proofs.YtekniokkmgencaaGreat
open Go.Abs Go.Sand
theorem sumN_const (c : Int) : ∀ k : Nat, sumN (fun _ => c) k = c * k
  | 0 => by simp [sumN]
  | k + 1 => by rw [sumN, sumN_const c k]; push_cast; rw [Int.mul_add, Int.mul_one]
section
variable {n : Nat} {es : List Ed} {q : Int} {d s : List Int} {w : WS}
theorem PkOk.eqv {w' : WS} {p : Pk} (h : PkOk n w p) (e : w'.ln = w.ln) : PkOk n w' p := ⟨h.lt, by unfold lnAt; rw [e]; exact h.a, by unfold lnAt; rw [e]; exact h.l⟩
structure FewC (n : Nat) (es : List Ed) (q : Int) (d : List Int) : Prop where
  g : GoodG n es
  dl : d.length = n
  q0 : 0 ≤ q
  qn : q < n
  bd : ∀ i, -60 ≤ d.getD i 0 ∧ d.getD i 0 ≤ 60
  pos : ∀ v, v < n → (v : Int) ≠ q → 0 ≤ d.getD v 0
theorem FewC.moved (c : FewC n es q d) (h : Leg n es q d s) {v : Nat} (hv : v < n) : (movedE es s d).getD v 0 ≤ 780 := by
  have hl : (movedE es s d).length = n := by rw [movedE_length, c.dl]
  have hsum := movedE_sum s c.g.right d c.dl
  have h1 : sumI d ≤ 720 := by
    rw [sumI_sumN, c.dl]
    have := sumN_le (f := fun u => d.getD u 0) (g := fun _ => 60) (k := n) fun u _ => (c.bd u).2
    rw [sumN_const] at this
    have := c.g.n12
    omega
  have hp := h.pos c.g c.dl c.pos
  obtain ⟨p, hpq⟩ : ∃ p : Nat, q = p := ⟨q.toNat, by have := c.q0; omega⟩
  have hpn : p < n := by have := c.qn; omega
  by_cases e : v = p
  · subst e
    have := sumI_ge (movedE es s d) v (fun i hi hn => hp i (by omega) (by omega)) (by omega)
    omega
  · have := sumI_ge2 (movedE es s d) v p e (fun i hi h1 h2 => hp i (by omega) (by omega)) (by omega) (by omega)
    have h3 := h.sinkUp c.g c.dl p hpq.symm
    have := c.bd p
    omega
theorem JI.big (c : FewC n es q d) (h : JI n es q d s w) {v : Nat} (hv : v < n) : w.wt.getD v 0 ≤ 1048575 := by
  have hm := c.moved h.leg hv
  have hp := h.pend hv
  by_cases e : (v : Int) = q
  · have h2 := h.wt v hv
    have h3 := h.cnn v hv
    rw [wait_get c.dl hv, if_pos e] at h2
    have h4 : sumN (fun u => (lnAt w (u * n + v)).acc) n ≤ sumN (fun u => joinE es v u * s.getD u 0) n := sumN_le fun u hu => by
      have h5 := h.ln u v hu hv
      have h6 := h.acc _ (ixlt hu hv)
      rw [joinE_sym (es := es) v u]; omega
    rw [aft_eq c.g c.dl, dif_sum c.g, h.leg.sink v e, Int.zero_mul] at hm
    have := c.bd v
    omega
  · have h1 := h.bal c.g c.dl hv e
    omega
theorem JI.send (h : JI n es q d s w) (fs : List Int) (p : Pk) (hp : PkOk n w p) : JI n es q d s (sendS fs p w) := by
  refine ⟨h.leg, h.ll, h.wl, h.cl, h.sl, h.cn, h.cnn, h.stb, h.stq, h.wt, h.ln, h.to, h.acc, h.rem, fun x hx => ?_, h.lg⟩
  simp only [sendS, List.mem_append, List.mem_map] at hx
  rcases hx with hx | ⟨t, _, rfl⟩
  · exact (h.fl x hx).eqv rfl
  · exact hp.eqv rfl
theorem JI.line (h : JI n es q d s w) {k : Nat} (hk : k < n * n) (l : Ln) (h1 : l.rem + l.q = (lnAt w k).rem + (lnAt w k).q) (h2 : l.acc = (lnAt w k).acc) (h3 : l.to = (lnAt w k).to) (h4 : l.rem ≤ l.acc) :
    JI n es q d s { w with ln := w.ln.set k l } ∧ ∀ p, PkOk n w p → PkOk n { w with ln := w.ln.set k l } p := by
  have hkl : k < w.ln.length := by rw [h.ll]; exact hk
  have hln : ∀ i, lnAt { w with ln := w.ln.set k l } i = if i = k then l else lnAt w i := fun i => lnAt_set hkl
  have e1 : ∀ i, (lnAt { w with ln := w.ln.set k l } i).acc = (lnAt w i).acc := fun i => by
    rw [hln]; split
    · rename_i e; rw [e, h2]
    · rfl
  have e2 : ∀ i, (lnAt { w with ln := w.ln.set k l } i).rem + (lnAt { w with ln := w.ln.set k l } i).q = (lnAt w i).rem + (lnAt w i).q := fun i => by
    rw [hln]; split
    · rename_i e; rw [e, h1]
    · rfl
  have e3 : ∀ i, (lnAt { w with ln := w.ln.set k l } i).to = (lnAt w i).to := fun i => by
    rw [hln]; split
    · rename_i e; rw [e, h3]
    · rfl
  have hpk : ∀ p, PkOk n w p → PkOk n { w with ln := w.ln.set k l } p := fun p hp => hp.of (fun i => by rw [e1]; exact Int.le_refl _) (fun i => by rw [e2]; exact Int.le_refl _)
  refine ⟨⟨h.leg, by simp [h.ll], h.wl, h.cl, h.sl, h.cn, h.cnn, h.stb, h.stq, fun v hv => ?_, fun u v hu hv => by rw [e2]; exact h.ln u v hu hv, fun u v hu hv => by rw [e3]; exact h.to u v hu hv, fun i hi => by rw [e1, e2]; exact h.acc i hi, fun i hi => ?_, fun x hx => hpk _ (h.fl x hx), h.lg⟩, hpk⟩
  · rw [sumN_congr (g := fun u => (lnAt w (u * n + v)).acc) fun u _ => e1 _]
    exact h.wt v hv
  · rw [e1, hln]; split
    · rename_i e; rw [e, ← h2]; exact h4
    · exact h.rem i hi
theorem JI.accept (c : FewC n es q d) (h : JI n es q d s w) {k : Nat} (hk : k < n * n) (hb : (lnAt w k).acc + 1 ≤ (lnAt w k).rem + (lnAt w k).q) :
    JI n es q d s (waitS (lnAt w k).to { w with ln := w.ln.set k { lnAt w k with acc := (lnAt w k).acc + 1 } }) ∧ ∀ p, PkOk n w p → PkOk n (waitS (lnAt w k).to { w with ln := w.ln.set k { lnAt w k with acc := (lnAt w k).acc + 1 } }) p := by
  obtain ⟨u, v, hu, hv, rfl⟩ := ixof hk
  have hkl : u * n + v < w.ln.length := by rw [h.ll]; exact hk
  have hto := h.to u v hu hv
  rw [hto]
  obtain ⟨l, hl⟩ : ∃ l, l = lnAt w (u * n + v) := ⟨_, rfl⟩
  rw [← hl] at hb hto ⊢
  obtain ⟨w', hw'⟩ : ∃ w' : WS, w' = { w with ln := w.ln.set (u * n + v) { l with acc := l.acc + 1 }, wt := w.wt.set v (w.wt.getD v 0 + 1) } := ⟨_, rfl⟩
  have hln : ∀ i, lnAt w' i = if i = u * n + v then { l with acc := l.acc + 1 } else lnAt w i := fun i => by rw [hw']; exact lnAt_set hkl
  have e1 : ∀ i, (lnAt w' i).acc = (lnAt w i).acc + if i = u * n + v then 1 else 0 := fun i => by
    rw [hln]; split
    · rename_i e; rw [e, ← hl]
    · omega
  have e2 : ∀ i, (lnAt w' i).rem + (lnAt w' i).q = (lnAt w i).rem + (lnAt w i).q := fun i => by
    rw [hln]; split
    · rename_i e; rw [e, ← hl]
    · rfl
  have e3 : ∀ i, (lnAt w' i).to = (lnAt w i).to := fun i => by
    rw [hln]; split
    · rename_i e; rw [e, ← hl]
    · rfl
  have e4 : ∀ i, (lnAt w' i).rem = (lnAt w i).rem := fun i => by
    rw [hln]; split
    · rename_i e; rw [e, ← hl]
    · rfl
  have hpk : ∀ p, PkOk n w p → PkOk n w' p := fun p hp => hp.of (fun i => by rw [e1]; split <;> omega) (fun i => by rw [e2]; exact Int.le_refl _)
  have hJ : JI n es q d s w' := by
    refine ⟨h.leg, by rw [hw']; simp [h.ll], by rw [hw']; simp [h.wl], by rw [hw']; exact h.cl, by rw [hw']; exact h.sl, by rw [hw']; exact h.cn, by rw [hw']; exact h.cnn, by rw [hw']; exact h.stb, by rw [hw']; exact h.stq, fun v' hv' => ?_, fun a b ha hb' => by rw [e2]; exact h.ln a b ha hb', fun a b ha hb' => by rw [e3]; exact h.to a b ha hb', fun i hi => ?_, fun i hi => ?_, fun x hx => hpk _ (h.fl x (by rw [hw'] at hx; exact hx)), by rw [hw']; exact h.lg⟩
    · have h1 := h.wt v' hv'
      have h2 : w'.wt.getD v' 0 = if v' = v then w.wt.getD v 0 + 1 else w.wt.getD v' 0 := by rw [hw']; exact getW_set _ _ _ _ _ (by rw [h.wl]; exact hv)
      have h3 : w'.cn = w.cn := by rw [hw']
      have h4 : sumN (fun a => (lnAt w' (a * n + v')).acc) n = sumN (fun a => (lnAt w (a * n + v')).acc) n + if v' = v then 1 else 0 := by
        by_cases cc : v' = v
        · subst cc
          rw [sumN_congr (g := fun a => (lnAt w (a * n + v')).acc + if a = u then 1 else 0) fun a ha => by
            rw [e1]
            by_cases c2 : a = u
            · rw [c2, if_pos rfl, if_pos rfl]
            · rw [if_neg c2, if_neg (fun e => c2 (ixinj hv hv e).1)], sumN_add, sumN_one, if_pos hu, if_pos rfl]
        · rw [sumN_congr (g := fun a => (lnAt w (a * n + v')).acc) fun a ha => by
            rw [e1, if_neg (fun e => cc (ixinj hv' hv e).2), Int.add_zero], if_neg cc, Int.add_zero]
      rw [h2, h3, h4]
      by_cases cc : v' = v
      · subst cc; rw [if_pos rfl, if_pos rfl]; omega
      · rw [if_neg cc, if_neg cc]; omega
    · rw [e1, e2]; split
      · rename_i e; rw [e, ← hl]; exact hb
      · have := h.acc i hi; omega
    · rw [e1, e4]; have := h.rem i hi; split <;> omega
  have hbig := hJ.big c hv
  have hwt : w'.wt.getD v 0 = w.wt.getD v 0 + 1 := by rw [hw']; dsimp only; rw [getW_set _ _ _ _ _ (by rw [h.wl]; exact hv), if_pos rfl]
  have heq : waitS v { w with ln := w.ln.set (u * n + v) { l with acc := l.acc + 1 } } = w' := by
    have : decide (1048576 < w.wt.getD v 0 + 1) = false := by rw [decide_eq_false_iff_not]; omega
    rw [hw']
    simp only [waitS, this, Bool.or_false]
  rw [heq]
  exact ⟨hJ, hpk⟩
theorem JI.handle (c : FewC n es q d) (h : JI n es q d s w) (fs : List Int) (p : Pk) (hp : PkOk n w p) : JI n es q d s (handleS fs p w) ∧ ∀ p', PkOk n w p' → PkOk n (handleS fs p w) p' := by
  have hk := hp.lt
  unfold handleS
  by_cases ha : p.ack = true
  · rw [if_pos ha]
    obtain ⟨h1, h2, h3, h4, -, -⟩ := dropL_sum p.num (lnAt w p.ln)
    refine h.line hk _ h1 h3 h4 ?_
    have h5 := hp.a ha
    have h6 := h.rem _ hk
    rw [h3]
    unfold dropL
    split
    · exact h6
    · dsimp only; omega
  · rw [if_neg ha]
    have ha' : p.ack = false := by simpa using ha
    dsimp only
    by_cases e : p.num = (lnAt w p.ln).acc + 1
    · rw [if_pos e]
      have hb := hp.l ha'
      rw [e] at hb
      obtain ⟨hJ, hpk⟩ := h.accept c hk hb
      exact ⟨hJ.send fs _ ⟨hk, fun _ => Int.le_refl _, fun e => by cases e⟩, fun p' hp' => (hpk p' hp').eqv rfl⟩
    · rw [if_neg e]
      exact ⟨h.send fs _ ⟨hk, fun _ => Int.le_refl _, fun e => by cases e⟩, fun p' hp' => hp'.eqv rfl⟩
theorem JI.arrive (c : FewC n es q d) (h : JI n es q d s w) (fs : List Int) : JI n es q d s (arriveS fs w) := by
  unfold arriveS
  have key : ∀ (l : List (Pk × Int)) (w : WS), JI n es q d s w → (∀ x ∈ l, PkOk n w x.1) → JI n es q d s (l.foldl (fun w x => handleS fs x.1 w) w) := by
    intro l
    induction l with
    | nil => intro w h _; exact h
    | cons x l ih =>
      intro w h hx
      obtain ⟨h1, h2⟩ := h.handle c fs x.1 (hx x List.mem_cons_self)
      exact ih _ h1 fun y hy => h2 _ (hx y (List.mem_cons_of_mem _ hy))
  refine key _ _ ⟨h.leg, h.ll, h.wl, h.cl, h.sl, h.cn, h.cnn, h.stb, h.stq, h.wt, h.ln, h.to, h.acc, h.rem, fun x hx => (h.fl x (List.mem_filter.1 hx).1).eqv rfl, h.lg⟩ fun x hx => ?_
  exact (h.fl x (List.mem_filter.1 hx).1).eqv rfl
theorem JI.push (h : JI n es q d s w) (fs : List Int) {k : Nat} (hk : k < n * n) : JI n es q d s (pushS fs w k) := by
  unfold pushS
  split
  · rename_i hc
    have h1 := h.send fs ⟨false, k, (lnAt w k).rem + 1⟩ ⟨hk, (fun e => by cases e), fun _ => by have := hc.1; dsimp only; omega⟩
    exact (h1.line hk { lnAt (sendS fs ⟨false, k, (lnAt w k).rem + 1⟩ w) k with snt := (sendS fs ⟨false, k, (lnAt w k).rem + 1⟩ w).tk } rfl rfl rfl (h1.rem k hk)).1
  · exact h
end
end Go.Proofs.YtekniokkmgencaaGreat
end
section
set_option linter.unusedSimpArgs false
set_option linter.unusedVariables false
namespace Go.Proofs.YtekniokkmgencaaGreat
open Go.Abs Go.Sand
theorem puts_ln (n p : Nat) : ∀ (l : List Nat) (w : WS), w.ln.length = n * n → p < n → (∀ t ∈ l, t < n ∧ t ≠ p) →
    (l.foldl (putS n p) w).ln.length = n * n ∧ (l.foldl (putS n p) w).wt = w.wt ∧ (l.foldl (putS n p) w).large = w.large ∧
    ∀ u v, v < n → lnAt (l.foldl (putS n p) w) (u * n + v) = if u = p then { lnAt w (u * n + v) with q := (lnAt w (u * n + v)).q + l.count v } else lnAt w (u * n + v)
  | [], w, hl, hp, h => ⟨hl, rfl, rfl, fun u v hv => by simp⟩
  | t :: l, w, hl, hp, h => by
    obtain ⟨ht, htp⟩ := h t List.mem_cons_self
    have e1 : putS n p w t = { w with ln := w.ln.set (p * n + t) { lnAt w (p * n + t) with q := (lnAt w (p * n + t)).q + 1 } } := by unfold putS; rw [if_neg htp]
    obtain ⟨h1, h2, h3, h4⟩ := puts_ln n p l (putS n p w t) (by rw [e1]; simp [hl]) hp (fun x hx => h x (List.mem_cons_of_mem _ hx))
    have hkl : p * n + t < w.ln.length := by rw [hl]; exact ixlt hp ht
    refine ⟨h1, by rw [List.foldl_cons, h2, e1], by rw [List.foldl_cons, h3, e1], fun u v hv => ?_⟩
    rw [List.foldl_cons, h4 u v hv, e1, lnAt_set hkl]
    by_cases c : u = p
    · subst c
      rw [if_pos rfl, if_pos rfl, List.count_cons]
      by_cases c2 : v = t
      · subst c2
        rw [if_pos rfl]
        simp only [beq_self_eq_true, if_true]
        congr 1
        omega
      · rw [if_neg (fun e => c2 (ixinj hv ht e).2), if_neg (by simpa using fun e => c2 e.symm)]
        rfl
    · rw [if_neg c, if_neg c, if_neg (fun e => c (ixinj hv ht e).1)]
theorem ruleAt_sink {n : Nat} {es : List Ed} {q : Int} {p s : Nat} (hp : p < n) (hq : (p : Int) = q) : ruleAt (wpR n es q) p s = (0, []) := by
  unfold ruleAt wpR
  rw [List.getD_eq_getElem?_getD, List.getD_eq_getElem?_getD, List.getElem?_map, List.getElem?_range hp]
  simp only [Option.map_some, Option.getD_some, procR, if_pos hq]
  cases s <;> rfl
theorem ruleAt_top {n : Nat} {es : List Ed} {q : Int} {p s : Nat} (hp : p < n) (hq : (p : Int) ≠ q) (hs : s < (valTo es p n).toNat) : ruleAt (wpR n es q) p s = ((s + 1) % (valTo es p n).toNat, if s + 1 = (valTo es p n).toNat then sentL n es p else []) := by
  unfold ruleAt wpR
  rw [List.getD_eq_getElem?_getD, List.getD_eq_getElem?_getD, List.getElem?_map, List.getElem?_range hp]
  simp only [Option.map_some, Option.getD_some, procR, if_neg hq]
  rw [List.getElem?_map, List.getElem?_range hs]
  rfl
section
variable {n : Nat} {es : List Ed} {q : Int} {d s : List Int} {w : WS}
theorem JI.step (h : JI n es q d s w) {p : Nat} (hp : p < n) (a : Nat) (h1 : (p : Int) ≠ q → a = w.st.getD p 0 + 1 ∧ (a : Int) < valTo es p n) (h2 : (p : Int) = q → a = 0) :
    JI n es q d s { w with wt := w.wt.set p (w.wt.getD p 0 - 1), cn := w.cn.set p (w.cn.getD p 0 + 1), st := w.st.set p a } := by
  have gc : ∀ v, (w.cn.set p (w.cn.getD p 0 + 1)).getD v 0 = if v = p then w.cn.getD p 0 + 1 else w.cn.getD v 0 := fun v => getW_set _ _ _ _ _ (by rw [h.cl]; exact hp)
  have gs : ∀ v, (w.st.set p a).getD v 0 = if v = p then a else w.st.getD v 0 := fun v => getW_set _ _ _ _ _ (by rw [h.sl]; exact hp)
  have gw : ∀ v, (w.wt.set p (w.wt.getD p 0 - 1)).getD v 0 = if v = p then w.wt.getD p 0 - 1 else w.wt.getD v 0 := fun v => getW_set _ _ _ _ _ (by rw [h.wl]; exact hp)
  refine ⟨h.leg, h.ll, by simp [h.wl], by simp [h.cl], by simp [h.sl], fun v hv hvq => ?_, fun v hv => ?_, fun v hv hvq => ?_, fun v hv hvq => ?_, fun v hv => ?_, h.ln, h.to, h.acc, h.rem, fun x hx => (h.fl x hx).eqv rfl, h.lg⟩
  · show (w.cn.set p _).getD v 0 = _ + ((w.st.set p a).getD v 0 : Nat)
    rw [gc, gs]
    have := h.cn v hv hvq
    split
    · rename_i e; subst e
      have := (h1 hvq).1
      omega
    · exact this
  · show 0 ≤ (w.cn.set p _).getD v 0
    rw [gc]
    have := h.cnn v hv
    split
    · rename_i e; subst e; omega
    · exact this
  · show (((w.st.set p a).getD v 0 : Nat) : Int) < _
    rw [gs]
    split
    · rename_i e; subst e; exact (h1 hvq).2
    · exact h.stb v hv hvq
  · show (w.st.set p a).getD v 0 = 0
    rw [gs]
    split
    · rename_i e; subst e; exact h2 hvq
    · exact h.stq v hv hvq
  · show (w.wt.set p _).getD v 0 = (waitL q d).getD v 0 + sumN (fun u => (lnAt w (u * n + v)).acc) n - (w.cn.set p _).getD v 0
    rw [gw, gc]
    have := h.wt v hv
    split
    · rename_i e; subst e; omega
    · exact this
theorem JI.read (c : FewC n es q d) (h : JI n es q d s w) {p : Nat} (hp : p < n) : ∃ s', JI n es q d s' (readS (wpR n es q) p w) := by
  unfold readS
  by_cases h0 : 0 < w.wt.getD p 0
  rotate_left
  · rw [if_neg h0]; exact ⟨s, h⟩
  rw [if_pos h0]
  by_cases hq : (p : Int) = q
  · rw [ruleAt_sink hp hq]
    exact ⟨s, h.step hp 0 (fun e => absurd hq e) fun _ => rfl⟩
  have hst := h.stb p hp hq
  rw [ruleAt_top hp hq (by omega)]
  have hv0 : 0 ≤ valTo es p n := valTo_nn c.g p n
  obtain ⟨V, hV⟩ : ∃ V : Nat, valTo es p n = V := ⟨(valTo es p n).toNat, by omega⟩
  rw [hV, Int.toNat_natCast]
  rw [hV] at hst
  dsimp only
  by_cases hlast : w.st.getD p 0 + 1 = V
  rotate_left
  · rw [if_neg hlast, Nat.mod_eq_of_lt (by omega)]
    exact ⟨s, h.step hp _ (fun _ => ⟨rfl, by rw [hV]; omega⟩) fun e => absurd e hq⟩
  rw [if_pos hlast, hlast, Nat.mod_self, wpR_len]
  have hbal := h.bal c.g c.dl hp hq
  have hpend := h.pend hp
  have hmay : May n es q (movedE es s d) p 1 := ⟨hp, hq, Int.le_refl _, by rw [hV, Int.one_mul]; omega⟩
  have hsl := h.leg.len
  have hsg : ∀ i, (moreS s p 1).getD i 0 = s.getD i 0 + if i = p then 1 else 0 := fun i => moreS_get s p 1 (by omega) i
  obtain ⟨w1, hw1⟩ : ∃ w1 : WS, w1 = { w with wt := w.wt.set p (w.wt.getD p 0 - 1), cn := w.cn.set p (w.cn.getD p 0 + 1), st := w.st.set p 0 } := ⟨_, rfl⟩
  rw [← hw1]
  have hl1 : w1.ln = w.ln := by rw [hw1]
  have hln1 : ∀ k, lnAt w1 k = lnAt w k := fun k => by unfold lnAt; rw [hl1]
  obtain ⟨g1, g2, g3, g4⟩ := puts_ln n p (sentL n es p) w1 (by rw [hl1]; exact h.ll) hp (fun t ht => sent_mem ht)
  obtain ⟨g5, g6, g7, g8⟩ := puts_keep n p (sentL n es p) w1
  obtain ⟨w2, hw2⟩ : ∃ w2, w2 = (sentL n es p).foldl (putS n p) w1 := ⟨_, rfl⟩
  rw [← hw2] at g1 g2 g3 g4 g5 g6 g7 g8 ⊢
  have e1 : ∀ u v, v < n → lnAt w2 (u * n + v) = if u = p then { lnAt w (u * n + v) with q := (lnAt w (u * n + v)).q + (joinE es p v).toNat } else lnAt w (u * n + v) := fun u v hv => by
    rw [g4 u v hv, hln1, sent_count hv]
  have hj : ∀ v, ((joinE es p v).toNat : Int) = joinE es p v := fun v => by have := (joinE_bd c.g p v).1; omega
  have gc : ∀ v, w2.cn.getD v 0 = if v = p then w.cn.getD p 0 + 1 else w.cn.getD v 0 := fun v => by rw [g6, hw1]; exact getW_set _ _ _ _ _ (by rw [h.cl]; exact hp)
  have gs : ∀ v, w2.st.getD v 0 = if v = p then 0 else w.st.getD v 0 := fun v => by rw [g5, hw1]; exact getW_set _ _ _ _ _ (by rw [h.sl]; exact hp)
  have gw : ∀ v, w2.wt.getD v 0 = if v = p then w.wt.getD p 0 - 1 else w.wt.getD v 0 := fun v => by rw [g2, hw1]; exact getW_set _ _ _ _ _ (by rw [h.wl]; exact hp)
  have a1 : ∀ u v, v < n → (lnAt w2 (u * n + v)).acc = (lnAt w (u * n + v)).acc := fun u v hv => by rw [e1 u v hv]; split <;> rfl
  have a2 : ∀ u v, v < n → (lnAt w2 (u * n + v)).rem + (lnAt w2 (u * n + v)).q = (lnAt w (u * n + v)).rem + (lnAt w (u * n + v)).q + if u = p then joinE es p v else 0 := fun u v hv => by
    rw [e1 u v hv]
    split
    · have := hj v; dsimp only; omega
    · omega
  have a3 : ∀ u v, v < n → (lnAt w2 (u * n + v)).to = (lnAt w (u * n + v)).to := fun u v hv => by rw [e1 u v hv]; split <;> rfl
  have a4 : ∀ u v, v < n → (lnAt w2 (u * n + v)).rem = (lnAt w (u * n + v)).rem := fun u v hv => by rw [e1 u v hv]; split <;> rfl
  have hjn : ∀ v, 0 ≤ joinE es p v := fun v => (joinE_bd c.g p v).1
  refine ⟨moreS s p 1, ⟨.more h.leg hmay, g1, ?_, ?_, ?_, fun v hv hvq => ?_, fun v hv => ?_, fun v hv hvq => ?_, fun v hv hvq => ?_, fun v hv => ?_, fun u v hu hv => ?_, fun u v hu hv => ?_, fun k hk => ?_, fun k hk => ?_, fun x hx => ?_, ?_⟩⟩
  · rw [g2, hw1]; simp [h.wl]
  · rw [g6, hw1]; simp [h.cl]
  · rw [g5, hw1]; simp [h.sl]
  · rw [gc, gs, hsg]
    have h3 := h.cn v hv hvq
    split
    · rename_i e; subst e
      rw [hV] at h3 ⊢
      rw [Int.mul_add, Int.mul_one]
      omega
    · rw [Int.add_zero]; exact h3
  · rw [gc]
    have := h.cnn v hv
    split
    · rename_i e; subst e; omega
    · exact this
  · rw [gs]
    have := h.stb v hv hvq
    split
    · rename_i e; subst e; rw [hV]; omega
    · exact this
  · rw [gs]
    split
    · rfl
    · exact h.stq v hv hvq
  · rw [gw, gc, sumN_congr (g := fun u => (lnAt w (u * n + v)).acc) fun u _ => a1 u v hv]
    have := h.wt v hv
    split
    · rename_i e; subst e; omega
    · exact this
  · rw [a2 u v hv, h.ln u v hu hv, hsg]
    split
    · rename_i e; subst e; rw [Int.mul_add, Int.mul_one]
    · rw [Int.add_zero, Int.add_zero]
  · rw [a3 u v hv]; exact h.to u v hu hv
  · obtain ⟨u, v, hu, hv, rfl⟩ := ixof hk
    rw [a1 u v hv, a2 u v hv]
    have := h.acc _ hk
    have := hjn v
    split <;> omega
  · obtain ⟨u, v, hu, hv, rfl⟩ := ixof hk
    rw [a1 u v hv, a4 u v hv]
    exact h.rem _ hk
  · have hx' : x ∈ w.fl := by rw [g7, hw1] at hx; exact hx
    have hpk := h.fl x hx'
    obtain ⟨u, v, hu, hv, hk⟩ := ixof hpk.lt
    refine ⟨hpk.lt, fun e => ?_, fun e => ?_⟩
    · have := hpk.a e
      rw [hk] at this ⊢
      rw [a1 u v hv]; exact this
    · have := hpk.l e
      rw [hk] at this ⊢
      rw [a2 u v hv]
      have := hjn v
      split <;> omega
  · rw [g3, hw1]; exact h.lg
theorem JI.tick (c : FewC n es q d) (h : JI n es q d s w) (fs : List Int) : ∃ s', JI n es q d s' (tickS (wpR n es q) fs w) := by
  have h0 : JI n es q d s { w with tk := w.tk + 1 } := ⟨h.leg, h.ll, h.wl, h.cl, h.sl, h.cn, h.cnn, h.stb, h.stq, h.wt, h.ln, h.to, h.acc, h.rem, fun x hx => (h.fl x hx).eqv rfl, h.lg⟩
  have h1 := h0.arrive c fs
  have h2 : ∀ (k : Nat) (w : WS) (s : List Int), k ≤ n → JI n es q d s w → ∃ s', JI n es q d s' ((List.range k).foldl (fun w p => readS (wpR n es q) p w) w) := by
    intro k
    induction k with
    | zero => intro w s _ h; exact ⟨s, h⟩
    | succ k ih =>
      intro w s hk h
      obtain ⟨s', h'⟩ := ih w s (by omega) h
      rw [List.range_succ, List.foldl_append]
      exact h'.read c hk
  have h3 : ∀ (k : Nat) (w : WS) (s : List Int), k ≤ n * n → JI n es q d s w → JI n es q d s ((List.range k).foldl (pushS fs) w) := by
    intro k
    induction k with
    | zero => intro w s _ h; exact h
    | succ k ih =>
      intro w s hk h
      rw [List.range_succ, List.foldl_append]
      exact (ih w s (by omega) h).push fs hk
  unfold tickS
  dsimp only
  rw [wpR_len]
  obtain ⟨s', h4⟩ := h2 n _ _ (Nat.le_refl _) h1
  exact ⟨s', h3 _ _ _ (Nat.le_refl _) h4⟩
theorem JI.begun (c : FewC n es q d) (hV : ∀ v, v < n → (v : Int) ≠ q → 1 ≤ valTo es v n) : JI n es q d (List.replicate n 0) (begunS (wpN n es q d)) := by
  have hN : (wpN n es q d).rules.length = n := wpR_len
  have hln : ∀ k, (lnAt (begunS (wpN n es q d)) k).rem = 0 ∧ (lnAt (begunS (wpN n es q d)) k).q = 0 ∧ (lnAt (begunS (wpN n es q d)) k).acc = 0 ∧ (k < n * n → (lnAt (begunS (wpN n es q d)) k).to = k % n) := fun k => by
    unfold lnAt begunS
    rw [List.getD_eq_getElem?_getD]
    dsimp only
    rw [hN, List.getElem?_map]
    by_cases hk : k < n * n
    · rw [List.getElem?_range hk]; exact ⟨rfl, rfl, rfl, fun _ => rfl⟩
    · rw [List.getElem?_eq_none (by simp; omega)]; exact ⟨rfl, rfl, rfl, fun h => absurd h hk⟩
  have z1 : ∀ v, (begunS (wpN n es q d)).cn.getD v 0 = 0 := fun v => by
    show (List.replicate _ (0 : Int)).getD v 0 = 0
    exact zeros_get v
  have z2 : ∀ v, (begunS (wpN n es q d)).st.getD v 0 = 0 := fun v => by
    show (List.replicate n (0 : Nat)).getD v 0 = 0
    rw [List.getD_eq_getElem?_getD, List.getElem?_replicate]; split <;> rfl
  refine ⟨.nil, by simp [begunS, hN], by simp [begunS, wpN, waitL, c.dl], by simp [begunS, hN], by simp [begunS, wpN], fun v hv hq => by rw [z1, z2, zeros_get]; simp, fun v hv => by rw [z1]; exact Int.le_refl _, fun v hv hq => by rw [z2]; have := hV v hv hq; omega, fun v hv hq => z2 v, fun v hv => ?_, fun u v hu hv => ?_, fun u v hu hv => ?_, fun k hk => ?_, fun k hk => ?_, fun x hx => ?_, rfl⟩
  · rw [z1, sumN_congr (g := fun _ => 0) fun u _ => (hln _).2.2.1, sumN_zero]
    show (waitL q d).getD v 0 = _
    omega
  · rw [(hln _).1, (hln _).2.1, zeros_get]; simp
  · rw [(hln _).2.2.2 (ixlt hu hv), Nat.add_comm, Nat.add_mul_mod_self_right, Nat.mod_eq_of_lt hv]
  · rw [(hln k).1, (hln k).2.1, (hln k).2.2.1]; simp
  · rw [(hln k).1, (hln k).2.2.1]; exact Int.le_refl _
  · simp [begunS] at hx
theorem JI.quiet (c : FewC n es q d) (h : JI n es q d s w) (hq : ∀ k, k < n * n → (lnAt w k).q = 0) (hw : ∀ v, v < n → w.wt.getD v 0 = 0) :
    Stab n es q d s ∧ ∀ v, v < n → (v : Int) ≠ q → ((w.st.getD v 0 : Nat) : Int) = (movedE es s d).getD v 0 := by
  have hb : ∀ v, v < n → (v : Int) ≠ q → ((w.st.getD v 0 : Nat) : Int) = (movedE es s d).getD v 0 := fun v hv hvq => by
    rw [h.bal c.g c.dl hv hvq, hw v hv, sumN_congr (g := fun _ => 0) fun u hu => by
      have h1 := hq _ (ixlt hu hv)
      have h2 := h.acc _ (ixlt hu hv)
      have h3 := h.rem _ (ixlt hu hv)
      rw [h1] at h2 ⊢
      omega, sumN_zero]
    omega
  exact ⟨h.leg.stab fun v hv hvq => by rw [← hb v hv hvq]; exact h.stb v hv hvq, hb⟩
end
end Go.Proofs.YtekniokkmgencaaGreat
end
