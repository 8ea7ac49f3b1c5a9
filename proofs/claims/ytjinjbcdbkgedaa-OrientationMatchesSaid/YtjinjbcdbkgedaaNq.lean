/-
  Contracts: all orientations, and those with one source, in the reference.
-/
import Derived.Test.YtjinjbcdbkgedaaNp
set_option linter.unusedSimpArgs false
set_option linter.unusedVariables false
namespace Go.Sand
/-- A number halved k times. -/
def dv2 (n k : Nat) : Nat := n / 2 ^ k
theorem dv2_zero (n : Nat) : dv2 n 0 = n := by simp [dv2]
theorem dv2_succ (n k : Nat) : dv2 n (k + 1) = dv2 n k / 2 := by unfold dv2; rw [Nat.div_div_eq_div_mul, Nat.pow_succ]
theorem dv2_le (n k : Nat) : dv2 n k ≤ n := Nat.div_le_self _ _
theorem numB_cons : ∀ (k n : Nat), numB (k + 1) n = (dv2 n k % 2 == 1) :: numB k n
  | 0, n => by simp [numB, dv2]
  | k + 1, n => by
    rw [numB, numB_cons k (n / 2), numB]
    have : dv2 (n / 2) k = dv2 n (k + 1) := by unfold dv2; rw [Nat.div_div_eq_div_mul, Nat.pow_succ, Nat.mul_comm 2]
    rw [this]
    rfl
def uqE (N : Int) (es : List Ed) (q : Int) : Int := if gcheck N es ≠ 0 then gcheck N es else if vtx N q = false then 2 else if 14 < (endsL es).length then 12 else 0
theorem t2_div (x : Nat) : (x : Int).tdiv 2 = ((x / 2 : Nat) : Int) := rfl
theorem t2_mod (x : Nat) : (x : Int).tmod 2 = ((x % 2 : Nat) : Int) := rfl
end Go.Sand
namespace Go.Proofs.Ytjinjbcdbkgedaa
open Go.Abs Go.Sand

theorem auniq_ok (n : Nat) (es : List Ed) (q : Int) (hel : es.length ≤ 1000) (h : uqE n es q = 0) :
    PC Try.prog 20 [G n es, .i q] (.tup [.os 0 0 (pickL (uniB n es q) (endsL es).length).length, .i 0]) [.tab ((pickL (uniB n es q) (endsL es).length).map fun o => .p (.bo o)) 25 false] := by
  unfold uqE at h
  split at h
  · rename_i h1; exact absurd h h1
  · rename_i h1
    have hg : gcheck n es = 0 := by simpa using h1
    split at h
    · cases h
    · rename_i h2
      have hv : vtx n q = true := by simpa using h2
      split at h
      · cases h
      · rename_i h3
        have hq := vtx_iff.1 hv
        have hq1 : ¬ q < 0 := by omega
        have hq2 : ¬ (n : Int) ≤ q := by omega
        refine PC_of_W cfn20 ?_
        simp -implicitDefEqProofs (disch := omega) [c20, List.getElem?_cons_zero, List.getElem?_cons_succ, wrap_id]
        refine HC_of_PC rfl (gcheck_ok' n es (by omega)) ?_
        simp -implicitDefEqProofs (disch := omega) [List.getElem?_cons_zero, List.getElem?_cons_succ, wrap_id, hg, hq1, hq2]
        refine some_hc (p := uniB n es q) (caps := [.ptr 0 1 0 0, .ptr 1 1 0 0]) hg hel rfl (by omega) (by kernel_rfl) (by simp [loO, loA]) (by simp [loO, loA]) rfl (fun H' r b K' hH hr hb hK' => uni1_hc hg hel rfl (hH 0 (by simp)) (hH 1 (by simp)) hr hb hK') fun Z t ht => ?_
        simp -implicitDefEqProofs (disch := omega) [List.getElem?_cons_zero, List.getElem?_cons_succ, wrap_id]
        exact fin_at t trivial rfl ht (by simp [AV.ren, Abs.idx]) (loO_ren (m := 0) (fun i h => by omega) _ (loL_bos 0 _))
theorem auniq_err (N : Int) (es : List Ed) (q : Int) (hel : es.length ≤ 1000) (h : uqE N es q ≠ 0) : PC Try.prog 20 [G N es, .i q] (.tup [.p (.sl []), .i (uqE N es q)]) [] := by
  refine PC_of_W cfn20 ?_
  simp -implicitDefEqProofs (disch := omega) [c20, List.getElem?_cons_zero, List.getElem?_cons_succ, wrap_id]
  refine HC_of_PC rfl (gcheck_ok' N es (by omega)) ?_
  by_cases hg : gcheck N es = 0
  rotate_left
  · simp -implicitDefEqProofs (disch := omega) [List.getElem?_cons_zero, List.getElem?_cons_succ, wrap_id, hg]
    refine finW (Wk_nil0 4 rfl) ?_
    (refine fin0 trivial rfl ?_; simp -implicitDefEqProofs (disch := omega) [List.getElem?_cons_zero, List.getElem?_cons_succ, idx, wrap_id, uqE, hg])
  by_cases hq1 : q < 0
  · have hv : vtx N q = false := by simp [vtx]; omega
    simp -implicitDefEqProofs (disch := omega) [List.getElem?_cons_zero, List.getElem?_cons_succ, wrap_id, hg, hq1]
    refine finW (Wk_nil0 4 rfl) ?_
    (refine fin0 trivial rfl ?_; simp -implicitDefEqProofs (disch := omega) [List.getElem?_cons_zero, List.getElem?_cons_succ, idx, wrap_id, uqE, hg, hv])
  by_cases hq2 : N ≤ q
  · have hv : vtx N q = false := by simp [vtx]; omega
    simp -implicitDefEqProofs (disch := omega) [List.getElem?_cons_zero, List.getElem?_cons_succ, wrap_id, hg, hq1, hq2]
    refine finW (Wk_nil0 4 rfl) ?_
    (refine fin0 trivial rfl ?_; simp -implicitDefEqProofs (disch := omega) [List.getElem?_cons_zero, List.getElem?_cons_succ, idx, wrap_id, uqE, hg, hv])
  have hv : vtx N q = true := vtx_iff.2 ⟨by omega, by omega⟩
  by_cases hm : 14 < (endsL es).length
  · simp -implicitDefEqProofs (disch := omega) [List.getElem?_cons_zero, List.getElem?_cons_succ, wrap_id, hg, hq1, hq2]
    refine some_lim N es _ _ hel (.inr hm) fun Z => ?_
    simp -implicitDefEqProofs (disch := omega) [List.getElem?_cons_zero, List.getElem?_cons_succ, wrap_id, hg]
    (refine fin0 trivial rfl ?_; simp -implicitDefEqProofs (disch := omega) [List.getElem?_cons_zero, List.getElem?_cons_succ, idx, wrap_id, uqE, hg, hv, hm])
  · exact absurd (by simp [uqE, hg, hv, hm]) h
theorem numbered_ok (m n : Nat) (hm : m ≤ 1000) (hn : n ≤ 1000000000) : PC Try.prog 94 [.i m, .i n] (.p (.bo (numB m n))) [] := by
  have hm2 : m ≤ 1048576 := by omega
  refine PC_of_W cfn94 ?_
  simp -implicitDefEqProofs (disch := omega) [c94, List.getElem?_cons_zero, List.getElem?_cons_succ, wrap_id, hm2]
  refine loopW m (fun k s => s = ⟨[(6, .i ((m : Int) - 1 - k)), (5, .os 0 0 m), (1, .i (dv2 n k))], [rowB (List.replicate (m - k) false ++ numB k n)]⟩) (wk_norm [0] [6, 5, 1] rfl rfl) (by rw [dv2_zero]; simp only [numB, rowB, List.append_nil, Nat.sub_zero, List.map_replicate]; simp; rfl) ?_
  rintro k s hk rfl
  have hnl := numB_len k n
  by_cases hlt : k < m
  · obtain ⟨v, hv⟩ : ∃ v, v = m - 1 - k := ⟨_, rfl⟩
    have hvm : v < m := by omega
    have hx : (m : Int) - 1 - k = (v : Int) := by omega
    have hv0 : (0 : Int) ≤ (v : Int) := by omega
    have hv1 : (v : Int) - 1 = (m : Int) - 1 - ((k + 1 : Nat) : Int) := by omega
    have hB : (List.replicate (m - k) false ++ numB k n).length = m := by rw [List.length_append, List.length_replicate]; omega
    have hset : ∀ x, (List.replicate (m - k) false ++ numB k n).set v x = List.replicate (m - (k + 1)) false ++ x :: numB k n := fun x => by
      rw [show m - k = v + 1 by omega, List.replicate_succ', List.append_assoc, List.set_append_right _ _ (by simp), show m - (k + 1) = v by omega]
      simp
    have hnb := numB_cons k n
    have hdd := dv2_succ n k
    have hsm : dv2 n k ≤ 1000000000 := Nat.le_trans (dv2_le n k) hn
    have hs1 := hset (dv2 n k % 2 == 1)
    rw [← hnb] at hs1
    rw [hx]
    obtain ⟨x, hxe⟩ : ∃ x, x = dv2 n k := ⟨_, rfl⟩
    rw [← hxe] at hdd hsm hs1 ⊢
    obtain ⟨y, hy⟩ : ∃ y, y = x % 2 := ⟨_, rfl⟩
    obtain ⟨z, hz⟩ : ∃ z, z = x / 2 := ⟨_, rfl⟩
    have hm1 : (x : Int).tmod 2 = (y : Int) := by rw [hy]; rfl
    have hd1 : (x : Int).tdiv 2 = (z : Int) := by rw [hz]; rfl
    rw [← hy] at hs1
    rw [← hz] at hdd
    have hz1 : (z : Int) ≤ 9223372036854775807 := by omega
    obtain ⟨B, hBe⟩ : ∃ B, B = List.replicate (m - k) false ++ numB k n := ⟨_, rfl⟩
    rw [← hBe] at hB hs1 ⊢
    have hvB : v < B.length := by omega
    have hdec : decide ((y : Int) = 1) = (y == 1) := by
      by_cases e : y = 1
      · simp [e]
      · have : ¬ (y : Int) = 1 := by omega
        rw [decide_eq_false this]; simp [e]
    simp -implicitDefEqProofs (disch := omega) [List.getElem?_cons_zero, List.getElem?_cons_succ, wrap_id, hv0, hvm, hB, hvB, hm1, hd1]
    exact round_end [0] [6, 5, 1] hlt rfl (by rw [← hv1, hdd, ← hs1, ← hdec, rowB, List.map_set]; rfl)
  · have hke : k = m := by omega
    subst hke
    have e1 : (k : Int) - 1 - (k : Int) = -1 := by omega
    rw [e1, Nat.sub_self, List.replicate_zero, List.nil_append]
    simp -implicitDefEqProofs (disch := omega) [List.getElem?_cons_zero, List.getElem?_cons_succ, wrap_id]
    (refine fin0 trivial rfl ?_; simp -implicitDefEqProofs (disch := omega) [List.getElem?_cons_zero, List.getElem?_cons_succ, idx, wrap_id, hnl])
theorem renL_bos (l : List (List Bool)) (H : List AO) (ρ : Nat → Option Nat) : renL H ρ (l.map fun o => AV.p (.bo o)) = l.map fun o => AV.p (.bo o) := loL_ren (m := 0) (fun i h => by omega) _ (loL_bos 0 _)
theorem norm_bos {l : List (List Bool)} {t : TypeId} {fz : Bool} {Hr : List AO} {keep : List Nat} {T : List (Nat × AV)} : norm [0] keep ⟨T, .tab (l.map fun o => .p (.bo o)) t fz :: Hr⟩ =
    ⟨keep.map fun i => (i, (Abs.get T i).ren (.tab (l.map fun o => .p (.bo o)) t fz :: Hr) (Abs.idx [0] 0)), [.tab (l.map fun o => .p (.bo o)) t fz]⟩ := by
  simp [norm, AO.ren, renL_bos]
theorem norm_bos1 {l : List (List Bool)} {b : List Bool} {t : TypeId} {fz : Bool} {Hr : List AO} {keep : List Nat} {T : List (Nat × AV)} : norm [0] keep ⟨T, .tab ((l.map fun o => .p (.bo o)) ++ [.p (.bo b)]) t fz :: Hr⟩ =
    ⟨keep.map fun i => (i, (Abs.get T i).ren (.tab ((l.map fun o => .p (.bo o)) ++ [.p (.bo b)]) t fz :: Hr) (Abs.idx [0] 0)), [.tab ((l.map fun o => .p (.bo o)) ++ [.p (.bo b)]) t fz]⟩ := by
  have := norm_bos (l := l ++ [b]) (t := t) (fz := fz) (Hr := Hr) (keep := keep) (T := T)
  rw [List.map_append] at this
  exact this
theorem norm_bosB {x : AV} {l : List (List Bool)} {t : TypeId} {fz : Bool} {Hr : List AO} {keep : List Nat} {T : List (Nat × AV)} : norm [0, 1] keep ⟨T, .box x :: .tab (l.map fun o => .p (.bo o)) t fz :: Hr⟩ =
    ⟨keep.map fun i => (i, (Abs.get T i).ren (.box x :: .tab (l.map fun o => .p (.bo o)) t fz :: Hr) (Abs.idx [0, 1] 0)), [.box (x.ren (.box x :: .tab (l.map fun o => .p (.bo o)) t fz :: Hr) (Abs.idx [0, 1] 0)), .tab (l.map fun o => .p (.bo o)) t fz]⟩ := by
  simp [norm, AO.ren, renL_bos]
theorem norm_bosB1 {x : AV} {l : List (List Bool)} {b : List Bool} {t : TypeId} {fz : Bool} {Hr : List AO} {keep : List Nat} {T : List (Nat × AV)} : norm [0, 1] keep ⟨T, .box x :: .tab ((l.map fun o => .p (.bo o)) ++ [.p (.bo b)]) t fz :: Hr⟩ =
    ⟨keep.map fun i => (i, (Abs.get T i).ren (.box x :: .tab ((l.map fun o => .p (.bo o)) ++ [.p (.bo b)]) t fz :: Hr) (Abs.idx [0, 1] 0)), [.box (x.ren (.box x :: .tab ((l.map fun o => .p (.bo o)) ++ [.p (.bo b)]) t fz :: Hr) (Abs.idx [0, 1] 0)), .tab ((l.map fun o => .p (.bo o)) ++ [.p (.bo b)]) t fz]⟩ := by
  have := norm_bosB (x := x) (l := l ++ [b]) (t := t) (fz := fz) (Hr := Hr) (keep := keep) (T := T)
  rw [List.map_append] at this
  exact this
theorem read_bos {l : List (List Bool)} {t : TypeId} {fz : Bool} {n : Nat} {Hr : List AO} (hn : n = l.length) : AV.ren (AO.tab (l.map fun o => AV.p (.bo o)) t fz :: Hr) (Abs.idx [] 0) (.os 0 0 n) = .p (.bos l) := by
  have := tab_read (l := l.map PV.bo) (t := t) (fz := fz) (n := n) (Hr := Hr) (ρ := Abs.idx [] 0) (fun e he => by obtain ⟨o, _, rfl⟩ := List.mem_map.1 he; rfl) (by simpa using hn) rfl
  rw [List.map_map] at this
  exact this
theorem read_bosB {x : AO} {l : List (List Bool)} {t : TypeId} {fz : Bool} {n : Nat} {Hr : List AO} (hn : n = l.length) : AV.ren (x :: AO.tab (l.map fun o => AV.p (.bo o)) t fz :: Hr) (Abs.idx [] 0) (.os 1 0 n) = .p (.bos l) := by
  have hp : ∀ x ∈ (l.map PV.bo).map AV.p, ∃ q, x = .p q := fun x hx => by obtain ⟨q, _, rfl⟩ := List.mem_map.1 hx; exact ⟨q, rfl⟩
  have h1 : ∀ e ∈ l.map PV.bo, e.one = true := fun e he => by obtain ⟨o, _, rfl⟩ := List.mem_map.1 he; rfl
  have e1 : (l.map fun o => AV.p (.bo o)) = (l.map PV.bo).map AV.p := by rw [List.map_map]; rfl
  subst hn
  rw [AV.ren, e1]
  simp only [idx_at0, List.getElem?_cons_succ, List.getElem?_cons_zero, ren0_ps hp, allOne_ps _ h1, Nat.zero_add, List.length_map, if_true, List.drop_zero]
def whoK (m k : Nat) : List (List Bool) := (List.range k).map (numB m)
theorem whoK_succ (m k : Nat) : whoK m (k + 1) = whoK m k ++ [numB m k] := by simp [whoK, List.range_succ]
theorem whoK_len (m k : Nat) : (whoK m k).length = k := by simp [whoK]
theorem pow_small {m : Nat} (hm : m ≤ 14) : 2 ^ m ≤ 16384 := Nat.pow_le_pow_right (by omega) hm
theorem whole_ok (m : Nat) (hm : m ≤ 14) : PC Try.prog 68 [.i m] (.p (.bos (wholeL m))) [] := by
  have h16 := pow_small hm
  have hwl := wholeL_len m
  refine PC_of_W cfn68 ?_
  simp -implicitDefEqProofs (disch := omega) [c68, List.getElem?_cons_zero, List.getElem?_cons_succ, wrap_id]
  refine loopW m (fun k s => s = ⟨[(4, .i k), (3, .i (powN k)), (0, .i m)], []⟩) (wk_norm [] [4, 3, 0] rfl rfl) rfl ?_
  rintro k s hk rfl
  have hpk : powN k ≤ 16384 := by unfold powN; exact pow_small (by omega)
  by_cases hlt : k < m
  · have hps : ((powN (k + 1) : Nat) : Int) = 2 * (powN k : Nat) := by unfold powN; rw [Nat.pow_succ]; push_cast; omega
    generalize powN k = x at *
    simp -implicitDefEqProofs (disch := omega) [List.getElem?_cons_zero, List.getElem?_cons_succ, wrap_id, hlt]
    exact round_end [] [4, 3, 0] hlt rfl (by rw [hps]; rfl)
  · have hke : k = m := by omega
    subst hke
    have hpw : powN k = 2 ^ k := rfl
    rw [hpw]
    obtain ⟨M, hM⟩ : ∃ M, M = 2 ^ k := ⟨_, rfl⟩
    rw [← hM] at hwl h16 ⊢
    simp -implicitDefEqProofs (disch := omega) [List.getElem?_cons_zero, List.getElem?_cons_succ, wrap_id]
    refine loopW M (fun j s => s = ⟨[(6, .i j), (5, .os 0 0 j), (3, .i M), (0, .i k)], [.tab ((whoK k j).map fun o => .p (.bo o)) 25 false]⟩) ((Wk_nilT 5 25 rfl).trans (wk_norm [0] [6, 5, 3, 0] rfl rfl)) rfl ?_
    rintro j s hj rfl
    have htl := whoK_len k j
    by_cases hlj : j < M
    · have hts := whoK_succ k j
      have hj1 : j + 1 ≤ 1048576 := by omega
      generalize hA : whoK k j = A at *
      simp -implicitDefEqProofs (disch := omega) [List.getElem?_cons_zero, List.getElem?_cons_succ, wrap_id, hlj]
      refine HC_of_PC rfl (numbered_ok k j (by omega) (by omega)) ?_
      simp -implicitDefEqProofs (disch := omega) [List.getElem?_cons_zero, List.getElem?_cons_succ, wrap_id, htl, hj1]
      refine round_end [0] [6, 5, 3, 0] hlj rfl ?_
      rw [hts, List.map_append]
      exact norm_bos1.trans rfl
    · have hje : j = M := by omega
      have e1 : whoK k j = wholeL k := by rw [hje, hM]; rfl
      rw [e1, hje]
      simp -implicitDefEqProofs (disch := omega) [List.getElem?_cons_zero, List.getElem?_cons_succ, wrap_id]
      refine fin0 trivial rfl ?_
      exact read_bos hwl.symm
theorem rall_ok (n : Nat) (es : List Ed) (hel : es.length ≤ 1000) (hg : gcheck n es = 0) (hm : (endsL es).length ≤ 14) : PC Try.prog 19 [G n es] (.tup [.p (.bos (wholeL (endsL es).length)), .i 0]) [] := by
  have hgood := gcheck_ok hg
  have hm' : ¬ (14 : Int) < (endsL es).length := by omega
  refine PC_of_W cfn19 ?_
  simp -implicitDefEqProofs (disch := omega) [c19, List.getElem?_cons_zero, List.getElem?_cons_succ, wrap_id]
  refine HC_of_PC rfl (rcheck_ok n es (by omega)) ?_
  simp -implicitDefEqProofs (disch := omega) [List.getElem?_cons_zero, List.getElem?_cons_succ, wrap_id, hg]
  refine HC_of_PC rfl (size_ok n es hgood.right hel) ?_
  simp -implicitDefEqProofs (disch := omega) [List.getElem?_cons_zero, List.getElem?_cons_succ, wrap_id, hm']
  refine HC_of_PC rfl (whole_ok (endsL es).length hm) ?_
  simp -implicitDefEqProofs (disch := omega) [List.getElem?_cons_zero, List.getElem?_cons_succ, wrap_id]
  (refine fin0 trivial rfl ?_; simp -implicitDefEqProofs (disch := omega) [List.getElem?_cons_zero, List.getElem?_cons_succ, idx, wrap_id])
theorem rall_err (N : Int) (es : List Ed) (hel : es.length ≤ 1000) (h : gcheck N es ≠ 0 ∨ 14 < (endsL es).length) : PC Try.prog 19 [G N es] (.tup [.p (.sl []), .i (if gcheck N es ≠ 0 then gcheck N es else 12)]) [] := by
  refine PC_of_W cfn19 ?_
  simp -implicitDefEqProofs (disch := omega) [c19, List.getElem?_cons_zero, List.getElem?_cons_succ, wrap_id]
  refine HC_of_PC rfl (rcheck_ok N es (by omega)) ?_
  by_cases hg : gcheck N es = 0
  rotate_left
  · simp -implicitDefEqProofs (disch := omega) [List.getElem?_cons_zero, List.getElem?_cons_succ, wrap_id, hg]
    refine finW (Wk_nil0 2 rfl) ?_
    (refine fin0 trivial rfl ?_; simp -implicitDefEqProofs (disch := omega) [List.getElem?_cons_zero, List.getElem?_cons_succ, idx, wrap_id, hg])
  have hm : (14 : Int) < (endsL es).length := by have := h.resolve_left (by simp [hg]); omega
  have hgood := gcheck_ok hg
  simp -implicitDefEqProofs (disch := omega) [List.getElem?_cons_zero, List.getElem?_cons_succ, wrap_id, hg]
  refine HC_of_PC rfl (size_ok N es hgood.right hel) ?_
  simp -implicitDefEqProofs (disch := omega) [List.getElem?_cons_zero, List.getElem?_cons_succ, wrap_id, hm]
  refine finW (Wk_nil0 2 rfl) ?_
  (refine fin0 trivial rfl ?_; simp -implicitDefEqProofs (disch := omega) [List.getElem?_cons_zero, List.getElem?_cons_succ, idx, wrap_id, hg])
theorem srcL_one (n : Nat) (es : List Ed) (q : Int) (b : List Bool) : decide (srcL n es b = [q]) = (decide ((srcL n es b).length = 1) && decide ((srcL n es b).getD 0 0 = q)) := by
  generalize srcL n es b = S
  match S with
  | [] => simp
  | [x] => simp
  | x :: y :: l => simp
theorem rooted_ok (n : Nat) (es : List Ed) (q : Int) (hel : es.length ≤ 1000) (hg : gcheck n es = 0) (hm : (endsL es).length ≤ 14) : PC Try.prog 74 [G n es, .i q] (.p (.bos (pickL (uniB n es q) (endsL es).length))) [] := by
  have hgood := gcheck_ok hg
  have hn := hgood.n12
  have h16 := pow_small hm
  have hwl := wholeL_len (endsL es).length
  refine PC_of_W cfn74 ?_
  simp -implicitDefEqProofs (disch := omega) [c74, List.getElem?_cons_zero, List.getElem?_cons_succ, wrap_id]
  refine HC_of_PC rfl (size_ok n es hgood.right hel) ?_
  simp -implicitDefEqProofs (disch := omega) [List.getElem?_cons_zero, List.getElem?_cons_succ, wrap_id]
  refine HC_of_PC rfl (whole_ok (endsL es).length hm) ?_
  simp -implicitDefEqProofs (disch := omega) [List.getElem?_cons_zero, List.getElem?_cons_succ, wrap_id]
  obtain ⟨WL, hWL⟩ : ∃ WL, WL = wholeL (endsL es).length := ⟨_, rfl⟩
  rw [← hWL] at hwl ⊢
  refine loopW (2 ^ (endsL es).length) (fun k s => s = ⟨[(7, .i k), (6, .os 1 0 (pickK (uniB n es q) (endsL es).length k).length), (5, .p (.bos WL)), (2, .ptr 0 1 0 0), (1, .i q)], [.box (.p (G n es)), .tab ((pickK (uniB n es q) (endsL es).length k).map fun o => .p (.bo o)) 25 false]⟩) ((Wk_nilT 6 25 rfl).trans (wk_norm [0, 1] [7, 6, 5, 2, 1] rfl rfl)) rfl ?_
  rintro k s hk rfl
  have hpl := pickK_len (uniB n es q) (endsL es).length k
  have hps := pickK_succ (uniB n es q) (endsL es).length k
  by_cases hlt : k < 2 ^ (endsL es).length
  · have hkw : k < WL.length := by omega
    have hat : WL[k] = numB (endsL es).length k := by subst hWL; exact wholeL_at hkw
    have hnl := numB_len (endsL es).length k
    obtain ⟨b, hb⟩ : ∃ b, b = numB (endsL es).length k := ⟨_, rfl⟩
    rw [← hb] at hat hnl hps
    have hp1 : (pickK (uniB n es q) (endsL es).length k).length + 1 ≤ 1048576 := by omega
    have hu : uniB n es q b = (decide ((srcL n es b).length = 1) && decide ((srcL n es b).getD 0 0 = q) && decide ((sortL n (arwsL es b)).length = n)) := by rw [uniB, srcL_one, Bool.and_comm]
    have hsl : (srcL n es b).length ≤ n := selK_len _ _
    generalize hP : pickK (uniB n es q) (endsL es).length k = P at *
    simp -implicitDefEqProofs (disch := omega) [List.getElem?_cons_zero, List.getElem?_cons_succ, wrap_id, hkw, hat]
    refine HC_of_PC rfl (roots_ok n es b hg hel hnl) ?_
    have hne : ∀ c, uniB n es q b = c → pickK (uniB n es q) (endsL es).length (k + 1) = P ++ if c then [b] else [] := fun c hc => by rw [hps, hc]
    by_cases c1 : (srcL n es b).length = 1
    rotate_left
    · have h1 := hne false (by rw [hu]; simp [c1])
      simp only [Bool.false_eq_true, if_false, List.append_nil] at h1
      have c1' : ¬ ((srcL n es b).length : Int) = 1 := by omega
      generalize srcL n es b = S at *
      simp -implicitDefEqProofs (disch := omega) [List.getElem?_cons_zero, List.getElem?_cons_succ, wrap_id, c1, c1']
      exact round_end [0, 1] [7, 6, 5, 2, 1] hlt rfl (by rw [h1]; exact norm_bosB.trans rfl)
    have hs0 : 0 < (srcL n es b).length := by omega
    have hgd := getD_get hs0
    by_cases c2 : (srcL n es b)[0] = q
    rotate_left
    · have h1 := hne false (by rw [hu, hgd]; simp [c2])
      simp only [Bool.false_eq_true, if_false, List.append_nil] at h1
      generalize srcL n es b = S at *
      simp -implicitDefEqProofs (disch := omega) [List.getElem?_cons_zero, List.getElem?_cons_succ, wrap_id, c1, hs0, c2]
      exact round_end [0, 1] [7, 6, 5, 2, 1] hlt rfl (by rw [h1]; exact norm_bosB.trans rfl)
    have hso := sorting_ok n es b hg hel hnl
    have hc3 := hne (decide ((sortL n (arwsL es b)).length = n)) (by rw [hu, hgd, c1, c2]; simp)
    have hle := sortL_le n (arwsL es b)
    generalize srcL n es b = S at *
    generalize sortL n (arwsL es b) = T at *
    simp -implicitDefEqProofs (disch := omega) [List.getElem?_cons_zero, List.getElem?_cons_succ, wrap_id, c1, hs0, c2, hkw, hat]
    refine HC_of_PC rfl (hso) ?_
    by_cases c3 : T.length = n
    · rw [decide_eq_true c3, if_pos rfl] at hc3
      simp -implicitDefEqProofs (disch := omega) [List.getElem?_cons_zero, List.getElem?_cons_succ, wrap_id, c3, hkw, hat, hp1]
      exact round_end [0, 1] [7, 6, 5, 2, 1] hlt rfl (by rw [hc3, List.map_append, List.length_append]; exact norm_bosB1.trans rfl)
    · rw [decide_eq_false c3] at hc3
      simp only [Bool.false_eq_true, if_false, List.append_nil] at hc3
      have c3' : ¬ (T.length : Int) = n := by omega
      simp -implicitDefEqProofs (disch := omega) [List.getElem?_cons_zero, List.getElem?_cons_succ, wrap_id, c3, c3']
      exact round_end [0, 1] [7, 6, 5, 2, 1] hlt rfl (by rw [hc3]; exact norm_bosB.trans rfl)
  · have hke : k = 2 ^ (endsL es).length := by omega
    rw [hke, pickL_eq]
    have hwi : ((WL.length : Nat) : Int) = ((2 ^ (endsL es).length : Nat) : Int) := by rw [hwl]
    obtain ⟨M, hM⟩ : ∃ M, M = 2 ^ (endsL es).length := ⟨_, rfl⟩
    rw [← hM] at hwl ⊢
    have hlm : ¬ M < WL.length := by omega
    simp -implicitDefEqProofs (disch := omega) [List.getElem?_cons_zero, List.getElem?_cons_succ, wrap_id, hlm]
    refine fin0 trivial rfl ?_
    exact read_bosB rfl
theorem runiq_ok (n : Nat) (es : List Ed) (q : Int) (hel : es.length ≤ 1000) (h : uqE n es q = 0) : PC Try.prog 21 [G n es, .i q] (.tup [.p (.bos (pickL (uniB n es q) (endsL es).length)), .i 0]) [] := by
  have hg : gcheck n es = 0 := by
    by_cases h1 : gcheck n es = 0
    · exact h1
    · rw [uqE, if_pos h1] at h; exact absurd h h1
  have hv : vtx n q = true := by
    cases hv : vtx n q
    · rw [uqE, if_neg (by simp [hg]), hv, if_pos rfl] at h; cases h
    · rfl
  have hm : (endsL es).length ≤ 14 := by
    refine Classical.byContradiction fun hm => ?_
    rw [uqE, if_neg (by simp [hg]), if_neg (by simp [hv]), if_pos (by omega)] at h
    cases h
  have hgood := gcheck_ok hg
  have hm' : ¬ (14 : Int) < (endsL es).length := by omega
  refine PC_of_W cfn21 ?_
  simp -implicitDefEqProofs (disch := omega) [c21, List.getElem?_cons_zero, List.getElem?_cons_succ, wrap_id]
  refine HC_of_PC rfl (rcheck_ok n es (by omega)) ?_
  simp -implicitDefEqProofs (disch := omega) [List.getElem?_cons_zero, List.getElem?_cons_succ, wrap_id, hg]
  refine HC_of_PC rfl (rvertex_ok n q es) ?_
  simp -implicitDefEqProofs (disch := omega) [List.getElem?_cons_zero, List.getElem?_cons_succ, wrap_id, hv]
  refine HC_of_PC rfl (size_ok n es hgood.right hel) ?_
  simp -implicitDefEqProofs (disch := omega) [List.getElem?_cons_zero, List.getElem?_cons_succ, wrap_id, hm']
  refine HC_of_PC rfl (rooted_ok n es q hel hg hm) ?_
  simp -implicitDefEqProofs (disch := omega) [List.getElem?_cons_zero, List.getElem?_cons_succ, wrap_id]
  (refine fin0 trivial rfl ?_; simp -implicitDefEqProofs (disch := omega) [List.getElem?_cons_zero, List.getElem?_cons_succ, idx, wrap_id])
theorem runiq_err (N : Int) (es : List Ed) (q : Int) (hel : es.length ≤ 1000) (h : uqE N es q ≠ 0) : PC Try.prog 21 [G N es, .i q] (.tup [.p (.sl []), .i (uqE N es q)]) [] := by
  refine PC_of_W cfn21 ?_
  simp -implicitDefEqProofs (disch := omega) [c21, List.getElem?_cons_zero, List.getElem?_cons_succ, wrap_id]
  refine HC_of_PC rfl (rcheck_ok N es (by omega)) ?_
  by_cases hg : gcheck N es = 0
  rotate_left
  · simp -implicitDefEqProofs (disch := omega) [List.getElem?_cons_zero, List.getElem?_cons_succ, wrap_id, hg]
    refine finW (Wk_nil0 4 rfl) ?_
    (refine fin0 trivial rfl ?_; simp -implicitDefEqProofs (disch := omega) [List.getElem?_cons_zero, List.getElem?_cons_succ, idx, wrap_id, uqE, hg])
  have hgood := gcheck_ok hg
  simp -implicitDefEqProofs (disch := omega) [List.getElem?_cons_zero, List.getElem?_cons_succ, wrap_id, hg]
  refine HC_of_PC rfl (rvertex_ok N q es) ?_
  cases hv : vtx N q
  · simp -implicitDefEqProofs (disch := omega) [List.getElem?_cons_zero, List.getElem?_cons_succ, wrap_id]
    refine finW (Wk_nil0 4 rfl) ?_
    (refine fin0 trivial rfl ?_; simp -implicitDefEqProofs (disch := omega) [List.getElem?_cons_zero, List.getElem?_cons_succ, idx, wrap_id, uqE, hg, hv])
  simp -implicitDefEqProofs (disch := omega) [List.getElem?_cons_zero, List.getElem?_cons_succ, wrap_id]
  refine HC_of_PC rfl (size_ok N es hgood.right hel) ?_
  by_cases hm : 14 < (endsL es).length
  · have hm' : (14 : Int) < (endsL es).length := by omega
    simp -implicitDefEqProofs (disch := omega) [List.getElem?_cons_zero, List.getElem?_cons_succ, wrap_id, hm']
    refine finW (Wk_nil0 4 rfl) ?_
    (refine fin0 trivial rfl ?_; simp -implicitDefEqProofs (disch := omega) [List.getElem?_cons_zero, List.getElem?_cons_succ, idx, wrap_id, uqE, hg, hv, hm])
  · exact absurd (by simp [uqE, hg, hv, hm]) h
end Go.Proofs.Ytjinjbcdbkgedaa
