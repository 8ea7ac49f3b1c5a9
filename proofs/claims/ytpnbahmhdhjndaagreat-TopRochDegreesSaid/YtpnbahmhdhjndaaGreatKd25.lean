/-
  Texts joined: Rg Rh Ri Rj Rk.
-/
import Derived.Test.YtpnbahmhdhjndaaGreatKd24

section
set_option linter.unusedSimpArgs false
set_option linter.unusedVariables false
namespace Go.Proofs.YtpnbahmhdhjndaaGreat
open Go.Abs Go.Sand
theorem pown1_ok (d : List Int) (h : dcheck d d.length = 0) (hl : d.length ≤ 4611686018427387904) : PC Tryz.prog 75 [.sl [.is d]] (.i 0) [] := by
  refine PC_of_W cfn75 ?_
  simp -implicitDefEqProofs (disch := omega) [c75, List.getElem?_cons_zero, List.getElem?_cons_succ, wrap_id]
  refine loopW 1 (fun k s => s = ⟨[(10, .i k), (9, .i 1), (8, .p (.sl [.is d])), (0, .p (.sl [.is d]))], []⟩) (wk_norm [] [10, 9, 8, 0] rfl rfl) rfl ?_
  rintro k s hk rfl
  match k, hk with
  | 0, _ =>
    simp -implicitDefEqProofs (disch := omega) [List.getElem?_cons_zero, List.getElem?_cons_succ, wrap_id]
    refine HC_of_PC rfl (chk_ok d d.length hl) ?_
    rw [h]
    simp -implicitDefEqProofs (disch := omega) [List.getElem?_cons_zero, List.getElem?_cons_succ, wrap_id]
    exact round_end [] [10, 9, 8, 0] (by decide) rfl rfl
  | 1, _ =>
    simp -implicitDefEqProofs (disch := omega) [List.getElem?_cons_zero, List.getElem?_cons_succ, wrap_id]
    refine loopW 1 (fun k s => s = ⟨[(24, .i k), (23, .i 1), (22, .p (.sl [.is d])), (0, .p (.sl [.is d]))], []⟩) (wk_norm [] [24, 23, 22, 0] rfl rfl) rfl ?_
    rintro k s hk rfl
    match k, hk with
    | 0, _ =>
      simp -implicitDefEqProofs (disch := omega) [List.getElem?_cons_zero, List.getElem?_cons_succ, wrap_id]
      exact round_end [] [24, 23, 22, 0] (by decide) rfl rfl
    | 1, _ =>
      simp -implicitDefEqProofs (disch := omega) [List.getElem?_cons_zero, List.getElem?_cons_succ, wrap_id]
      (refine fin0 trivial rfl ?_; simp -implicitDefEqProofs (disch := omega) [List.getElem?_cons_zero, List.getElem?_cons_succ, idx, wrap_id])
theorem pdeg_ok (xs : List Int) (h : dcheck xs xs.length = 0) (hx : xs.length ≤ 1000) (hb : Bd 4611686018427 xs) : PC Tryz.prog 54 [.is xs] (.tup [.i (sumI xs), .i 0]) [] := by
  refine PC_of_W cfn54 ?_
  simp -implicitDefEqProofs (disch := omega) [c54, List.getElem?_cons_zero, List.getElem?_cons_succ, wrap_id]
  refine HC_of_PC (ps := [.sl [.is xs]]) (by simp [views, view, viewC]) (pown1_ok xs h (by omega)) ?_
  have hs : ∀ k, k ≤ xs.length → -(4611686018427 * (k : Int)) ≤ sumI (xs.take k) ∧ sumI (xs.take k) ≤ 4611686018427 * (k : Int) := by
    intro k
    induction k with
    | zero => intro _; simp [sumI]
    | succ k ih =>
      intro h
      have := ih (by omega)
      have h2 := hb k
      rw [List.getD_eq_getElem?_getD, List.getElem?_eq_getElem (by omega)] at h2
      simp only [Option.getD_some] at h2
      rw [sumI_snoc xs k (by omega)]
      push_cast
      omega
  simp -implicitDefEqProofs (disch := omega) [List.getElem?_cons_zero, List.getElem?_cons_succ, wrap_id]
  refine loopW xs.length (fun k s => s = ⟨[(16, .i k), (15, .i xs.length), (14, .p (.is xs)), (5, .i (sumI (xs.take k))), (0, .p (.is xs))], []⟩) (wk_norm [] [16, 15, 14, 5, 0] rfl rfl) rfl ?_
  rintro k s hk rfl
  by_cases hlt : k < xs.length
  · have h1 := hs (k + 1) hlt
    rw [sumI_snoc xs k hlt] at h1
    push_cast at h1
    simp -implicitDefEqProofs (disch := omega) [List.getElem?_cons_zero, List.getElem?_cons_succ, wrap_id, hlt]
    exact round_end [] [16, 15, 14, 5, 0] hlt rfl (by rw [sumI_snoc xs k hlt]; rfl)
  · simp -implicitDefEqProofs (disch := omega) [List.getElem?_cons_zero, List.getElem?_cons_succ, wrap_id, hlt]
    (refine fin0 trivial rfl ?_; simp -implicitDefEqProofs (disch := omega) [List.getElem?_cons_zero, List.getElem?_cons_succ, idx, wrap_id, List.take_of_length_le (Nat.le_of_not_lt hlt)])
theorem limited_ok (N : Int) (es : List Ed) (hel : es.length ≤ 1000) (h : gcheck N es = 0) : PC Tryz.prog 85 [G N es, .i 50] (.tup [.agg [.p (.i N), .p (.sl ((llE es).map edP))], .i 0]) [] := by
  have hg := gcheck_ok h
  refine PC_of_W cfn85 ?_
  simp -implicitDefEqProofs (disch := omega) [c85, List.getElem?_cons_zero, List.getElem?_cons_succ, wrap_id]
  refine HC_of_PC rfl (gcheck_ok' N es (by omega)) ?_
  simp -implicitDefEqProofs (disch := omega) [List.getElem?_cons_zero, List.getElem?_cons_succ, wrap_id, h]
  refine loopW es.length (fun k st => st = ⟨[(22, .i k), (21, .i es.length), (20, .p (.sl (es.map edP))), (7, .ptr 1 1 0 0), (4, .ptr 0 1 0 0), (1, .i 50)], [.box (.p (.agg [.i 0, .nil])), .box (.agg [.i N, .os 2 0 (llE (es.take k)).length]), .row ((llE (es.take k)).map edP) 3 50 false]⟩)
    ((Wk_nilB 2 1 3 50 rfl rfl).trans (Wk_norm [1, 2, 3] [22, 21, 20, 7, 4, 1] rfl)) rfl ?_
  rintro k st hk rfl
  by_cases hlt : k < es.length
  · obtain ⟨l, hl⟩ : ∃ l, l = llE (es.take k) := ⟨_, rfl⟩
    have hll : l.length ≤ 1000 := by
      have := llE_len (es.take k)
      rw [hl]
      rw [List.length_take] at this; omega
    have hr := hg.right es[k] (List.getElem_mem hlt)
    have hm := hr.m50
    have htk : es.take (k + 1) = es.take k ++ [es[k]] := by rw [List.take_add_one, List.getElem?_eq_getElem hlt]; rfl
    have hll2 : l.length ≤ 1048575 := by omega
    rw [← hl]
    obtain ⟨x, hx⟩ : ∃ x, x = es[k] := ⟨_, rfl⟩
    rw [← hx] at hm htk
    have hx2 : edP es[k] = .agg [PV.i x.a, PV.i x.b, PV.i x.m] := by rw [hx, edP]
    by_cases hab : x.a = x.b
    · have e : llE (es.take (k + 1)) = l := by rw [htk, llE_snoc, if_neg (by simp [hab]), List.append_nil, hl]
      simp -implicitDefEqProofs (disch := omega) [List.getElem?_cons_zero, List.getElem?_cons_succ, wrap_id, hlt, hx2, hab]
      exact round_end [0, 1, 2] [22, 21, 20, 7, 4, 1] hlt rfl (by rw [e]; rfl)
    · have e : llE (es.take (k + 1)) = l ++ [x] := by rw [htk, llE_snoc, if_pos hab, hl]
      have hm' : min x.m 50 = x.m := by omega
      simp -implicitDefEqProofs (disch := omega) [List.getElem?_cons_zero, List.getElem?_cons_succ, wrap_id, hlt, hx2, hab, hm', hll2]
      exact round_end [0, 1, 2] [22, 21, 20, 7, 4, 1] hlt rfl (by rw [e]; simp [Abs.norm, Abs.get, AV.ren, Abs.idx])
  have hke : k = es.length := by omega
  subst hke
  rw [List.take_length]
  simp -implicitDefEqProofs (disch := omega) [List.getElem?_cons_zero, List.getElem?_cons_succ, wrap_id]
  (refine fin0 trivial rfl ?_; simp -implicitDefEqProofs (disch := omega) [List.getElem?_cons_zero, List.getElem?_cons_succ, idx, wrap_id])
theorem loopless_ok (N : Int) (es : List Ed) (hel : es.length ≤ 1000) (h : gcheck N es = 0) : PC Tryz.prog 52 [G N es] (.tup [.agg [.p (.i N), .p (.sl ((llE es).map edP))], .i 0]) [] := by
  refine PC_of_W cfn52 ?_
  simp -implicitDefEqProofs (disch := omega) [c52, List.getElem?_cons_zero, List.getElem?_cons_succ, wrap_id]
  refine HC_of_PC rfl (limited_ok N es hel h) ?_
  simp -implicitDefEqProofs (disch := omega) [List.getElem?_cons_zero, List.getElem?_cons_succ, wrap_id]
  (refine fin0 trivial rfl ?_; simp -implicitDefEqProofs (disch := omega) [List.getElem?_cons_zero, List.getElem?_cons_succ, idx, wrap_id])
theorem joinC_same (c : Nat → Nat) (a : Nat) : joinC c a a = c := by
  funext v
  unfold joinC
  split <;> omega
theorem ufJ_snd : ∀ (es : List Ed) (s : List Int × (Nat → Nat)), (es.foldl (fun s x => (s.1.set (max (s.2 x.a.toNat) (s.2 x.b.toNat)) ((min (s.2 x.a.toNat) (s.2 x.b.toNat) : Nat) : Int), joinC s.2 x.a.toNat x.b.toNat)) s).2 = es.foldl (fun c x => joinC c x.a.toNat x.b.toNat) s.2
  | [], s => rfl
  | x :: es, s => by rw [List.foldl_cons, List.foldl_cons, ufJ_snd es]
theorem join_ll : ∀ (es : List Ed) (c : Nat → Nat), (llE es).foldl (fun c x => joinC c x.a.toNat x.b.toNat) c = es.foldl (fun c x => joinC c x.a.toNat x.b.toNat) c
  | [], c => rfl
  | x :: es, c => by
    by_cases h : x.a = x.b
    · rw [show llE (x :: es) = llE es by simp [llE, h], List.foldl_cons, h, joinC_same]
      exact join_ll es c
    · rw [show llE (x :: es) = x :: llE es by simp [llE, h], List.foldl_cons, List.foldl_cons]
      exact join_ll es _
theorem parts_ll (es : List Ed) (n : Nat) : partsN (llE es) n = partsN es n := by
  have e : cls (llE es) = cls es := by
    unfold cls ufJ
    rw [ufJ_snd, ufJ_snd, join_ll]
  unfold partsN rootsL
  rw [e]
/-- The genus, without loops. -/
def genE (n : Nat) (es : List Ed) : Int := ((endsL (llE es)).length : Int) - n + 1
theorem gen_ll {n : Nat} {es : List Ed} (hs : Sm n es) : genI n (llE es) = genE n es := by
  unfold genI genE
  rw [Int.toNat_natCast, parts_ll, hs.p]; rfl
theorem gen_kan {n : Nat} {es : List Ed} (hs : Sm n es) : sumN (kanF n (joinE es)) n = 2 * genE n es - 2 := by
  have h := val_twice' hs.g
  have e : sumN (kanF n (joinE es)) n = sumN (fun v => valTo es v n) n - sumN (fun _ => 2) n := by
    rw [← sumN_sub']
    refine sumN_congr fun v _ => ?_
    unfold kanF
    rw [valTo_sum]
  have e2 : ∀ k, sumN (fun _ => 2) k = 2 * (k : Int) := fun k => by
    induction k with
    | zero => rfl
    | succ k ih => simp only [sumN, ih]; omega
  rw [e, h, e2]
  unfold genE
  omega
theorem llE_ends (es : List Ed) : (endsL (llE es)).length ≤ (endsL es).length := by
  induction es with
  | nil => simp [llE, endsL]
  | cons x es ih =>
    rw [endsL_cons]
    by_cases h : x.a = x.b
    · rw [show llE (x :: es) = llE es by simp [llE, h], List.length_append]; omega
    · rw [show llE (x :: es) = x :: llE es by simp [llE, h], endsL_cons, List.length_append, List.length_append]; omega
end Go.Proofs.YtpnbahmhdhjndaaGreat
end
section
set_option linter.unusedSimpArgs false
set_option linter.unusedVariables false
namespace Go.Proofs.YtpnbahmhdhjndaaGreat
open Go.Abs Go.Sand
/-- What Winnable leaves. -/
def WinR (n : Nat) (es : List Ed) (d : List Int) (r : AV) (HR : List AO) : Prop := ∃ x s, RedOk n es 0 d x s ∧ r = .tup [.b (decide (0 ≤ x.getD 0 0)), .os 0 0 n, .os 1 0 n, .i 0] ∧ HR = [rowZ x, rowZ s]
theorem win_ok {n : Nat} {es : List Ed} (hs : Sm n es) {d : List Int} (hdl : d.length = n) {B : Int} (hB : 0 ≤ B ∧ B ≤ 110) (hdb : AbsLe B d) : PCR Tryz.prog 55 [G n es, .is d] (WinR n es d) := by
  have hn1 := hs.n1
  refine PCR_of_W cfn55 ?_
  simp -implicitDefEqProofs (disch := omega) [c55, List.getElem?_cons_zero, List.getElem?_cons_succ, wrap_id]
  refine HC_of_PCR rfl (reduce_ok hs (q := 0) (by omega) hdl hB hdb) ?_
  rintro r HR ⟨x, s, hx, rfl, rfl⟩
  have hxl := hx.dl
  have h0 : 0 < n := by omega
  have h0x : 0 < x.length := by omega
  have e0 : x.getD 0 0 = x[0] := getD_get h0x
  simp -implicitDefEqProofs (disch := omega) [List.getElem?_cons_zero, List.getElem?_cons_succ, wrap_id, hxl, h0, h0x]
  refine finQ [1, 2] trivial rfl rfl ?_ rfl ⟨x, s, hx, rfl, rfl⟩
  rw [e0]
  rfl
theorem win_iff {n : Nat} {es : List Ed} (hs : Sm n es) {d x s : List Int} (hx : RedOk n es 0 d x s) : WinF n (joinE es) (fun v => d.getD v 0) ↔ 0 ≤ x.getD 0 0 := win_red hs.mg (by have := hs.n1; omega) hx.red hx.eq
end Go.Proofs.YtpnbahmhdhjndaaGreat
end
section
set_option linter.unusedSimpArgs false
set_option linter.unusedVariables false
namespace Go.Proofs.YtpnbahmhdhjndaaGreat
open Go.Abs Go.Sand
/-- A divisor, as an array of twelve numbers. -/
def padZ (d : List Int) : List Int := d ++ List.replicate (12 - d.length) 0
theorem padZ_len {d : List Int} (h : d.length ≤ 12) : (padZ d).length = 12 := by simp [padZ]; omega
theorem padZ_inj {a b : List Int} {n : Nat} (ha : a.length = n) (hb : b.length = n) (h : padZ a = padZ b) : a = b := by
  have := congrArg (List.take n) h
  unfold padZ at this
  rwa [List.take_left' ha, List.take_left' hb] at this
theorem len_below : ∀ (N : Nat) (l : List Nat), l.Nodup → (∀ x ∈ l, x < N) → l.length ≤ N
  | 0, l, _, h => by
    cases l with
    | nil => simp
    | cons x l => have := h x (by simp); omega
  | N + 1, l, hn, h => by
    by_cases hN : N ∈ l
    · have h1 := len_below N (l.erase N) (hn.erase N) fun x hx => by
        have h2 := h x (List.mem_of_mem_erase hx)
        have h3 : x ≠ N := fun e => by subst e; exact (List.Nodup.mem_erase_iff hn).1 hx |>.1 rfl
        omega
      have h2 := List.length_erase_of_mem hN
      have h3 : 0 < l.length := List.length_pos_of_mem hN
      omega
    · have := len_below N l hn fun x hx => by
        have h2 := h x hx
        have h3 : x ≠ N := fun e => hN (e ▸ hx)
        omega
      omega
/-- A list of small numbers, as a number. -/
def cdL (b : Nat) : List Int → Nat
  | [] => 0
  | x :: l => x.toNat + b * cdL b l
theorem cdL_lt {b : Nat} : ∀ {l : List Int}, (∀ x ∈ l, 0 ≤ x ∧ x < b) → cdL b l < b ^ l.length
  | [], _ => by simp [cdL]
  | x :: l, h => by
    have ih := cdL_lt (l := l) fun y hy => h y (by simp [hy])
    have hx := h x (by simp)
    simp only [cdL, List.length_cons, Nat.pow_succ]
    have h1 : b * (cdL b l + 1) ≤ b * b ^ l.length := Nat.mul_le_mul_left b ih
    rw [Nat.mul_add, Nat.mul_comm b (b ^ l.length)] at h1
    omega
theorem cdL_inj {b : Nat} : ∀ {l m : List Int}, l.length = m.length → (∀ x ∈ l, 0 ≤ x ∧ x < b) → (∀ x ∈ m, 0 ≤ x ∧ x < b) → cdL b l = cdL b m → l = m
  | [], [], _, _, _, _ => rfl
  | [], _ :: _, h, _, _, _ => by simp at h
  | _ :: _, [], h, _, _, _ => by simp at h
  | x :: l, y :: m, h, hl, hm, he => by
    have hx := hl x (by simp)
    have hy := hm y (by simp)
    simp only [cdL] at he
    have h1 : (x.toNat + b * cdL b l) % b = (y.toNat + b * cdL b m) % b := by rw [he]
    rw [Nat.add_mul_mod_self_left, Nat.add_mul_mod_self_left, Nat.mod_eq_of_lt (by omega), Nat.mod_eq_of_lt (by omega)] at h1
    have h2 : b * cdL b l = b * cdL b m := by omega
    have h3 := Nat.eq_of_mul_eq_mul_left (show 0 < b by omega) h2
    rw [cdL_inj (by simpa using h) (fun z hz => hl z (by simp [hz])) (fun z hz => hm z (by simp [hz])) h3, show x = y by omega]
/-- What is kept: reduced divisors with their ranks. -/
structure MIn (n : Nat) (es : List Ed) (b : Nat) (l : List (KV × AV)) : Prop where
  nd : (l.map (·.1)).Nodup
  en : ∀ e ∈ l, ∃ x : List Int, x.length = n ∧ (∀ y ∈ x, 0 ≤ y ∧ y < b) ∧ ∃ k : Int, (-1 ≤ k ∧ k ≤ 1000) ∧ e = (.kl (padZ x), .p (.i k)) ∧ RankIs n (joinE es) (fun v => x.getD v 0) k
theorem MIn.nil (n : Nat) (es : List Ed) (b : Nat) : MIn n es b [] := ⟨by simp, fun e he => by cases he⟩
theorem dIdx_none {kv : KV} : ∀ {l : List (KV × AV)}, dIdx kv l = none → kv ∉ l.map (·.1)
  | [], _ => by simp
  | x :: l, h => by
    simp only [dIdx] at h
    split at h
    · cases h
    · rename_i hne
      have h2 := dIdx_none (l := l) (by simpa using h)
      simp only [List.map_cons, List.mem_cons, not_or]
      exact ⟨fun e => hne e.symm, h2⟩
theorem dIdx_some {kv : KV} : ∀ {l : List (KV × AV)} {i : Nat}, dIdx kv l = some i → ∃ h : i < l.length, l[i].1 = kv
  | [], i, h => by cases h
  | x :: l, i, h => by
    simp only [dIdx] at h
    split at h
    · rename_i he
      injection h with h
      subst h
      exact ⟨by simp, he⟩
    · obtain ⟨j, hj, rfl⟩ := Option.map_eq_some_iff.1 h
      obtain ⟨h1, h2⟩ := dIdx_some hj
      exact ⟨by simpa using h1, by simpa using h2⟩
theorem MIn.len {n : Nat} {es : List Ed} {b : Nat} {l : List (KV × AV)} (h : MIn n es b l) : l.length ≤ b ^ n := by
  have hx := h.en
  have hnd := h.nd
  clear h
  have key : ∃ ms : List Nat, ms.length = l.length ∧ ms.Nodup ∧ ∀ m ∈ ms, m < b ^ n := by
    have : ∀ l : List (KV × AV), (l.map (·.1)).Nodup → (∀ e ∈ l, ∃ x : List Int, x.length = n ∧ (∀ y ∈ x, 0 ≤ y ∧ y < b) ∧ e.1 = .kl (padZ x)) → ∃ ms : List Nat, ms.length = l.length ∧ ms.Nodup ∧ ∀ m ∈ ms, m < b ^ n ∧ ∃ x : List Int, x.length = n ∧ (∀ y ∈ x, 0 ≤ y ∧ y < b) ∧ m = cdL b x ∧ KV.kl (padZ x) ∈ l.map (·.1) := by
      intro l
      induction l with
      | nil => intro _ _; exact ⟨[], rfl, by simp, fun m hm => by cases hm⟩
      | cons e l ih =>
        intro hn ha
        obtain ⟨ms, h1, h2, h3⟩ := ih (List.nodup_cons.1 hn).2 fun e he => ha e (by simp [he])
        obtain ⟨x, hx1, hx2, hx3⟩ := ha e (by simp)
        refine ⟨cdL b x :: ms, by simp [h1], List.nodup_cons.2 ⟨fun hm => ?_, h2⟩, fun m hm => ?_⟩
        · obtain ⟨_, y, hy1, hy2, hy3, hy4⟩ := h3 _ hm
          have := cdL_inj (by omega) hx2 hy2 hy3
          subst this
          rw [← hx3] at hy4
          exact (List.nodup_cons.1 hn).1 hy4
        · rcases List.mem_cons.1 hm with rfl | hm
          · have := cdL_lt hx2
            rw [hx1] at this
            exact ⟨this, x, hx1, hx2, rfl, by rw [← hx3]; simp⟩
          · obtain ⟨h4, y, hy1, hy2, hy3, hy4⟩ := h3 m hm
            exact ⟨h4, y, hy1, hy2, hy3, by rw [List.map_cons]; exact List.mem_cons_of_mem _ hy4⟩
    obtain ⟨ms, h1, h2, h3⟩ := this l hnd fun e he => by
      obtain ⟨x, h1, h2, k, _, rfl, _⟩ := hx e he
      exact ⟨x, h1, h2, rfl⟩
    exact ⟨ms, h1, h2, fun m hm => (h3 m hm).1⟩
  obtain ⟨ms, h1, h2, h3⟩ := key
  have := len_below _ ms h2 h3
  omega
theorem MIn.add {n : Nat} {es : List Ed} {b : Nat} {l : List (KV × AV)} (h : MIn n es b l) {x : List Int} (hx : x.length = n) (hb : ∀ y ∈ x, 0 ≤ y ∧ y < b) {k : Int} (hk : -1 ≤ k ∧ k ≤ 1000) (hr : RankIs n (joinE es) (fun v => x.getD v 0) k) (hno : dIdx (.kl (padZ x)) l = none) : MIn n es b (l ++ [(.kl (padZ x), .p (.i k))]) := by
  refine ⟨?_, fun e he => ?_⟩
  · rw [List.map_append]
    refine List.nodup_append.2 ⟨h.nd, by simp, fun a ha c hc => ?_⟩
    simp only [List.map_cons, List.map_nil, List.mem_singleton] at hc
    subst hc
    intro e
    subst e
    exact dIdx_none hno ha
  · rcases List.mem_append.1 he with he | he
    · exact h.en e he
    · simp only [List.mem_singleton] at he
      exact ⟨x, hx, hb, k, hk, he, hr⟩
end Go.Proofs.YtpnbahmhdhjndaaGreat
end
section
set_option linter.unusedSimpArgs false
set_option linter.unusedVariables false
namespace Go.Proofs.YtpnbahmhdhjndaaGreat
open Go.Abs Go.Sand
/-- Everything stands as it stood, but for one object. -/
structure Fk (m : Nat) (H H' : List AO) : Prop where
  le : H.length ≤ H'.length
  same : ∀ i, i ≠ m → i < H.length → H'[i]? = H[i]?
theorem Fk.refl (m : Nat) (H : List AO) : Fk m H H := ⟨Nat.le_refl _, fun _ _ _ => rfl⟩
theorem Fk.trans {m : Nat} {A B C : List AO} (h : Fk m A B) (k : Fk m B C) : Fk m A C := ⟨Nat.le_trans h.le k.le, fun i h1 h2 => (k.same i h1 (Nat.lt_of_lt_of_le h2 h.le)).trans (h.same i h1 h2)⟩
theorem Fk.at {m : Nat} {H H' : List AO} (h : Fk m H H') {i : Nat} {x : AO} (hi : i ≠ m) (hx : H[i]? = some x) : H'[i]? = some x := by rw [h.same i hi (lt_some hx)]; exact hx
theorem Fk.app (m : Nat) (H Z : List AO) : Fk m H (H ++ Z) := ⟨by simp, fun i _ h => by rw [List.getElem?_append_left h]⟩
theorem deg_sum {n : Nat} {d : List Int} (hd : d.length = n) : sumI d = sumN (fun v => d.getD v 0) n := by
  have := sumN_sumI d n (by omega)
  rw [this, ← hd, List.take_length]
theorem views1 {H : List AO} {A : AV} {p : PV} (h : view H A = some p) : views H [A] = some [p] := by simp only [views, h]
theorem views2 {H : List AO} {A : AV} {p q : PV} (h : view H A = some p) : views H [.p q, A] = some [q, p] := by simp only [views, h]; rfl
theorem pad_agg : ∀ (x : List Int), x.length ≤ 5 → mkAgg (List.take 12 (List.map (AV.p ∘ PV.i) x) ++ List.drop x.length [AV.p (PV.v (Value.int IntKind.i64 0)), AV.p (PV.v (Value.int IntKind.i64 0)), AV.p (PV.v (Value.int IntKind.i64 0)), AV.p (PV.v (Value.int IntKind.i64 0)), AV.p (PV.v (Value.int IntKind.i64 0)), AV.p (PV.v (Value.int IntKind.i64 0)), AV.p (PV.v (Value.int IntKind.i64 0)), AV.p (PV.v (Value.int IntKind.i64 0)), AV.p (PV.v (Value.int IntKind.i64 0)), AV.p (PV.v (Value.int IntKind.i64 0)), AV.p (PV.v (Value.int IntKind.i64 0)), AV.p (PV.v (Value.int IntKind.i64 0))]) = .p (.agg ((padZ x).map PV.i)) := by
  intro x hx
  rcases x with _ | ⟨x0, _ | ⟨x1, _ | ⟨x2, _ | ⟨x3, _ | ⟨x4, _ | ⟨x5, d⟩⟩⟩⟩⟩⟩
  rotate_right
  · simp only [List.length_cons] at hx; omega
  all_goals simp [mkAgg, allP, padZ, PV.i, Abs.isAgg]
theorem ints_mapi : ∀ l : List Int, ints (l.map PV.i) = some l
  | [] => rfl
  | x :: l => by simp only [List.map_cons, PV.i, ints]; rw [show (l.map PV.i) = l.map PV.i from rfl, ints_mapi l]; rfl
theorem isB_mapi (l : List Int) : isB (l.map PV.i) = false := by cases l <;> rfl
theorem fit_pad {x : List Int} (h : x.length ≤ 12) (hb : AbsLe 1048576 x) : KV.fit (.arr 12) (.kl (padZ x)) = true := by
  simp only [KV.fit, padZ_len h, decide_true, Bool.true_and, List.all_eq_true]
  intro y hy
  have : -1048576 ≤ y ∧ y ≤ 1048576 := by
    rcases List.mem_append.1 hy with hy | hy
    · obtain ⟨i, hi, rfl⟩ := List.mem_iff_getElem.1 hy
      have := hb.get hi
      omega
    · have := List.eq_of_mem_replicate hy
      omega
  simp [Lit.wf, IntKind.min, IntKind.max, IntKind.bits, IntKind.signed]
  omega
theorem minF_congr {b : Int} {f g : Nat → Int} : ∀ {k : Nat}, (∀ v, v < k → f v = g v) → minF b f k = minF b g k
  | 0, _ => rfl
  | k + 1, h => by simp only [minF]; rw [minF_congr fun v hv => h v (by omega), h k (by omega)]
theorem eff_le {D : Nat → Int} : ∀ {n : Nat}, (∀ v, v < n → 0 ≤ D v) → 0 ≤ sumN D n ∧ ∀ v, v < n → D v ≤ sumN D n
  | 0, _ => ⟨by simp [sumN], fun v hv => by omega⟩
  | n + 1, h => by
    have ih := eff_le (n := n) fun v hv => h v (by omega)
    have h0 := h n (by omega)
    simp only [sumN]
    refine ⟨by omega, fun v hv => ?_⟩
    by_cases e : v = n
    · subst e; omega
    · have := ih.2 v (by omega); omega
/-- What holds ahead of each round: the ranks with one chip less at the vertices so far. -/
def RkI (n : Nat) (es : List Ed) (b : Nat) (x : List Int) (H0 : List AO) (m0 mo fo : Nat) (D : Int) (j : Nat) (st : St) : Prop := ∃ (H' : List AO) (l' : List (KV × AV)) (f : Nat → Int), Fk mo H0 H' ∧ H'[mo]? = some (.dict (.arr 12) l') ∧ MIn n es b l' ∧ (∀ v, v < j → RankIs n (joinE es) (fun u => x.getD u 0 - oneF v u) (f v) ∧ (-1 ≤ f v ∧ f v ≤ 1000)) ∧ j ≤ n ∧ st = ⟨[(0, .ptr fo 1 0 0), (4, .i 0), (5, .i 0), (9, .os m0 0 n), (11, .ptr (m0 + 2) 1 0 0), (14, .i (minF D (fun v => f v + 1) j)), (80, .i n), (81, .i j)], H'⟩
section
variable {n : Nat} {es : List Ed} (hs : Sm n es)
include hs
set_option maxHeartbeats 4000000 in
theorem rank_hc {fo mo : Nat} (hfm : fo ≠ mo) {b : Nat} (hb : (b : Int) = max 1 (2 * genE n es - 1)) (hbn : b ^ n < 16384) : ∀ (k : Nat) {d : List Int} {A : AV} {H : List AO} {l : List (KV × AV)} {K : AV → List AO → Prop}, d.length = n → AbsLe 110 d → sumN (fun v => d.getD v 0) n < k → view H A = some (.is d) →
    H[fo]? = some (.box (.agg [.p (.i n), .p (.sl (es.map edP)), .p (.i (genE n es)), .mp mo])) → H[mo]? = some (.dict (.arr 12) l) → MIn n es b l →
    (∀ r H' l', RankIs n (joinE es) (fun v => d.getD v 0) r → (-1 ≤ r ∧ r ≤ 1000) → Fk mo H H' → H'[mo]? = some (.dict (.arr 12) l') → MIn n es b l' → K (.tup [.i r, .i 0]) H') →
    HC Tryz.prog false 25 [.ptr fo 1 0 0, A] H K := by
  have hn1 := hs.n1
  have hn5 := hs.n5
  have hM := hs.mg
  have hn0 : 0 < n := by omega
  have hgk := gen_kan hs
  have hge : -10 ≤ genE n es ∧ genE n es ≤ 10 := by
    have := llE_ends es
    have := hs.m7
    unfold genE; omega
  intro k
  induction k with
  | zero =>
    intro d A H l K hdl hdb hk hA hfo hmo hl hK
    have hdc : dcheck d d.length = 0 := by rw [hdl]; exact dcheck_zero (by omega) hdl (hdb.mono (by omega))
    have hsum := deg_sum hdl
    obtain ⟨D, hD⟩ : ∃ D, D = sumN (fun v => d.getD v 0) n := ⟨_, rfl⟩
    rw [← hD] at hsum hk
    have hneg : D < 0 := by omega
    have hlose : ¬ WinF n (joinE es) (fun v => d.getD v 0) := fun h => by have := win_deg hM h; omega
    refine HC_of_W (af := _) ((by exact cfn25 : cfn _ _ _ = some _)) ?_
    simp -implicitDefEqProofs (disch := omega) [c25, List.getElem?_cons_zero, List.getElem?_cons_succ, wrap_id]
    refine HC_of_PC (views1 hA) (pdeg_ok d hdc (by omega) (hdb.mono (by omega))) ?_
    rw [hsum]
    simp -implicitDefEqProofs (disch := omega) [List.getElem?_cons_zero, List.getElem?_cons_succ, wrap_id, hneg]
    exact finH trivial rfl (hK (-1) _ l (.inl ⟨rfl, hlose⟩) (by omega) (Fk.refl _ _) hmo hl)
  | succ k ih =>
    intro d A H l K hdl hdb hk hA hfo hmo hl hK
    have hdc : dcheck d d.length = 0 := by rw [hdl]; exact dcheck_zero (by omega) hdl (hdb.mono (by omega))
    have hsum := deg_sum hdl
    obtain ⟨D, hD⟩ : ∃ D, D = sumN (fun v => d.getD v 0) n := ⟨_, rfl⟩
    rw [← hD] at hsum hk
    obtain ⟨g, hg⟩ : ∃ g, g = genE n es := ⟨_, rfl⟩
    rw [← hg] at hb hgk hge hfo ih
    have hDb : D ≤ 550 := by
      have h2 := sum_bd (B := 110) (by omega) (d := fun v => d.getD v 0) (k := n) fun v _ => (hdb v).2
      omega
    refine HC_of_W (af := _) ((by exact cfn25 : cfn _ _ _ = some _)) ?_
    simp -implicitDefEqProofs (disch := omega) [c25, List.getElem?_cons_zero, List.getElem?_cons_succ, wrap_id]
    refine HC_of_PC (views1 hA) (pdeg_ok d hdc (by omega) (hdb.mono (by omega))) ?_
    rw [hsum]
    by_cases hneg : D < 0
    · have hlose : ¬ WinF n (joinE es) (fun v => d.getD v 0) := fun h => by have := win_deg hM h; omega
      simp -implicitDefEqProofs (disch := omega) [List.getElem?_cons_zero, List.getElem?_cons_succ, wrap_id, hneg]
      exact finH trivial rfl (hK (-1) _ l (.inl ⟨rfl, hlose⟩) (by omega) (Fk.refl _ _) hmo hl)
    have hDlo : 0 ≤ D := by omega
    by_cases hbig : 2 * g - 2 < D
    · have hge0 : 0 ≤ D - g := by omega
      have hrk := rank_high hM hn0 (D := fun v => d.getD v 0) (g := g) hgk (by omega) (by omega)
      rw [← hD] at hrk
      simp -implicitDefEqProofs (disch := omega) [List.getElem?_cons_zero, List.getElem?_cons_succ, wrap_id, hneg, hfo, hbig, -getElem?_pos]
      exact finH trivial rfl (hK (D - g) _ l hrk (by omega) (Fk.refl _ _) hmo hl)
    simp -implicitDefEqProofs (disch := omega) [List.getElem?_cons_zero, List.getElem?_cons_succ, wrap_id, hneg, hfo, hbig, -getElem?_pos]
    refine HC_of_PCR (views2 hA) (win_ok hs hdl (by omega) hdb) ?_
    rintro r HR ⟨x, s, hx, rfl, rfl⟩
    have hxl := hx.dl
    have hwin := win_iff hs hx
    have h0x : 0 < x.length := by omega
    rw [getD_get h0x] at hwin
    by_cases hx0 : (0 : Int) ≤ x[0]
    rotate_left
    · have hx0' : decide ((0 : Int) ≤ x[0]) = false := decide_eq_false hx0
      simp -implicitDefEqProofs (disch := omega) [List.getElem?_cons_zero, List.getElem?_cons_succ, wrap_id, hx0, hx0']
      exact finH trivial rfl (hK (-1) _ l (.inl ⟨rfl, fun h => hx0 (hwin.1 h)⟩) (by omega) (Fk.app _ _ _) (app_some hmo _) hl)
    have hw := hwin.2 hx0
    have hxs : sumN (fun v => x.getD v 0) n = D := by rw [Equi.deg hM hx.eq, hD]
    have hxe : ∀ v, v < n → 0 ≤ x.getD v 0 := fun v hv => by
      by_cases e : v = 0
      · subst e; rw [getD_get h0x]; exact hx0
      · exact hx.red.1 v hv e
    have hxD := (eff_le hxe).2
    rw [hxs] at hxD
    have hwx : WinF n (joinE es) (fun v => x.getD v 0) := (WinF.equi hx.eq).1 hw
    have hfo2 : ∀ Z, (H ++ Z)[fo]? = _ := fun Z => app_some hfo Z
    have hmo2 : ∀ Z, (H ++ Z)[mo]? = _ := fun Z => app_some hmo Z
    have f0 : ∀ a Z, (H ++ a :: Z)[H.length]? = some a := fun a Z => by rw [List.getElem?_append_right (by omega)]; simp
    have f2 : ∀ a b c, (H ++ [a, b, c])[H.length + 2]? = some c := fun a b c => by rw [List.getElem?_append_right (by omega)]; simp
    have s2 : ∀ a b c z, (H ++ [a, b, c]).set (H.length + 2) z = H ++ [a, b, z] := fun a b c z => by rw [List.set_append_right _ _ (by omega)]; simp
    have hx0' : decide ((0 : Int) ≤ x[0]) = true := decide_eq_true hx0
    have hpad := pad_agg x (by omega)
    rw [hxl] at hpad
    have hpi := ints_mapi (padZ x)
    have hpb := isB_mapi (padZ x)
    have hpf := fit_pad (x := x) (by omega) hx.db
    have hpl := padZ_len (d := x) (by omega)
    have h11 : (H ++ [AO.row (x.map PV.i) 1 3 false, AO.row (s.map PV.i) 1 3 false, AO.box (AV.p (PV.agg (List.map PV.i (padZ x))))])[H.length + 2]? = _ := f2 _ _ _
    obtain ⟨kv, hkv⟩ : ∃ kv, kv = KV.kl (padZ x) := ⟨_, rfl⟩
    rw [← hkv] at hpf
    cases hdi : dIdx kv l with
    | some i =>
      obtain ⟨hi, hie⟩ := dIdx_some hdi
      obtain ⟨x', hx'l, hx'b, r, hrb, hre, hrr⟩ := hl.en _ (List.getElem_mem hi)
      have hxx : x' = x := by
        rw [hre] at hie
        simp only at hie
        rw [hkv] at hie
        injection hie with hie
        exact padZ_inj hx'l hxl hie
      subst hxx
      have hli : l[i]? = some (KV.kl (padZ x'), AV.p (PV.i r)) := by rw [List.getElem?_eq_getElem hi, hre]
      simp -implicitDefEqProofs (disch := omega) [List.getElem?_cons_zero, List.getElem?_cons_succ, wrap_id, hx0, hx0', f0, f2, s2, hxl, -mkAgg, hpad, hfo2, hmo2, hpl, hpi, hpb, -KV.fit, hpf, -isB, -ints, ← hkv, -dIdx, hdi, hli]
      have hl2 : l[i].snd = AV.p (PV.i r) := by rw [hre]
      rw [hl2]
      exact finH trivial rfl (hK r _ l (RankIs.equi hx.eq.symm hrr) hrb (Fk.app _ _ _) (app_some hmo _) hl)
    | none =>
      have hlm := hl.len
      have hlm' : ((l.length : Int) = 16384) = False := eq_false (by omega)
      simp -implicitDefEqProofs (disch := omega) [List.getElem?_cons_zero, List.getElem?_cons_succ, wrap_id, hx0, hx0', f0, f2, s2, hxl, -mkAgg, hpad, hfo2, hmo2, hpl, hpi, hpb, -KV.fit, hpf, -isB, -ints, ← hkv, -dIdx, hdi, hlm']
      have hmoH := lt_some hmo
      have hfoH := lt_some hfo
      obtain ⟨H0, hH0⟩ : ∃ H0, H0 = H ++ [AO.row (x.map PV.i) 1 3 false, AO.row (s.map PV.i) 1 3 false, AO.box (AV.p (PV.agg (List.map PV.i (padZ x))))] := ⟨_, rfl⟩
      have hz0 : H0[H.length]? = some (.row (x.map PV.i) 1 3 false) := by rw [hH0]; exact f0 _ _
      have hz2 : H0[H.length + 2]? = some (AO.box (AV.p (PV.agg (List.map PV.i (padZ x))))) := by rw [hH0]; exact f2 _ _ _
      have hzf := hfo2 [AO.row (x.map PV.i) 1 3 false, AO.row (s.map PV.i) 1 3 false, AO.box (AV.p (PV.agg (List.map PV.i (padZ x))))]
      have hzm := hmo2 [AO.row (x.map PV.i) 1 3 false, AO.row (s.map PV.i) 1 3 false, AO.box (AV.p (PV.agg (List.map PV.i (padZ x))))]
      rw [← hH0] at hzf hzm
      rw [← hH0]
      refine loopW n (RkI n es b x H0 H.length mo fo D) (Wk_keep [0, 4, 5, 9, 11, 14, 80, 81]) ⟨_, l, fun _ => 0, Fk.refl mo _, hzm, hl, fun v hv => absurd hv (Nat.not_lt_zero v), by omega, rfl⟩ ?_
      rintro j st hjn ⟨H', l', f, hF, hm', hl', hf, _, rfl⟩
      have hw0 := hF.at (by omega) hz0
      have hw2 := hF.at (by omega) hz2
      have hwf := hF.at hfm hzf
      obtain ⟨m, hm⟩ : ∃ m, m = minF D (fun v => f v + 1) j := ⟨_, rfl⟩
      have hmb : 0 ≤ m ∧ m ≤ D := by
        rw [hm]
        have h1 := (minF_le D (fun v => f v + 1) j 0).2 ⟨hDlo, fun v hv => by have := hf v hv; (try dsimp only); omega⟩
        have h2 := ((minF_le D (fun v => f v + 1) j _).1 (Int.le_refl _)).1
        omega
      rw [← hm]
      by_cases hj : j < n
      · obtain ⟨y, hy⟩ : ∃ y, y = x.getD j 0 := ⟨_, rfl⟩
        have hxj : x[j]? = some y := by rw [hy, List.getElem?_eq_getElem (by omega), getD_get (by omega)]
        have hyb : -1048576 ≤ y ∧ y ≤ 1048576 := by rw [hy]; exact hx.db j
        have hHl := lt_some hw0
        have hself : ∀ (Y : List AO) z, H.length < Y.length → (Y.set H.length z)[H.length]? = some z := fun Y z h => by rw [List.getElem?_set_self h]
        have hstep : ∀ z, List.map PV.i (x.set j z) = (List.map PV.i x).set j (PV.i z) := fun z => by rw [List.map_set]
        simp -implicitDefEqProofs (disch := omega) [List.getElem?_cons_zero, List.getElem?_cons_succ, wrap_id, hj, hw0, hw2, hwf, hm', hxj, hxl, hyb, -getElem?_pos]
        obtain ⟨H1, hH1⟩ : ∃ H1, H1 = H'.set H.length (AO.row ((List.map PV.i x).set j (PV.v (Value.int IntKind.i64 (y - 1)))) 1 3 false) := ⟨_, rfl⟩
        have h1l : H1.length = H'.length := by rw [hH1, List.length_set]
        have h1s : H1[H.length]? = some (.row ((x.set j (y - 1)).map PV.i) 1 3 false) := by rw [hH1, hself _ _ hHl, hstep]
        have h1o : ∀ i, i ≠ H.length → H1[i]? = H'[i]? := fun i hi => by rw [hH1, List.getElem?_set_ne (by omega)]
        have hxv : ∀ v, (x.set j (y - 1)).getD v 0 = x.getD v 0 - oneF j v := fun v => by
          rw [getD_set]
          unfold oneF
          by_cases e : v = j
          · subst e; rw [if_pos ⟨rfl, by omega⟩, if_pos rfl, hy]
          · rw [if_neg (fun h => e h.1.symm), if_neg e]; omega
        have hxb : AbsLe 110 (x.set j (y - 1)) := fun v => by
          rw [hxv]
          have h1 : 0 ≤ oneF j v ∧ oneF j v ≤ 1 := by unfold oneF; split <;> omega
          by_cases hv : v < n
          · have := hxe v hv; have := hxD v hv; omega
          · rw [List.getD_eq_getElem?_getD, List.getElem?_eq_none (by omega)]; simp only [Option.getD_none]; omega
        rw [← hH1]
        refine ih (l := l') (by rw [List.length_set, hxl]) hxb ?_ (by simp [view, viewC, ownEls, h1s, hxl]) (by rw [h1o _ (by omega)]; exact hwf) (by rw [h1o _ (by omega)]; exact hm') hl' ?_
        · simp only [hxv]
          rw [sumN_sub', hxs, oneF_sum hj]
          omega
        rintro r H2 l2 hr hrb hF2 hm2 hl2
        simp only [hxv] at hr
        have h2s := hF2.at (by omega) h1s
        have h2f := hF2.at hfm (by rw [h1o _ (by omega)]; exact hwf)
        have h2l := lt_some h2s
        obtain ⟨X2, hX2⟩ : ∃ X2, X2 = x.set j (y - 1) := ⟨_, rfl⟩
        have hX2l : X2.length = n := by rw [hX2, List.length_set, hxl]
        have hX2j : X2[j]? = some (y - 1) := by rw [hX2, List.getElem?_set_self (by omega)]
        have hX2s : X2.set j y = x := by
          rw [hX2, List.set_set]
          exact List.ext_getElem? fun i => by
            rw [List.getElem?_set]
            split
            · rename_i e; subst e; rw [if_pos (by omega), hxj]
            · rfl
        rw [← hX2] at h2s
        simp -implicitDefEqProofs (disch := omega) [List.getElem?_cons_zero, List.getElem?_cons_succ, wrap_id, h2s, h2f, hX2l, hX2j, hj, hyb, hrb, hmb, hself, -getElem?_pos]
        have hrow : (List.map PV.i X2).set j (PV.v (Value.int IntKind.i64 y)) = x.map PV.i := by rw [← hX2s, List.map_set]
        rw [hrow]
        have hl0 : H0.length = H.length + 3 := by rw [hH0]; simp
        refine round_end' (by omega) (Wk_keep [0, 4, 5, 9, 11, 14, 80, 81]) ⟨H2.set H.length (.row (x.map PV.i) 1 3 false), l2, fun v => if v = j then r else f v, ⟨?_, fun i h1 h2 => ?_⟩, ?_, hl2, fun v hv => ?_, by omega, ?_⟩
        · have := hF.le; have := hF2.le; rw [List.length_set]; omega
        · by_cases e : i = H.length
          · subst e; rw [List.getElem?_set_self h2l, hz0]
          · rw [List.getElem?_set_ne (by omega), hF2.same i h1 (by have := hF.le; omega), h1o i e, hF.same i h1 h2]
        · rw [List.getElem?_set_ne (by omega)]; exact hm2
        · by_cases e : v = j
          · subst e; simp only [if_true]; exact ⟨hr, hrb⟩
          · simp only [if_neg e]; exact hf v (by omega)
        · have hmf : minF D (fun v => (if v = j then r else f v) + 1) (j + 1) = min m (r + 1) := by
            have h1 : minF D (fun v => (if v = j then r else f v) + 1) j = m := by
              rw [hm]
              refine minF_congr fun v hv => ?_
              (try dsimp only)
              rw [if_neg (by omega)]
            simp only [minF, if_true, h1]
          rw [hmf]
          rfl
      · have hjn' : n = j := by omega
        subst hjn'
        have hrk := rank_step hM hn0 hwx fun v hv => (hf v hv).1
        rw [hxs, ← hm] at hrk
        have hrd := RankIs.equi hx.eq.symm hrk
        have hml := lt_some hm'
        have hFs : ∀ z, Fk mo H (H'.set mo z) := fun z => ⟨by rw [List.length_set]; exact Nat.le_trans (by rw [hH0]; simp) hF.le, fun i h1 h2 => by
          rw [List.getElem?_set_ne (fun e => h1 e.symm), hF.same i h1 (by rw [hH0, List.length_append]; omega), hH0, List.getElem?_append_left h2]⟩
        have hxB : ∀ y ∈ x, 0 ≤ y ∧ y < (b : Int) := fun y hy => by
          obtain ⟨v, hv, rfl⟩ := List.mem_iff_getElem.1 hy
          have h1 := hxe v (by omega)
          have h2 := hxD v (by omega)
          rw [getD_get hv] at h1 h2
          omega
        cases hdj : dIdx kv l' with
        | none =>
          simp -implicitDefEqProofs (disch := omega) [List.getElem?_cons_zero, List.getElem?_cons_succ, wrap_id, hw0, hw2, hwf, hm', hxl, hpl, hpi, hpb, -KV.fit, hpf, -isB, -ints, ← hkv, -dIdx, hdj, -getElem?_pos]
          refine finH trivial rfl (hK m _ _ hrd (by omega) (hFs _) (by rw [List.getElem?_set_self hml]) ?_)
          rw [hkv] at hdj ⊢
          exact hl'.add hxl hxB (by omega) hrk hdj
        | some i =>
          obtain ⟨hi, hie⟩ := dIdx_some hdj
          obtain ⟨x', hx'l, hx'b, r, hrb, hre, hrr⟩ := hl'.en _ (List.getElem_mem hi)
          have hxx : x' = x := by
            rw [hre] at hie
            simp only at hie
            rw [hkv] at hie
            injection hie with hie
            exact padZ_inj hx'l hxl hie
          subst hxx
          have hrm := RankIs.unique hn0 hrr hrk
          subst hrm
          have hsame : l'.set i (kv, AV.i r) = l' := by
            rw [hkv, ← hre, List.set_getElem_self]
          simp -implicitDefEqProofs (disch := omega) [List.getElem?_cons_zero, List.getElem?_cons_succ, wrap_id, hw0, hw2, hwf, hm', hxl, hpl, hpi, hpb, -KV.fit, hpf, -isB, -ints, ← hkv, -dIdx, hdj, -getElem?_pos]
          refine finH trivial rfl (hK r _ _ hrd (by omega) (hFs _) (by rw [List.getElem?_set_self hml]) ?_)
          rw [hsame]
          exact hl'
end
end Go.Proofs.YtpnbahmhdhjndaaGreat
end
section
set_option linter.unusedSimpArgs false
set_option linter.unusedVariables false
namespace Go.Proofs.YtpnbahmhdhjndaaGreat
open Go.Abs Go.Sand
theorem rgiven1_ok (n : Nat) (es : List Ed) (hel : es.length ≤ 900) (hc : connE n es = 0) (a : List Int) (ha : dcheck a n = 0) (hal : a.length ≤ 1000) : PC Tryz.prog 23 [G n es, .sl [.is a]] (.i 0) [] := by
  obtain ⟨hg, hp⟩ := conn_good hc
  rw [Int.toNat_natCast] at hp
  have hr : (rootsL es n).length = 1 := hp
  refine PC_of_W cfn23 ?_
  simp -implicitDefEqProofs (disch := omega) [c23, List.getElem?_cons_zero, List.getElem?_cons_succ, wrap_id]
  refine HC_of_PC rfl (connected_ok n es hel hg) ?_
  simp -implicitDefEqProofs (disch := omega) [List.getElem?_cons_zero, List.getElem?_cons_succ, wrap_id, hr]
  refine loopW 1 (fun k st => st = ⟨[(22, .i k), (21, .i 1), (20, .p (.sl [.is a])), (2, .ptr 0 1 0 0)], [.box (.p (G n es))]⟩) (wk_norm [0] [22, 21, 20, 2] rfl rfl) rfl ?_
  rintro k st hk rfl
  match k, hk with
  | 0, _ =>
    simp -implicitDefEqProofs (disch := omega) [List.getElem?_cons_zero, List.getElem?_cons_succ, wrap_id]
    refine HC_of_PC rfl (chk_ok a n (by omega)) ?_
    simp -implicitDefEqProofs (disch := omega) [List.getElem?_cons_zero, List.getElem?_cons_succ, wrap_id, ha]
    exact round_end [0] [22, 21, 20, 2] (by omega) rfl rfl
  | 1, _ =>
    simp -implicitDefEqProofs (disch := omega) [List.getElem?_cons_zero, List.getElem?_cons_succ, wrap_id]
    (refine fin0 trivial rfl ?_; simp -implicitDefEqProofs (disch := omega) [List.getElem?_cons_zero, List.getElem?_cons_succ, idx, wrap_id])
theorem egiven1_ok (n : Nat) (es : List Ed) (hel : es.length ≤ 900) (hc : connE n es = 0) (a : List Int) (ha : dcheck a n = 0) (hal : a.length ≤ 1000) : PC Tryz.prog 28 [G n es, .sl [.is a]] (.i 0) [] := by
  obtain ⟨hg, hp⟩ := conn_good hc
  rw [Int.toNat_natCast] at hp
  have hr : (rootsL es n).length = 1 := hp
  refine PC_of_W cfn28 ?_
  simp -implicitDefEqProofs (disch := omega) [c28, List.getElem?_cons_zero, List.getElem?_cons_succ, wrap_id]
  refine HC_of_PC rfl (connected_ok n es hel hg) ?_
  simp -implicitDefEqProofs (disch := omega) [List.getElem?_cons_zero, List.getElem?_cons_succ, wrap_id, hr]
  refine loopW 1 (fun k st => st = ⟨[(22, .i k), (21, .i 1), (20, .p (.sl [.is a])), (2, .ptr 0 1 0 0)], [.box (.p (G n es))]⟩) (wk_norm [0] [22, 21, 20, 2] rfl rfl) rfl ?_
  rintro k st hk rfl
  match k, hk with
  | 0, _ =>
    simp -implicitDefEqProofs (disch := omega) [List.getElem?_cons_zero, List.getElem?_cons_succ, wrap_id]
    refine HC_of_PC rfl (chk_ok a n (by omega)) ?_
    simp -implicitDefEqProofs (disch := omega) [List.getElem?_cons_zero, List.getElem?_cons_succ, wrap_id, ha]
    exact round_end [0] [22, 21, 20, 2] (by omega) rfl rfl
  | 1, _ =>
    simp -implicitDefEqProofs (disch := omega) [List.getElem?_cons_zero, List.getElem?_cons_succ, wrap_id]
    (refine fin0 trivial rfl ?_; simp -implicitDefEqProofs (disch := omega) [List.getElem?_cons_zero, List.getElem?_cons_succ, idx, wrap_id])
theorem gcheck_ll {N : Int} {es : List Ed} (h : gcheck N es = 0) : gcheck N (llE es) = 0 := gcheck_mk (llE_good (gcheck_ok h))
section
variable {n : Nat} {es : List Ed} (hs : Sm n es)
include hs
theorem rkof_ok : PC Tryz.prog 24 [G n es] (.tup [.ptr 1 1 0 0, .i 0]) [.dict (.arr 12) [], .box (.agg [.p (.i n), .p (.sl (es.map edP)), .p (.i (genE n es)), .mp 0])] := by
  have hg := (conn_good hs.c).1
  have hel := hs.el
  have hgl := gcheck_ll hg
  have hll := llE_len es
  have hgg := gen_ll hs
  refine PC_of_W cfn24 ?_
  simp -implicitDefEqProofs (disch := omega) [c24, List.getElem?_cons_zero, List.getElem?_cons_succ, wrap_id]
  refine HC_of_PC rfl (loopless_ok n es (by omega) hg) ?_
  simp -implicitDefEqProofs (disch := omega) [List.getElem?_cons_zero, List.getElem?_cons_succ, wrap_id]
  refine HC_of_PC rfl (ggenus_ok n (llE es) (by omega)) ?_
  rw [if_pos hgl, hgl, hgg]
  simp -implicitDefEqProofs (disch := omega) [List.getElem?_cons_zero, List.getElem?_cons_succ, wrap_id]
  exact finσ [2, 3] trivial rfl rfl rfl rfl
theorem gen_bd : ∃ b : Nat, (b : Int) = max 1 (2 * genE n es - 1) ∧ b ^ n < 16384 := by
  have hn1 := hs.n1
  have hn5 := hs.n5
  have h1 := llE_ends es
  have h2 := hs.m7
  obtain ⟨L, hL⟩ : ∃ L, L = (endsL (llE es)).length := ⟨_, rfl⟩
  refine ⟨(max 1 (2 * genE n es - 1)).toNat, by omega, ?_⟩
  unfold genE
  rw [← hL] at h1 ⊢
  have hL8 : L = 0 ∨ L = 1 ∨ L = 2 ∨ L = 3 ∨ L = 4 ∨ L = 5 ∨ L = 6 ∨ L = 7 := by omega
  have hn6 : n = 1 ∨ n = 2 ∨ n = 3 ∨ n = 4 ∨ n = 5 := by omega
  clear hL
  rcases hn6 with rfl | rfl | rfl | rfl | rfl <;> rcases hL8 with rfl | rfl | rfl | rfl | rfl | rfl | rfl | rfl <;> decide
/-- What Rank leaves. -/
def RankR (n : Nat) (es : List Ed) (d : List Int) (r : AV) (HR : List AO) : Prop := ∃ k : Int, (-1 ≤ k ∧ k ≤ 1000) ∧ RankIs n (joinE es) (fun v => d.getD v 0) k ∧ r = .tup [.i k, .i 0] ∧ HR = []
theorem rank_ok {d : List Int} (hdl : d.length = n) (hdb : AbsLe 110 d) : PCR Tryz.prog 7 [G n es, .is d] (RankR n es d) := by
  have hn1 := hs.n1
  have hn5 := hs.n5
  have hd := dcheck_zero (by omega) hdl (hdb.mono (by omega))
  obtain ⟨b, hb, hbn⟩ := gen_bd hs
  refine PCR_of_W cfn7 ?_
  simp -implicitDefEqProofs (disch := omega) [c7, List.getElem?_cons_zero, List.getElem?_cons_succ, wrap_id]
  refine HC_of_PC rfl (rgiven1_ok n es hs.el hs.c d hd (by omega)) ?_
  simp -implicitDefEqProofs (disch := omega) [List.getElem?_cons_zero, List.getElem?_cons_succ, wrap_id]
  refine HC_of_PC rfl (rkof_ok hs) ?_
  simp -implicitDefEqProofs (disch := omega) [List.getElem?_cons_zero, List.getElem?_cons_succ, wrap_id]
  refine rank_hc hs (fo := 3) (mo := 2) (by omega) hb hbn ((sumN (fun v => d.getD v 0) n + 1).toNat) hdl hdb (by omega) rfl rfl rfl (MIn.nil n es b) ?_
  rintro r H' l' hr hrb hF hm hl
  simp -implicitDefEqProofs (disch := omega) [List.getElem?_cons_zero, List.getElem?_cons_succ, wrap_id]
  exact finQ [] trivial rfl rfl rfl rfl ⟨r, hrb, hr, rfl, rfl⟩
end
end Go.Proofs.YtpnbahmhdhjndaaGreat
end
