/-
  AN ABSTRACT MACHINE: functions that only read behind a pointer, and what they leave reads without the memory.
-/
import Derived.Test.YtgbmdikkdjogpaaMae
namespace Go
namespace Abs
open Go.RowKit

/-- A function that only reads a variable of one's own, and slices: wherever it is called. -/
theorem HC_ptrC {P : Program} {e : Bool} {f : FuncId} {af : AFn} {o j : Nat} {H : List AO} {y : AV} {ps rp : List PV} {rest : List AV} {z : PV} {R : AV → List AO → Prop} (hf : cfn P f (rest.length + 1) = some af) (ho : H[o]? = some (.box y)) (hv : view H (.agg y.flat) = some (.agg ps)) (hvr : views H rest = some rp) (hz : calmP z = true)
    (h : W P 0 af.body (Fin 0 af.res fun r' H' => r' = .p z ∧ H' = []) ⟨initT 0 (.sp (.agg ps) j :: rp.map .p), []⟩) (hR : R (.p z) H) : HC P e f (.ptr o 1 0 j :: rest) H R := by
  intro M vs hM hH ha
  subst hH
  obtain ⟨hf1, hf2⟩ := frzL_ok (M := M) (.agg y.flat :: .bs o 0 0 :: rest) (H := M.H) hM
  have hfz : Fz (frzL M.H (.agg y.flat :: .bs o 0 0 :: rest)) o (.box y) := frzL_self (.agg y.flat :: .bs o 0 0 :: rest) M.H (.bs o 0 0) (by simp) _ ho
  obtain ⟨H2, hH2⟩ : ∃ H2, H2 = frzL M.H (.agg y.flat :: .bs o 0 0 :: rest) := ⟨_, rfl⟩
  have hself : FzV M.H H2 (.agg y.flat) := by rw [hH2]; exact frzL_self (.agg y.flat :: .bs o 0 0 :: rest) M.H (.agg y.flat) (by simp)
  rw [← hH2] at hf1 hf2 hfz
  have hfz' : H2[o]? = some (.fbx y) := hfz
  obtain ⟨b, cur, t, hb, hc, hcells⟩ := hM.ok o _ ho
  have hagg : RA M (.agg y.flat) (.agg cur) := .agg _ _ hcells.1 (fun c hc => by
    obtain ⟨i, hi, rfl⟩ := Array.mem_iff_getElem.1 hc
    obtain ⟨c', h1, _, h3⟩ := hcells.2 i (by rw [← hcells.1]; exact hi)
    rw [Array.getElem?_eq_getElem hi] at h1
    injection h1 with h1
    rw [h1]; exact h3) (fun i hi hi' => by
    obtain ⟨c', h1, h2, _⟩ := hcells.2 i hi
    rw [Array.getElem?_eq_getElem hi'] at h1
    injection h1 with h1
    rw [h1]; exact h2)
  have hRP := view_ok (M' := ⟨M.w, H2, M.φ, M.base, M.S⟩) hf2 hf1 hagg hv hself
  have hrl := (views_get hvr).1
  have hl := ha.1
  simp only [List.length_cons] at hl
  have hRR : ∀ i (hi : i < rp.length) (hi' : i + 1 < vs.length), RP (Mem.shared ⟨M.w, H2, M.φ, M.base, M.S⟩) M.w rp[i] vs[i + 1] := fun i hi hi' => view_ok (M' := ⟨M.w, H2, M.φ, M.base, M.S⟩) hf2 hf1 (by have := ha.2 (i + 1) (by simp only [List.length_cons]; omega) hi'; exact this) ((views_get hvr).2 i _ hi) (by rw [hH2]; exact frzL_self (.agg y.flat :: .bs o 0 0 :: rest) M.H _ (by simp))
  have hsb : Mem.shared ⟨M.w, H2, M.φ, M.base, M.S⟩ b := shared_of hf1 hfz' rfl hb
  obtain ⟨S2, hS2⟩ : ∃ S2, S2 = Mem.shared ⟨M.w, H2, M.φ, M.base, M.S⟩ := ⟨_, rfl⟩
  rw [← hS2] at hRP hsb hRR
  have hup : ∀ b, S2 b → Mem.shared ⟨M.w, [], fun _ => none, M.w.heap.size, S2⟩ b ∧ M.w.heap[b]? = M.w.heap[b]? := fun b hb => ⟨⟨by rw [hS2] at hb; exact hb.1, fun _ => hb, fun o ob h => by simp at h⟩, rfl⟩
  have hM3 : MemOk ⟨M.w, [], fun _ => none, M.w.heap.size, S2⟩ := ⟨fun o ob h => by simp at h, fun o o' b h => by simp at h, fun o b h => by simp at h, Nat.le_refl _⟩
  have ha3 : RAs ⟨M.w, [], fun _ => none, M.w.heap.size, S2⟩ (.sp (.agg ps) j :: rp.map .p) vs := by
    refine ⟨by simp; omega, fun i hi hi' => ?_⟩
    have hai := ha.2 i (by simp at hi; simp; omega) hi'
    cases i with
    | zero =>
      simp only [List.getElem_cons_zero] at hai ⊢
      generalize vs[0] = v0 at hai ⊢
      cases hai with
      | ptr o n i j v hp =>
        obtain ⟨ob, k1, k2, k3⟩ := hp
        rw [ho] at k1
        injection k1 with k1
        subst k1
        obtain ⟨b', k4, rfl⟩ := k3 rfl
        rw [hb] at k4
        injection k4 with k4
        subst k4
        have e1 : 0 * (AO.box y).sz + j = 0 + j := by simp
        rw [e1]
        cases hRP with
        | agg l cs h1 h2 h3 =>
          refine .sp (.agg ps) j b 0 (fun k => cur.getD k undef) (hup b hsb).1 h2 (fun k hk => ?_) (fun k hk => ?_)
          · have hk' : k < cur.size := by rw [h1]; exact hk
            rw [Nat.zero_add]
            simp [World.cell?, hc, hk']
          · have hk' : k < cur.size := by rw [h1]; exact hk
            have e2 : cur.getD k undef = cur[k] := by simp [Array.getD, hk']
            show RP _ _ _ (cur.getD k undef)
            rw [e2]
            exact (h3 k hk hk').mono hup
    | succ i =>
      simp only [List.getElem_cons_succ, List.getElem_map] at hai ⊢
      exact .p _ _ ((hRR i (by simpa using hi) hi').mono hup)
  refine (fin_calls (by simpa [← hrl] using hf) hM3 ha3 h).mono ?_
  rintro en w' ⟨v, r', H', φ', rfl, ⟨rfl, rfl⟩, h3, _, h5, h6⟩
  have hold : ∀ b, b < M.w.heap.size → w'.heap[b]? = M.w.heap[b]? := fun b hb2 => h6.block b hb2
  have hle : Le M ⟨w', M.H, M.φ, M.base, M.S⟩ := by
    refine ⟨fun b hb2 => ⟨⟨Nat.lt_of_lt_of_le hb2.1 h6.size, hb2.2.1, hb2.2.2⟩, hold b hb2.1⟩, fun o ob ho => ⟨ob, ho, rfl, Nat.le_refl _, fun _ => ⟨rfl, rfl, fun b hb2 => ?_⟩⟩⟩
    have := hold b (hM.lt (List.getElem?_eq_some_iff.1 ho).1 hb2)
    simp [World.shape?, this]
  refine ⟨v, .p z, M.H, M.φ, rfl, hR, ?_, hle, ?_, ?_, fun _ => Early.Ext.of_below h6⟩
  · exact ⟨fun o ob ho => (hM.ok o ob ho).mono hle rfl (fun b hb2 => hold b (hM.lt (List.getElem?_eq_some_iff.1 ho).1 hb2)), hM.inj, hM.lo, Nat.le_trans hM.bs h6.size⟩
  · exact .p _ _ (h5.toP.calm hz)
  · exact ⟨h6.os, h6.tape, h6.output, h6.size, fun k hk => h6.block k (by have := hM.bs; show k < M.w.heap.size; omega)⟩
/-- The same for a pointer into what is read. -/
theorem HC_spC {P : Program} {e : Bool} {f : FuncId} {af : AFn} {j : Nat} {H : List AO} {E : PV} {rp : List PV} {rest : List AV} {z : PV} {R : AV → List AO → Prop} (hf : cfn P f (rest.length + 1) = some af) (hvr : views H rest = some rp) (hz : calmP z = true)
    (h : W P 0 af.body (Fin 0 af.res fun r' H' => r' = .p z ∧ H' = []) ⟨initT 0 (.sp E j :: rp.map .p), []⟩) (hR : R (.p z) H) : HC P e f (.sp E j :: rest) H R := by
  intro M vs hM hH ha
  subst hH
  obtain ⟨hf1, hf2⟩ := frzL_ok (M := M) rest (H := M.H) hM
  obtain ⟨H2, hH2⟩ : ∃ H2, H2 = frzL M.H rest := ⟨_, rfl⟩
  rw [← hH2] at hf1 hf2
  have hrl := (views_get hvr).1
  have hl := ha.1
  simp only [List.length_cons] at hl
  have hRR : ∀ i (hi : i < rp.length) (hi' : i + 1 < vs.length), RP (Mem.shared ⟨M.w, H2, M.φ, M.base, M.S⟩) M.w rp[i] vs[i + 1] := fun i hi hi' => view_ok (M' := ⟨M.w, H2, M.φ, M.base, M.S⟩) hf2 hf1 (by have := ha.2 (i + 1) (by simp only [List.length_cons]; omega) hi'; exact this) ((views_get hvr).2 i _ hi) (by rw [hH2]; exact frzL_self rest M.H _ (by simp))
  obtain ⟨S2, hS2⟩ : ∃ S2, S2 = Mem.shared ⟨M.w, H2, M.φ, M.base, M.S⟩ := ⟨_, rfl⟩
  have hsh : ∀ b, M.shared b → S2 b := fun b hb => by rw [hS2]; exact (hf2.sh b hb).1
  rw [← hS2] at hRR
  have hup : ∀ b, S2 b → Mem.shared ⟨M.w, [], fun _ => none, M.w.heap.size, S2⟩ b ∧ M.w.heap[b]? = M.w.heap[b]? := fun b hb => ⟨⟨by rw [hS2] at hb; exact hb.1, fun _ => hb, fun o ob h => by simp at h⟩, rfl⟩
  have hM3 : MemOk ⟨M.w, [], fun _ => none, M.w.heap.size, S2⟩ := ⟨fun o ob h => by simp at h, fun o o' b h => by simp at h, fun o b h => by simp at h, Nat.le_refl _⟩
  have ha3 : RAs ⟨M.w, [], fun _ => none, M.w.heap.size, S2⟩ (.sp E j :: rp.map .p) vs := by
    refine ⟨by simp; omega, fun i hi hi' => ?_⟩
    have hai := ha.2 i (by simp at hi; simp; omega) hi'
    cases i with
    | zero =>
      simp only [List.getElem_cons_zero] at hai ⊢
      generalize vs[0] = v0 at hai ⊢
      cases hai with
      | sp e j b off c hb ho hc hr =>
        exact .sp E j b off c (hup b (hsh b hb)).1 ho hc (fun k hk => (hr k hk).mono fun b hb => hup b (hsh b hb))
    | succ i =>
      simp only [List.getElem_cons_succ, List.getElem_map] at hai ⊢
      exact .p _ _ ((hRR i (by simpa using hi) hi').mono hup)
  refine (fin_calls (by simpa [← hrl] using hf) hM3 ha3 h).mono ?_
  rintro en w' ⟨v, r', H', φ', rfl, ⟨rfl, rfl⟩, h3, _, h5, h6⟩
  have hold : ∀ b, b < M.w.heap.size → w'.heap[b]? = M.w.heap[b]? := fun b hb2 => h6.block b hb2
  have hle : Le M ⟨w', M.H, M.φ, M.base, M.S⟩ := by
    refine ⟨fun b hb2 => ⟨⟨Nat.lt_of_lt_of_le hb2.1 h6.size, hb2.2.1, hb2.2.2⟩, hold b hb2.1⟩, fun o ob ho => ⟨ob, ho, rfl, Nat.le_refl _, fun _ => ⟨rfl, rfl, fun b hb2 => ?_⟩⟩⟩
    have := hold b (hM.lt (List.getElem?_eq_some_iff.1 ho).1 hb2)
    simp [World.shape?, this]
  refine ⟨v, .p z, M.H, M.φ, rfl, hR, ?_, hle, ?_, ?_, fun _ => Early.Ext.of_below h6⟩
  · exact ⟨fun o ob ho => (hM.ok o ob ho).mono hle rfl (fun b hb2 => hold b (hM.lt (List.getElem?_eq_some_iff.1 ho).1 hb2)), hM.inj, hM.lo, Nat.le_trans hM.bs h6.size⟩
  · exact .p _ _ (h5.toP.calm hz)
  · exact ⟨h6.os, h6.tape, h6.output, h6.size, fun k hk => h6.block k (by have := hM.bs; show k < M.w.heap.size; omega)⟩
/-! ### Bits -/
def shrN (m k : Nat) : Nat := m / 2 ^ k
def bitN (m k : Nat) : Nat := m / 2 ^ k % 2
def powN (n : Nat) : Nat := 2 ^ n
def orN (a b : Nat) : Nat := a ||| b
theorem bitN_iff (m k : Nat) : bitN m k = 1 ↔ m.testBit k = true := by rw [bitN, Nat.testBit_eq_decide_div_mod_eq, decide_eq_true_eq]
theorem bitN_01 (m k : Nat) : bitN m k = 0 ∨ bitN m k = 1 := by unfold bitN; omega
theorem wrap_nat {x : Nat} (h : x < 9223372036854775808) : IntKind.i64.wrap (x : Int) = x := wrap_id (by omega) (by omega)
theorem lit_shr {m k : Nat} (hk : k ≤ 63) : litBin false .shr (.int .i64 (m : Int)) (.int .i64 (k : Int)) = some (.int .i64 (shrN m k : Nat)) := by
  have hb : (IntKind.i64.bits : Nat) = 64 := rfl
  simp only [litBin, if_true]
  rw [if_neg (by omega), hb, Int.toNat_natCast, Nat.min_eq_left (by omega)]
  congr 2
  rw [Int.fdiv_eq_ediv_of_nonneg _ (Int.pow_nonneg (by omega)), shrN]
  push_cast
  rfl
theorem bits_and {x y : Nat} (hx : x < 9223372036854775808) (hy : y < 9223372036854775808) : (BitVec.ofInt 64 (x : Int) &&& BitVec.ofInt 64 (y : Int)).toNat = x &&& y := by
  rw [BitVec.ofInt_natCast, BitVec.ofInt_natCast, BitVec.toNat_and, BitVec.toNat_ofNat, BitVec.toNat_ofNat, Nat.mod_eq_of_lt (by omega), Nat.mod_eq_of_lt (by omega)]
theorem bits_or {x y : Nat} (hx : x < 9223372036854775808) (hy : y < 9223372036854775808) : (BitVec.ofInt 64 (x : Int) ||| BitVec.ofInt 64 (y : Int)).toNat = x ||| y := by
  rw [BitVec.ofInt_natCast, BitVec.ofInt_natCast, BitVec.toNat_or, BitVec.toNat_ofNat, BitVec.toNat_ofNat, Nat.mod_eq_of_lt (by omega), Nat.mod_eq_of_lt (by omega)]
theorem lit_and {m k : Nat} (hm : m < 9223372036854775808) : litBin false .and (.int .i64 (shrN m k : Nat)) (.int .i64 1) = some (.int .i64 (bitN m k : Nat)) := by
  have hle : shrN m k ≤ m := Nat.div_le_self _ _
  have e : IntKind.i64.wrap (((BitVec.ofInt 64 ((shrN m k : Nat) : Int) &&& BitVec.ofInt 64 ((1 : Nat) : Int)).toNat : Nat) : Int) = bitN m k := by
    rw [bits_and (by omega) (by omega), Nat.and_one_is_mod, shrN, ← bitN]
    exact wrap_nat (by have := bitN_01 m k; omega)
  show (if IntKind.i64 = IntKind.i64 then some (Value.int .i64 (IntKind.i64.wrap (((BitVec.ofInt 64 ((shrN m k : Nat) : Int) &&& BitVec.ofInt 64 ((1 : Nat) : Int)).toNat : Nat) : Int))) else none) = _
  rw [if_pos rfl, e]
theorem lit_shl {n : Nat} (hn : n ≤ 62) : litBin false .shl (.int .i64 1) (.int .i64 (n : Int)) = some (.int .i64 (powN n : Nat)) := by
  have hb : (IntKind.i64.bits : Nat) = 64 := rfl
  simp only [litBin, if_true]
  rw [if_neg (by omega), hb, Int.toNat_natCast, Nat.min_eq_left (by omega), Int.one_mul]
  congr 2
  have : (2 : Nat) ^ n ≤ 2 ^ 62 := Nat.pow_le_pow_right (by omega) hn
  have h2 : ((2 : Int) ^ n) = ((2 ^ n : Nat) : Int) := by push_cast; rfl
  rw [h2]
  exact wrap_nat (by omega)
theorem lit_or {a b : Nat} (ha : a < 4611686018427387904) (hb : b < 4611686018427387904) : litBin false .or (.int .i64 (a : Int)) (.int .i64 (b : Int)) = some (.int .i64 (orN a b : Nat)) := by
  have h : a ||| b < 2 ^ 62 := Nat.or_lt_two_pow (by omega) (by omega)
  have e : IntKind.i64.wrap (((BitVec.ofInt 64 (a : Int) ||| BitVec.ofInt 64 (b : Int)).toNat : Nat) : Int) = orN a b := by
    rw [bits_or (by omega) (by omega), ← orN]
    exact wrap_nat (by unfold orN; omega)
  show (if IntKind.i64 = IntKind.i64 then some (Value.int .i64 (IntKind.i64.wrap (((BitVec.ofInt 64 (a : Int) ||| BitVec.ofInt 64 (b : Int)).toNat : Nat) : Int))) else none) = _
  rw [if_pos rfl, e]
end Abs
end Go
