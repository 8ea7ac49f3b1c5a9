/-
  Texts joined: Ace Yd.
-/
import Derived.Test.YtolfhldbfeffaaaKf17

section
set_option linter.unusedSimpArgs false
set_option linter.unusedVariables false
namespace Go
namespace Abs
open Go.RowKit
/-- How an argument looks to a function that only reads. L: what is looked through. -/
inductive Ro (H : List AO) (L : List AV) : AV → AV → Prop
  | p (a : AV) (x : PV) (hv : view H a = some x) (hL : a ∈ L) : Ro H L a (.p x)
  | ptr (o j : Nat) (y : AV) (ps : List PV) (ho : H[o]? = some (.box y)) (hv : view H (.agg y.flat) = some (.agg ps)) (h1 : .agg y.flat ∈ L) (h2 : .bs o 0 0 ∈ L) : Ro H L (.ptr o 1 0 j) (.sp (.agg ps) j)
  | fn (f : Fn) (cap cap' : List AV) (hl : cap.length = cap'.length) (h : ∀ i (hi : i < cap.length) (hi' : i < cap'.length), Ro H L cap[i] cap'[i]) : Ro H L (.fn f [] cap) (.fn f [] cap')
theorem ro_ok {M : Mem} {L : List AV} {H2 : List AO} (hM : MemOk M) (hf1 : MemOk ⟨M.w, H2, M.φ, M.base, M.S⟩) (hf2 : Le M ⟨M.w, H2, M.φ, M.base, M.S⟩) (hself : ∀ x ∈ L, FzV M.H H2 x) {S2 : Nat → Prop} (hS2 : S2 = Mem.shared ⟨M.w, H2, M.φ, M.base, M.S⟩) :
    ∀ {a a' : AV}, Ro M.H L a a' → ∀ v, RA M a v → RA ⟨M.w, [], fun _ => none, M.w.heap.size, S2⟩ a' v := by
  have hup : ∀ b, S2 b → Mem.shared ⟨M.w, [], fun _ => none, M.w.heap.size, S2⟩ b ∧ M.w.heap[b]? = M.w.heap[b]? := fun b hb => ⟨⟨by rw [hS2] at hb; exact hb.1, fun _ => hb, fun o ob h => by simp at h⟩, rfl⟩
  intro a a' hro
  induction hro with
  | p a x hv hL =>
    intro v hr
    have := view_ok (M' := ⟨M.w, H2, M.φ, M.base, M.S⟩) hf2 hf1 hr hv (hself a hL)
    rw [← hS2] at this
    exact .p _ _ (this.mono hup)
  | fn f cap cap' hl h ih =>
    intro v hr
    cases hr with
    | fn f first cap fs cs k1 k2 k3 k4 =>
      exact .fn f [] cap' fs cs k1 (by rw [k2, hl]) (fun i hi => by simp at hi) (fun i hi hi' => ih i (by omega) hi _ (k4 i (by omega) hi'))
  | ptr o j y ps ho hv h1 h2 =>
    intro v hr
    have hfz' : H2[o]? = some (.fbx y) := by
      have : Fz H2 o (.box y) := hself _ h2 _ ho
      exact this
    obtain ⟨b, cur, t, hb, hc, hcells⟩ := hM.ok o _ ho
    have hagg : RA M (.agg y.flat) (.agg cur) := .agg _ _ hcells.1 (fun c hc => by
      obtain ⟨i, hi, rfl⟩ := Array.mem_iff_getElem.1 hc
      obtain ⟨c', h1, _, h3⟩ := hcells.2 i (by rw [← hcells.1]; exact hi)
      rw [Array.getElem?_eq_getElem hi] at h1
      injection h1 with h1
      rw [h1]; exact h3) (fun i hi hi' => by
      obtain ⟨c', h1, h2, _⟩ := hcells.2 i hi
      rw [Array.getElem?_eq_getElem hi'] at h1
      injection h1 with h1
      rw [h1]; exact h2)
    have hRP := view_ok (M' := ⟨M.w, H2, M.φ, M.base, M.S⟩) hf2 hf1 hagg hv (hself _ h1)
    have hsb : Mem.shared ⟨M.w, H2, M.φ, M.base, M.S⟩ b := shared_of hf1 hfz' rfl hb
    rw [← hS2] at hRP hsb
    cases hr with
    | ptr o n i j v hp =>
      obtain ⟨ob, k1, k2, k3⟩ := hp
      rw [ho] at k1
      injection k1 with k1
      subst k1
      obtain ⟨b', k4, rfl⟩ := k3 rfl
      rw [hb] at k4
      injection k4 with k4
      subst k4
      have e1 : 0 * (AO.box y).sz + j = 0 + j := by simp
      rw [e1]
      cases hRP with
      | agg l cs h1 h2 h3 =>
        refine .sp (.agg ps) j b 0 (fun k => cur.getD k undef) (hup b hsb).1 h2 (fun k hk => ?_) (fun k hk => ?_)
        · have hk' : k < cur.size := by rw [h1]; exact hk
          rw [Nat.zero_add]
          simp [World.cell?, hc, hk']
        · have hk' : k < cur.size := by rw [h1]; exact hk
          have e2 : cur.getD k undef = cur[k] := by simp [Array.getD, hk']
          show RP _ _ _ (cur.getD k undef)
          rw [e2]
          exact (h3 k hk hk').mono hup
/-- A function that only reads: wherever it is called, in a region too. -/
theorem HC_ro {P : Program} {e : Bool} {f : FuncId} {af : AFn} {H : List AO} {args args' : List AV} (L : List AV) {z : PV} {R : AV → List AO → Prop} (hf : cfn P f args'.length = some af) (hl : args.length = args'.length)
    (hro : ∀ i (hi : i < args.length) (hi' : i < args'.length), Ro H L args[i] args'[i]) (hz : calmP z = true)
    (h : W P 0 af.body (Fin 0 af.res fun r' H' => r' = .p z ∧ H' = []) ⟨initT 0 args', []⟩) (hR : R (.p z) H) : HC P e f args H R := by
  intro M vs hM hH ha
  subst hH
  obtain ⟨hf1, hf2⟩ := frzL_ok (M := M) L (H := M.H) hM
  obtain ⟨H2, hH2⟩ : ∃ H2, H2 = frzL M.H L := ⟨_, rfl⟩
  have hself : ∀ x ∈ L, FzV M.H H2 x := fun x hx => by rw [hH2]; exact frzL_self L M.H x hx
  rw [← hH2] at hf1 hf2
  obtain ⟨S2, hS2⟩ : ∃ S2, S2 = Mem.shared ⟨M.w, H2, M.φ, M.base, M.S⟩ := ⟨_, rfl⟩
  have hM3 : MemOk ⟨M.w, [], fun _ => none, M.w.heap.size, S2⟩ := ⟨fun o ob h => by simp at h, fun o o' b h => by simp at h, fun o b h => by simp at h, Nat.le_refl _⟩
  have hal := ha.1
  have ha3 : RAs ⟨M.w, [], fun _ => none, M.w.heap.size, S2⟩ args' vs := ⟨by omega, fun i hi hi' => ro_ok hM hf1 hf2 hself hS2 (hro i (by omega) hi) _ (ha.2 i (by omega) hi')⟩
  refine (fin_calls hf hM3 ha3 h).mono ?_
  rintro en w' ⟨v, r', H', φ', rfl, ⟨rfl, rfl⟩, h3, _, h5, h6⟩
  have hold : ∀ b, b < M.w.heap.size → w'.heap[b]? = M.w.heap[b]? := fun b hb2 => h6.block b hb2
  have hle : Le M ⟨w', M.H, M.φ, M.base, M.S⟩ := by
    refine ⟨fun b hb2 => ⟨⟨Nat.lt_of_lt_of_le hb2.1 h6.size, hb2.2.1, hb2.2.2⟩, hold b hb2.1⟩, fun o ob ho => ⟨ob, ho, rfl, Nat.le_refl _, fun _ => ⟨rfl, rfl, fun b hb2 => ?_⟩⟩⟩
    have := hold b (hM.lt (List.getElem?_eq_some_iff.1 ho).1 hb2)
    simp [World.shape?, this]
  refine ⟨v, .p z, M.H, M.φ, rfl, hR, ?_, hle, ?_, ?_, fun _ => Early.Ext.of_below h6⟩
  · exact ⟨fun o ob ho => (hM.ok o ob ho).mono hle rfl (fun b hb2 => hold b (hM.lt (List.getElem?_eq_some_iff.1 ho).1 hb2)), hM.inj, hM.lo, Nat.le_trans hM.bs h6.size⟩
  · exact .p _ _ (h5.toP.calm hz)
  · exact ⟨h6.os, h6.tape, h6.output, h6.size, fun k hk => h6.block k (by have := hM.bs; show k < M.w.heap.size; omega)⟩
end Abs
end Go
end
section
set_option linter.unusedSimpArgs false
set_option linter.unusedVariables false
namespace Go.Proofs.Ytolfhldbfeffaaa
open Go.Abs Go.Sand
/-- Does an edge lead from a vertex to another one? -/
def incB (v : Int) (x : Ed) : Bool := decide (x.a ≠ x.b ∧ (x.a = v ∨ x.b = v))
/-- How the state of a divisor is handed: as what is read, or by its object. -/
inductive StA (es : List Ed) (H : List AO) : AV → Prop
  | sp (n : PV) (rest : List PV) : StA es H (.sp (.agg (n :: .sl (es.map edP) :: rest)) 0)
  | ptr (o : Nat) (n : AV) (rest : List AV) (h : H[o]? = some (.box (.agg (n :: .p (.sl (es.map edP)) :: rest)))) : StA es H (.ptr o 1 0 0)
section
variable {n : Nat} {es : List Ed} (hr : ∀ x ∈ es, Right n x) (hn : n ≤ 12) (hel : es.length ≤ 1000) {v : Int} (hv : 0 ≤ v ∧ v < n)
include hr hn hel hv
theorem links_range {A : AV} {xi vi lp : Nat} {Hk : Nat → List AO} {L : AO} {K : AV → List AO → Prop} (hA : StA es (Hk 0) A) (h1 : (Hk 0)[xi]? = some (.box A)) (h2 : ∀ k Z, (Hk k ++ Z)[vi]? = some (.box (.i v)))
    (h3 : ∀ k Z, (Hk k ++ Z)[lp]? = some L) (hL : L.len = 1) (hsk : ∀ k (hk : k < es.length), incB v es[k] = false → Hk (k + 1) = Hk k)
    (hy : ∀ k (hk : k < es.length) Z (K' : AV → List AO → Prop), incB v es[k] = true → (∀ Z', K' (.b true) (Hk (k + 1) ++ Z')) → HY Try.prog lp [.i (es[k].a + es[k].b - v), .i es[k].m] (Hk k ++ Z) K')
    (hK : ∀ r Z, K r (Hk es.length ++ Z)) : HC Try.prog false 92 [.yl lp, .ptr xi 1 0 0, .ptr vi 1 0 0] (Hk 0) K := by
  refine HC_of_W (af := _) ((by exact cfn92 : cfn _ _ _ = some _)) ?_
  cases hA with
  | sp m rest =>
    simp -implicitDefEqProofs (disch := omega) [c92, List.getElem?_cons_zero, List.getElem?_cons_succ, wrap_id, h1]
    refine loopW es.length (fun k s => ∃ Z, s = ⟨[(13, .i k), (12, .i es.length), (11, .p (.sl (es.map edP))), (0, .yl lp), (1, .ptr xi 1 0 0), (2, .ptr vi 1 0 0)], Hk k ++ Z⟩) (Wk_keep [13, 12, 11, 0, 1, 2]) ⟨[], by rw [List.append_nil]; rfl⟩ ?_
    rintro k s hk ⟨Z, rfl⟩
    by_cases hlt : k < es.length
    rotate_left
    · have hke : k = es.length := by omega
      subst hke
      simp -implicitDefEqProofs (disch := omega) [List.getElem?_cons_zero, List.getElem?_cons_succ, wrap_id]
      exact finH trivial rfl (hK _ Z)
    obtain ⟨H1, hH1⟩ : ∃ H1, H1 = Hk k ++ Z := ⟨_, rfl⟩
    have g2 : ∀ y, (H1 ++ [y])[vi]? = some (.box (.i v)) := fun y => by rw [hH1, List.append_assoc]; exact h2 k _
    have g3 : ∀ y, (H1 ++ [y])[lp]? = some L := fun y => by rw [hH1, List.append_assoc]; exact h3 k _
    have f1 : ∀ y, (H1 ++ [y])[H1.length]? = some y := fun y => by simp
    have f3 : ∀ y z, (H1 ++ [y]).set H1.length z = H1 ++ [z] := fun y z => by simp
    obtain ⟨r1, r2, r3, r4, r5, r6, r7⟩ := hr es[k] (List.getElem_mem hlt)
    have hyk := hy k hlt
    have hskk := hsk k hlt
    rw [← hH1]
    by_cases hi : incB v es[k] = true
    · have hab : decide (es[k].a = es[k].b) = false := by
        simp only [incB, decide_eq_true_eq] at hi
        exact decide_eq_false hi.1
      by_cases ha : es[k].a = v
      · have ha' : decide (es[k].a = v) = true := decide_eq_true ha
        simp -implicitDefEqProofs (disch := omega) [List.getElem?_cons_zero, List.getElem?_cons_succ, wrap_id, hlt, g2, g3, f1, f3, hab, ha']
        rw [hH1, List.append_assoc]
        refine ⟨hL, hyk _ _ hi fun Z' => ?_⟩
        simp -implicitDefEqProofs (disch := omega) [List.getElem?_cons_zero, List.getElem?_cons_succ, wrap_id]
        exact round_keep [13, 12, 11, 0, 1, 2] hlt ⟨Z', rfl⟩
      · have ha' : decide (es[k].a = v) = false := decide_eq_false ha
        have hb' : decide (es[k].b = v) = true := by
          simp only [incB, decide_eq_true_eq] at hi
          exact decide_eq_true (hi.2.resolve_left ha)
        simp -implicitDefEqProofs (disch := omega) [List.getElem?_cons_zero, List.getElem?_cons_succ, wrap_id, hlt, g2, g3, f1, f3, hab, ha', hb']
        rw [hH1, List.append_assoc]
        refine ⟨hL, hyk _ _ hi fun Z' => ?_⟩
        simp -implicitDefEqProofs (disch := omega) [List.getElem?_cons_zero, List.getElem?_cons_succ, wrap_id]
        exact round_keep [13, 12, 11, 0, 1, 2] hlt ⟨Z', rfl⟩
    · have hi' : incB v es[k] = false := by simpa using hi
      have hsame := hskk hi'
      by_cases hab : es[k].a = es[k].b
      · have hab' : decide (es[k].a = es[k].b) = true := decide_eq_true hab
        simp -implicitDefEqProofs (disch := omega) [List.getElem?_cons_zero, List.getElem?_cons_succ, wrap_id, hlt, g2, g3, f1, f3, hab']
        exact round_keep [13, 12, 11, 0, 1, 2] hlt ⟨_, by rw [hH1, List.append_assoc, ← hsame]; rfl⟩
      · have hab' : decide (es[k].a = es[k].b) = false := decide_eq_false hab
        have ha' : decide (es[k].a = v) = false := decide_eq_false fun e => hi (by rw [incB]; exact decide_eq_true ⟨hab, .inl e⟩)
        have hb' : decide (es[k].b = v) = false := decide_eq_false fun e => hi (by rw [incB]; exact decide_eq_true ⟨hab, .inr e⟩)
        simp -implicitDefEqProofs (disch := omega) [List.getElem?_cons_zero, List.getElem?_cons_succ, wrap_id, hlt, g2, g3, f1, f3, hab', ha', hb']
        exact round_keep [13, 12, 11, 0, 1, 2] hlt ⟨_, by rw [hH1, List.append_assoc, ← hsame]; rfl⟩
  | ptr o m rest h =>
    simp -implicitDefEqProofs (disch := omega) [c92, List.getElem?_cons_zero, List.getElem?_cons_succ, wrap_id, h1, h]
    refine loopW es.length (fun k s => ∃ Z, s = ⟨[(13, .i k), (12, .i es.length), (11, .p (.sl (es.map edP))), (0, .yl lp), (1, .ptr xi 1 0 0), (2, .ptr vi 1 0 0)], Hk k ++ Z⟩) (Wk_keep [13, 12, 11, 0, 1, 2]) ⟨[], by rw [List.append_nil]; rfl⟩ ?_
    rintro k s hk ⟨Z, rfl⟩
    by_cases hlt : k < es.length
    rotate_left
    · have hke : k = es.length := by omega
      subst hke
      simp -implicitDefEqProofs (disch := omega) [List.getElem?_cons_zero, List.getElem?_cons_succ, wrap_id]
      exact finH trivial rfl (hK _ Z)
    obtain ⟨H1, hH1⟩ : ∃ H1, H1 = Hk k ++ Z := ⟨_, rfl⟩
    have g2 : ∀ y, (H1 ++ [y])[vi]? = some (.box (.i v)) := fun y => by rw [hH1, List.append_assoc]; exact h2 k _
    have g3 : ∀ y, (H1 ++ [y])[lp]? = some L := fun y => by rw [hH1, List.append_assoc]; exact h3 k _
    have f1 : ∀ y, (H1 ++ [y])[H1.length]? = some y := fun y => by simp
    have f3 : ∀ y z, (H1 ++ [y]).set H1.length z = H1 ++ [z] := fun y z => by simp
    obtain ⟨r1, r2, r3, r4, r5, r6, r7⟩ := hr es[k] (List.getElem_mem hlt)
    have hyk := hy k hlt
    have hskk := hsk k hlt
    rw [← hH1]
    by_cases hi : incB v es[k] = true
    · have hab : decide (es[k].a = es[k].b) = false := by
        simp only [incB, decide_eq_true_eq] at hi
        exact decide_eq_false hi.1
      by_cases ha : es[k].a = v
      · have ha' : decide (es[k].a = v) = true := decide_eq_true ha
        simp -implicitDefEqProofs (disch := omega) [List.getElem?_cons_zero, List.getElem?_cons_succ, wrap_id, hlt, g2, g3, f1, f3, hab, ha']
        rw [hH1, List.append_assoc]
        refine ⟨hL, hyk _ _ hi fun Z' => ?_⟩
        simp -implicitDefEqProofs (disch := omega) [List.getElem?_cons_zero, List.getElem?_cons_succ, wrap_id]
        exact round_keep [13, 12, 11, 0, 1, 2] hlt ⟨Z', rfl⟩
      · have ha' : decide (es[k].a = v) = false := decide_eq_false ha
        have hb' : decide (es[k].b = v) = true := by
          simp only [incB, decide_eq_true_eq] at hi
          exact decide_eq_true (hi.2.resolve_left ha)
        simp -implicitDefEqProofs (disch := omega) [List.getElem?_cons_zero, List.getElem?_cons_succ, wrap_id, hlt, g2, g3, f1, f3, hab, ha', hb']
        rw [hH1, List.append_assoc]
        refine ⟨hL, hyk _ _ hi fun Z' => ?_⟩
        simp -implicitDefEqProofs (disch := omega) [List.getElem?_cons_zero, List.getElem?_cons_succ, wrap_id]
        exact round_keep [13, 12, 11, 0, 1, 2] hlt ⟨Z', rfl⟩
    · have hi' : incB v es[k] = false := by simpa using hi
      have hsame := hskk hi'
      by_cases hab : es[k].a = es[k].b
      · have hab' : decide (es[k].a = es[k].b) = true := decide_eq_true hab
        simp -implicitDefEqProofs (disch := omega) [List.getElem?_cons_zero, List.getElem?_cons_succ, wrap_id, hlt, g2, g3, f1, f3, hab']
        exact round_keep [13, 12, 11, 0, 1, 2] hlt ⟨_, by rw [hH1, List.append_assoc, ← hsame]; rfl⟩
      · have hab' : decide (es[k].a = es[k].b) = false := decide_eq_false hab
        have ha' : decide (es[k].a = v) = false := decide_eq_false fun e => hi (by rw [incB]; exact decide_eq_true ⟨hab, .inl e⟩)
        have hb' : decide (es[k].b = v) = false := decide_eq_false fun e => hi (by rw [incB]; exact decide_eq_true ⟨hab, .inr e⟩)
        simp -implicitDefEqProofs (disch := omega) [List.getElem?_cons_zero, List.getElem?_cons_succ, wrap_id, hlt, g2, g3, f1, f3, hab', ha', hb']
        exact round_keep [13, 12, 11, 0, 1, 2] hlt ⟨_, by rw [hH1, List.append_assoc, ← hsame]; rfl⟩
end
/-- How many single edges lead from a vertex to those with a property. -/
def joinsF (v : Int) (p : Int → Bool) (l : List Ed) : Int := sumI (l.map fun x => if incB v x && p (x.a + x.b - v) then x.m else 0)
theorem joinsF_snoc {v : Int} {p : Int → Bool} {es : List Ed} {k : Nat} (h : k < es.length) : joinsF v p (es.take (k + 1)) = joinsF v p (es.take k) + if incB v es[k] && p (es[k].a + es[k].b - v) then es[k].m else 0 := by
  unfold joinsF
  rw [List.take_succ_eq_append_getElem h, List.map_append, sumI_append]
  simp [sumI]
theorem joinsF_bd {n : Int} {es : List Ed} (hr : ∀ x ∈ es, Right n x) (v : Int) (p : Int → Bool) : 0 ≤ joinsF v p es ∧ joinsF v p es ≤ 50 * es.length := by
  induction es with
  | nil => simp [joinsF, sumI]
  | cons x es ih =>
    have ih := ih fun y hy => hr y (by simp [hy])
    have r := hr x (by simp)
    have r1 := r.m1
    have r2 := r.m50
    have e : joinsF v p (x :: es) = (if incB v x && p (x.a + x.b - v) then x.m else 0) + joinsF v p es := rfl
    rw [e, List.length_cons]
    split <;> omega
theorem links_hc {A : AV} {v : Int} {H : List AO} {K : AV → List AO → Prop} (hb : ∀ L, boxable (H ++ L) A = true)
    (hK : K (.fn (.func 92) [] [.ptr H.length 1 0 0, .ptr (H.length + 1) 1 0 0]) (H ++ [.box A, .box (.i v)])) : HC Try.prog false 89 [A, .i v] H K := by
  have b4 : boxable H A = true := by have := hb []; rwa [List.append_nil] at this
  have b5 : ∀ L, boxable L (AV.i v) = true := fun _ => rfl
  refine HC_of_W (af := _) ((by exact cfn89 : cfn _ _ _ = some _)) ?_
  simp -implicitDefEqProofs (disch := omega) [c89, -boxable, -solid, b4, b5, List.getElem?_cons_zero, List.getElem?_cons_succ, wrap_id]
  refine finH trivial rfl ?_
  simpa using hK
section
variable {n : Nat} {es : List Ed} (hr : ∀ x ∈ es, Right n x) (hn : n ≤ 12) (hel : es.length ≤ 1000) {v : Int} (hv : 0 ≤ v ∧ v < n)
include hr hn hel hv
/-- The objects while single edges are counted. -/
abbrev joH (es : List Ed) (v : Int) (p : Int → Bool) (F A : AV) (lp : AO) (k : Nat) : List AO := [.box F, .box (.i (joinsF v p (es.take k))), .box A, .box (.i v), lp]
theorem joins_range {f : FuncId} {cap : List AV} {p : Int → Bool} (hc : callable Try.prog f = true) (hF : ∀ (u : Int) H (K : AV → List AO → Prop), 0 ≤ u → u < n → K (.b (p u)) H → HC Try.prog false f (.i u :: cap) H K) {m : PV} {rest : List PV}
    (t : List (Nat × AV)) (ht5 : Abs.get t 5 = .ptr 0 1 0 0) (ht7 : Abs.get t 7 = .ptr 1 1 0 0) {K : AV → List AO → Prop}
    (hK : ∀ r Z, K r (joH es v p (.fn (.func f) [] cap) (.sp (.agg (m :: .sl (es.map edP) :: rest)) 0) (.lp 22 t [13, 14] rc83_0a rc83_0c .ready) es.length ++ Z)) :
    HC Try.prog false 92 [.yl 4, .ptr 2 1 0 0, .ptr 3 1 0 0] (joH es v p (.fn (.func f) [] cap) (.sp (.agg (m :: .sl (es.map edP) :: rest)) 0) (.lp 22 t [13, 14] rc83_0a rc83_0c .ready) 0) K := by
  refine links_range hr hn hel hv (.sp m rest) rfl (fun k Z => rfl) (fun k Z => rfl) rfl (fun k hk hi => ?_) (fun k hk Z K' hi hK' => ?_) hK
  · dsimp only [joH]
    rw [joinsF_snoc hk, hi]
    simp
  · obtain ⟨r1, r2, r3, r4, r5, r6, r7⟩ := hr es[k] (List.getElem_mem hk)
    have hbd := joinsF_bd (fun x hx => hr x (List.mem_of_mem_take hx)) v p (es := es.take k)
    rw [List.length_take] at hbd
    have hs := joinsF_snoc (v := v) (p := p) hk
    rw [hi, Bool.true_and] at hs
    have hu : 0 ≤ es[k].a + es[k].b - v ∧ es[k].a + es[k].b - v < n := by
      simp only [incB, decide_eq_true_eq] at hi
      omega
    dsimp only [joH] at hK' ⊢
    rw [hs] at hK'
    obtain ⟨u, hu'⟩ : ∃ u, u = es[k].a + es[k].b - v := ⟨_, rfl⟩
    rw [← hu'] at hK' hu ⊢
    obtain ⟨j, hj⟩ : ∃ j, j = joinsF v p (es.take k) := ⟨_, rfl⟩
    rw [← hj] at hK' hbd ⊢
    refine HY_of_W rfl rcc83_0a rcc83_0c rfl rfl rfl rfl ?_
    simp -implicitDefEqProofs (disch := omega) [List.getElem?_cons_zero, List.getElem?_cons_succ, wrap_id, ra83_0a, ra83_0c, ht5, ht7]
    refine ⟨hc, hF u _ _ hu.1 hu.2 ?_⟩
    cases hp : p u
    · rw [hp] at hK'
      have := hK' Z
      simp only [Bool.false_eq_true, if_false, Int.add_zero] at this
      simp -implicitDefEqProofs (disch := omega) [List.getElem?_cons_zero, List.getElem?_cons_succ, wrap_id, ht7]
      exact this
    · rw [hp] at hK'
      have := hK' Z
      simp only [if_true] at this
      simp -implicitDefEqProofs (disch := omega) [List.getElem?_cons_zero, List.getElem?_cons_succ, wrap_id, ht7]
      exact this
theorem joins_W {f : FuncId} {cap : List AV} {p : Int → Bool} (hc : callable Try.prog f = true) (hF : ∀ (u : Int) H (K : AV → List AO → Prop), 0 ≤ u → u < n → K (.b (p u)) H → HC Try.prog false f (.i u :: cap) H K) {m : PV} {rest : List PV} :
    W Try.prog 0 c83.body (Abs.Fin 0 c83.res fun r' H' => r' = .p (.i (joinsF v p es)) ∧ H' = []) ⟨initT 0 [.sp (.agg (m :: .sl (es.map edP) :: rest)) 0, .i v, .fn (.func f) [] cap], []⟩ := by
  have e0 : joinsF v p (es.take 0) = 0 := rfl
  have e1 : joinsF v p (es.take es.length) = joinsF v p es := by rw [List.take_length]
  simp -implicitDefEqProofs (disch := omega) [c83, List.getElem?_cons_zero, List.getElem?_cons_succ, wrap_id]
  refine links_hc (fun L => rfl) ?_
  simp -implicitDefEqProofs (disch := omega) [List.getElem?_cons_zero, List.getElem?_cons_succ, wrap_id]
  refine ⟨by kernel_rfl, joins_range hr hn hel hv hc hF _ rfl rfl fun r Z => ?_⟩
  refine AfterR_ready rfl ?_
  dsimp only [joH]
  rw [e1]
  simp -implicitDefEqProofs (disch := omega) [List.getElem?_cons_zero, List.getElem?_cons_succ, wrap_id]
  exact fin1 [] trivial rfl (by rfl) ⟨rfl, rfl⟩
end
end Go.Proofs.Ytolfhldbfeffaaa
end
