/-
  Texts joined: Is Iak.
-/
import Derived.Test.YtekniokkmgencaaGreatKh10

section
set_option linter.unusedSimpArgs false
set_option linter.unusedVariables false
namespace Go
namespace Abs
open Go.RowKit
mutual
def PV.nrm : PV → PV
  | .v x => if isNil (.p (.v x)) then .sl [] else .v x
  | .sl l => .sl (nrmL l)
  | .agg l => .agg (nrmL l)
def nrmL : List PV → List PV
  | [] => []
  | x :: l => x.nrm :: nrmL l
end
theorem nrmL_eq : ∀ l, nrmL l = l.map PV.nrm
  | [] => rfl
  | x :: l => by rw [nrmL, nrmL_eq l]; rfl
theorem nrm_one (x : PV) : x.nrm.one = x.one := by
  cases x with
  | v x => rw [PV.nrm]; split <;> rfl
  | sl l => rw [PV.nrm]; rfl
  | agg l => rw [PV.nrm]; rfl
theorem nrm_flat (x : PV) : x.nrm.flat = x.flat.map PV.nrm := by
  cases x with
  | v x =>
    show (PV.nrm (.v x)).flat = [PV.nrm (.v x)]
    rw [PV.nrm]; split <;> rfl
  | sl l =>
    show (PV.nrm (.sl l)).flat = [PV.nrm (.sl l)]
    rw [PV.nrm]; rfl
  | agg l => rw [PV.nrm, nrmL_eq]; rfl
theorem RP.nrm {S : Nat → Prop} {w : World} {x : PV} {v : Value} (h : RP S w x v) : RP S w x.nrm v := by
  induction h with
  | v x h =>
    rw [PV.nrm]
    split
    · rename_i hn
      unfold isNil at hn
      split at hn
      · rename_i e
        injection e with e
        injection e with e
        subst e
        exact .sl [] none 0 0 (fun _ _ => undef) (by simp) (by simp) (fun i h => by simp at h) (.inl rfl) (fun i h => by simp at h)
      · cases hn
    · exact .v x h
  | sl l A cap sz c h1 h2 hs ha hr ih =>
    have hl : (l.map PV.nrm).length = l.length := by simp
    rw [PV.nrm, nrmL_eq, ← hl]
    refine .sl _ A cap sz c (by rw [hl]; exact h1) h2 (fun i hi => ?_) ?_ (fun i hi j hj => ?_)
    · rw [hl] at hi
      simp only [List.getElem_map, nrm_flat, List.length_map, List.mem_map]
      exact ⟨(hs i hi).1, fun e he => by obtain ⟨y, hy, rfl⟩ := he; rw [nrm_one]; exact (hs i hi).2 y hy⟩
    · rcases ha with ha | ⟨b, off, e, hb, hc⟩
      · exact .inl (by rw [ha]; rfl)
      · exact .inr ⟨b, off, e, hb, fun i j hi hj => hc i j (by rw [hl] at hi; exact hi) hj⟩
    · rw [hl] at hi
      simp only [List.getElem_map, nrm_flat, List.length_map] at hj ⊢
      exact ih i hi j hj
  | agg l cs hl ho hr ih =>
    rw [PV.nrm, nrmL_eq]
    refine .agg _ cs (by simpa using hl) (fun e he => by obtain ⟨y, hy, rfl⟩ := List.mem_map.1 he; rw [nrm_one]; exact ho y hy) (fun i hi hi' => ?_)
    simp only [List.length_map] at hi
    simp only [List.getElem_map]
    exact ih i hi hi'
end Abs
end Go
end
section
set_option linter.unusedSimpArgs false
set_option linter.unusedVariables false
namespace Go
namespace Abs
open Go.RowKit
variable {P : Program}
def WSm (P : Program) (N : Nat) (M0 : Mem) (c : Code) (Q : AExit → St → Prop) (s : St) : Prop := ∀ (φ : Nat → Option Nat) (a : Act) (w : World), Sim N M0 s φ a w → c.wpIn (Early.fen none) 0 P (Sims N M0 Q) a w
theorem WSm.of_W {N : Nat} {M0 : Mem} {c : Code} {ac : AC} {Q : AExit → St → Prop} {s : St} (hc : ccode P N c = some ac) (h : W P M0.H.length ac Q s) : WSm P N M0 c Q s :=
  fun φ a w hs => W_ok hc h hs none (RoOk.none _)
theorem WSm.seq {N : Nat} {M0 : Mem} {x y : Code} {Q : AExit → St → Prop} {s : St} (K : St → Prop) (h : WSm P N M0 x (fun e s' => e = .normal ∧ K s') s) (hK : ∀ s', K s' → WSm P N M0 y Q s') : WSm P N M0 (.seq x y) Q s := by
  intro φ a w hs
  refine wpIn_seq (wpIn_mono (h φ a w hs) ?_)
  rintro e a' w' ⟨ae, s', φ', rfl, ⟨rfl, hq⟩, hs'⟩
  exact hK s' hq φ' a' w' hs'
theorem WSm.wk {N : Nat} {M0 : Mem} {c : Code} {Q : AExit → St → Prop} {s s2 : St} (hw : Wk M0.H.length s s2) (h : WSm P N M0 c Q s2) : WSm P N M0 c Q s := fun φ a w hs => by
  obtain ⟨φ2, hs2⟩ := hw N M0 φ a w rfl hs
  exact h φ2 a w hs2
theorem fin_callsS {f : FuncId} {fn : Func} {c : Code} {rs : List ARes} {M : Mem} {args : List AV} {vs : List Value} (hfn : P.funcs[f]? = some fn) (hc : fn.body = some c) (hrs : cres P fn.results.toList = some rs) (hM : MemOk M) (ha : RAs M args vs) {R : AV → List AO → Prop}
    (h : WSm P (args.length + (fn.ntmps - args.length)) M c (Fin M.H.length rs R) ⟨initT 0 args, M.H⟩) :
    Calls P f vs.toArray M.w fun en w' => ∃ v r H' φ', en = .returned v ∧ R r H' ∧ MemOk ⟨w', H', φ', M.base, M.S⟩ ∧ Le M ⟨w', H', φ', M.base, M.S⟩ ∧ RA ⟨w', H', φ', M.base, M.S⟩ r v ∧ Below M.base M.w w' := by
  have hlen := ha.1
  refine (callsIn_wide (n := 0)).1 (callsIn_of_wp_marks hfn hc trivial (wpIn_mono (h M.φ { tmps := vs.toArray ++ Array.replicate (fn.ntmps - vs.toArray.size) undef, defers := [] } M.w ⟨.nil, by simp; omega, hM, env_init ha _, Below.refl _ _, Le.refl M⟩) ?_))
  rintro e a' w' ⟨ae, s', φ', rfl, ⟨hq, hq2⟩, hs'⟩
  have fin : ∀ {s2 : St} {φ2 : Nat → Option Nat} {r : AV} {w2 : World} {a2 : Act}, a2.defers = [] → a2.tmps = a'.tmps → Sim (args.length + (fn.ntmps - args.length)) M s2 φ2 a2 w2 → resOf s2 rs = some r → ((∃ σ, okσ σ M.H.length s2.H = true ∧ R (r.ren s2.H (idx σ 0)) (renH σ s2.H)) ∨ R r s2.H) →
      LeavesInM Fence.wide 0 P fn a'.tmps (fun en w' => ∃ v r H' φ', en = .returned v ∧ R r H' ∧ MemOk ⟨w', H', φ', M.base, M.S⟩ ∧ Le M ⟨w', H', φ', M.base, M.S⟩ ∧ RA ⟨w', H', φ', M.base, M.S⟩ r v ∧ Below M.base M.w w') [] .returning w2 := by
    intro s2 φ2 r w2 a2 ha2 hat hs2 hrr hR
    obtain ⟨v, hrun, hrv⟩ := res_ok (M := ⟨w2, s2.H, φ2, M.base, M.S⟩) hs2.m rfl hs2.r hrs hrr
    rw [hat] at hrun
    refine ⟨v, hrun, ?_⟩
    rcases hR with ⟨σ, hσ, hR⟩ | hR
    · obtain ⟨M', e1, e2, e3, e4, hM', hle, -, hx⟩ := mem_norm (M := ⟨w2, s2.H, φ2, M.base, M.S⟩) hs2.m hs2.le rfl hσ
      obtain ⟨w1, H', φ', base', S'⟩ := M'
      dsimp only at e1 e2 e3 e4
      subst e1 e2 e3 e4
      exact ⟨v, _, _, φ', rfl, hR, hM', hle, hx hrv, hs2.b⟩
    · exact ⟨v, _, _, φ2, rfl, hR, hs2.m, hs2.le, hrv, hs2.b⟩
  have marks : ∀ (Ds : List Nat) {s2 : St} {φ2 : Nat → Option Nat} {r : AV} {w2 : World} {a2 : Act}, a2.defers = Ds.map markD → a2.tmps = a'.tmps → Sim (args.length + (fn.ntmps - args.length)) M s2 φ2 a2 w2 → resOf s2 rs = some r → ((∃ σ, okσ σ M.H.length s2.H = true ∧ R (r.ren s2.H (idx σ 0)) (renH σ s2.H)) ∨ R r s2.H) →
      LeavesInM Fence.wide 0 P fn a'.tmps (fun en w' => ∃ v r H' φ', en = .returned v ∧ R r H' ∧ MemOk ⟨w', H', φ', M.base, M.S⟩ ∧ Le M ⟨w', H', φ', M.base, M.S⟩ ∧ RA ⟨w', H', φ', M.base, M.S⟩ r v ∧ Below M.base M.w w') (Ds.map markD) .returning w2 := by
    intro Ds
    induction Ds with
    | nil => intro s2 φ2 r w2 a2 h1 h2 h3 h4 h5; exact fin h1 h2 h3 h4 h5
    | cons D Ds ih =>
      intro s2 φ2 r w2 a2 h1 h2 h3 h4 h5
      obtain ⟨hd, h3'⟩ := h3.unmark (by rw [h1]; rfl)
      refine ⟨by simp, .inl ⟨D, _, rfl, run_takeDeferred hd, ?_⟩⟩
      exact ih (a2 := { a2 with defers := Ds.map markD }) rfl h2 h3' h4 h5
  have all : LeavesInM Fence.wide 0 P fn a'.tmps (fun en w' => ∃ v r H' φ', en = .returned v ∧ R r H' ∧ MemOk ⟨w', H', φ', M.base, M.S⟩ ∧ Le M ⟨w', H', φ', M.base, M.S⟩ ∧ RA ⟨w', H', φ', M.base, M.S⟩ r v ∧ Below M.base M.w w') a'.defers .returning w' := by
    obtain ⟨Ds, hds, -, -⟩ := hs'.d
    rw [hds]
    rcases hq2 with ⟨s2, r, σ, hk, hrr, hσ, hR⟩ | ⟨s2, r, hk, hrr, hR⟩
    · obtain ⟨φ2, hs2⟩ := hk _ M φ' a' w' rfl hs'
      exact marks Ds hds rfl hs2 hrr (.inl ⟨σ, hσ, hR⟩)
    · obtain ⟨φ2, hs2⟩ := hk _ M φ' a' w' rfl hs'
      exact marks Ds hds rfl hs2 hrr (.inr hR)
  cases ae with
  | normal => exact all
  | ret => exact all
  | exit i => exact hq.elim
theorem PC_of_S {f : FuncId} {fn : Func} {c : Code} {rs : List ARes} {r : AV} {HR : List AO} (hfn : P.funcs[f]? = some fn) (hc : fn.body = some c) (hrs : cres P fn.results.toList = some rs)
    (h : ∀ M : Mem, M.H = [] → WSm P (0 + (fn.ntmps - 0)) M c (Fin 0 rs fun r' H' => r' = r ∧ H' = HR) ⟨[], []⟩) : PC P f [] r HR := by
  intro w S vs hvs
  have hM : MemOk ⟨w, [], fun _ => none, w.heap.size, S⟩ := ⟨fun o ob h => by simp at h, fun o o' b h => by simp at h, fun o b h => by simp at h, Nat.le_refl _⟩
  have ha : RAs ⟨w, [], fun _ => none, w.heap.size, S⟩ [] vs := ⟨by simpa using hvs.1, fun i hi hi' => by simp at hi⟩
  refine (fin_callsS hfn hc hrs hM ha (h ⟨w, [], fun _ => none, w.heap.size, S⟩ rfl)).mono ?_
  rintro en w' ⟨v, r', H', φ', h1, ⟨rfl, rfl⟩, h3, h4, h5, h6⟩
  exact ⟨v, φ', h1, h3, h5, h6⟩
def acL : AC → AC
  | .seq a _ => a
  | _ => .skip
def acR : AC → AC
  | .seq _ b => b
  | _ => .skip
theorem PC_nrm {f : FuncId} {args : List PV} {r : AV} {HR : List AO} (h : PC P f (args.map PV.nrm) r HR) : PC P f args r HR :=
  fun w S vs hvs => h w S vs ⟨by simpa using hvs.1, fun i hi hi' => by
    have := hvs.2 i (by simpa using hi) hi'
    simp only [List.getElem_map]
    exact this.nrm⟩
end Abs
end Go
end
