/-
  Texts joined: Moa Nb Go Gz Gw.
-/
import Derived.Test.YtekniokkmgencaaGreatKh29
import Derived.Deep.Strs
import Derived.ChangeArms
import Derived.WalkKit
import Derived.ProofKit
import Derived.OpenShut
import Derived.ChangeOld
import Derived.Below
import Derived.WideShapes
import Derived.Test.YtekniokkmgencaaGreatRows
import Derived.Lib.SmallJoins
section
namespace Go
namespace Abs
open Go.RowKit
section
variable {H : Type} {enc : TypeId × Value → H} {P : Program} {w : World} {base : Nat} {spare : Nat → Bool} {held : Bool} {fuel : Nat} {cs : List Value} {x : DataW H × List MemPlace} {t : TypeId}
abbrev Here (w : World) : Nat → Prop := fun b => b < w.heap.size
theorem open_int (ht : P.underlying t = some (.int .i64)) (h : DataW.trod enc P w base spare held fuel t cs = some x) : ∃ n : Int, cs = [.int .i64 n] ∧ RP (Here w) w (.i n) (.int .i64 n) := by
  obtain ⟨n, h1, -, -⟩ := DataW.trod_int ht h
  exact ⟨n, h1, .v _ rfl⟩
theorem addr_plus {a : Addr} (h : a.spot = none) (n : Nat) : a.add n = ⟨a.block, a.off + n, none⟩ := by
  unfold Addr.add
  split
  · rename_i e; subst e; cases a; cases h; rfl
  · rfl
theorem cell_spot {a : Addr} {v : Value} (h : w.cell? a = some v) : a.spot = none ∧ a.block < w.heap.size := by
  unfold World.cell? at h
  split at h
  · rename_i c t' z hb
    split at h
    · cases h
    · rename_i hs
      exact ⟨by cases ha : a.spot; rfl; rw [ha] at hs; exact absurd rfl hs, (Array.getElem?_eq_some_iff.1 hb).1⟩
  · cases h
theorem open_sl {e : TypeId} {β : Type} (g : β → PV) (sz : Nat) (hpos : 0 < sz) (ht : P.underlying t = some (.slice e)) (hc : P.cellsOf e = sz) (hg : ∀ b, (g b).flat.length = sz ∧ ∀ q ∈ (g b).flat, q.one = true)
    (hel : ∀ {fuel : Nat} {cs : List Value} {x : DataW H × List MemPlace}, DataW.trod enc P w base spare held fuel e cs = some x → ∃ b, ∀ i (h : i < (g b).flat.length) (h' : i < cs.length), RP (Here w) w (g b).flat[i] cs[i])
    (h : DataW.trod enc P w base spare held fuel t cs = some x) : ∃ (bs : List β) (v : Value), cs = [v] ∧ RP (Here w) w (.sl (bs.map g)) v := by
  rcases DataW.trod_slice ht h with ⟨h0, -⟩ | ⟨a, len, cap, elems, rest, n, -, rfl, -, -, hl, hm, hlen, hels, -, -⟩
  · refine ⟨[], _, h0, ?_⟩
    exact .sl [] none 0 0 (fun _ _ => undef) (by simp) (by simp) (fun i h => by simp at h) (.inl rfl) (fun i h => by simp at h)
  have each : ∀ i : _root_.Fin len, ∃ p : List Value × β, w.cells? base (a.add (i.1 * P.cellsOf e)) (P.cellsOf e) = some p.1 ∧ ∀ j (h : j < (g p.2).flat.length) (h' : j < p.1.length), RP (Here w) w (g p.2).flat[j] p.1[j] := by
    intro i
    have hb := hels i.1 i.2
    rw [List.getElem?_eq_getElem (by omega), Option.bind_eq_some_iff] at hb
    obtain ⟨cs', h1, h2⟩ := hb
    obtain ⟨b, hb⟩ := hel h2
    exact ⟨⟨cs', b⟩, h1, hb⟩
  obtain ⟨F, hF⟩ : ∃ F : _root_.Fin len → List Value × β, ∀ i, w.cells? base (a.add (i.1 * P.cellsOf e)) (P.cellsOf e) = some (F i).1 ∧ ∀ j (h : j < (g (F i).2).flat.length) (h' : j < (F i).1.length), RP (Here w) w (g (F i).2).flat[j] (F i).1[j] :=
    ⟨fun i => (each i).choose, fun i => (each i).choose_spec⟩
  refine ⟨List.ofFn fun i => (F i).2, _, rfl, ?_⟩
  have hlen' : ((List.ofFn fun i => (F i).2).map g).length = len := by simp
  have hsz : ∀ i, (F i).1.length = sz := fun i => by rw [(World.cells?_some (hF i).1).2.1, hc]
  have hcell : ∀ i : _root_.Fin len, ∀ j (hj : j < sz), w.cell? ((a.add (i.1 * sz)).add j) = some ((F i).1[j]'(by rw [hsz]; exact hj)) := by
    intro i j hj
    have := (World.cells?_some (hF i).1).2.2 j (by rw [hc]; exact hj)
    rw [hc] at this
    rw [this, List.getElem?_eq_getElem]
  have main := RP.sl (S := Here w) (w := w) ((List.ofFn fun i => (F i).2).map g) (some a) cap sz (fun i j => if h : i < len then (F ⟨i, h⟩).1.getD j undef else undef) (by rw [hlen']; exact hl) hm (fun i hi => by
      rw [List.getElem_map]; exact hg _) ?_ ?_
  · rw [hlen'] at main
    exact main
  · rcases Nat.eq_zero_or_pos len with h0 | h0
    · left
      exact List.eq_nil_of_length_eq_zero (by rw [hlen', h0])
    · right
      have h1 := hcell ⟨0, h0⟩ 0 hpos
      simp only [Nat.zero_mul] at h1
      have h2 : a.add 0 = a := rfl
      rw [h2, h2] at h1
      obtain ⟨s1, s2⟩ := cell_spot h1
      refine ⟨a.block, a.off, by cases a; cases s1; rfl, s2, fun i j hi hj => ?_⟩
      rw [hlen'] at hi
      have h3 := hcell ⟨i, hi⟩ j hj
      rw [addr_plus s1, addr_plus rfl] at h3
      rw [dif_pos hi]
      refine h3.trans ?_
      rw [List.getD_eq_getElem?_getD, List.getElem?_eq_getElem]
      rfl
  · intro i hi j hj
    rw [hlen'] at hi
    simp only [List.getElem_map, List.getElem_ofFn] at hj ⊢
    rw [dif_pos hi, List.getD_eq_getElem?_getD, List.getElem?_eq_getElem (by rw [hsz, ← (hg (F ⟨i, hi⟩).2).1]; exact hj)]
    exact (hF ⟨i, hi⟩).2 j hj _
end
end Abs
end Go
/-
  Handed arguments of any shape, as values of the abstract machine.
-/
namespace Go
namespace Abs
open Go.RowKit Go.ChangeShapes Go.WideShapes Go.ChangeAt
structure Opens (P : Program) (t : TypeId) {β : Type} (g : β → PV) : Prop where
  one : ∀ b, ∀ q ∈ (g b).flat, q.one = true
  len : ∀ b, (g b).flat.length = P.cellsOf t
  red : ∀ {H : Type} {enc : TypeId × Value → H} {w : World} {base : Nat} {spare : Nat → Bool} {held : Bool} {fuel : Nat} {cs : List Value} {x : DataW H × List MemPlace},
    DataW.trod enc P w base spare held fuel t cs = some x → ∃ b, RPs (Here w) w (g b).flat cs
theorem flat_agg (l : List PV) : (PV.agg l).flat = l := rfl
section
variable {P : Program} {t : TypeId}
theorem Opens.to {β γ : Type} {g : β → PV} {g' : γ → PV} (h : Opens P t g) (f : β → γ) (k : γ → β) (e : ∀ b, g b = g' (f b)) (e' : ∀ c, g' c = g (k c)) : Opens P t g' := by
  refine ⟨fun b => ?_, fun b => ?_, fun hr => ?_⟩
  · rw [e' b]; exact h.one _
  · rw [e' b]; exact h.len _
  · obtain ⟨b, hb⟩ := h.red hr
    exact ⟨f b, e b ▸ hb⟩
theorem RPs_one {S : Nat → Prop} {w : World} {x : PV} {v : Value} (h : RP S w x v) : RPs S w [x] [v] := ⟨rfl, fun i hi hi' => by
  have : i = 0 := by simp at hi; omega
  subst this; exact h⟩
theorem RPs_app {S : Nat → Prop} {w : World} {a b : List PV} {cs : List Value} (h1 : RPs S w a (cs.take a.length)) (h2 : RPs S w b (cs.drop a.length)) : RPs S w (a ++ b) cs := by
  have l1 := h1.1
  have l2 := h2.1
  simp only [List.length_take, List.length_drop] at l1 l2
  refine ⟨by rw [List.length_append]; omega, fun i hi hi' => ?_⟩
  by_cases hc : i < a.length
  · have := h1.2 i hc (by simp; omega)
    rw [List.getElem_take] at this
    rw [List.getElem_append_left hc]
    exact this
  · have := h2.2 (i - a.length) (by rw [List.length_append] at hi; omega) (by simp; omega)
    rw [List.getElem_append_right (by omega)]
    simp only [List.getElem_drop] at this
    have e : a.length + (i - a.length) = i := by omega
    simp only [e] at this
    exact this
theorem opens_int (ht : P.underlying t = some (.int .i64)) (hc : P.cellsOf t = 1) : Opens P t PV.i := by
  refine ⟨fun b q hq => by simp [PV.flat] at hq; subst hq; rfl, fun b => by rw [hc]; rfl, fun h => ?_⟩
  obtain ⟨n, rfl, hr⟩ := open_int ht h
  exact ⟨n, RPs_one hr⟩
theorem opens_slice {e : TypeId} {β : Type} {g : β → PV} (he : Opens P e g) (ht : P.underlying t = some (.slice e)) (hp : 0 < P.cellsOf e) (hc : P.cellsOf t = 1) : Opens P t (fun l : List β => PV.sl (l.map g)) := by
  refine ⟨fun b q hq => by simp [PV.flat] at hq; subst hq; rfl, fun b => by rw [hc]; rfl, fun h => ?_⟩
  obtain ⟨bs, v, rfl, hr⟩ := open_sl g (P.cellsOf e) hp ht rfl (fun b => ⟨he.len b, he.one b⟩) (fun h => by
    obtain ⟨b, hb⟩ := he.red h
    exact ⟨b, fun i hi hi' => hb.2 i hi hi'⟩) h
  exact ⟨bs, RPs_one hr⟩
theorem opens_struct2 {f0 f1 : Field} {β γ : Type} {g0 : β → PV} {g1 : γ → PV} (h0 : Opens P f0.type g0) (h1 : Opens P f1.type g1) (ht : P.underlying t = some (.struct #[f0, f1]))
    (ho0 : f0.offset = 0) (ho1 : f1.offset = P.cellsOf f0.type) (hc : P.cellsOf t = P.cellsOf f0.type + P.cellsOf f1.type) : Opens P t (fun p : β × γ => PV.agg ((g0 p.1).flat ++ (g1 p.2).flat)) := by
  refine ⟨fun b q hq => ?_, fun b => ?_, fun h => ?_⟩
  · simp only [flat_agg, List.mem_append] at hq
    exact hq.elim (h0.one _ _) (h1.one _ _)
  · simp only [flat_agg, List.length_append, h0.len, h1.len, hc]
  · obtain ⟨y0, y1, n, -, hl, k0, k1⟩ := trod_struct2 ht h
    obtain ⟨b0, r0⟩ := h0.red k0
    obtain ⟨b1, r1⟩ := h1.red k1
    refine ⟨(b0, b1), RPs_app ?_ ?_⟩
    · rw [h0.len]; rw [ho0, List.drop_zero] at r0; exact r0
    · rw [h0.len]; rw [ho1, List.take_of_length_le (by rw [List.length_drop]; omega)] at r1; exact r1
theorem opens_struct3 {f0 f1 f2 : Field} {β γ δ : Type} {g0 : β → PV} {g1 : γ → PV} {g2 : δ → PV} (h0 : Opens P f0.type g0) (h1 : Opens P f1.type g1) (h2 : Opens P f2.type g2) (ht : P.underlying t = some (.struct #[f0, f1, f2]))
    (ho0 : f0.offset = 0) (ho1 : f1.offset = P.cellsOf f0.type) (ho2 : f2.offset = P.cellsOf f0.type + P.cellsOf f1.type) (hc : P.cellsOf t = P.cellsOf f0.type + P.cellsOf f1.type + P.cellsOf f2.type) :
    Opens P t (fun p : β × γ × δ => PV.agg ((g0 p.1).flat ++ ((g1 p.2.1).flat ++ (g2 p.2.2).flat))) := by
  refine ⟨fun b q hq => ?_, fun b => ?_, fun h => ?_⟩
  · simp only [flat_agg, List.mem_append] at hq
    rcases hq with hq | hq | hq
    · exact h0.one _ _ hq
    · exact h1.one _ _ hq
    · exact h2.one _ _ hq
  · simp only [flat_agg, List.length_append, h0.len, h1.len, h2.len, hc]
    omega
  · obtain ⟨y0, y1, y2, n, -, hl, k0, k1, k2⟩ := Go.Deep.trod_struct3 ht h
    obtain ⟨b0, r0⟩ := h0.red k0
    obtain ⟨b1, r1⟩ := h1.red k1
    obtain ⟨b2, r2⟩ := h2.red k2
    refine ⟨(b0, b1, b2), RPs_app ?_ (RPs_app ?_ ?_)⟩
    · rw [h0.len]; rw [ho0, List.drop_zero] at r0; exact r0
    · rw [h0.len, h1.len]; rw [ho1] at r1; exact r1
    · rw [h0.len, h1.len, List.drop_drop]; rw [ho2, List.take_of_length_le (by rw [List.length_drop]; omega)] at r2; exact r2
section
variable {H : Type} {enc : TypeId × Value → H} {w : World} {base : Nat} {spare : Nat → Bool} {held : Bool} {v : Value} {d : DataW H} {p : List MemPlace} {r : Reach} {base' : Nat} {β : Type} {g : β → PV}
theorem arg_one (h : Opens P t g) (hg : ∀ b, (g b).flat = [g b]) (hv : v.cells.toList = [v]) (hd : DataW.Trod enc P w base spare held t v d p) : ∃ b, RP (Here w) w (g b) v := by
  obtain ⟨m, hm⟩ := hd
  obtain ⟨b, hb⟩ := h.red hm
  refine ⟨b, ?_⟩
  rw [hg b, hv] at hb
  exact hb.2 0 (by simp) (by simp)
theorem arg_slice {e : TypeId} {g : β → PV} (h : Opens P t g) (ht : P.underlying t = some (.slice e)) (hg : ∀ b, (g b).flat = [g b]) (hw : Value.okWide P w r base' t v) (hd : DataW.Trod enc P w base spare held t v d p) : ∃ b, RP (Here w) w (g b) v := by
  obtain ⟨a, len, cap, rfl⟩ := okWide_slice ht hw
  exact arg_one h hg rfl hd
theorem arg_agg {cs : Array Value} (h : Opens P t g) (hg : ∀ b, g b = .agg (g b).flat) (hd : DataW.Trod enc P w base spare held t (.agg cs) d p) : ∃ b, RP (Here w) w (g b) (.agg cs) := by
  obtain ⟨m, hm⟩ := hd
  obtain ⟨b, hb⟩ := h.red hm
  refine ⟨b, ?_⟩
  rw [hg b]
  exact .agg _ _ hb.1 (h.one b) fun i hi hi' => hb.2 i hi hi'
theorem arg_struct {fs : Array Field} (h : Opens P t g) (ht : P.underlying t = some (.struct fs)) (hg : ∀ b, g b = .agg (g b).flat) (hw : Value.okWide P w r base' t v) (hd : DataW.Trod enc P w base spare held t v d p) : ∃ b, RP (Here w) w (g b) v := by
  obtain ⟨cs, rfl, -⟩ := okWide_struct ht hw
  exact arg_agg h hg hd
end
end
end Abs
end Go
end
section
set_option linter.unusedSimpArgs false
set_option linter.unusedVariables false
namespace Go.Proofs.YtekniokkmgencaaGreat
open Go.Abs Go.Sand
abbrev _root_.Go.Abs.PV.bo (o : List Bool) : PV := .sl (o.map PV.b)
section
variable {N : Int} {es : List Ed} {o : List Bool} (hg : gcheck N es = 0) (hel : es.length ≤ 1000) (hol : o.length = (endsL es).length)
include hg hel hol
end
end Go.Proofs.YtekniokkmgencaaGreat
end
section
namespace Go.Proofs.YtekniokkmgencaaGreat
open Go.Abs Go.Sand Go.ChangeShapes Go.WideShapes Go.ChangeAt Go.RowKit
theorem own : ownKnob Tryz.prog.godebug = none := by kernel_rfl
theorem laidOut : laidOutB Tryz.prog = true := by kernel_rfl
theorem cells_int : Tryz.prog.cellsOf 3 = 1 := by kernel_rfl
theorem cells_ints : Tryz.prog.cellsOf 25 = 1 := by kernel_rfl
theorem cells_edges : Tryz.prog.cellsOf 22 = 1 := by kernel_rfl
theorem cells_edge : Tryz.prog.cellsOf 89 = 3 := by kernel_rfl
theorem cells_graph : Tryz.prog.cellsOf 24 = 2 := by kernel_rfl
theorem o_int : Opens Tryz.prog 3 PV.i := opens_int Tryz.underlying3 cells_int
theorem o_ints : Opens Tryz.prog 25 PV.is := opens_slice o_int Tryz.underlying25 (by rw [cells_int]; decide) cells_ints
theorem o_edge : Opens Tryz.prog 89 edP :=
  (opens_struct3 o_int o_int o_int Tryz.underlying89 rfl cells_int.symm (by rw [cells_int]) (by rw [cells_int, cells_edge])).to (fun p => ⟨p.1, p.2.1, p.2.2⟩) (fun e => (e.a, e.b, e.m)) (fun _ => rfl) (fun _ => rfl)
theorem o_edges : Opens Tryz.prog 22 (fun l : List Ed => PV.sl (l.map edP)) := opens_slice o_edge Tryz.underlying22 (by rw [cells_edge]; decide) cells_edges
theorem o_graph : Opens Tryz.prog 24 (fun p : Int × List Ed => G p.1 p.2) :=
  opens_struct2 o_int o_edges Tryz.underlying24 rfl cells_int.symm (by rw [cells_int, cells_edges, cells_graph])
theorem walk_of {f : FuncId} {ps : List PV} {vs : List Value} {w : World} (h : PC Tryz.prog f ps (.b true) []) (hr : RPs (Here w) w ps vs) : Calls Tryz.prog f vs.toArray w fun e w' => e = .returned (.bool true) ∧ Below w.heap.size w w' := by
  refine (h w (fun _ => True) vs ⟨hr.1, fun i hi hi' => (hr.2 i hi hi').mono fun b hb => ⟨⟨hb, trivial⟩, rfl⟩⟩).mono ?_
  rintro e w' ⟨v, φ, rfl, -, hv, hb⟩
  refine ⟨?_, hb⟩
  have := hv.lit
  rw [this.1]
end Go.Proofs.YtekniokkmgencaaGreat
end
section
namespace Go.Proofs.YtekniokkmgencaaGreat
open Go.Abs Go.Sand Go.ChangeShapes Go.WideShapes Go.ChangeAt Go.RowKit
theorem cells_div : Tryz.prog.cellsOf 26 = 1 := by kernel_rfl
theorem o_div : Opens Tryz.prog 26 PV.is := opens_slice o_int Tryz.underlying26 (by rw [cells_int]; decide) cells_div
end Go.Proofs.YtekniokkmgencaaGreat
end
section
namespace Go.Proofs.YtekniokkmgencaaGreat
open Go.Abs Go.Sand Go.ChangeShapes Go.WideShapes Go.ChangeAt Go.RowKit
theorem opens_struct4 {P : Program} {t : TypeId} {f0 f1 f2 f3 : Field} {β γ δ ε : Type} {g0 : β → PV} {g1 : γ → PV} {g2 : δ → PV} {g3 : ε → PV} (h0 : Opens P f0.type g0) (h1 : Opens P f1.type g1) (h2 : Opens P f2.type g2) (h3 : Opens P f3.type g3) (ht : P.underlying t = some (.struct #[f0, f1, f2, f3]))
    (ho0 : f0.offset = 0) (ho1 : f1.offset = P.cellsOf f0.type) (ho2 : f2.offset = P.cellsOf f0.type + P.cellsOf f1.type) (ho3 : f3.offset = P.cellsOf f0.type + P.cellsOf f1.type + P.cellsOf f2.type) (hc : P.cellsOf t = P.cellsOf f0.type + P.cellsOf f1.type + P.cellsOf f2.type + P.cellsOf f3.type) :
    Opens P t (fun p : β × γ × δ × ε => PV.agg ((g0 p.1).flat ++ ((g1 p.2.1).flat ++ ((g2 p.2.2.1).flat ++ (g3 p.2.2.2).flat)))) := by
  refine ⟨fun b q hq => ?_, fun b => ?_, fun h => ?_⟩
  · simp only [flat_agg, List.mem_append] at hq
    rcases hq with hq | hq | hq | hq
    · exact h0.one _ _ hq
    · exact h1.one _ _ hq
    · exact h2.one _ _ hq
    · exact h3.one _ _ hq
  · simp only [flat_agg, List.length_append, h0.len, h1.len, h2.len, h3.len, hc]
    omega
  · obtain ⟨y0, y1, y2, y3, n, -, hl, k0, k1, k2, k3⟩ := Go.Joins.trod_struct4 ht h
    obtain ⟨b0, r0⟩ := h0.red k0
    obtain ⟨b1, r1⟩ := h1.red k1
    obtain ⟨b2, r2⟩ := h2.red k2
    obtain ⟨b3, r3⟩ := h3.red k3
    refine ⟨(b0, b1, b2, b3), RPs_app ?_ (RPs_app ?_ (RPs_app ?_ ?_))⟩
    · rw [h0.len]; rw [ho0, List.drop_zero] at r0; exact r0
    · rw [h0.len, h1.len]; rw [ho1] at r1; exact r1
    · rw [h0.len, h1.len, h2.len, List.drop_drop]; rw [ho2] at r2; exact r2
    · rw [h0.len, h1.len, h2.len, List.drop_drop, List.drop_drop]; rw [ho3, List.take_of_length_le (by rw [List.length_drop]; omega), Nat.add_assoc] at r3; exact r3
theorem cells_script : Tryz.prog.cellsOf 27 = 1 := by kernel_rfl
theorem o_script : Opens Tryz.prog 27 PV.is := opens_slice o_int Tryz.underlying27 (by rw [cells_int]; decide) cells_script
theorem cells_pile : Tryz.prog.cellsOf 29 = 4 := by kernel_rfl
theorem o_pile : Opens Tryz.prog 29 (fun p : Int × List Int × List Int × List Int => PV.agg [.i p.1, .is p.2.1, .is p.2.2.1, .is p.2.2.2]) :=
  opens_struct4 o_int o_div o_ints o_script Tryz.underlying29 rfl cells_int.symm (by rw [cells_int, cells_div]) (by rw [cells_int, cells_div, cells_ints]) (by rw [cells_int, cells_div, cells_ints, cells_script, cells_pile])
end Go.Proofs.YtekniokkmgencaaGreat
end
