/-
  Texts joined: Wx Moa Gb Gv.
-/
import Derived.Test.YtamiekhoaggpkaaKf31
import Derived.Deep.Strs
import Derived.ChangeArms
import Derived.WalkKit
import Derived.ProofKit
import Derived.OpenShut
import Derived.ChangeOld
import Derived.Below
import Derived.WideShapes
import Derived.Test.YtamiekhoaggpkaaRows
section
set_option linter.unusedSimpArgs false
set_option linter.unusedVariables false
namespace Go.Proofs.Ytamiekhoaggpkaa
open Go.Abs Go.Sand
/-- What is known of the rounds of few chips. -/
structure Few20 (n : Nat) (es : List Ed) (q : Int) (d : List Int) (r : Nat) : Prop where
  st : StOk n es q d
  e0 : stE n es q d = 0
  b : ∀ i, -60 ≤ d.getD i 0 ∧ d.getD i 0 ≤ 60
  nil : rdyL n es q (rdC n es q d r) = []
  live : ∀ j, j < r → rdyL n es q (rdC n es q d j) ≠ []
  went : ∀ F, wentN n es q d F 0 = (min F r, false)
section
variable {n : Nat} {es : List Ed} {q : Int} {d : List Int} {r : Nat} (f : Few20 n es q d r)
include f
theorem few20_bd (k i : Nat) : -60 ≤ (rdC n es q d k).getD i 0 ∧ (rdC n es q d k).getD i 0 ≤ 780 := by
  have := chips_small f.st (B := 60) (by omega) f.b (rdS_leg f.st.g f.st.c.len (q := q) k) i
  have e : rdC n es q d k = movedE es (rdS n es q d k) d := rfl
  rw [e]; omega
theorem few20_in (k : Nat) : (rdC n es q d k).all inB = true := inB_all fun i _ => by have := few20_bd f k i; omega
theorem few20_len' (k : Nat) : (rdC n es q d k).length = n := rdC_len f.st.c.len k
theorem few20_given (k : Nat) : givenE n es (rdC n es q d k) = 0 := given19 f.st (few20_len' f k) (few20_in f k)
theorem few20_st (k : Nat) : stE n es q (rdC n es q d k) = 0 := st_mk f.st (few20_len' f k) (few20_in f k) ((rdS_leg f.st.g f.st.c.len (q := q) k).pos f.st.g f.st.c.len f.st.c.pos)
theorem few20_rounds (j kk : Nat) (hk : kk ≤ 4096) (hj : j ≤ r) : roundsR n es q (rdC n es q d j) (kk : Int) = (rdC n es q d (j + min kk (r - j)), rdS n es q (rdC n es q d j) (min kk (r - j)), 0) := by
  have hsm : ∀ k, sumI (rdS n es q (rdC n es q d j) k) ≤ 103680 := fun k => by
    have h1 := rdS_addsum f.st.g f.st.c.len (q := q) j k
    have h2 := (leg_small f.st f.b (rdS_leg f.st.g f.st.c.len (j + k))).2
    have h3 := (rdS_sum12 (es := es) (q := q) (d := d) f.st.n12 j).1
    omega
  have hw := went_at hsm (r := r - j) (by rw [rdC_add f.st.g f.st.c.len, show j + (r - j) = r by omega]; exact f.nil) (fun i hi => by rw [rdC_add f.st.g f.st.c.len]; exact f.live _ (by omega)) kk
  have hn := f.st.n12
  have hn1 := f.st.n1
  have hla : ∀ i, largeE (rdC n es q d i) = 0 := fun i => by
    have hl := few20_len' f i
    rw [largeE_all (by omega) (by omega), if_pos (few20_in f i)]
  have hpl : playedR n es q (rdC n es q d j) kk = (rdC n es q d (j + min kk (r - j)), rdS n es q (rdC n es q d j) (min kk (r - j)), ((min kk (r - j) : Nat) : Int), 0) := by
    rw [playedR, show plF (kk : Int) = kk by rw [plF, if_neg (by omega), Int.toNat_natCast], hw]
    dsimp only
    rw [rdC_add f.st.g f.st.c.len, if_neg (by simp), if_pos (hla _)]
  rw [roundsR, if_neg (by simp [few20_st f j]), if_neg (by omega), Int.toNat_natCast, hpl]
theorem few20_round (k : Nat) : roundR n es q (rdC n es q d k) = (rdC n es q d (k + 1), rdyL n es q (rdC n es q d k), 0) := by
  have hn := f.st.n12
  have hn1 := f.st.n1
  have hl := few20_len' f (k + 1)
  have hla : largeE (rdC n es q d (k + 1)) = 0 := by rw [largeE_all (by omega) (by omega), if_pos (few20_in f (k + 1))]
  rw [roundR, if_neg (by simp [few20_st f k]), Int.toNat_natCast, rdC_add f.st.g f.st.c.len, if_pos hla]
theorem few20_play (k : Nat) : playE n es (rdC n es q d k) (rdyL n es q (rdC n es q d k)) = (rdC n es q d (k + 1), (rdyL n es q (rdC n es q d k)).length, 0) ∧
    playE n es (rdC n es q d k) (rdyL n es q (rdC n es q d k)).reverse = (rdC n es q d (k + 1), (rdyL n es q (rdC n es q d k)).length, 0) := by
  have hnd := rdyL_nodup n es q (rdC n es q d k)
  have hms : ∀ v ∈ rdyL n es q (rdC n es q d k), ∃ u : Nat, v = u ∧ u < n ∧ rdyB n es q (rdC n es q d k) u = true := fun v hv => rdyK_mem hv
  have h12 := rdyL_12 f.st.g (q := q) (rdC n es q d k)
  refine ⟨play_any f.st f.b k hnd hms h12 (few20_given f k) rfl, ?_⟩
  have := play_any f.st f.b k (ms := (rdyL n es q (rdC n es q d k)).reverse) (List.pairwise_reverse.2 (hnd.imp fun h => Ne.symm h)) (fun v hv => hms v (by simpa using hv)) (by rw [List.length_reverse]; exact h12) (few20_given f k) incL_rev
  rw [List.length_reverse] at this
  exact this
end
theorem tmod40 (K : Nat) : (K : Int).tmod 40 = ((K % 40 : Nat) : Int) := rfl
set_option maxRecDepth 10000 in
theorem goeson_law (N : Int) (es : List Ed) (q : Int) (d : List Int) (K M : Nat) (hK : K ≤ 255) (hM : M ≤ 255) : PC Try.prog 10 [G N es, .i q, .agg [.is d, .v (.int .u8 K), .v (.int .u8 M)]] (.b true) [] := by
  have hK0 := wrap_id (n := (K : Int)) (by omega) (by omega)
  have hM0 := wrap_id (n := (M : Int)) (by omega) (by omega)
  have hK4 := tmod40 K
  have hM4 := tmod40 M
  obtain ⟨k, hk⟩ : ∃ k, k = K % 40 := ⟨_, rfl⟩
  obtain ⟨m, hm⟩ : ∃ m, m = M % 40 := ⟨_, rfl⟩
  have hk40 : k < 40 := by omega
  have hm40 : m < 40 := by omega
  rw [← hk] at hK4
  rw [← hm] at hM4
  refine PC_of_W cfn10 ?_
  simp -implicitDefEqProofs (disch := omega) [c10, List.getElem?_cons_zero, List.getElem?_cons_succ, wrap_id]
  refine HC_of_PC rfl (small20_ok N es q d) ?_
  cases hf : small20 N es q d
  · simp -implicitDefEqProofs (disch := omega) [List.getElem?_cons_zero, List.getElem?_cons_succ, wrap_id]
    refine HC_of_PC rfl (awake20_ok) ?_
    simp -implicitDefEqProofs (disch := omega) [List.getElem?_cons_zero, List.getElem?_cons_succ, wrap_id]
    (refine fin0 trivial rfl ?_; simp -implicitDefEqProofs (disch := omega) [List.getElem?_cons_zero, List.getElem?_cons_succ, idx, wrap_id])
  obtain ⟨hf1, h0, h60⟩ := small20_at hf
  obtain ⟨he, hd⟩ := few20_len hf1
  obtain ⟨n, rfl, h⟩ := st_ok h0
  obtain ⟨r, hr6, hnil, hlive, hw⟩ := went_small h (in60_get h60)
  have f : Few20 n es q d r := ⟨h, h0, in60_get h60, hnil, hlive, hw⟩
  have hn := h.n12
  have hdl := h.c.len
  simp -implicitDefEqProofs (disch := omega) [List.getElem?_cons_zero, List.getElem?_cons_succ, wrap_id]
  obtain ⟨k1, hk1⟩ : ∃ k1, k1 = min k r := ⟨_, rfl⟩
  obtain ⟨m1, hm1⟩ : ∃ m1, m1 = min m (r - k1) := ⟨_, rfl⟩
  have e1 : roundsR n es q d (k : Int) = (rdC n es q d k1, rdS n es q d k1, 0) := by
    have := few20_rounds f 0 k (by omega) (by omega)
    rwa [rdC_zero h.g hdl, Nat.sub_zero, Nat.zero_add, ← hk1] at this
  have e2 : roundsR n es q (rdC n es q d k1) (m : Int) = (rdC n es q d (k1 + m1), rdS n es q (rdC n es q d k1) m1, 0) := by
    have := few20_rounds f k1 m (by omega) (by omega)
    rwa [← hm1] at this
  have e3 : roundsR n es q d ((k : Int) + m) = (rdC n es q d (k1 + m1), rdS n es q d (k1 + m1), 0) := by
    have := few20_rounds f 0 (k + m) (by omega) (by omega)
    rw [rdC_zero h.g hdl, Nat.sub_zero, Nat.zero_add, show min (k + m) r = k1 + m1 by omega] at this
    push_cast at this
    exact this
  have e4 := few20_round f k1
  obtain ⟨e5, e6⟩ := few20_play f k1
  have hadd := rdS_add h.g hdl (q := q) (es := es) k1
  have hCl := few20_len' f
  have h12 := rdyL_12 h.g (q := q) (rdC n es q d k1)
  obtain ⟨S, hS⟩ : ∃ S, S = rdS n es q d k1 := ⟨_, rfl⟩
  obtain ⟨T, hT⟩ : ∃ T, T = rdS n es q (rdC n es q d k1) m1 := ⟨_, rfl⟩
  obtain ⟨U, hU⟩ : ∃ U, U = rdS n es q d (k1 + m1) := ⟨_, rfl⟩
  have hSl : S.length = n := by rw [hS]; exact rdS_len _
  have hTl : T.length = n := by rw [hT]; exact rdS_len _
  have hUl : U.length = n := by rw [hU]; exact rdS_len _
  have hSTU : ∀ i, i < n → S.getD i 0 + T.getD i 0 = U.getD i 0 ∧ 0 ≤ S.getD i 0 ∧ S.getD i 0 ≤ 10000 ∧ 0 ≤ T.getD i 0 ∧ T.getD i 0 ≤ 10000 := fun i hi => by
    have h1 := hadd i hi m1
    have h2 := rdS_bd (n := n) hn (es := es) (q := q) (d := d) i k1
    have h3 := rdS_bd (n := n) hn (es := es) (q := q) (d := rdC n es q d k1) i m1
    rw [hS, hT, hU]
    have : (k1 : Int) ≤ 40 := by omega
    have : (m1 : Int) ≤ 40 := by omega
    omega
  rw [← hS] at e1
  rw [← hT] at e2
  rw [← hU] at e3
  have l0 := hCl k1
  have l1 := hCl (k1 + m1)
  have l2 := hCl (k1 + 1)
  refine tree_join (s0 := ⟨[(7, .i k), (8, .i m), (5, .ptr 1 1 0 0), (3, .ptr 0 1 0 0), (1, .i q)], [.box (.p (G n es)), .box (.p (.agg [.is d, .v (.int .u8 K), .v (.int .u8 M)]))]⟩) ?_ ?_
  rotate_left
  · simp -implicitDefEqProofs (disch := omega) [List.getElem?_cons_zero, List.getElem?_cons_succ, wrap_id, hK0, hM0, hK4, hM4]
    repeat' (first
      | refine ⟨?_, ?_⟩
      | exact wk_norm [0, 1] [7, 8, 5, 3, 1] rfl rfl)
  simp -implicitDefEqProofs (disch := omega) [List.getElem?_cons_zero, List.getElem?_cons_succ, wrap_id]
  refine HC_of_PC rfl (rounds_ok n es q d he hd k) ?_
  simp -implicitDefEqProofs (disch := omega) [List.getElem?_cons_zero, List.getElem?_cons_succ, wrap_id, e1]
  refine HC_of_PC rfl (rounds_ok n es q (rdC n es q d k1) he (by omega) m) ?_
  simp -implicitDefEqProofs (disch := omega) [List.getElem?_cons_zero, List.getElem?_cons_succ, wrap_id, e2]
  refine HC_of_PC rfl (rounds_ok n es q d he hd ((k : Int) + m)) ?_
  simp -implicitDefEqProofs (disch := omega) [List.getElem?_cons_zero, List.getElem?_cons_succ, wrap_id, e3, hSl, hTl, hUl]
  refine HC_of_PC rfl (same20_17 (rdC n es q d (k1 + m1)) (by omega)) ?_
  simp -implicitDefEqProofs (disch := omega) [List.getElem?_cons_zero, List.getElem?_cons_succ, wrap_id, hSl]
  refine loopW n (fun v st => st = ⟨[(107, .i v), (106, .i n), (10, .p (.is S)), (13, .p (.is T)), (16, .p (.is U)), (9, .p (.is (rdC n es q d k1))), (3, .ptr 0 1 0 0), (1, .i q)], [.box (.p (G n es)), .box (.p (.agg [.is d, .v (.int .u8 K), .v (.int .u8 M)]))]⟩)
    (wk_norm [0, 1] [107, 106, 10, 13, 16, 9, 3, 1] rfl rfl) rfl ?_
  rintro v st hv rfl
  by_cases hlt : v < n
  · obtain ⟨a1, a2, a3, a4, a5⟩ := hSTU v hlt
    have hvS : v < S.length := by omega
    have hvT : v < T.length := by omega
    have hvU : v < U.length := by omega
    rw [getD_get hvS] at a1 a2 a3
    rw [getD_get hvT] at a1 a4 a5
    rw [getD_get hvU] at a1
    simp -implicitDefEqProofs (disch := omega) [List.getElem?_cons_zero, List.getElem?_cons_succ, wrap_id, hlt, hSl, hTl, hUl, a1]
    exact round_end [0, 1] [107, 106, 10, 13, 16, 9, 3, 1] hlt rfl rfl
  have hvn : v = n := by omega
  subst hvn
  simp -implicitDefEqProofs (disch := omega) [List.getElem?_cons_zero, List.getElem?_cons_succ, wrap_id]
  refine HC_of_PC rfl (round_ok v es q (rdC v es q d k1) he (by omega)) ?_
  simp -implicitDefEqProofs (disch := omega) [List.getElem?_cons_zero, List.getElem?_cons_succ, wrap_id, e4]
  obtain ⟨l, hl⟩ : ∃ l, l = rdyL v es q (rdC v es q d k1) := ⟨_, rfl⟩
  rw [← hl] at e5 e6 h12 ⊢
  have hrl : l.reverse.length = l.length := List.length_reverse
  refine HC_of_PC rfl (cloneI_ok l (by omega)) ?_
  simp -implicitDefEqProofs (disch := omega) [List.getElem?_cons_zero, List.getElem?_cons_succ, wrap_id]
  refine reverse_hc l (by omega) rfl ?_
  simp -implicitDefEqProofs (disch := omega) [List.getElem?_cons_zero, List.getElem?_cons_succ, wrap_id]
  refine HC_of_PC rfl (play_ok v es (rdC v es q d k1) l (by omega) (by omega) (by omega)) ?_
  simp -implicitDefEqProofs (disch := omega) [List.getElem?_cons_zero, List.getElem?_cons_succ, wrap_id, e5]
  refine HC_of_PC (by simp [views, view, viewC, hrl]) (play_ok v es (rdC v es q d k1) l.reverse (by omega) (by omega) (by omega)) ?_
  simp -implicitDefEqProofs (disch := omega) [List.getElem?_cons_zero, List.getElem?_cons_succ, wrap_id, e6]
  refine HC_of_PC rfl (same20_17 (rdC v es q d (k1 + 1)) (by omega)) ?_
  simp -implicitDefEqProofs (disch := omega) [List.getElem?_cons_zero, List.getElem?_cons_succ, wrap_id]
  refine HC_of_PC rfl (same20_17 (rdC v es q d (k1 + 1)) (by omega)) ?_
  simp -implicitDefEqProofs (disch := omega) [List.getElem?_cons_zero, List.getElem?_cons_succ, wrap_id]
  refine HC_of_PC rfl (awake20_ok) ?_
  simp -implicitDefEqProofs (disch := omega) [List.getElem?_cons_zero, List.getElem?_cons_succ, wrap_id]
  (refine fin0 trivial rfl ?_; simp -implicitDefEqProofs (disch := omega) [List.getElem?_cons_zero, List.getElem?_cons_succ, idx, wrap_id])
end Go.Proofs.Ytamiekhoaggpkaa
end
section
namespace Go
namespace Abs
open Go.RowKit
section
variable {H : Type} {enc : TypeId × Value → H} {P : Program} {w : World} {base : Nat} {spare : Nat → Bool} {held : Bool} {fuel : Nat} {cs : List Value} {x : DataW H × List MemPlace} {t : TypeId}
/-- What stands in memory now. -/
abbrev Here (w : World) : Nat → Prop := fun b => b < w.heap.size
theorem open_int (ht : P.underlying t = some (.int .i64)) (h : DataW.trod enc P w base spare held fuel t cs = some x) : ∃ n : Int, cs = [.int .i64 n] ∧ RP (Here w) w (.i n) (.int .i64 n) := by
  obtain ⟨n, h1, -, -⟩ := DataW.trod_int ht h
  exact ⟨n, h1, .v _ rfl⟩
theorem addr_plus {a : Addr} (h : a.spot = none) (n : Nat) : a.add n = ⟨a.block, a.off + n, none⟩ := by
  unfold Addr.add
  split
  · rename_i e; subst e; cases a; cases h; rfl
  · rfl
theorem cell_spot {a : Addr} {v : Value} (h : w.cell? a = some v) : a.spot = none ∧ a.block < w.heap.size := by
  unfold World.cell? at h
  split at h
  · rename_i c t' z hb
    split at h
    · cases h
    · rename_i hs
      exact ⟨by cases ha : a.spot; rfl; rw [ha] at hs; exact absurd rfl hs, (Array.getElem?_eq_some_iff.1 hb).1⟩
  · cases h
theorem open_sl {e : TypeId} {β : Type} (g : β → PV) (sz : Nat) (hpos : 0 < sz) (ht : P.underlying t = some (.slice e)) (hc : P.cellsOf e = sz) (hg : ∀ b, (g b).flat.length = sz ∧ ∀ q ∈ (g b).flat, q.one = true)
    (hel : ∀ {fuel : Nat} {cs : List Value} {x : DataW H × List MemPlace}, DataW.trod enc P w base spare held fuel e cs = some x → ∃ b, ∀ i (h : i < (g b).flat.length) (h' : i < cs.length), RP (Here w) w (g b).flat[i] cs[i])
    (h : DataW.trod enc P w base spare held fuel t cs = some x) : ∃ (bs : List β) (v : Value), cs = [v] ∧ RP (Here w) w (.sl (bs.map g)) v := by
  rcases DataW.trod_slice ht h with ⟨h0, -⟩ | ⟨a, len, cap, elems, rest, n, -, rfl, -, -, hl, hm, hlen, hels, -, -⟩
  · refine ⟨[], _, h0, ?_⟩
    exact .sl [] none 0 0 (fun _ _ => undef) (by simp) (by simp) (fun i h => by simp at h) (.inl rfl) (fun i h => by simp at h)
  have each : ∀ i : _root_.Fin len, ∃ p : List Value × β, w.cells? base (a.add (i.1 * P.cellsOf e)) (P.cellsOf e) = some p.1 ∧ ∀ j (h : j < (g p.2).flat.length) (h' : j < p.1.length), RP (Here w) w (g p.2).flat[j] p.1[j] := by
    intro i
    have hb := hels i.1 i.2
    rw [List.getElem?_eq_getElem (by omega), Option.bind_eq_some_iff] at hb
    obtain ⟨cs', h1, h2⟩ := hb
    obtain ⟨b, hb⟩ := hel h2
    exact ⟨⟨cs', b⟩, h1, hb⟩
  obtain ⟨F, hF⟩ : ∃ F : _root_.Fin len → List Value × β, ∀ i, w.cells? base (a.add (i.1 * P.cellsOf e)) (P.cellsOf e) = some (F i).1 ∧ ∀ j (h : j < (g (F i).2).flat.length) (h' : j < (F i).1.length), RP (Here w) w (g (F i).2).flat[j] (F i).1[j] :=
    ⟨fun i => (each i).choose, fun i => (each i).choose_spec⟩
  refine ⟨List.ofFn fun i => (F i).2, _, rfl, ?_⟩
  have hlen' : ((List.ofFn fun i => (F i).2).map g).length = len := by simp
  have hsz : ∀ i, (F i).1.length = sz := fun i => by rw [(World.cells?_some (hF i).1).2.1, hc]
  have hcell : ∀ i : _root_.Fin len, ∀ j (hj : j < sz), w.cell? ((a.add (i.1 * sz)).add j) = some ((F i).1[j]'(by rw [hsz]; exact hj)) := by
    intro i j hj
    have := (World.cells?_some (hF i).1).2.2 j (by rw [hc]; exact hj)
    rw [hc] at this
    rw [this, List.getElem?_eq_getElem]
  have main := RP.sl (S := Here w) (w := w) ((List.ofFn fun i => (F i).2).map g) (some a) cap sz (fun i j => if h : i < len then (F ⟨i, h⟩).1.getD j undef else undef) (by rw [hlen']; exact hl) hm (fun i hi => by
      rw [List.getElem_map]; exact hg _) ?_ ?_
  · rw [hlen'] at main
    exact main
  · rcases Nat.eq_zero_or_pos len with h0 | h0
    · left
      exact List.eq_nil_of_length_eq_zero (by rw [hlen', h0])
    · right
      have h1 := hcell ⟨0, h0⟩ 0 hpos
      simp only [Nat.zero_mul] at h1
      have h2 : a.add 0 = a := rfl
      rw [h2, h2] at h1
      obtain ⟨s1, s2⟩ := cell_spot h1
      refine ⟨a.block, a.off, by cases a; cases s1; rfl, s2, fun i j hi hj => ?_⟩
      rw [hlen'] at hi
      have h3 := hcell ⟨i, hi⟩ j hj
      rw [addr_plus s1, addr_plus rfl] at h3
      rw [dif_pos hi]
      refine h3.trans ?_
      rw [List.getD_eq_getElem?_getD, List.getElem?_eq_getElem]
      rfl
  · intro i hi j hj
    rw [hlen'] at hi
    simp only [List.getElem_map, List.getElem_ofFn] at hj ⊢
    rw [dif_pos hi, List.getD_eq_getElem?_getD, List.getElem?_eq_getElem (by rw [hsz, ← (hg (F ⟨i, hi⟩).2).1]; exact hj)]
    exact (hF ⟨i, hi⟩).2 j hj _
end
end Abs
end Go
/-
  Handed arguments of any shape, as values of the abstract machine.
-/
namespace Go
namespace Abs
open Go.RowKit Go.ChangeShapes Go.WideShapes Go.ChangeAt
/-- Whatever is read at a type is one of these values. -/
structure Opens (P : Program) (t : TypeId) {β : Type} (g : β → PV) : Prop where
  one : ∀ b, ∀ q ∈ (g b).flat, q.one = true
  len : ∀ b, (g b).flat.length = P.cellsOf t
  red : ∀ {H : Type} {enc : TypeId × Value → H} {w : World} {base : Nat} {spare : Nat → Bool} {held : Bool} {fuel : Nat} {cs : List Value} {x : DataW H × List MemPlace},
    DataW.trod enc P w base spare held fuel t cs = some x → ∃ b, RPs (Here w) w (g b).flat cs
theorem flat_agg (l : List PV) : (PV.agg l).flat = l := rfl
section
variable {P : Program} {t : TypeId}
theorem Opens.to {β γ : Type} {g : β → PV} {g' : γ → PV} (h : Opens P t g) (f : β → γ) (k : γ → β) (e : ∀ b, g b = g' (f b)) (e' : ∀ c, g' c = g (k c)) : Opens P t g' := by
  refine ⟨fun b => ?_, fun b => ?_, fun hr => ?_⟩
  · rw [e' b]; exact h.one _
  · rw [e' b]; exact h.len _
  · obtain ⟨b, hb⟩ := h.red hr
    exact ⟨f b, e b ▸ hb⟩
theorem RPs_one {S : Nat → Prop} {w : World} {x : PV} {v : Value} (h : RP S w x v) : RPs S w [x] [v] := ⟨rfl, fun i hi hi' => by
  have : i = 0 := by simp at hi; omega
  subst this; exact h⟩
theorem RPs_app {S : Nat → Prop} {w : World} {a b : List PV} {cs : List Value} (h1 : RPs S w a (cs.take a.length)) (h2 : RPs S w b (cs.drop a.length)) : RPs S w (a ++ b) cs := by
  have l1 := h1.1
  have l2 := h2.1
  simp only [List.length_take, List.length_drop] at l1 l2
  refine ⟨by rw [List.length_append]; omega, fun i hi hi' => ?_⟩
  by_cases hc : i < a.length
  · have := h1.2 i hc (by simp; omega)
    rw [List.getElem_take] at this
    rw [List.getElem_append_left hc]
    exact this
  · have := h2.2 (i - a.length) (by rw [List.length_append] at hi; omega) (by simp; omega)
    rw [List.getElem_append_right (by omega)]
    simp only [List.getElem_drop] at this
    have e : a.length + (i - a.length) = i := by omega
    simp only [e] at this
    exact this
theorem opens_int (ht : P.underlying t = some (.int .i64)) (hc : P.cellsOf t = 1) : Opens P t PV.i := by
  refine ⟨fun b q hq => by simp [PV.flat] at hq; subst hq; rfl, fun b => by rw [hc]; rfl, fun h => ?_⟩
  obtain ⟨n, rfl, hr⟩ := open_int ht h
  exact ⟨n, RPs_one hr⟩
theorem opens_slice {e : TypeId} {β : Type} {g : β → PV} (he : Opens P e g) (ht : P.underlying t = some (.slice e)) (hp : 0 < P.cellsOf e) (hc : P.cellsOf t = 1) : Opens P t (fun l : List β => PV.sl (l.map g)) := by
  refine ⟨fun b q hq => by simp [PV.flat] at hq; subst hq; rfl, fun b => by rw [hc]; rfl, fun h => ?_⟩
  obtain ⟨bs, v, rfl, hr⟩ := open_sl g (P.cellsOf e) hp ht rfl (fun b => ⟨he.len b, he.one b⟩) (fun h => by
    obtain ⟨b, hb⟩ := he.red h
    exact ⟨b, fun i hi hi' => hb.2 i hi hi'⟩) h
  exact ⟨bs, RPs_one hr⟩
theorem opens_struct2 {f0 f1 : Field} {β γ : Type} {g0 : β → PV} {g1 : γ → PV} (h0 : Opens P f0.type g0) (h1 : Opens P f1.type g1) (ht : P.underlying t = some (.struct #[f0, f1]))
    (ho0 : f0.offset = 0) (ho1 : f1.offset = P.cellsOf f0.type) (hc : P.cellsOf t = P.cellsOf f0.type + P.cellsOf f1.type) : Opens P t (fun p : β × γ => PV.agg ((g0 p.1).flat ++ (g1 p.2).flat)) := by
  refine ⟨fun b q hq => ?_, fun b => ?_, fun h => ?_⟩
  · simp only [flat_agg, List.mem_append] at hq
    exact hq.elim (h0.one _ _) (h1.one _ _)
  · simp only [flat_agg, List.length_append, h0.len, h1.len, hc]
  · obtain ⟨y0, y1, n, -, hl, k0, k1⟩ := trod_struct2 ht h
    obtain ⟨b0, r0⟩ := h0.red k0
    obtain ⟨b1, r1⟩ := h1.red k1
    refine ⟨(b0, b1), RPs_app ?_ ?_⟩
    · rw [h0.len]; rw [ho0, List.drop_zero] at r0; exact r0
    · rw [h0.len]; rw [ho1, List.take_of_length_le (by rw [List.length_drop]; omega)] at r1; exact r1
theorem opens_struct3 {f0 f1 f2 : Field} {β γ δ : Type} {g0 : β → PV} {g1 : γ → PV} {g2 : δ → PV} (h0 : Opens P f0.type g0) (h1 : Opens P f1.type g1) (h2 : Opens P f2.type g2) (ht : P.underlying t = some (.struct #[f0, f1, f2]))
    (ho0 : f0.offset = 0) (ho1 : f1.offset = P.cellsOf f0.type) (ho2 : f2.offset = P.cellsOf f0.type + P.cellsOf f1.type) (hc : P.cellsOf t = P.cellsOf f0.type + P.cellsOf f1.type + P.cellsOf f2.type) :
    Opens P t (fun p : β × γ × δ => PV.agg ((g0 p.1).flat ++ ((g1 p.2.1).flat ++ (g2 p.2.2).flat))) := by
  refine ⟨fun b q hq => ?_, fun b => ?_, fun h => ?_⟩
  · simp only [flat_agg, List.mem_append] at hq
    rcases hq with hq | hq | hq
    · exact h0.one _ _ hq
    · exact h1.one _ _ hq
    · exact h2.one _ _ hq
  · simp only [flat_agg, List.length_append, h0.len, h1.len, h2.len, hc]
    omega
  · obtain ⟨y0, y1, y2, n, -, hl, k0, k1, k2⟩ := Go.Deep.trod_struct3 ht h
    obtain ⟨b0, r0⟩ := h0.red k0
    obtain ⟨b1, r1⟩ := h1.red k1
    obtain ⟨b2, r2⟩ := h2.red k2
    refine ⟨(b0, b1, b2), RPs_app ?_ (RPs_app ?_ ?_)⟩
    · rw [h0.len]; rw [ho0, List.drop_zero] at r0; exact r0
    · rw [h0.len, h1.len]; rw [ho1] at r1; exact r1
    · rw [h0.len, h1.len, List.drop_drop]; rw [ho2, List.take_of_length_le (by rw [List.length_drop]; omega)] at r2; exact r2
section
variable {H : Type} {enc : TypeId × Value → H} {w : World} {base : Nat} {spare : Nat → Bool} {held : Bool} {v : Value} {d : DataW H} {p : List MemPlace} {r : Reach} {base' : Nat} {β : Type} {g : β → PV}
theorem arg_one (h : Opens P t g) (hg : ∀ b, (g b).flat = [g b]) (hv : v.cells.toList = [v]) (hd : DataW.Trod enc P w base spare held t v d p) : ∃ b, RP (Here w) w (g b) v := by
  obtain ⟨m, hm⟩ := hd
  obtain ⟨b, hb⟩ := h.red hm
  refine ⟨b, ?_⟩
  rw [hg b, hv] at hb
  exact hb.2 0 (by simp) (by simp)
theorem arg_int {g : β → PV} (h : Opens P t g) (ht : P.underlying t = some (.int .i64)) (hg : ∀ b, (g b).flat = [g b]) (hw : Value.okWide P w r base' t v) (hd : DataW.Trod enc P w base spare held t v d p) : ∃ b, RP (Here w) w (g b) v := by
  obtain ⟨n, rfl⟩ := okWide_int ht hw
  exact arg_one h hg rfl hd
theorem arg_agg {cs : Array Value} (h : Opens P t g) (hg : ∀ b, g b = .agg (g b).flat) (hd : DataW.Trod enc P w base spare held t (.agg cs) d p) : ∃ b, RP (Here w) w (g b) (.agg cs) := by
  obtain ⟨m, hm⟩ := hd
  obtain ⟨b, hb⟩ := h.red hm
  refine ⟨b, ?_⟩
  rw [hg b]
  exact .agg _ _ hb.1 (h.one b) fun i hi hi' => hb.2 i hi hi'
theorem arg_struct {fs : Array Field} (h : Opens P t g) (ht : P.underlying t = some (.struct fs)) (hg : ∀ b, g b = .agg (g b).flat) (hw : Value.okWide P w r base' t v) (hd : DataW.Trod enc P w base spare held t v d p) : ∃ b, RP (Here w) w (g b) v := by
  obtain ⟨cs, rfl, -⟩ := okWide_struct ht hw
  exact arg_agg h hg hd
end
end
end Abs
end Go
end
section
namespace Go.Proofs.Ytamiekhoaggpkaa
open Go.Abs Go.Sand Go.ChangeShapes Go.WideShapes Go.ChangeAt Go.RowKit
theorem own : ownKnob Try.prog.godebug = none := by kernel_rfl
theorem laidOut : laidOutB Try.prog = true := by kernel_rfl
theorem cells_int : Try.prog.cellsOf 3 = 1 := by kernel_rfl
theorem cells_div : Try.prog.cellsOf 26 = 1 := by kernel_rfl
theorem cells_edges : Try.prog.cellsOf 22 = 1 := by kernel_rfl
theorem cells_edge : Try.prog.cellsOf 139 = 3 := by kernel_rfl
theorem cells_graph : Try.prog.cellsOf 24 = 2 := by kernel_rfl
theorem o_int : Opens Try.prog 3 PV.i := opens_int Try.underlying3 cells_int
theorem o_div : Opens Try.prog 26 PV.is := opens_slice o_int Try.underlying26 (by rw [cells_int]; decide) cells_div
theorem o_edge : Opens Try.prog 139 edP :=
  (opens_struct3 o_int o_int o_int Try.underlying139 rfl cells_int.symm (by rw [cells_int]) (by rw [cells_int, cells_edge])).to (fun p => ⟨p.1, p.2.1, p.2.2⟩) (fun e => (e.a, e.b, e.m)) (fun _ => rfl) (fun _ => rfl)
theorem o_edges : Opens Try.prog 22 (fun l : List Ed => PV.sl (l.map edP)) := opens_slice o_edge Try.underlying22 (by rw [cells_edge]; decide) cells_edges
theorem o_graph : Opens Try.prog 24 (fun p : Int × List Ed => G p.1 p.2) :=
  opens_struct2 o_int o_edges Try.underlying24 rfl cells_int.symm (by rw [cells_int, cells_edges, cells_graph])
/-- A contract that leaves true serves as the walk. -/
theorem walk_of {f : FuncId} {ps : List PV} {vs : List Value} {w : World} (h : PC Try.prog f ps (.b true) []) (hr : RPs (Here w) w ps vs) : Calls Try.prog f vs.toArray w fun e w' => e = .returned (.bool true) ∧ Below w.heap.size w w' := by
  refine (h w (fun _ => True) vs ⟨hr.1, fun i hi hi' => (hr.2 i hi hi').mono fun b hb => ⟨⟨hb, trivial⟩, rfl⟩⟩).mono ?_
  rintro e w' ⟨v, φ, rfl, -, hv, hb⟩
  refine ⟨?_, hb⟩
  have := hv.lit
  rw [this.1]
end Go.Proofs.Ytamiekhoaggpkaa
end
section
namespace Go.Proofs.Ytamiekhoaggpkaa
open Go.Abs Go.Sand Go.ChangeShapes Go.WideShapes Go.ChangeAt Go.RowKit
theorem opens_u8 {P : Program} {t : TypeId} (ht : P.underlying t = some (.int .u8)) (hc : P.cellsOf t = 1) : Opens P t (fun K : {K : Nat // K ≤ 255} => PV.v (.int .u8 (K.1 : Int))) := by
  refine ⟨fun b q hq => by simp [PV.flat] at hq; subst hq; rfl, fun b => by rw [hc]; rfl, fun h => ?_⟩
  obtain ⟨n, rfl, -, hw⟩ := DataW.trod_int ht h
  have hb : 0 ≤ n ∧ n ≤ 255 := by
    simp only [Lit.wf, Bool.and_eq_true, decide_eq_true_eq] at hw
    have e1 : IntKind.u8.min = 0 := rfl
    have e2 : IntKind.u8.max = 255 := rfl
    omega
  obtain ⟨m, rfl⟩ : ∃ m : Nat, n = m := ⟨n.toNat, by omega⟩
  exact ⟨⟨m, by omega⟩, RPs_one (.v _ rfl)⟩
theorem cells_u8 : Try.prog.cellsOf 5 = 1 := by kernel_rfl
theorem cells_play : Try.prog.cellsOf 71 = 3 := by kernel_rfl
theorem o_u8 : Opens Try.prog 5 (fun K : {K : Nat // K ≤ 255} => PV.v (.int .u8 (K.1 : Int))) := opens_u8 Try.underlying5 cells_u8
theorem o_play : Opens Try.prog 71 (fun p : List Int × {K : Nat // K ≤ 255} × {K : Nat // K ≤ 255} => PV.agg [.is p.1, .v (.int .u8 (p.2.1.1 : Int)), .v (.int .u8 (p.2.2.1 : Int))]) :=
  opens_struct3 o_div o_u8 o_u8 Try.underlying71 rfl cells_div.symm (by rw [cells_div, cells_u8]) (by rw [cells_div, cells_u8, cells_play])
end Go.Proofs.Ytamiekhoaggpkaa
end
