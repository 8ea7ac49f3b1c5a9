/-
  Contracts: the reference's legal orders.
-/
import Derived.Test.YtgjaekbbdmhjlaaJj
set_option linter.unusedSimpArgs false
set_option linter.unusedVariables false
namespace Go.Proofs.Ytgjaekbbdmhjlaa
open Go.Abs Go.Sand

/-- The first of some vertices that is still to be fired. -/
def nxW (rest : List Int) : List Int → Int
  | [] => -1
  | x :: l => if 0 < rest.getD x.toNat 0 then x else nxW rest l
theorem nxW_pck {n : Nat} {es : List Ed} {q : Int} {d s r : List Int} (hs : s.length = n) (hle : ∀ i, r.getD i 0 ≤ s.getD i 0) : nxW (rstL n s r) (unsK n es q (movedE es r d) n) = match pckF n es q d s r with | none => -1 | some v => (v : Int) := by
  have key : ∀ l : List Nat, (∀ v ∈ l, v < n) → nxW (rstL n s r) ((l.filter fun v => unstB n es q (movedE es r d) v).map fun v : Nat => (v : Int)) = match l.find? (fun v => decide (r.getD v 0 ≠ s.getD v 0) && unstB n es q (movedE es r d) v) with | none => -1 | some v => (v : Int) := by
    intro l
    induction l with
    | nil => intro _; rfl
    | cons v l ih =>
      intro h
      have hv := h v (by simp)
      have ih := ih fun u hu => h u (by simp [hu])
      have h1 := rstL_get (s := s) (r := r) hv
      have h2 := hle v
      rw [List.filter_cons, List.find?_cons]
      cases hu : unstB n es q (movedE es r d) v with
      | false => rw [if_neg (by simp), Bool.and_false]; exact ih
      | true =>
        rw [if_pos rfl, List.map_cons, nxW, Int.toNat_natCast, h1, Bool.and_true]
        by_cases h3 : r.getD v 0 = s.getD v 0
        · rw [if_neg (by omega), decide_eq_false (by rw [ne_eq, Decidable.not_not]; exact h3)]
          exact ih
        · rw [if_pos (by omega), decide_eq_true h3]
  exact key (List.range n) fun v hv => List.mem_range.1 hv
theorem unsK_vtx {n k : Nat} {es : List Ed} {q : Int} {c : List Int} : ∀ x ∈ unsK n es q c k, 0 ≤ x ∧ x < k := by
  intro x hx
  obtain ⟨v, hv, rfl⟩ := List.mem_map.1 hx
  have := List.mem_range.1 (List.mem_filter.1 hv).1
  omega
theorem one_add {n v : Nat} (hv : v < n) (i : Nat) : (ofL n [(v : Int)] 1).getD i 0 = if i = v then 1 else 0 := by
  show ((List.replicate n 0).set (v : Int).toNat 1).getD i 0 = _
  rw [Int.toNat_natCast, getD_set, zeros_get]
  by_cases h : i = v
  · subst h; simp [hv]
  · rw [if_neg (by omega), if_neg h]
section
variable (n : Nat) (es : List Ed) (q : Int) (d s : List Int) (hel : es.length ≤ 900) (h : GvOk n es q d s) (hnn : ∀ i, 0 ≤ s.getD i 0) (T : Nat) (hT : sumI s = T) (hT4 : T ≤ 4096)
include hel h hnn hT hT4
set_option maxRecDepth 20000 in
theorem ordered_ok : PC Try.prog 54 [G n es, .i q, .is d, .is s] (.tup [.p (.is (ordR n es q d s T).1), .b (ordR n es q d s T).2]) [] := by
  have hn := h.st.n12
  have hsl := h.len
  have hdl := h.st.c.len
  have hg := h.st.g
  have hn6 : n ≤ 1048576 := by omega
  refine PC_of_W cfn54 ?_
  simp -implicitDefEqProofs (disch := omega) [c54, List.getElem?_cons_zero, List.getElem?_cons_succ, wrap_id, hsl, hdl, hn6]
  refine loopW n (fun k st => st = ⟨[(13, .i k), (12, .i (sumI (s.take k))), (10, .p (.is d)), (11, .os 1 0 n), (4, .ptr 0 1 0 0), (1, .i q), (3, .p (.is s))], [.box (.p (G n es)), rowI s]⟩) (wk_norm [0, 2] [13, 12, 10, 11, 4, 1, 3] rfl (by simp -implicitDefEqProofs [-AO.ren, norm, renH, ren_box, ren_row, Abs.get, AV.ren, idx_at, idx_at0, hdl, hsl]; rfl)) rfl ?_
  rintro k st hk rfl
  by_cases hlt : k < n
  · have hks : k < s.length := by omega
    have hsum := sumI_snoc s k hks
    have hsb := sumT_bd h.bd k (by omega)
    have hsk := h.bd k
    rw [getD_get hks] at hsk
    simp -implicitDefEqProofs (disch := omega) [List.getElem?_cons_zero, List.getElem?_cons_succ, wrap_id, hlt, hks]
    exact round_end [0, 1] [13, 12, 10, 11, 4, 1, 3] hlt rfl (by rw [hsum]; rfl)
  have hkn : k = n := by omega
  subst hkn
  rw [List.take_of_length_le (by omega), hT]
  simp -implicitDefEqProofs (disch := omega) [List.getElem?_cons_zero, List.getElem?_cons_succ, wrap_id]
  refine loopW T (fun m st => LgI k es q d s m ∧ st = ⟨[(14, .os 2 0 m), (12, .i T), (10, .p (.is (movedE es (ordS k es q d s m) d))), (11, .os 1 0 k), (4, .ptr 0 1 0 0), (1, .i q)], [.box (.p (G k es)), rowI (rstL k s (ordS k es q d s m)), rowI (ordM k es q d s m)]⟩) ((Wk_nil 14 1 3 rfl).trans (Wk_keep [14, 12, 10, 11, 4, 1])) ⟨⟨rfl⟩, by simp only [ordS, ordM]; rw [← rstL_0 hsl, aft_zero hg hdl]; rfl⟩ ?_
  rintro m st hm ⟨hM, rfl⟩
  have hml := hM.len
  have hleg := ord_leg (n := k) (es := es) (q := q) (d := d) (s := s) m
  have hle := ord_le (n := k) (es := es) (q := q) (d := d) (s := s) hnn m
  by_cases hmT : m < T
  rotate_left
  · have e : m = T := by omega
    subst e
    have hr := ordR_yes (n := k) (es := es) (q := q) (d := d) (s := s) hml
    simp -implicitDefEqProofs (disch := omega) [List.getElem?_cons_zero, List.getElem?_cons_succ, wrap_id, hml]
    (refine fin0 trivial rfl ?_; simp -implicitDefEqProofs (disch := omega) [List.getElem?_cons_zero, List.getElem?_cons_succ, idx, wrap_id, hr, hml])
  obtain ⟨r, hr⟩ : ∃ r, r = ordS k es q d s m := ⟨_, rfl⟩
  have hrl : r.length = k := by rw [hr]; exact hleg.len
  have hRl := rstL_len k s r
  have hcl : (movedE es r d).length = k := by rw [movedE_length, hdl]
  rw [← hr] at hleg hle ⊢
  have hmTi : (m : Int) < T := by omega
  simp -implicitDefEqProofs (disch := omega) [List.getElem?_cons_zero, List.getElem?_cons_succ, wrap_id, hml, hmTi]
  refine HC_of_PC rfl (waiting_ok k es q (movedE es r d) hel hg hcl) ?_
  have hpk := nxW_pck (es := es) (q := q) (d := d) hsl hle
  have hwv := unsK_vtx (n := k) (k := k) (es := es) (q := q) (c := movedE es r d)
  have hwl := unsK_len k es q (movedE es r d) k
  obtain ⟨w, hw⟩ : ∃ w, w = unsK k es q (movedE es r d) k := ⟨_, rfl⟩
  rw [← hw] at hpk hwv hwl ⊢
  simp -implicitDefEqProofs (disch := omega) [List.getElem?_cons_zero, List.getElem?_cons_succ, wrap_id]
  refine loopW w.length (fun j st => st = ⟨[(17, .i ((w.length : Int) - 1 - j)), (16, .i (nxW (rstL k s r) (w.drop (w.length - j)))), (15, .p (.is w)), (14, .os 2 0 m), (12, .i T), (10, .p (.is (movedE es r d))), (11, .os 1 0 k), (4, .ptr 0 1 0 0), (1, .i q)], [.box (.p (G k es)), rowI (rstL k s r), rowI (ordM k es q d s m)]⟩) (Wk_keep [17, 16, 15, 14, 12, 10, 11, 4, 1]) (by simp [Abs.get, nxW]) ?_
  rintro j st hj rfl
  by_cases hjl : j < w.length
  · obtain ⟨i, hi⟩ : ∃ i : Nat, i = w.length - 1 - j := ⟨_, rfl⟩
    have hiw : i < w.length := by omega
    have hie : (w.length : Int) - 1 - j = i := by omega
    have hi0 : ¬ (i : Int) < 0 := by omega
    have hdr : w.drop (w.length - (j + 1)) = w[i] :: w.drop (w.length - j) := by
      rw [show w.length - (j + 1) = i by omega, List.drop_eq_getElem_cons hiw, show i + 1 = w.length - j by omega]
    have hwi := hwv w[i] (List.getElem_mem hiw)
    obtain ⟨x, hx⟩ : ∃ x : Nat, w[i] = x := ⟨w[i].toNat, by omega⟩
    have hxk : x < k := by omega
    have hxR : x < (rstL k s r).length := by omega
    have hgx := getD_get hxR
    have hnx : nxW (rstL k s r) (w.drop (w.length - (j + 1))) = if 0 < (rstL k s r)[x] then (x : Int) else nxW (rstL k s r) (w.drop (w.length - j)) := by
      rw [hdr, nxW, hx, Int.toNat_natCast, hgx]
    have hstep : (w.length : Int) - 1 - ((j + 1 : Nat) : Int) = (i : Int) - 1 := by omega
    rw [hie]
    by_cases h1 : 0 < (rstL k s r)[x]
    · rw [if_pos h1] at hnx
      simp -implicitDefEqProofs (disch := omega) [List.getElem?_cons_zero, List.getElem?_cons_succ, wrap_id, hiw, hx, hxk, hxR, hRl, h1, hi0]
      exact round_keep [17, 16, 15, 14, 12, 10, 11, 4, 1] hjl (by rw [hnx, hstep]; rfl)
    · rw [if_neg h1] at hnx
      simp -implicitDefEqProofs (disch := omega) [List.getElem?_cons_zero, List.getElem?_cons_succ, wrap_id, hiw, hx, hxk, hxR, hRl, h1, hi0]
      exact round_keep [17, 16, 15, 14, 12, 10, 11, 4, 1] hjl (by rw [hnx, hstep]; rfl)
  have hjw : j = w.length := by omega
  subst hjw
  have hm1 : (w.length : Int) - 1 - w.length = -1 := by omega
  rw [hm1, Nat.sub_self, List.drop_zero, hpk]
  cases hp : pckF k es q d s r with
  | none =>
    have hp' := hp
    rw [hr] at hp'
    have e2 := ordR_no hmT hp'
    simp -implicitDefEqProofs (disch := omega) [List.getElem?_cons_zero, List.getElem?_cons_succ, wrap_id]
    refine finW (Wk_nil0 8 rfl) ?_
    (refine fin0 trivial rfl ?_; simp -implicitDefEqProofs (disch := omega) [List.getElem?_cons_zero, List.getElem?_cons_succ, idx, wrap_id, e2])
  | some v =>
    obtain ⟨hvk, hvne, hvq, hvu⟩ := pckF_some hp
    have hp' := hp
    rw [hr] at hp'
    obtain ⟨e3, e4⟩ := ord_succ hp'
    rw [← hr] at e3
    have hvR : v < (rstL k s r).length := by omega
    have hgv := getD_get hvR
    have hs2 := congrArg (List.map PV.i) (rstL_set (s := s) hvk hrl)
    rw [List.map_set, hgv] at hs2
    have hb1 := h.bd v
    have hb2 := hleg.nn v
    have hrv := rstL_get (s := s) (r := r) hvk
    rw [hgv] at hrv
    have hlev := hle v
    have hv0 : ¬ (v : Int) < 0 := by omega
    have hmv : movedE es (ofL k [(v : Int)] 1) (movedE es r d) = movedE es (moreS r v 1) d := moved_two hg.right 0 hdl fun i hi => by
      rw [moreS_get _ _ _ (by rw [hrl]; exact hvk), one_add hvk]
      omega
    have hm1 : m ≤ 1048575 := by omega
    have hOl : (ofL k [(v : Int)] 1).length = k := by
      show ((List.replicate k 0).set (v : Int).toNat 1).length = k
      simp
    have hOb : Bd 1048576 (ofL k [(v : Int)] 1) := fun i => by rw [one_add hvk]; split <;> omega
    simp -implicitDefEqProofs (disch := omega) [List.getElem?_cons_zero, List.getElem?_cons_succ, wrap_id, hv0]
    refine HC_of_PC rfl (one_ok k v es 1 (by omega) hvk) ?_
    simp -implicitDefEqProofs (disch := omega) [List.getElem?_cons_zero, List.getElem?_cons_succ, wrap_id]
    refine HC_of_PC rfl (rmoved_ok k es (ofL k [(v : Int)] 1) (movedE es r d) hg hOl hcl (by omega) hOb (fun i => by have := aft_bd hg hleg h.st.c i; omega)) ?_
    rw [hmv, ← e3]
    simp -implicitDefEqProofs (disch := omega) [List.getElem?_cons_zero, List.getElem?_cons_succ, wrap_id, hvk, hvR, hRl, hs2, hml, hm1]
    refine round_end' (by omega) (Wk_pop 3 [14, 12, 10, 11, 4, 1] (by simp) (by simp) (H' := [.box (.p (G k es)), rowI (rstL k s (ordS k es q d s (m + 1))), rowI (ordM k es q d s (m + 1))]) ?_ ?_ ?_) ⟨hM.succ hp', rfl⟩
    · rw [e3, e4]; simp
    · intro i hi
      simp only [List.mem_cons, List.not_mem_nil, or_false] at hi
      rcases hi with rfl | rfl | rfl | rfl | rfl | rfl <;> simp [Abs.get, loA]
    · intro ob hob
      simp only [List.mem_cons, List.not_mem_nil, or_false] at hob
      rcases hob with rfl | rfl | rfl <;> rfl
end
section
variable (N : Int) (es : List Ed) (q : Int) (d s : List Int) (hel : es.length ≤ 900) (hd : d.length ≤ 1000) (hs : s.length ≤ 1000)
include hel hd hs
theorem rlegal22_ok : PC Try.prog 27 [G N es, .i q, .is d, .is s] (.tup [.p (.is (lgR N es q d s).1), .b (lgR N es q d s).2, .i (lgE N es q d s)]) [] := by
  refine PC_of_W cfn27 ?_
  simp -implicitDefEqProofs (disch := omega) [c27, List.getElem?_cons_zero, List.getElem?_cons_succ, wrap_id]
  refine HC_of_PC rfl (rgiven22_ok N es q d s hel hd hs) ?_
  by_cases h0 : gvE N es q d s = 0
  rotate_left
  · have e : lgE N es q d s = gvE N es q d s := by rw [lgE, if_pos h0]
    have e2 : lgR N es q d s = ([], false) := by rw [lgR, if_neg (by rw [e]; exact h0)]
    simp -implicitDefEqProofs (disch := omega) [List.getElem?_cons_zero, List.getElem?_cons_succ, wrap_id, h0]
    refine finW (Wk_nil0 8 rfl) ?_
    (refine fin0 trivial rfl ?_; simp -implicitDefEqProofs (disch := omega) [List.getElem?_cons_zero, List.getElem?_cons_succ, idx, wrap_id, e, e2])
  obtain ⟨n, rfl, h⟩ := gv_ok h0
  have hn := h.st.n12
  have hsl := h.len
  obtain ⟨p, rfl⟩ : ∃ p : Nat, q = p := ⟨q.toNat, by have := h.st.q0; omega⟩
  have hpn : p < n := by have := h.st.qn; omega
  have hps : p < s.length := by omega
  have hgp := getD_get hps
  have eL : lgE n es p d s = if badB n p s = true then 2 else if 4096 < sumI s then 12 else 0 := by rw [lgE, if_neg (by simp [h0]), Int.toNat_natCast]
  simp -implicitDefEqProofs (disch := omega) [List.getElem?_cons_zero, List.getElem?_cons_succ, wrap_id, h0]
  refine loopW n (fun k st => (∀ v, v < k → 0 ≤ s.getD v 0) ∧ st = ⟨[(13, .i k), (12, .i (sumI (s.take k))), (4, .ptr 0 1 0 0), (1, .i p), (2, .p (.is d)), (3, .p (.is s))], [.box (.p (G n es))]⟩) (wk_norm [0] [13, 12, 4, 1, 2, 3] rfl rfl) ⟨fun u hu => by omega, rfl⟩ ?_
  rintro k st hk ⟨hI, rfl⟩
  by_cases hlt : k < n
  · have hks : k < s.length := by omega
    have hgk := getD_get hks
    have hsum := sumI_snoc s k hks
    have hsb := sumT_bd h.bd k (by omega)
    have hsk := h.bd k
    rw [hgk] at hsk
    by_cases h1 : s[k] < 0
    · have hb : badB n p s = true := badB_yes hlt (.inl (by rw [hgk]; exact h1))
      rw [hb, if_pos rfl] at eL
      have e2 : lgR n es p d s = ([], false) := by rw [lgR, if_neg (by rw [eL]; decide)]
      simp -implicitDefEqProofs (disch := omega) [List.getElem?_cons_zero, List.getElem?_cons_succ, wrap_id, hlt, hks, h1]
      refine finW (Wk_nil0 8 rfl) ?_
      (refine fin0 trivial rfl ?_; simp -implicitDefEqProofs (disch := omega) [List.getElem?_cons_zero, List.getElem?_cons_succ, idx, wrap_id, eL, e2])
    · simp -implicitDefEqProofs (disch := omega) [List.getElem?_cons_zero, List.getElem?_cons_succ, wrap_id, hlt, hks, h1]
      refine round_end [0] [13, 12, 4, 1, 2, 3] hlt rfl ⟨fun u hu => ?_, by rw [hsum]; rfl⟩
      rcases Nat.lt_or_ge u k with h2 | h2
      · exact hI u h2
      · have e : u = k := by omega
        show 0 ≤ s.getD u 0
        rw [e, hgk]; omega
  have hkn : k = n := by omega
  subst hkn
  rw [List.take_of_length_le (by omega)]
  by_cases hq : s[p] = 0
  rotate_left
  · have hb : badB k p s = true := badB_yes hpn (.inr ⟨rfl, by rw [hgp]; exact hq⟩)
    rw [hb, if_pos rfl] at eL
    have e2 : lgR k es p d s = ([], false) := by rw [lgR, if_neg (by rw [eL]; decide)]
    simp -implicitDefEqProofs (disch := omega) [List.getElem?_cons_zero, List.getElem?_cons_succ, wrap_id, hps, hq]
    refine finW (Wk_nil0 8 rfl) ?_
    (refine fin0 trivial rfl ?_; simp -implicitDefEqProofs (disch := omega) [List.getElem?_cons_zero, List.getElem?_cons_succ, idx, wrap_id, eL, e2])
  have hok : OkK p s k := fun v hv => ⟨hI v hv, fun e => by
    have e' : v = p := by omega
    rw [e', hgp]; exact hq⟩
  rw [badB_no hok] at eL
  simp only [Bool.false_eq_true, if_false] at eL
  have hnn : ∀ i, 0 ≤ s.getD i 0 := fun i => by
    by_cases hi : i < k
    · exact hI i hi
    · rw [List.getD_eq_getElem?_getD, List.getElem?_eq_none (by omega)]; simp
  have hs0 : 0 ≤ sumI s := by rw [sumI_sumN]; exact sumN_nonneg fun u _ => hnn u
  by_cases hT : 4096 < sumI s
  · rw [if_pos hT] at eL
    have e2 : lgR k es p d s = ([], false) := by rw [lgR, if_neg (by rw [eL]; decide)]
    simp -implicitDefEqProofs (disch := omega) [List.getElem?_cons_zero, List.getElem?_cons_succ, wrap_id, hps, hq, hT]
    refine finW (Wk_nil0 8 rfl) ?_
    (refine fin0 trivial rfl ?_; simp -implicitDefEqProofs (disch := omega) [List.getElem?_cons_zero, List.getElem?_cons_succ, idx, wrap_id, eL, e2])
  rw [if_neg hT] at eL
  obtain ⟨T, hTe⟩ : ∃ T : Nat, sumI s = T := ⟨(sumI s).toNat, by omega⟩
  have e2 : lgR k es p d s = ordR k es p d s T := by rw [lgR, if_pos eL, Int.toNat_natCast, hTe, Int.toNat_natCast]
  have hT2 : ¬ (4096 : Int) < T := by omega
  rw [hTe]
  simp -implicitDefEqProofs (disch := omega) [List.getElem?_cons_zero, List.getElem?_cons_succ, wrap_id, hps, hq, hT2]
  refine HC_of_PC rfl (ordered_ok k es p d s hel h hnn T hTe (by omega)) ?_
  simp -implicitDefEqProofs (disch := omega) [List.getElem?_cons_zero, List.getElem?_cons_succ, wrap_id]
  (refine fin0 trivial rfl ?_; simp -implicitDefEqProofs (disch := omega) [List.getElem?_cons_zero, List.getElem?_cons_succ, idx, wrap_id, eL, e2])
end
end Go.Proofs.Ytgjaekbbdmhjlaa
