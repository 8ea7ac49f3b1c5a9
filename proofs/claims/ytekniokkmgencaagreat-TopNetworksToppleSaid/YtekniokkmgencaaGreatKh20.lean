/-
  Texts joined: If Ig Ih Ij.
-/
import Derived.Test.YtekniokkmgencaaGreatKh19

section
set_option linter.unusedSimpArgs false
set_option linter.unusedVariables false
namespace Go.Proofs.YtekniokkmgencaaGreat
open Go.Abs Go.Sand
theorem meth_l : methO Tryz.prog 109 "sandpile/wire.along" = some 128 := by kernel_rfl
theorem meth_r : methO Tryz.prog 170 "sandpile/wire.along" = some 129 := by kernel_rfl
theorem call_l : callable Tryz.prog 128 = true := by kernel_rfl
theorem call_r : callable Tryz.prog 129 = true := by kernel_rfl
theorem set_last {α : Type} (H : List α) (b c : α) : (H ++ [b]).set H.length c = H ++ [c] := by simp
section
variable {R : List (List Rl)} {fs : List Int} {m : Nm → Nat} {off : Nat → Nat} {w : WS} {H : List AO} {K : AV → List AO → Prop}
theorem handle_hc (h : WH R fs m off w H) (pk : Pk) (hk : pk.ln < R.length * R.length) (hll : w.ln.length = R.length * R.length) (hwl : w.wt.length = R.length) (hto : (lnAt w pk.ln).to < R.length)
    (hfs : fs.length ≤ 4096) (hf : ∀ f ∈ fs, 0 ≤ f ∧ f ≤ 3) (hs : 0 ≤ w.sent ∧ w.sent ≤ 1000000000000) (ht : 0 ≤ w.tk ∧ w.tk ≤ 1000000) (hfl : w.fl.length ≤ 1000000)
    (ha : -1000000000000 ≤ (lnAt w pk.ln).acc ∧ (lnAt w pk.ln).acc ≤ 1000000000000) (hb : -1000000000000 ≤ (lnAt w pk.ln).rem ∧ (lnAt w pk.ln).rem ≤ 1000000000000) (hq : (lnAt w pk.ln).q ≤ 1000000)
    (hwb : ∀ p, -1000000000000 ≤ w.wt.getD p 0 ∧ w.wt.getD p 0 ≤ 1000000000000)
    (hK : ∀ H' off', WH R fs m off' (handleS fs pk w) H' → (∀ k, off' k + (lnAt (handleS fs pk w) k).q = off k + (lnAt w k).q) → Nxt R.length m H m H' → K (.tup []) H') :
    HC Tryz.prog false 77 [.ptr (m .W) 1 0 0, pkI m pk] H K := by
  obtain ⟨ack, k, num⟩ := pk
  dsimp only at hk hto ha hb hq
  obtain ⟨l, hl⟩ : ∃ l, l = lnAt w k := ⟨_, rfl⟩
  have hL := h.at' (.lb k) hk
  simp only [hpC, ← hl] at hL
  rw [← hl] at hto ha hb hq
  refine HC_of_W (af := _) ((by exact cfn77 : cfn _ _ _ = some _)) ?_
  cases ack
  · show W _ _ _ _ ⟨initT 0 [.ptr (m .W) 1 0 0, .ifc 109 (.agg [.ptr (m (.lb k)) 1 0 0, .p (.i num), .p (.i 0)])], H⟩
    simp -implicitDefEqProofs (disch := omega) [c77, List.getElem?_cons_zero, List.getElem?_cons_succ, wrap_id, meth_l, call_l]
    refine along_l (m (.lb k)) num 0 hL rfl ?_
    intro G
    obtain ⟨H1, hH1⟩ : ∃ H1, H1 = H ++ G := ⟨_, rfl⟩
    have hw1 := h.app G
    have hn1 : Nxt R.length m H m (H ++ G) := Nxt.app G
    rw [← hH1] at hw1 hn1 ⊢
    have hL1 := hw1.at' (.lb k) hk
    simp only [hpC, ← hl] at hL1
    have a1 : ∀ X, (H1 ++ X)[m (.lb k)]? = _ := fun X => (List.getElem?_append_left (hw1.lt (x := .lb k) hk)).trans hL1
    have a2 : ∀ x, (H1 ++ [x])[H1.length]? = some x := fun x => List.getElem?_concat_length
    have a3 : ∀ X y, ((H1 ++ X).set (m (.lb k)) y)[m (.lb k)]? = some y := fun X y => List.getElem?_set_self (by have := hw1.lt (x := .lb k) hk; simp; omega)
    have a4 : ∀ x y, ((H1 ++ [x]).set (m (.lb k)) y)[H1.length]? = some x := fun x y => (List.getElem?_set_ne (by have := hw1.lt (x := .lb k) hk; omega)).trans (a2 x)
    by_cases c : num = l.acc + 1
    · subst c
      obtain ⟨w2, hw2⟩ : ∃ w2 : WS, w2 = { w with ln := w.ln.set k { l with acc := l.acc + 1 } } := ⟨_, rfl⟩
      have hln2 : lnAt w2 k = { l with acc := l.acc + 1 } := by rw [hw2, lnAt_set (by omega), if_pos rfl]
      have hh2 := (hw1.app [.box (.agg [.ptr (m (.lb k)) 1 0 0, .p (.i (l.acc + 1)), .p (.i 0)])]).line hk hll { l with acc := l.acc + 1 } (off k) (by rw [← hl])
      have ho : (fun i => if i = k then off k else off i) = off := by
        funext i
        by_cases e : i = k
        · rw [if_pos e, e]
        · rw [if_neg e]
      rw [ho, ← hw2] at hh2
      have hn2 := (hn1.trans (Nxt.app [.box (.agg [.ptr (m (.lb k)) 1 0 0, .p (.i (l.acc + 1)), .p (.i 0)])])).trans (Nxt.set (.lb k) hk (.box (lnA (m (.qr k)) (off k) { l with acc := l.acc + 1 })))
      have hhd : handleS fs ⟨false, k, l.acc + 1⟩ w = sendS fs ⟨true, k, l.acc + 1⟩ (waitS l.to w2) := by
        have e2 : lnAt (waitS l.to w2) k = lnAt w2 k := rfl
        simp only [handleS, Bool.false_eq_true, if_false, ← hl, if_true, ← hw2, e2, hln2]
      rw [hhd] at hK
      simp -implicitDefEqProofs (disch := omega) [List.getElem?_cons_zero, List.getElem?_cons_succ, wrap_id, a1, a2, a3, a4, set_last]
      refine wait_hc (w := w2) hh2 hto (by rw [hw2]; exact hwl) (by rw [hw2]; exact hwb _) ?_
      intro H3 hw3 hn3
      have hL3 := hw3.at' (.lb k) hk
      have e3 : lnAt (waitS l.to w2) k = { l with acc := l.acc + 1 } := hln2
      simp only [hpC, e3] at hL3
      simp -implicitDefEqProofs (disch := omega) [List.getElem?_cons_zero, List.getElem?_cons_succ, wrap_id, hL3]
      refine send_hc (w := waitS l.to w2) hw3 ⟨true, k, l.acc + 1⟩ hfs hf (by rw [hw2]; exact hs) (by rw [hw2]; exact ht) (by rw [hw2]; exact hfl) ?_
      intro H4 hw4 hn4
      simp -implicitDefEqProofs (disch := omega) [List.getElem?_cons_zero, List.getElem?_cons_succ, wrap_id]
      refine finH trivial rfl (hK _ off hw4 (fun i => ?_) ((hn2.trans hn3).trans hn4))
      show off i + (lnAt w2 i).q = _
      rw [hw2, lnAt_set (by omega)]
      by_cases e : i = k
      · rw [if_pos e, e, ← hl]
      · rw [if_neg e]
    · have hhd : handleS fs ⟨false, k, num⟩ w = sendS fs ⟨true, k, l.acc⟩ w := by
        simp only [handleS, Bool.false_eq_true, if_false, ← hl, if_neg c]
      rw [hhd] at hK
      simp -implicitDefEqProofs (disch := omega) [List.getElem?_cons_zero, List.getElem?_cons_succ, wrap_id, a1, a2, a3, a4, set_last, c]
      refine send_hc (w := w) (hw1.app _) ⟨true, k, l.acc⟩ hfs hf hs ht hfl ?_
      intro H4 hw4 hn4
      simp -implicitDefEqProofs (disch := omega) [List.getElem?_cons_zero, List.getElem?_cons_succ, wrap_id]
      exact finH trivial rfl (hK _ off hw4 (fun i => rfl) ((hn1.trans (Nxt.app _)).trans hn4))
  · show W _ _ _ _ ⟨initT 0 [.ptr (m .W) 1 0 0, .ifc 170 (.agg [.ptr (m (.lb k)) 1 0 0, .p (.i num)])], H⟩
    simp -implicitDefEqProofs (disch := omega) [c77, List.getElem?_cons_zero, List.getElem?_cons_succ, wrap_id, meth_r, call_r]
    refine along_r (m (.lb k)) num ?_
    intro G
    obtain ⟨H1, hH1⟩ : ∃ H1, H1 = H ++ G := ⟨_, rfl⟩
    have hw1 := h.app G
    have hn1 : Nxt R.length m H m (H ++ G) := Nxt.app G
    rw [← hH1] at hw1 hn1 ⊢
    have hL1 := hw1.at' (.lb k) hk
    simp only [hpC, ← hl] at hL1
    have a1 : ∀ X, (H1 ++ X)[m (.lb k)]? = _ := fun X => (List.getElem?_append_left (hw1.lt (x := .lb k) hk)).trans hL1
    have a2 : ∀ x, (H1 ++ [x])[H1.length]? = some x := fun x => List.getElem?_concat_length
    have hhd : handleS fs ⟨true, k, num⟩ w = { w with ln := w.ln.set k (dropL num l) } := by
      simp only [handleS, if_true, ← hl]
    rw [hhd] at hK
    simp -implicitDefEqProofs (disch := omega) [List.getElem?_cons_zero, List.getElem?_cons_succ, wrap_id, a1, a2, set_last]
    refine drop_hc (hw1.app _) hk hll num (by rw [← hl]; exact hb) (by rw [← hl]; exact hq) ?_
    intro H3 o' hw3 ho3 hn3
    rw [← hl] at hw3 ho3
    simp -implicitDefEqProofs (disch := omega) [List.getElem?_cons_zero, List.getElem?_cons_succ, wrap_id]
    refine finH trivial rfl (hK _ _ hw3 (fun i => ?_) ((hn1.trans (Nxt.app _)).trans hn3))
    rw [lnAt_set (by omega)]
    by_cases e : i = k
    · rw [if_pos e, if_pos e, e, ← hl]; exact ho3
    · rw [if_neg e, if_neg e]
end
end Go.Proofs.YtekniokkmgencaaGreat
end
section
set_option linter.unusedSimpArgs false
set_option linter.unusedVariables false
namespace Go.Proofs.YtekniokkmgencaaGreat
open Go.Abs Go.Sand
structure WOk (n : Nat) (B : Int) (w : WS) : Prop where
  ll : w.ln.length = n * n
  wl : w.wt.length = n
  cl : w.cn.length = n
  sl : w.st.length = n
  to : ∀ k, k < n * n → (lnAt w k).to < n
  pk : ∀ x ∈ w.fl, x.1.ln < n * n
  sent : 0 ≤ w.sent ∧ w.sent ≤ B
  acc : ∀ k, 0 ≤ (lnAt w k).acc ∧ (lnAt w k).acc ≤ B
  rem : ∀ k, 0 ≤ (lnAt w k).rem ∧ (lnAt w k).rem + (lnAt w k).q ≤ B
  wt : ∀ p, 0 ≤ w.wt.getD p 0 ∧ w.wt.getD p 0 ≤ B
  snt : ∀ k, 0 ≤ (lnAt w k).snt ∧ (lnAt w k).snt ≤ 1000000
def phi : List (Pk × Int) → Nat
  | [] => 0
  | x :: l => (if x.1.ack then 1 else 3) + phi l
theorem phi_app : ∀ a b, phi (a ++ b) = phi a + phi b
  | [], b => by simp [phi]
  | x :: a, b => by simp only [List.cons_append, phi, phi_app a b]; omega
theorem phi_len : ∀ a, a.length ≤ phi a
  | [] => by simp [phi]
  | x :: a => by have := phi_len a; simp only [List.length_cons, phi]; split <;> omega
theorem delF_len (f : Int) : (delF f).length ≤ 2 := by unfold delF; split; simp; split; simp; split <;> simp
theorem phi_rep (p : Pk) (t : Int) : ∀ l : List Int, phi (l.map fun d => (p, t + d)) = l.length * (if p.ack then 1 else 3)
  | [] => by simp [phi]
  | d :: l => by simp only [List.map_cons, phi, phi_rep p t l, List.length_cons, Nat.succ_mul]; omega
theorem phi_send (fs : List Int) (p : Pk) (w : WS) : phi (sendS fs p w).fl ≤ phi w.fl + 2 * (if p.ack then 1 else 3) := by
  simp only [sendS, phi_app, phi_rep]
  have := Nat.mul_le_mul_right (if p.ack then 1 else 3) (delF_len (fateF fs w.sent))
  omega
theorem getW_set {α : Type} (l : List α) (p i : Nat) (x d : α) (hp : p < l.length) : (l.set p x).getD i d = if i = p then x else l.getD i d := by
  rw [List.getD_eq_getElem?_getD, List.getD_eq_getElem?_getD, List.getElem?_set]
  by_cases e : p = i
  · subst e; simp [hp]
  · rw [if_neg e, if_neg (fun h => e h.symm)]
section
variable {n : Nat} {B : Int} {w : WS}
theorem WOk.mono (h : WOk n B w) {B' : Int} (hb : B ≤ B') : WOk n B' w :=
  ⟨h.ll, h.wl, h.cl, h.sl, h.to, h.pk, ⟨h.sent.1, by have := h.sent.2; omega⟩, fun k => ⟨(h.acc k).1, by have := (h.acc k).2; omega⟩, fun k => ⟨(h.rem k).1, by have := (h.rem k).2; omega⟩, fun p => ⟨(h.wt p).1, by have := (h.wt p).2; omega⟩, h.snt⟩
theorem WOk.send (h : WOk n B w) (fs : List Int) (p : Pk) (hp : p.ln < n * n) : WOk n (B + 1) (sendS fs p w) := by
  have hm := h.mono (B' := B + 1) (by omega)
  refine ⟨h.ll, h.wl, h.cl, h.sl, h.to, fun x hx => ?_, ?_, hm.acc, hm.rem, hm.wt, h.snt⟩
  · simp only [sendS, List.mem_append, List.mem_map] at hx
    rcases hx with hx | ⟨d, _, rfl⟩
    · exact h.pk x hx
    · exact hp
  · have := h.sent
    simp only [sendS]; omega
theorem WOk.wait (h : WOk n B w) (p : Nat) (hp : p < n) : WOk n (B + 1) (waitS p w) := by
  have hm := h.mono (B' := B + 1) (by omega)
  refine ⟨h.ll, by simp [waitS, h.wl], h.cl, h.sl, h.to, h.pk, hm.sent, hm.acc, hm.rem, fun i => ?_, h.snt⟩
  simp only [waitS]
  rw [getW_set _ _ _ _ _ (by rw [h.wl]; exact hp)]
  split
  · have := h.wt p; omega
  · exact hm.wt i
theorem WOk.line (h : WOk n B w) {k : Nat} (hk : k < n * n) (l : Ln) (hto : l.to < n) (ha : 0 ≤ l.acc ∧ l.acc ≤ B) (hr : 0 ≤ l.rem ∧ l.rem + l.q ≤ B) (hs : 0 ≤ l.snt ∧ l.snt ≤ 1000000) : WOk n B { w with ln := w.ln.set k l } := by
  have hkl : k < w.ln.length := by rw [h.ll]; exact hk
  refine ⟨by simp [h.ll], h.wl, h.cl, h.sl, fun i hi => ?_, h.pk, h.sent, fun i => ?_, fun i => ?_, h.wt, fun i => ?_⟩
  · rw [lnAt_set hkl]; split; exact hto; exact h.to i hi
  · rw [lnAt_set hkl]; split; exact ha; exact h.acc i
  · rw [lnAt_set hkl]; split; exact hr; exact h.rem i
  · rw [lnAt_set hkl]; split; exact hs; exact h.snt i
theorem dropL_sum (num : Int) (l : Ln) : (dropL num l).rem + (dropL num l).q = l.rem + l.q ∧ l.rem ≤ (dropL num l).rem ∧ (dropL num l).acc = l.acc ∧ (dropL num l).to = l.to ∧ (dropL num l).frm = l.frm ∧ ((dropL num l).snt = l.snt ∨ (dropL num l).snt = 0) := by
  unfold dropL
  split
  · exact ⟨rfl, by omega, rfl, rfl, rfl, .inl rfl⟩
  · exact ⟨by dsimp only; omega, by dsimp only; omega, rfl, rfl, rfl, .inr rfl⟩
theorem WOk.handle (h : WOk n B w) (fs : List Int) (p : Pk) (hp : p.ln < n * n) : WOk n (B + 3) (handleS fs p w) := by
  unfold handleS
  split
  · obtain ⟨h1, h2, h3, h4, -, h5⟩ := dropL_sum p.num (lnAt w p.ln)
    refine (h.line hp _ (by rw [h4]; exact h.to _ hp) (by rw [h3]; exact h.acc _) ?_ ?_).mono (by omega)
    · have := h.rem p.ln
      omega
    · have := h.snt p.ln
      rcases h5 with h5 | h5 <;> omega
  · dsimp only
    split
    · have h1 : WOk n (B + 1) { w with ln := w.ln.set p.ln { lnAt w p.ln with acc := (lnAt w p.ln).acc + 1 } } := (h.mono (B' := B + 1) (by omega)).line hp _ (h.to _ hp) (by have := h.acc p.ln; dsimp only; omega) (by have := h.rem p.ln; dsimp only; omega) (h.snt p.ln)
      refine WOk.mono (B := B + 1 + 1 + 1) (B' := B + 3) (WOk.send ?_ fs _ ?_) (by omega)
      · exact WOk.wait h1 _ (h.to _ hp)
      · exact hp
    · refine WOk.mono (B := B + 1) (B' := B + 3) (WOk.send h fs _ ?_) (by omega)
      exact hp
theorem phi_handle (fs : List Int) (p : Pk) (w : WS) : phi (handleS fs p w).fl ≤ phi w.fl + (if p.ack then 1 else 3) := by
  unfold handleS
  cases hp : p.ack
  · simp only [Bool.false_eq_true, if_false]
    refine Nat.le_trans (phi_send fs _ _) ?_
    simp only [if_true]
    split <;> simp [waitS]
  · simp
theorem q_handle (fs : List Int) (p : Pk) (w : WS) : (handleS fs p w).tk = w.tk := by
  unfold handleS
  split
  · rfl
  · dsimp only
    split <;> rfl
end
end Go.Proofs.YtekniokkmgencaaGreat
end
section
set_option linter.unusedSimpArgs false
set_option linter.unusedVariables false
namespace Go.Proofs.YtekniokkmgencaaGreat
open Go.Abs Go.Sand
section
variable {R : List (List Rl)} {fs : List Int} {m : Nm → Nat} {off : Nat → Nat} {w : WS} {H : List AO} {K : AV → List AO → Prop}
def nowF (t : Int) (l : List (Pk × Int)) : List (Pk × Int) := l.filter fun x => x.2 = t
def latF (t : Int) (l : List (Pk × Int)) : List (Pk × Int) := l.filter fun x => ¬ x.2 = t
theorem now_take (t : Int) (l : List (Pk × Int)) (k : Nat) (hk : k < l.length) : nowF t (l.take (k + 1)) = if l[k].2 = t then nowF t (l.take k) ++ [l[k]] else nowF t (l.take k) := by
  rw [← List.take_append_getElem hk, nowF, List.filter_append]
  by_cases c : l[k].2 = t
  · rw [if_pos c]; simp [nowF, c]
  · rw [if_neg c]; simp [nowF, c]
theorem lat_take (t : Int) (l : List (Pk × Int)) (k : Nat) (hk : k < l.length) : latF t (l.take (k + 1)) = if l[k].2 = t then latF t (l.take k) else latF t (l.take k) ++ [l[k]] := by
  rw [← List.take_append_getElem hk, latF, List.filter_append]
  by_cases c : l[k].2 = t
  · rw [if_pos c]; simp [latF, c]
  · rw [if_neg c]; simp [latF, c]
def mvF (m : Nm → Nat) (o : Nat) : Nm → Nat
  | .Fl => o
  | x => m x
theorem WH.newFl (h : WH R fs m off w H) (l : List (Pk × Int)) (o : Nat) (ho : H[o]? = some (.arr (l.map (pkA m)) 2 144)) (hno : ∀ x, vN R.length x → m x ≠ o) :
    WH R fs (mvF m o) off { w with fl := l } (H.set (m .W) (.box (wiA R fs (mvF m o) l.length w.tk w.sent w.large))) := by
  have hWo : m .W ≠ o := hno .W trivial
  refine ⟨fun x y hx hy e => ?_, fun y hy => ?_⟩
  · cases x <;> cases y <;> simp only [mvF] at e <;> first | rfl | exact h.inj _ _ hx hy e | exact absurd e.symm (hno _ hy) | exact absurd e (hno _ hx)
  · cases y with
    | W => simp only [mvF]; rw [List.getElem?_set_self (h.lt (x := .W) trivial)]; rfl
    | Fl =>
      simp only [mvF]
      rw [List.getElem?_set_ne hWo, ho]
      rfl
    | St => simp only [mvF]; rw [List.getElem?_set_ne (h.ne (x := .W) trivial hy (by simp))]; exact h.at' .St hy
    | Wt => simp only [mvF]; rw [List.getElem?_set_ne (h.ne (x := .W) trivial hy (by simp))]; exact h.at' .Wt hy
    | Cn => simp only [mvF]; rw [List.getElem?_set_ne (h.ne (x := .W) trivial hy (by simp))]; exact h.at' .Cn hy
    | Ln => simp only [mvF]; rw [List.getElem?_set_ne (h.ne (x := .W) trivial hy (by simp))]; exact h.at' .Ln hy
    | wr p => simp only [mvF]; rw [List.getElem?_set_ne (h.ne (x := .W) trivial hy (by simp))]; exact h.at' (.wr p) hy
    | cr p => simp only [mvF]; rw [List.getElem?_set_ne (h.ne (x := .W) trivial hy (by simp))]; exact h.at' (.cr p) hy
    | lb k => simp only [mvF]; rw [List.getElem?_set_ne (h.ne (x := .W) trivial hy (by simp))]; exact h.at' (.lb k) hy
    | qr k => simp only [mvF]; rw [List.getElem?_set_ne (h.ne (x := .W) trivial hy (by simp))]; exact h.at' (.qr k) hy
theorem WH.oth (h : WH R fs m off w H) {o : Nat} (ho : ∀ x, vN R.length x → m x ≠ o) (ob : AO) : WH R fs m off w (H.set o ob) :=
  ⟨h.inj, fun x hx => by rw [List.getElem?_set_ne (fun e => ho x hx e.symm)]; exact h.at' x hx⟩
theorem Nxt.oth {n : Nat} {H' : List AO} {m' : Nm → Nat} (h : Nxt n m H m' H') {o : Nat} (ho : H.length ≤ o) (ob : AO) : Nxt n m H m' (H'.set o ob) :=
  ⟨by rw [List.length_set]; exact h.len, h.fix, h.mv, fun i hi hn => by rw [List.getElem?_set_ne (by omega)]; exact h.old i hi hn⟩
theorem Nxt.newFl {n : Nat} {H' : List AO} (h : Nxt n m H m H') {o : Nat} (ho : H.length ≤ o) (ob : AO) : Nxt n m H (mvF m o) (H'.set (m .W) ob) := by
  refine ⟨by rw [List.length_set]; exact h.len, fun x hx => ?_, fun x hx => ?_, fun i hi hn => ?_⟩
  · cases x <;> first | rfl | exact hx.elim
  · cases x <;> first | exact .inl rfl | exact .inr ho
  · rw [List.getElem?_set_ne (hn .W trivial)]
    exact h.old i hi hn
theorem phi_split (t : Int) : ∀ l : List (Pk × Int), phi (nowF t l) + phi (latF t l) = phi l
  | [] => rfl
  | x :: l => by
    have := phi_split t l
    by_cases c : x.2 = t
    · simp only [nowF, latF, List.filter_cons, c, decide_true, if_true, not_true, decide_false, Bool.false_eq_true, if_false, phi] at this ⊢
      omega
    · simp only [nowF, latF, List.filter_cons, c, decide_false, Bool.false_eq_true, if_false, not_false_eq_true, decide_true, if_true, phi] at this ⊢
      omega
theorem phi_drop {l : List (Pk × Int)} {j : Nat} (hj : j < l.length) : phi (l.drop j) = (if l[j].1.ack then 1 else 3) + phi (l.drop (j + 1)) := by
  rw [List.drop_eq_getElem_cons hj, phi]
theorem arrive_hc (h : WH R fs m off w H) {B : Int} (hok : WOk R.length B w) (hB : B ≤ 100000000000) (hphi : phi w.fl ≤ 1000000) (hq : ∀ k, off k + (lnAt w k).q ≤ 1000000)
    (hfs : fs.length ≤ 4096) (hf : ∀ f ∈ fs, 0 ≤ f ∧ f ≤ 3) (ht : 0 ≤ w.tk ∧ w.tk ≤ 1000000)
    (hK : ∀ H' m' off', WH R fs m' off' (arriveS fs w) H' → (∀ k, off' k + (lnAt (arriveS fs w) k).q = off k + (lnAt w k).q) → Nxt R.length m H m' H' → WOk R.length (B + 3000000) (arriveS fs w) → phi (arriveS fs w).fl ≤ phi w.fl → (arriveS fs w).tk = w.tk → K (.tup []) H') :
    HC Tryz.prog false 46 [.ptr (m .W) 1 0 0] H K := by
  have hW := h.at' .W trivial
  simp only [hpC] at hW
  have hF := h.at' .Fl trivial
  simp only [hpC] at hF
  refine HC_of_W (af := _) ((by exact cfn46 : cfn _ _ _ = some _)) ?_
  simp -implicitDefEqProofs (disch := omega) [c46, List.getElem?_cons_zero, List.getElem?_cons_succ, wrap_id, hW, hF]
  refine loopW w.fl.length (fun k s => ∃ H', s = ⟨[(13, .i k), (12, .i w.fl.length), (11, .os (m .Fl) 0 w.fl.length), (0, .ptr (m .W) 1 0 0), (2, .os H.length 0 (nowF w.tk (w.fl.take k)).length), (3, .os (H.length + 1) 0 (latF w.tk (w.fl.take k)).length)], H'⟩ ∧ WH R fs m off w H' ∧ Nxt R.length m H m H' ∧
    H'[H.length]? = some (.arr ((nowF w.tk (w.fl.take k)).map (pkA m)) 2 144) ∧ H'[H.length + 1]? = some (.arr ((latF w.tk (w.fl.take k)).map (pkA m)) 2 144)) ((Wk_nilR 2 2 144 rfl).trans ((Wk_nilR 3 2 144 rfl).trans (Wk_keep [13, 12, 11, 0, 2, 3]))) ?_ ?_
  · refine ⟨H ++ [.arr [] 2 144] ++ [.arr [] 2 144], by simp [Abs.get, put, nowF, latF], (h.app _).app _, (Nxt.app _).trans (Nxt.app _), ?_, ?_⟩
    · simp [nowF]
    · simp [latF]
  rintro k s hk ⟨H', rfl, hw, hn, hN, hLt⟩
  by_cases hlt : k < w.fl.length
  · have hW2 := hw.at' .W trivial
    have hF2 := hw.at' .Fl trivial
    simp only [hpC] at hW2 hF2
    obtain ⟨x, hx⟩ : ∃ x, x = w.fl[k] := ⟨_, rfl⟩
    have hFk : (List.map (pkA m) w.fl)[k]? = some (.agg [pkI m x.1, .p (.i x.2)]) := by simp [hlt, hx]
    have a1 : ∀ X, (H' ++ X)[m .W]? = _ := fun X => (List.getElem?_append_left (hw.lt (x := .W) trivial)).trans hW2
    have a2 : ∀ b X, (H' ++ b :: X)[H'.length]? = some b := fun b X => by rw [List.getElem?_append_right (Nat.le_refl _)]; simp
    have a3 : ∀ b c, (H' ++ [b, c])[H'.length + 1]? = some c := fun b c => by rw [List.getElem?_append_right (by omega)]; simp
    have a4 : ∀ X, (H' ++ X)[H.length]? = _ := fun X => (List.getElem?_append_left (List.getElem?_eq_some_iff.1 hN).1).trans hN
    have a5 : ∀ X, (H' ++ X)[H.length + 1]? = _ := fun X => (List.getElem?_append_left (List.getElem?_eq_some_iff.1 hLt).1).trans hLt
    have b0 : w.fl.length ≤ 1000000 := Nat.le_trans (phi_len _) hphi
    have b1 : (nowF w.tk (w.fl.take k)).length + 1 ≤ 1048576 := by
      have := List.length_filter_le (fun x : Pk × Int => decide (x.2 = w.tk)) (w.fl.take k)
      simp only [nowF, List.length_take] at this ⊢; omega
    have b2 : (latF w.tk (w.fl.take k)).length + 1 ≤ 1048576 := by
      have := List.length_filter_le (fun x : Pk × Int => decide ¬ (x.2 = w.tk)) (w.fl.take k)
      simp only [latF, List.length_take] at this ⊢; omega
    have hnt := now_take w.tk w.fl k hlt
    have hlt2 := lat_take w.tk w.fl k hlt
    rw [← hx] at hnt hlt2
    by_cases c : x.2 = w.tk
    · rw [if_pos c] at hnt hlt2
      simp -implicitDefEqProofs (disch := omega) [List.getElem?_cons_zero, List.getElem?_cons_succ, wrap_id, hlt, hW2, hF2, hFk, a1, a2, a3, a4, a5, b1, b2, set_last, c]
      refine round_keep [13, 12, 11, 0, 2, 3] hlt ?_
      rw [hnt, hlt2, List.length_append]
      refine ⟨_, rfl, (hw.app _).oth (fun y hy => by have := h.lt hy; omega) _, (hn.trans (Nxt.app _)).oth (Nat.le_refl _) _, ?_, ?_⟩
      · rw [List.getElem?_set_self (by have := (List.getElem?_eq_some_iff.1 hN).1; simp; omega)]
        simp [c]
      · rw [List.getElem?_set_ne (by omega)]
        exact a5 _
    · rw [if_neg c] at hnt hlt2
      simp -implicitDefEqProofs (disch := omega) [List.getElem?_cons_zero, List.getElem?_cons_succ, wrap_id, hlt, hW2, hF2, hFk, a1, a2, a3, a4, a5, b1, b2, set_last, c]
      refine round_keep [13, 12, 11, 0, 2, 3] hlt ?_
      rw [hnt, hlt2, List.length_append]
      refine ⟨_, rfl, (hw.app _).oth (fun y hy => by have := h.lt hy; omega) _, (hn.trans (Nxt.app _)).oth (by omega) _, ?_, ?_⟩
      · rw [List.getElem?_set_ne (by omega)]
        exact a4 _
      · rw [List.getElem?_set_self (by have := (List.getElem?_eq_some_iff.1 hLt).1; simp; omega)]
        simp
  · obtain rfl : k = w.fl.length := by omega
    rw [List.take_of_length_le (Nat.le_refl _)] at hN hLt
    rw [List.take_of_length_le (Nat.le_refl _)]
    have hW2 := hw.at' .W trivial
    simp only [hpC] at hW2
    have g1 : ∀ ob, (H'.set (m .W) ob)[H.length]? = _ := fun ob => (List.getElem?_set_ne (by have := h.lt (x := .W) trivial; omega)).trans hN
    have hw1 := hw.newFl (latF w.tk w.fl) (H.length + 1) hLt (fun x hx => by have := h.lt hx; omega)
    have hn1 : Nxt R.length m H (mvF m (H.length + 1)) _ := hn.newFl (o := H.length + 1) (by omega) (.box (wiA R fs (mvF m (H.length + 1)) (latF w.tk w.fl).length w.tk w.sent w.large))
    have hsp := phi_split w.tk w.fl
    have hpk : ∀ x ∈ nowF w.tk w.fl, x.1.ln < R.length * R.length := fun x hx => hok.pk x ((List.mem_filter.1 hx).1)
    obtain ⟨N, hNd⟩ : ∃ N, N = nowF w.tk w.fl := ⟨_, rfl⟩
    have hok1 : WOk R.length B { w with fl := latF w.tk w.fl } := ⟨hok.ll, hok.wl, hok.cl, hok.sl, hok.to, fun x hx => hok.pk x ((List.mem_filter.1 hx).1), hok.sent, hok.acc, hok.rem, hok.wt, hok.snt⟩
    have harr : arriveS fs w = N.foldl (fun w x => handleS fs x.1 w) { w with fl := latF w.tk w.fl } := by rw [hNd]; rfl
    obtain ⟨w0, hw0⟩ : ∃ w0 : WS, w0 = { w with fl := latF w.tk w.fl } := ⟨_, rfl⟩
    have hln0 : ∀ k, lnAt w0 k = lnAt w k := fun k => by rw [hw0]; rfl
    have htk0 : w0.tk = w.tk := by rw [hw0]
    have hph0 : phi w0.fl + phi N ≤ phi w.fl := by rw [hw0, hNd]; dsimp only; omega
    have hNl := phi_len N
    rw [← hNd] at g1 hpk
    rw [← hw0] at hw1 hok1 harr
    rw [← hNd]
    simp -implicitDefEqProofs (disch := omega) [List.getElem?_cons_zero, List.getElem?_cons_succ, wrap_id, hlt, hW2, hN, hLt, g1]
    refine loopW N.length (fun j s => ∃ H2 off2, s = ⟨[(39, .i j), (38, .i N.length), (37, .os H.length 0 N.length), (0, .ptr (m .W) 1 0 0)], H2⟩ ∧ WH R fs (mvF m (H.length + 1)) off2 ((N.take j).foldl (fun w x => handleS fs x.1 w) w0) H2 ∧ Nxt R.length m H (mvF m (H.length + 1)) H2 ∧
      H2[H.length]? = some (.arr (N.map (pkA m)) 2 144) ∧ WOk R.length (B + 3 * j) ((N.take j).foldl (fun w x => handleS fs x.1 w) w0) ∧ phi ((N.take j).foldl (fun w x => handleS fs x.1 w) w0).fl + phi (N.drop j) ≤ phi w.fl ∧
      (∀ k, off2 k + (lnAt ((N.take j).foldl (fun w x => handleS fs x.1 w) w0) k).q = off k + (lnAt w k).q) ∧ ((N.take j).foldl (fun w x => handleS fs x.1 w) w0).tk = w.tk) (Wk_keep [39, 38, 37, 0]) ?_ ?_
    · refine ⟨_, off, rfl, hw1, hn1, g1 _, by simpa using hok1, by simpa using hph0, fun k => ?_, htk0⟩
      show off k + (lnAt w0 k).q = _
      rw [hln0]
    rintro j s hj ⟨H2, off2, rfl, hw2, hn2, hN2, hok2, hph2, hq2, htk2⟩
    by_cases hlj : j < N.length
    · obtain ⟨x, hx⟩ : ∃ x, x = N[j] := ⟨_, rfl⟩
      obtain ⟨wj, hwj⟩ : ∃ wj, wj = (N.take j).foldl (fun w x => handleS fs x.1 w) w0 := ⟨_, rfl⟩
      rw [← hwj] at hw2 hok2 hph2 hq2 htk2
      have hst : (N.take (j + 1)).foldl (fun w x => handleS fs x.1 w) w0 = handleS fs x.1 wj := by
        rw [← List.take_append_getElem hlj, List.foldl_append, ← hwj, ← hx]; rfl
      have hNk : (List.map (pkA m) N)[j]? = some (.agg [pkI m x.1, .p (.i x.2)]) := by simp [hlj, hx]
      have a2 : ∀ b X, (H2 ++ b :: X)[H2.length]? = some b := fun b X => by rw [List.getElem?_append_right (Nat.le_refl _)]; simp
      have hln := hpk x (by rw [hx]; exact List.getElem_mem hlj)
      have hpd := phi_drop hlj
      rw [← hx] at hpd
      have hphl := phi_len wj.fl
      have hacc := hok2.acc x.1.ln
      have hrem := hok2.rem x.1.ln
      have hqq := hq2 x.1.ln
      have hqq2 := hq x.1.ln
      have hsn := hok2.sent
      simp -implicitDefEqProofs (disch := omega) [List.getElem?_cons_zero, List.getElem?_cons_succ, wrap_id, hlj, hN2, hNk, a2, set_last]
      have hHl := (List.getElem?_eq_some_iff.1 hN2).1
      refine handle_hc (m := mvF m (H.length + 1)) (w := wj) (hw2.app _) x.1 hln hok2.ll hok2.wl (hok2.to _ hln) hfs hf (by omega) (by rw [htk2]; exact ht) (by omega) (by omega) (by omega) (by omega) (fun p => by have := hok2.wt p; omega) ?_
      intro H3 off3 hw3 hq3 hn3
      simp -implicitDefEqProofs (disch := omega) [List.getElem?_cons_zero, List.getElem?_cons_succ, wrap_id]
      refine round_keep [39, 38, 37, 0] hlj ?_
      rw [hst]
      refine ⟨_, rfl, off3, hw3, (hn2.trans (Nxt.app _)).trans hn3, ?_, ?_, ?_, fun k => by rw [hq3, hq2], by rw [q_handle, htk2]⟩
      · rw [hn3.old H.length (by simp; omega) (fun y hy => ?_), List.getElem?_append_left hHl]
        · exact hN2
        · rcases hn2.mv y hy with e | e
          · have := h.lt hy; omega
          · cases y with
            | Fl => simp only [mvF]; omega
            | _ => exact fun e2 => by have := h.lt hy; simp only [mvF] at e2; omega
      · exact (hok2.handle fs _ hln).mono (by omega)
      · have := phi_handle fs x.1 wj; omega
    · obtain rfl : j = N.length := by omega
      rw [List.take_of_length_le (Nat.le_refl _), ← harr] at hw2 hq2 hok2 hph2 htk2
      have hph3 : phi (arriveS fs w).fl ≤ phi w.fl := by omega
      simp -implicitDefEqProofs (disch := omega) [List.getElem?_cons_zero, List.getElem?_cons_succ, wrap_id, hlj]
      exact finH trivial rfl (hK _ _ _ hw2 hq2 hn2 (hok2.mono (by omega)) hph3 htk2)
end
end Go.Proofs.YtekniokkmgencaaGreat
end
section
set_option linter.unusedSimpArgs false
set_option linter.unusedVariables false
namespace Go.Proofs.YtekniokkmgencaaGreat
open Go.Abs Go.Sand
section
variable {R : List (List Rl)} {fs : List Int} {m : Nm → Nat} {off : Nat → Nat} {w : WS} {H : List AO} {K : AV → List AO → Prop}
def enqL (l : Ln) : Ln := { l with q := l.q + 1 }
def enqS (k : Nat) (w : WS) : WS := { w with ln := w.ln.set k (enqL (lnAt w k)) }
theorem WH.enq (h : WH R fs m off w H) {k : Nat} (hk : k < R.length * R.length) (hll : w.ln.length = R.length * R.length) :
    WH R fs m off (enqS k w) ((H.set (m (.qr k)) (rowQ (List.replicate (off k + (lnAt w k).q) 0 ++ [0]))).set (m (.lb k)) (.box (lnA (m (.qr k)) (off k) (enqL (lnAt w k))))) := by
  have hkl : k < w.ln.length := by omega
  refine ⟨h.inj, fun y hy => ?_⟩
  by_cases e : y = .lb k
  · subst e
    rw [List.getElem?_set_self (by rw [List.length_set]; exact h.lt hy)]
    simp only [hpC, enqS, lnAt_set hkl, if_true]
  · rw [List.getElem?_set_ne (h.ne (x := .lb k) hk hy (Ne.symm e))]
    by_cases e2 : y = .qr k
    · subst e2
      rw [List.getElem?_set_self (h.lt hy)]
      simp only [hpC, enqS, lnAt_set hkl, if_true, enqL]
      rw [← Nat.add_assoc, List.replicate_succ']
    · rw [List.getElem?_set_ne (h.ne (x := .qr k) hk hy (Ne.symm e2)), h.at' y hy]
      cases y with
      | lb i =>
        have hik : ¬ i = k := fun c => e (by rw [c])
        simp only [hpC, enqS, lnAt_set hkl, if_neg hik]
      | qr i =>
        have hik : ¬ i = k := fun c => e2 (by rw [c])
        simp only [hpC, enqS, lnAt_set hkl, if_neg hik]
      | _ => rfl
def mvQ (m : Nm → Nat) (k o : Nat) : Nm → Nat
  | .qr i => if i = k then o else m (.qr i)
  | x => m x
theorem mvQ_ne {k o : Nat} {x : Nm} (hx : x ≠ .qr k) : mvQ m k o x = m x := by
  cases x with
  | qr i => simp only [mvQ]; rw [if_neg (fun c => hx (by rw [c]))]
  | _ => rfl
theorem mvQ_eq {k o : Nat} : mvQ m k o (.qr k) = o := by simp [mvQ]
theorem WH.enqN (h : WH R fs m off w H) {k : Nat} (hk : k < R.length * R.length) (hll : w.ln.length = R.length * R.length) {o : Nat} (ho : H[o]? = some (rowQ (List.replicate (lnAt w k).q 0 ++ [0]))) (hno : ∀ x, vN R.length x → m x ≠ o) :
    WH R fs (mvQ m k o) (fun i => if i = k then 0 else off i) (enqS k w) (H.set (m (.lb k)) (.box (lnA o 0 (enqL (lnAt w k))))) := by
  have hkl : k < w.ln.length := by omega
  refine ⟨fun x y hx hy e => ?_, fun y hy => ?_⟩
  · by_cases c1 : x = .qr k
    · by_cases c2 : y = .qr k
      · rw [c1, c2]
      · rw [c1, mvQ_eq, mvQ_ne c2] at e
        exact absurd e.symm (hno y hy)
    · by_cases c2 : y = .qr k
      · rw [c2, mvQ_eq, mvQ_ne c1] at e
        exact absurd e (hno x hx)
      · rw [mvQ_ne c1, mvQ_ne c2] at e
        exact h.inj x y hx hy e
  · by_cases e2 : y = .qr k
    · subst e2
      rw [mvQ_eq, List.getElem?_set_ne (hno _ (show vN R.length (.lb k) from hk)), ho]
      simp only [hpC, enqS, lnAt_set hkl, if_true, enqL, Nat.zero_add]
      rw [List.replicate_succ']
    · rw [mvQ_ne e2]
      by_cases e : y = .lb k
      · subst e
        rw [List.getElem?_set_self (h.lt hy)]
        simp only [hpC, enqS, lnAt_set hkl, if_true, mvQ_eq]
      · rw [List.getElem?_set_ne (h.ne (x := .lb k) hk hy (Ne.symm e)), h.at' y hy]
        cases y with
        | lb i =>
          have hik : ¬ i = k := fun c => e (by rw [c])
          simp only [hpC, enqS, lnAt_set hkl, if_neg hik, mvQ]
        | qr i =>
          have hik : ¬ i = k := fun c => e2 (by rw [c])
          simp only [hpC, enqS, lnAt_set hkl, if_neg hik]
        | _ => rfl
theorem Nxt.mvQ {n : Nat} {H' : List AO} {m' : Nm → Nat} (h : Nxt n m H m' H') {k o : Nat} (ho : H.length ≤ o) : Nxt n m H (mvQ m' k o) H' := by
  refine ⟨h.len, fun x hx => ?_, fun x hx => ?_, h.old⟩
  · rw [mvQ_ne (by intro c; rw [c] at hx; exact hx)]
    exact h.fix x hx
  · by_cases c : x = .qr k
    · rw [c, mvQ_eq]; exact .inr ho
    · rw [mvQ_ne c]; exact h.mv x hx
theorem Nxt.setM {n : Nat} {H' : List AO} {m' : Nm → Nat} (h : Nxt n m H m' H') (x : Nm) (hx : vN n x) (ob : AO) : Nxt n m H m' (H'.set (m' x) ob) :=
  ⟨by rw [List.length_set]; exact h.len, h.fix, h.mv, fun i hi hn => by
    rw [List.getElem?_set_ne (by
      rcases h.mv x hx with e | e
      · rw [e]; exact hn x hx
      · omega)]
    exact h.old i hi hn⟩
end
end Go.Proofs.YtekniokkmgencaaGreat
end
