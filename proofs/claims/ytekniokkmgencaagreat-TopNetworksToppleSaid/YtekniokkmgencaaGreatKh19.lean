/-
  Texts joined: Ib Ic Id Ie.
-/
import Derived.Test.YtekniokkmgencaaGreatKh18

section
set_option linter.unusedSimpArgs false
set_option linter.unusedVariables false
namespace Go.Proofs.YtekniokkmgencaaGreat
open Go.Abs Go.Sand
abbrev rowQ (c : List Int) : AO := .row (c.map PV.i) 1 3 false
structure Ln where
  q : Nat
  rem : Int
  snt : Int
  frm : Nat
  to : Nat
  acc : Int
  deriving Inhabited
structure Pk where
  ack : Bool
  ln : Nat
  num : Int
structure WS where
  st : List Nat
  wt : List Int
  cn : List Int
  ln : List Ln
  fl : List (Pk × Int)
  tk : Int
  sent : Int
  large : Bool
def lnAt (w : WS) (k : Nat) : Ln := w.ln.getD k default
def fateF (fs : List Int) (s : Int) : Int := if s < fs.length then fs.getD s.toNat 0 else 0
def delF (f : Int) : List Int := if f = 0 then [1] else if f = 2 then [1, 2] else if f = 3 then [6] else []
def sendS (fs : List Int) (p : Pk) (w : WS) : WS := { w with sent := w.sent + 1, fl := w.fl ++ (delF (fateF fs w.sent)).map fun d => (p, w.tk + d) }
def waitS (p : Nat) (w : WS) : WS := { w with wt := w.wt.set p (w.wt.getD p 0 + 1), large := w.large || decide (1048576 < w.wt.getD p 0 + 1) }
def dropL (num : Int) (l : Ln) : Ln := if (num - l.rem).toNat = 0 ∨ l.q = 0 then l else { l with q := l.q - (num - l.rem).toNat, rem := l.rem + min l.q (num - l.rem).toNat, snt := 0 }
def handleS (fs : List Int) (p : Pk) (w : WS) : WS :=
  if p.ack then { w with ln := w.ln.set p.ln (dropL p.num (lnAt w p.ln)) }
  else
    let w1 := if p.num = (lnAt w p.ln).acc + 1 then waitS (lnAt w p.ln).to { w with ln := w.ln.set p.ln { lnAt w p.ln with acc := (lnAt w p.ln).acc + 1 } } else w
    sendS fs ⟨true, p.ln, (lnAt w1 p.ln).acc⟩ w1
def arriveS (fs : List Int) (w : WS) : WS := (w.fl.filter fun x => x.2 = w.tk).foldl (fun w x => handleS fs x.1 w) { w with fl := w.fl.filter fun x => ¬ x.2 = w.tk }
def putS (n p : Nat) (w : WS) (t : Nat) : WS := if t = p then waitS p w else { w with ln := w.ln.set (p * n + t) { lnAt w (p * n + t) with q := (lnAt w (p * n + t)).q + 1 } }
def ruleAt (R : List (List Rl)) (p s : Nat) : Rl := (R.getD p []).getD s (0, [])
def readS (R : List (List Rl)) (p : Nat) (w : WS) : WS :=
  if 0 < w.wt.getD p 0 then
    (ruleAt R p (w.st.getD p 0)).2.foldl (putS R.length p) { w with wt := w.wt.set p (w.wt.getD p 0 - 1), cn := w.cn.set p (w.cn.getD p 0 + 1), st := w.st.set p (ruleAt R p (w.st.getD p 0)).1 }
  else w
def pushS (fs : List Int) (w : WS) (k : Nat) : WS :=
  if 0 < (lnAt w k).q ∧ ((lnAt w k).snt = 0 ∨ 4 ≤ w.tk - (lnAt w k).snt) then
    let w1 := sendS fs ⟨false, k, (lnAt w k).rem + 1⟩ w
    { w1 with ln := w1.ln.set k { lnAt w1 k with snt := w1.tk } }
  else w
def tickS (R : List (List Rl)) (fs : List Int) (w : WS) : WS :=
  let w1 := arriveS fs { w with tk := w.tk + 1 }
  let w2 := (List.range R.length).foldl (fun w p => readS R p w) w1
  (List.range (R.length * R.length)).foldl (pushS fs) w2
def begunS (x : Net) : WS where
  st := x.st
  wt := x.wt
  cn := List.replicate x.rules.length 0
  ln := (List.range (x.rules.length * x.rules.length)).map fun k => ⟨0, 0, 0, k / x.rules.length, k % x.rules.length, 0⟩
  fl := []
  tk := 0
  sent := 0
  large := false
inductive Nm where
  | W | St | Wt | Cn | Ln | Fl
  | wr (p : Nat)
  | cr (p : Nat)
  | lb (k : Nat)
  | qr (k : Nat)
  deriving DecidableEq
def vN (n : Nat) : Nm → Prop
  | .wr p | .cr p => p < n
  | .lb k | .qr k => k < n * n
  | _ => True
def fixN : Nm → Prop
  | .qr _ | .Fl => False
  | _ => True
abbrev lnA (q off : Nat) (l : Ln) : AV := .agg [.os q off l.q, .p (.i l.rem), .p (.i l.snt), .p (.i l.frm), .p (.i l.to), .p (.i l.acc)]
def pkT (b : Bool) : TypeId := if b then 170 else 109
def pkV (m : Nm → Nat) (p : Pk) : AV := if p.ack then .agg [.ptr (m (.lb p.ln)) 1 0 0, .p (.i p.num)] else .agg [.ptr (m (.lb p.ln)) 1 0 0, .p (.i p.num), .p (.i 0)]
abbrev pkI (m : Nm → Nat) (p : Pk) : AV := .ifc (pkT p.ack) (pkV m p)
abbrev pkA (m : Nm → Nat) (x : Pk × Int) : AV := .agg [pkI m x.1, .p (.i x.2)]
abbrev wiA (R : List (List Rl)) (fs : List Int) (m : Nm → Nat) (fl : Nat) (tk sent : Int) (large : Bool) : AV :=
  .agg [.p (.sl (R.map procP)), .os (m .St) 0 R.length, .os (m .Wt) 0 R.length, .os (m .Cn) 0 R.length, .os (m .Ln) 0 (R.length * R.length), .p (.is fs), .os (m .Fl) 0 fl, .p (.i tk), .p (.i sent), .p (.b large)]
def hpC (R : List (List Rl)) (fs : List Int) (m : Nm → Nat) (off : Nat → Nat) (w : WS) : Nm → AO
  | .W => .box (wiA R fs m w.fl.length w.tk w.sent w.large)
  | .St => .row (w.st.map fun (k : Nat) => PV.i (k : Int)) 1 3 false
  | .Wt => .tab ((List.range R.length).map fun p => .os (m (.wr p)) 0 1) 25 false
  | .wr p => rowQ [w.wt.getD p 0]
  | .Cn => .tab ((List.range R.length).map fun p => .os (m (.cr p)) 0 1) 25 false
  | .cr p => rowQ [w.cn.getD p 0]
  | .Ln => .tab ((List.range (R.length * R.length)).map fun k => .ptr (m (.lb k)) 1 0 0) 99 false
  | .lb k => .box (lnA (m (.qr k)) (off k) (lnAt w k))
  | .qr k => rowQ (List.replicate (off k + (lnAt w k).q) 0)
  | .Fl => .arr (w.fl.map (pkA m)) 2 144
structure WH (R : List (List Rl)) (fs : List Int) (m : Nm → Nat) (off : Nat → Nat) (w : WS) (H : List AO) : Prop where
  inj : ∀ x y, vN R.length x → vN R.length y → m x = m y → x = y
  at' : ∀ x, vN R.length x → H[m x]? = some (hpC R fs m off w x)
structure Nxt (n : Nat) (m : Nm → Nat) (H : List AO) (m' : Nm → Nat) (H' : List AO) : Prop where
  len : H.length ≤ H'.length
  fix : ∀ x, fixN x → m' x = m x
  mv : ∀ x, vN n x → m' x = m x ∨ H.length ≤ m' x
  old : ∀ o, o < H.length → (∀ x, vN n x → m x ≠ o) → H'[o]? = H[o]?
theorem Nxt.refl {n : Nat} {m : Nm → Nat} {H : List AO} : Nxt n m H m H := ⟨Nat.le_refl _, fun _ _ => rfl, fun _ _ => .inl rfl, fun _ _ _ => rfl⟩
theorem Nxt.trans {n : Nat} {m m' m'' : Nm → Nat} {H H' H'' : List AO} (h : Nxt n m H m' H') (k : Nxt n m' H' m'' H'') : Nxt n m H m'' H'' := by
  refine ⟨Nat.le_trans h.len k.len, fun x hx => (k.fix x hx).trans (h.fix x hx), fun x hx => ?_, fun o ho hn => ?_⟩
  · have := h.len
    rcases k.mv x hx with h1 | h1
    · rw [h1]; exact h.mv x hx
    · exact .inr (by omega)
  · rw [k.old o (Nat.lt_of_lt_of_le ho h.len) (fun x hx => ?_)]
    · exact h.old o ho hn
    · rcases h.mv x hx with h1 | h1
      · rw [h1]; exact hn x hx
      · omega
section
variable {R : List (List Rl)} {fs : List Int} {m : Nm → Nat} {off : Nat → Nat} {w w' : WS} {H : List AO}
theorem WH.lt (h : WH R fs m off w H) {x : Nm} (hx : vN R.length x) : m x < H.length := (List.getElem?_eq_some_iff.1 (h.at' x hx)).1
theorem WH.ne (h : WH R fs m off w H) {x y : Nm} (hx : vN R.length x) (hy : vN R.length y) (hn : x ≠ y) : ¬ m x = m y := fun e => hn (h.inj x y hx hy e)
theorem WH.set (h : WH R fs m off w H) {x : Nm} (hx : vN R.length x) {ob : AO} (hob : hpC R fs m off w' x = ob) (hoth : ∀ y, vN R.length y → y ≠ x → hpC R fs m off w' y = hpC R fs m off w y) : WH R fs m off w' (H.set (m x) ob) := by
  refine ⟨h.inj, fun y hy => ?_⟩
  by_cases e : y = x
  · subst e
    rw [List.getElem?_set_self (h.lt hy), hob]
  · rw [List.getElem?_set_ne (h.ne hx hy (Ne.symm e)), hoth y hy e]
    exact h.at' y hy
theorem Nxt.set (x : Nm) (hx : vN R.length x) (ob : AO) : Nxt R.length m H m (H.set (m x) ob) :=
  ⟨by simp, fun _ _ => rfl, fun _ _ => .inl rfl, fun o _ hn => List.getElem?_set_ne (hn x hx)⟩
end
end Go.Proofs.YtekniokkmgencaaGreat
end
section
set_option linter.unusedSimpArgs false
set_option linter.unusedVariables false
namespace Go.Proofs.YtekniokkmgencaaGreat
open Go.Abs Go.Sand
section
variable {R : List (List Rl)} {fs : List Int} {m : Nm → Nat} {off : Nat → Nat} {w : WS} {H : List AO} {K : AV → List AO → Prop}
theorem wait_hc (h : WH R fs m off w H) {p : Nat} (hp : p < R.length) (hwl : w.wt.length = R.length) (hb : -1000000000000 ≤ w.wt.getD p 0 ∧ w.wt.getD p 0 ≤ 1000000000000)
    (hK : ∀ H', WH R fs m off (waitS p w) H' → Nxt R.length m H m H' → K (.tup []) H') : HC Tryz.prog false 80 [.ptr (m .W) 1 0 0, .i p, .i 0] H K := by
  have hW := h.at' .W trivial
  have hT := h.at' .Wt trivial
  have hr := h.at' (.wr p) hp
  simp only [hpC] at hW hT hr
  have n1 := h.ne (x := .wr p) (y := .W) hp trivial (by simp)
  have n2 := h.ne (x := .wr p) (y := .Wt) hp trivial (by simp)
  have g1 : ∀ ob, (H.set (m (.wr p)) ob)[m .W]? = _ := fun ob => (List.getElem?_set_ne n1).trans hW
  have g2 : ∀ ob, (H.set (m (.wr p)) ob)[m .Wt]? = _ := fun ob => (List.getElem?_set_ne n2).trans hT
  have g3 : ∀ ob, (H.set (m (.wr p)) ob)[m (.wr p)]? = some ob := fun ob => List.getElem?_set_self (h.lt (x := .wr p) hp)
  have hrg : (List.range R.length)[p]? = some p := List.getElem?_range hp
  obtain ⟨k, hk⟩ : ∃ k, k = w.wt.getD p 0 := ⟨_, rfl⟩
  rw [← hk] at hr hb
  refine HC_of_W (af := _) ((by exact cfn80 : cfn _ _ _ = some _)) ?_
  simp -implicitDefEqProofs (disch := omega) [c80, List.getElem?_cons_zero, List.getElem?_cons_succ, wrap_id, hW, hT, hr, hp, g1, g2, g3, hrg]
  have hst : WH R fs m off (waitS p w) ((H.set (m (.wr p)) (rowQ [k + 1])).set (m .W) (.box (wiA R fs m w.fl.length w.tk w.sent (w.large || decide (1048576 < k + 1))))) := by
    refine WH.set (w := { w with wt := w.wt.set p (w.wt.getD p 0 + 1) }) (WH.set h (x := .wr p) hp ?_ ?_) (x := .W) trivial ?_ ?_
    · simp only [hpC, hk]
      rw [List.getD_eq_getElem?_getD, List.getElem?_set_self (by omega)]
      rfl
    · intro y hy hn
      cases y with
      | wr q =>
        simp only [hpC]
        rw [List.getD_eq_getElem?_getD, List.getElem?_set_ne (fun e => hn (by rw [e])), ← List.getD_eq_getElem?_getD]
      | _ => rfl
    · simp only [hpC, waitS, hk]
    · intro y hy hn
      cases y with
      | W => exact absurd rfl hn
      | _ => rfl
  have hnx : ∀ a b, Nxt R.length m H m ((H.set (m (.wr p)) a).set (m .W) b) := fun a b => (Nxt.set (.wr p) hp a).trans (Nxt.set .W trivial b)
  have hfin := hK _ hst (hnx _ _)
  cases hlg : w.large
  · rw [hlg] at hfin
    by_cases hbig : 1048576 < k + 1
    · simp -implicitDefEqProofs (disch := omega) [List.getElem?_cons_zero, List.getElem?_cons_succ, wrap_id, hW, hT, hr, hp, g1, g2, g3, hrg, hlg, hbig]
      simp only [hbig, decide_true, Bool.or_true] at hfin
      exact finH trivial rfl hfin
    · simp -implicitDefEqProofs (disch := omega) [List.getElem?_cons_zero, List.getElem?_cons_succ, wrap_id, hW, hT, hr, hp, g1, g2, g3, hrg, hlg, hbig]
      simp only [hbig, decide_false, Bool.or_false] at hfin
      exact finH trivial rfl hfin
  · rw [hlg] at hfin
    simp -implicitDefEqProofs (disch := omega) [List.getElem?_cons_zero, List.getElem?_cons_succ, wrap_id, hW, hT, hr, hp, g1, g2, g3, hrg, hlg]
    exact finH trivial rfl hfin
end
end Go.Proofs.YtekniokkmgencaaGreat
end
section
set_option linter.unusedSimpArgs false
set_option linter.unusedVariables false
namespace Go.Proofs.YtekniokkmgencaaGreat
open Go.Abs Go.Sand
section
variable {R : List (List Rl)} {fs : List Int} {m : Nm → Nat} {off : Nat → Nat} {w : WS} {H : List AO} {K : AV → List AO → Prop}
theorem WH.app (h : WH R fs m off w H) (G : List AO) : WH R fs m off w (H ++ G) :=
  ⟨h.inj, fun x hx => by rw [List.getElem?_append_left (h.lt hx)]; exact h.at' x hx⟩
theorem Nxt.app {n : Nat} (G : List AO) : Nxt n m H m (H ++ G) := ⟨by simp, fun _ _ => rfl, fun _ _ => .inl rfl, fun o ho _ => List.getElem?_append_left ho⟩
theorem lnAt_set {w : WS} {k i : Nat} {l : Ln} (hk : k < w.ln.length) : lnAt { w with ln := w.ln.set k l } i = if i = k then l else lnAt w i := by
  unfold lnAt
  rw [List.getD_eq_getElem?_getD, List.getD_eq_getElem?_getD, List.getElem?_set]
  by_cases e : k = i
  · subst e
    simp [hk]
  · rw [if_neg e, if_neg (fun h => e h.symm)]
theorem WH.line (h : WH R fs m off w H) {k : Nat} (hk : k < R.length * R.length) (hll : w.ln.length = R.length * R.length) (l : Ln) (o : Nat) (ho : o + l.q = off k + (lnAt w k).q) :
    WH R fs m (fun i => if i = k then o else off i) { w with ln := w.ln.set k l } (H.set (m (.lb k)) (.box (lnA (m (.qr k)) o l))) := by
  refine ⟨h.inj, fun y hy => ?_⟩
  by_cases e : y = .lb k
  · subst e
    rw [List.getElem?_set_self (h.lt hy)]
    simp only [hpC, if_true, lnAt_set (by omega : k < w.ln.length)]
  · rw [List.getElem?_set_ne (h.ne (x := .lb k) hk hy (Ne.symm e)), h.at' y hy]
    cases y with
    | lb i =>
      have hik : ¬ i = k := fun c => e (by rw [c])
      simp only [hpC, lnAt_set (by omega : k < w.ln.length), if_neg hik]
    | qr i =>
      simp only [hpC, lnAt_set (by omega : k < w.ln.length)]
      by_cases c : i = k
      · subst c
        simp only [if_true, ho]
      · simp only [if_neg c]
    | _ => rfl
theorem along_l (o : Nat) (a b : Int) {ob : AO} (ho : H[o]? = some ob) (h1 : ob.len = 1) (hK : ∀ G, K (.ptr o 1 0 0) (H ++ G)) : HC Tryz.prog false 128 [.agg [.ptr o 1 0 0, .p (.i a), .p (.i b)]] H K := by
  refine HC_of_W (af := _) ((by exact cfn128 : cfn _ _ _ = some _)) ?_
  simp -implicitDefEqProofs (disch := omega) [c128, List.getElem?_cons_zero, List.getElem?_cons_succ, wrap_id, List.getElem?_concat_length]
  exact finH trivial rfl (hK _)
theorem along_r (o : Nat) (a : Int) (hK : ∀ G, K (.ptr o 1 0 0) (H ++ G)) : HC Tryz.prog false 129 [.agg [.ptr o 1 0 0, .p (.i a)]] H K := by
  refine HC_of_W (af := _) ((by exact cfn129 : cfn _ _ _ = some _)) ?_
  simp -implicitDefEqProofs (disch := omega) [c129, List.getElem?_cons_zero, List.getElem?_cons_succ, wrap_id, List.getElem?_concat_length]
  exact finH trivial rfl (hK _)
def dropJ (l : Ln) (j : Nat) : Ln := if j = 0 then l else { l with q := l.q - j, rem := l.rem + j, snt := 0 }
theorem drop_hc (h : WH R fs m off w H) {k : Nat} (hk : k < R.length * R.length) (hll : w.ln.length = R.length * R.length) (num : Int) (hb : -1000000000000 ≤ (lnAt w k).rem ∧ (lnAt w k).rem ≤ 1000000000000) (hq : (lnAt w k).q ≤ 1000000)
    (hK : ∀ H' o', WH R fs m (fun i => if i = k then o' else off i) { w with ln := w.ln.set k (dropL num (lnAt w k)) } H' → o' + (dropL num (lnAt w k)).q = off k + (lnAt w k).q → Nxt R.length m H m H' → K (.tup []) H') :
    HC Tryz.prog false 100 [.ptr (m (.lb k)) 1 0 0, .i num] H K := by
  obtain ⟨l, hl⟩ : ∃ l, l = lnAt w k := ⟨_, rfl⟩
  have hL := h.at' (.lb k) hk
  have hQ := h.at' (.qr k) hk
  simp only [hpC, ← hl] at hL hQ
  rw [← hl] at hb hq
  have n1 := h.ne (x := .lb k) (y := .qr k) hk hk (by simp)
  have g1 : ∀ ob, (H.set (m (.lb k)) ob)[m (.qr k)]? = _ := fun ob => (List.getElem?_set_ne n1).trans hQ
  have g2 : ∀ ob, (H.set (m (.lb k)) ob)[m (.lb k)]? = some ob := fun ob => List.getElem?_set_self (h.lt (x := .lb k) hk)
  refine HC_of_W (af := _) ((by exact cfn100 : cfn _ _ _ = some _)) ?_
  simp -implicitDefEqProofs (disch := omega) [c100, List.getElem?_cons_zero, List.getElem?_cons_succ, wrap_id]
  refine loopW (min l.q (num - l.rem).toNat) (fun j s => s = ⟨[(0, .ptr (m (.lb k)) 1 0 0), (1, .i num)], H.set (m (.lb k)) (.box (lnA (m (.qr k)) (off k + j) (dropJ l j)))⟩) (Wk_keep [0, 1]) (by rw [set_same]; rfl; rw [hL]; rfl) ?_
  rintro j s hj rfl
  have hjq : (dropJ l j).q = l.q - j := by unfold dropJ; split <;> simp_all
  have hjr : (dropJ l j).rem = l.rem + j := by unfold dropJ; split <;> simp_all
  have hjf : (dropJ l j).frm = l.frm := by unfold dropJ; split <;> rfl
  have hjt : (dropJ l j).to = l.to := by unfold dropJ; split <;> rfl
  have hja : (dropJ l j).acc = l.acc := by unfold dropJ; split <;> rfl
  have e1 : off k + j + (l.q - j) = off k + l.q := by omega
  by_cases hlt : j < min l.q (num - l.rem).toNat
  · have b1 : l.rem + j < num := by omega
    have b2 : 0 < l.q - j := by omega
    have b3 : 1 ≤ l.q - j := by omega
    have e2 : off k + j + 1 + (l.q - j - 1) = off k + l.q := by omega
    simp -implicitDefEqProofs (disch := omega) [List.getElem?_cons_zero, List.getElem?_cons_succ, wrap_id, g1, g2, hjq, hjr, e1, e2, b1, b2, b3, hjf, hjt, hja]
    refine round_keep [0, 1] hlt ?_
    have e3 : l.q - j - 1 = l.q - (j + 1) := by omega
    have e4 : l.rem + (j : Int) + 1 = l.rem + ((j + 1 : Nat) : Int) := by omega
    show St.mk _ _ = St.mk _ _
    congr 2
    simp only [dropJ, if_neg (Nat.succ_ne_zero j), e3, e4, Nat.add_assoc, Option.map_some, putO]
  · have hjm : j = min l.q (num - l.rem).toNat := by omega
    have hdd : dropL num (lnAt w k) = dropJ l j := by
      rw [← hl]
      unfold dropL dropJ
      by_cases c : (num - l.rem).toNat = 0 ∨ l.q = 0
      · rw [if_pos c, if_pos (by omega)]
      · rw [if_neg c, if_neg (by omega)]
        have c1 : l.q - (num - l.rem).toNat = l.q - j := by omega
        rw [c1, hjm]
    rw [hdd] at hK
    have hfin := hK _ (off k + j) (WH.line h hk hll (dropJ l j) (off k + j) (by rw [← hl, hjq]; omega)) (by rw [← hl, hjq]; omega) (Nxt.set (.lb k) hk _)
    by_cases b1 : l.rem + j < num
    · have b2 : ¬ 0 < l.q - j := by omega
      have b4 : (j = l.q) = True := eq_true (by omega)
      simp -implicitDefEqProofs (disch := omega) [List.getElem?_cons_zero, List.getElem?_cons_succ, wrap_id, g1, g2, hjq, hjr, e1, b1, b2, b4]
      exact finH trivial rfl hfin
    · simp -implicitDefEqProofs (disch := omega) [List.getElem?_cons_zero, List.getElem?_cons_succ, wrap_id, g1, g2, hjq, hjr, e1, b1]
      exact finH trivial rfl hfin
end
end Go.Proofs.YtekniokkmgencaaGreat
end
section
set_option linter.unusedSimpArgs false
set_option linter.unusedVariables false
namespace Go.Proofs.YtekniokkmgencaaGreat
open Go.Abs Go.Sand
section
variable {R : List (List Rl)} {fs : List Int} {m : Nm → Nat} {off : Nat → Nat} {w : WS} {H : List AO} {K : AV → List AO → Prop}
theorem WH.fly (h : WH R fs m off w H) (l : List (Pk × Int)) : WH R fs m off { w with fl := l } ((H.set (m .Fl) (.arr (l.map (pkA m)) 2 144)).set (m .W) (.box (wiA R fs m l.length w.tk w.sent w.large))) := by
  refine ⟨h.inj, fun y hy => ?_⟩
  by_cases e : y = .W
  · subst e
    rw [List.getElem?_set_self (by rw [List.length_set]; exact h.lt trivial)]
    rfl
  · rw [List.getElem?_set_ne (h.ne (x := .W) trivial hy (Ne.symm e))]
    by_cases e2 : y = .Fl
    · subst e2
      rw [List.getElem?_set_self (h.lt hy)]
      rfl
    · rw [List.getElem?_set_ne (h.ne (x := .Fl) trivial hy (Ne.symm e2)), h.at' y hy]
      cases y with
      | W => exact absurd rfl e
      | Fl => exact absurd rfl e2
      | _ => rfl
def delW (D : List Int) (pk : Pk) (w : WS) (j : Nat) : WS := { w with sent := w.sent + 1, fl := w.fl ++ (D.take j).map fun d => (pk, w.tk + d) }
theorem send_hc (h : WH R fs m off w H) (pk : Pk) (hfs : fs.length ≤ 4096) (hf : ∀ f ∈ fs, 0 ≤ f ∧ f ≤ 3) (hs : 0 ≤ w.sent ∧ w.sent ≤ 1000000000000) (ht : 0 ≤ w.tk ∧ w.tk ≤ 1000000) (hfl : w.fl.length ≤ 1000000)
    (hK : ∀ H', WH R fs m off (sendS fs pk w) H' → Nxt R.length m H m H' → K (.tup []) H') :
    HC Tryz.prog false 48 [.ptr (m .W) 1 0 0, pkI m pk] H K := by
  have hW := h.at' .W trivial
  simp only [hpC] at hW
  have g1 : ∀ ob, (H.set (m .W) ob)[m .W]? = some ob := fun ob => List.getElem?_set_self (h.lt (x := .W) trivial)
  have gc : ∀ ob x, (H.set (m .W) ob ++ [x])[H.length]? = some x := fun ob x => by rw [List.getElem?_append_right (by simp)]; simp
  have hH1 : WH R fs m off { w with sent := w.sent + 1 } (H.set (m .W) (.box (wiA R fs m w.fl.length w.tk (w.sent + 1) w.large))) := WH.set h (x := .W) trivial rfl (fun y hy hn => by
    cases y with
    | W => exact absurd rfl hn
    | _ => rfl)
  have key : ∀ f, fateF fs w.sent = f → 0 ≤ f ∧ f ≤ 3 := fun f hff => by
    subst hff
    unfold fateF
    split
    · rename_i c
      refine hf _ ?_
      rw [List.getD_eq_getElem?_getD, List.getElem?_eq_getElem (by omega)]
      exact List.getElem_mem _
    · omega
  obtain ⟨f, hff⟩ : ∃ f, fateF fs w.sent = f := ⟨_, rfl⟩
  have hf03 := key f hff
  refine HC_of_W (af := _) ((by exact cfn48 : cfn _ _ _ = some _)) ?_
  by_cases hlt : w.sent < fs.length
  · obtain ⟨i, hi⟩ : ∃ i : Nat, w.sent = i := ⟨w.sent.toNat, by omega⟩
    have hil : i < fs.length := by omega
    have hfi : fs[i] = f := by
      rw [← hff]
      unfold fateF
      rw [if_pos hlt, hi]
      simp [List.getD_eq_getElem?_getD, hil]
    simp -implicitDefEqProofs (disch := omega) [c48, List.getElem?_cons_zero, List.getElem?_cons_succ, wrap_id, hW, g1, hi, hil, hfi]
    have hc : f = 0 ∨ f = 1 ∨ f = 2 ∨ f = 3 := by omega
    have hi' := hi
    rcases hc with hfv | hfv | hfv | hfv
    · simp -implicitDefEqProofs (disch := omega) [List.getElem?_cons_zero, List.getElem?_cons_succ, wrap_id, hfv, gc]
      obtain ⟨D, hD⟩ : ∃ D : List Int, D = [1] := ⟨_, rfl⟩
      have hDf : delF f = D := by rw [hD]; subst hfv; rfl
      have hDb : ∀ d ∈ D, 0 ≤ d ∧ d ≤ 6 := by rw [hD]; simp
      refine loopW D.length (fun j s => ∃ H', s = ⟨[(47, .i j), (46, .i D.length), (45, .os H.length 0 D.length), (0, .ptr (m .W) 1 0 0), (1, pkI m pk)], H'⟩ ∧ WH R fs m off (delW D pk w j) H' ∧ Nxt R.length m H m H' ∧ H'[H.length]? = some (rowQ D)) (Wk_keep [47, 46, 45, 0, 1]) ?_ ?_
      · refine ⟨H.set (m .W) (.box (wiA R fs m w.fl.length w.tk (w.sent + 1) w.large)) ++ [rowQ D], by rw [hD]; first | rfl | (rw [hi']; rfl), ?_, ?_, ?_⟩
        · simpa [delW] using WH.app hH1 [rowQ D]
        · exact (Nxt.set .W trivial _).trans (Nxt.app _)
        · rw [List.getElem?_append_right (by simp)]; simp
      rintro j s hj ⟨H', rfl, hw, hn, hr⟩
      by_cases hlj : j < D.length
      · have hW2 := hw.at' .W trivial
        have hF2 := hw.at' .Fl trivial
        simp only [hpC, delW] at hW2 hF2
        have nWF := hw.ne (x := .Fl) (y := .W) trivial trivial (by simp)
        have lF := hw.lt (x := .Fl) trivial
        have a1 : ∀ X, (H' ++ X)[m .W]? = _ := fun X => (List.getElem?_append_left (hw.lt (x := .W) trivial)).trans hW2
        have a2 : ∀ X, (H' ++ X)[m .Fl]? = _ := fun X => (List.getElem?_append_left lF).trans hF2
        have a3 : ∀ x, (H' ++ [x])[H'.length]? = some x := fun x => List.getElem?_concat_length
        have a4 : ∀ X y, ((H' ++ X).set (m .Fl) y)[m .W]? = _ := fun X y => (List.getElem?_set_ne nWF).trans (a1 X)
        have hdj := hDb _ (List.getElem_mem hlj)
        have hdl : D.length ≤ 2 := by rw [hD]; simp
        have b1 : w.fl.length + j + 1 ≤ 1048576 := by omega
        have hmin : min j D.length = j := by omega
        have a5 : ∀ X y, (H'.set (m .Fl) y ++ X)[m .W]? = _ := fun X y => (List.getElem?_append_left (by rw [List.length_set]; exact hw.lt (x := .W) trivial)).trans ((List.getElem?_set_ne nWF).trans hW2)
        have a6 : ∀ X y, (H'.set (m .Fl) y ++ X)[m .Fl]? = some y := fun X y => (List.getElem?_append_left (by rw [List.length_set]; exact lF)).trans (List.getElem?_set_self lF)
        have hE : w.fl.map (pkA m) ++ (List.take j (List.map (pkA m ∘ fun d => (pk, w.tk + d)) D) ++ [AV.agg [pkI m pk, .p (.i (w.tk + D[j]))]]) = ((delW D pk w (j + 1)).fl).map (pkA m) := by
          simp only [delW, List.map_append, List.map_map, ← List.map_take, ← List.take_append_getElem hlj]
          rfl
        have hEl : w.fl.length + j + 1 = (delW D pk w (j + 1)).fl.length := by simp [delW]; omega
        have hfly := WH.fly (hw.app [.arr [.agg [pkI m pk, .p (.i (w.tk + D[j]))]] 2 144]) ((delW D pk w (j + 1)).fl)
        rw [List.set_append_left _ _ lF] at hfly
        have hnx2 := (hn.trans (Nxt.app [.arr [.agg [pkI m pk, .p (.i (w.tk + D[j]))]] 2 144])).trans ((Nxt.set .Fl trivial (.arr (((delW D pk w (j + 1)).fl).map (pkA m)) 2 144)).trans (Nxt.set .W trivial (.box (wiA R fs m (delW D pk w (j + 1)).fl.length w.tk (w.sent + 1) w.large))))
        rw [List.set_append_left _ _ lF] at hnx2
        have b2 : (delW D pk w (j + 1)).fl.length ≤ 1048576 := hEl ▸ b1
        simp -implicitDefEqProofs (disch := omega) [List.getElem?_cons_zero, List.getElem?_cons_succ, wrap_id, hr, hlj, hW2, hF2, a1, a2, a3, a4, a5, a6, hmin, b1, b2, hE, hEl]
        refine round_keep [47, 46, 45, 0, 1] hlj ?_
        refine ⟨_, rfl, hfly, hnx2, ?_⟩
        have lh := (List.getElem?_eq_some_iff.1 hr).1
        rw [List.getElem?_set_ne (by have := h.lt (x := .W) trivial; omega), List.getElem?_append_left (by simpa using lh), List.getElem?_set_ne (by have := h.lt (x := .Fl) trivial; omega)]
        exact hr
      · obtain rfl : j = D.length := by omega
        simp -implicitDefEqProofs (disch := omega) [List.getElem?_cons_zero, List.getElem?_cons_succ, wrap_id, hr, hlj]
        have e1 : delW D pk w D.length = sendS fs pk w := by simp [delW, sendS, hff, hDf]
        rw [e1] at hw
        exact finH trivial rfl (hK _ hw hn)
    · simp -implicitDefEqProofs (disch := omega) [List.getElem?_cons_zero, List.getElem?_cons_succ, wrap_id, hfv]
      refine loopW 0 (fun j s => s = ⟨[(47, .i j), (46, .i 0), (0, .ptr (m .W) 1 0 0)], H.set (m .W) (.box (wiA R fs m w.fl.length w.tk (w.sent + 1) w.large))⟩) (Wk_keep [47, 46, 0]) (by rw [hi']; rfl) ?_
      rintro j s hj rfl
      obtain rfl : j = 0 := by omega
      simp -implicitDefEqProofs (disch := omega) [List.getElem?_cons_zero, List.getElem?_cons_succ, wrap_id]
      have e1 : sendS fs pk w = { w with sent := w.sent + 1 } := by simp [sendS, hff, hfv, delF]
      rw [e1] at hK
      exact finH trivial rfl (hK _ hH1 (Nxt.set .W trivial _))
    · simp -implicitDefEqProofs (disch := omega) [List.getElem?_cons_zero, List.getElem?_cons_succ, wrap_id, hfv, gc]
      obtain ⟨D, hD⟩ : ∃ D : List Int, D = [1, 2] := ⟨_, rfl⟩
      have hDf : delF f = D := by rw [hD]; subst hfv; rfl
      have hDb : ∀ d ∈ D, 0 ≤ d ∧ d ≤ 6 := by rw [hD]; simp
      refine loopW D.length (fun j s => ∃ H', s = ⟨[(47, .i j), (46, .i D.length), (45, .os H.length 0 D.length), (0, .ptr (m .W) 1 0 0), (1, pkI m pk)], H'⟩ ∧ WH R fs m off (delW D pk w j) H' ∧ Nxt R.length m H m H' ∧ H'[H.length]? = some (rowQ D)) (Wk_keep [47, 46, 45, 0, 1]) ?_ ?_
      · refine ⟨H.set (m .W) (.box (wiA R fs m w.fl.length w.tk (w.sent + 1) w.large)) ++ [rowQ D], by rw [hD]; first | rfl | (rw [hi']; rfl), ?_, ?_, ?_⟩
        · simpa [delW] using WH.app hH1 [rowQ D]
        · exact (Nxt.set .W trivial _).trans (Nxt.app _)
        · rw [List.getElem?_append_right (by simp)]; simp
      rintro j s hj ⟨H', rfl, hw, hn, hr⟩
      by_cases hlj : j < D.length
      · have hW2 := hw.at' .W trivial
        have hF2 := hw.at' .Fl trivial
        simp only [hpC, delW] at hW2 hF2
        have nWF := hw.ne (x := .Fl) (y := .W) trivial trivial (by simp)
        have lF := hw.lt (x := .Fl) trivial
        have a1 : ∀ X, (H' ++ X)[m .W]? = _ := fun X => (List.getElem?_append_left (hw.lt (x := .W) trivial)).trans hW2
        have a2 : ∀ X, (H' ++ X)[m .Fl]? = _ := fun X => (List.getElem?_append_left lF).trans hF2
        have a3 : ∀ x, (H' ++ [x])[H'.length]? = some x := fun x => List.getElem?_concat_length
        have a4 : ∀ X y, ((H' ++ X).set (m .Fl) y)[m .W]? = _ := fun X y => (List.getElem?_set_ne nWF).trans (a1 X)
        have hdj := hDb _ (List.getElem_mem hlj)
        have hdl : D.length ≤ 2 := by rw [hD]; simp
        have b1 : w.fl.length + j + 1 ≤ 1048576 := by omega
        have hmin : min j D.length = j := by omega
        have a5 : ∀ X y, (H'.set (m .Fl) y ++ X)[m .W]? = _ := fun X y => (List.getElem?_append_left (by rw [List.length_set]; exact hw.lt (x := .W) trivial)).trans ((List.getElem?_set_ne nWF).trans hW2)
        have a6 : ∀ X y, (H'.set (m .Fl) y ++ X)[m .Fl]? = some y := fun X y => (List.getElem?_append_left (by rw [List.length_set]; exact lF)).trans (List.getElem?_set_self lF)
        have hE : w.fl.map (pkA m) ++ (List.take j (List.map (pkA m ∘ fun d => (pk, w.tk + d)) D) ++ [AV.agg [pkI m pk, .p (.i (w.tk + D[j]))]]) = ((delW D pk w (j + 1)).fl).map (pkA m) := by
          simp only [delW, List.map_append, List.map_map, ← List.map_take, ← List.take_append_getElem hlj]
          rfl
        have hEl : w.fl.length + j + 1 = (delW D pk w (j + 1)).fl.length := by simp [delW]; omega
        have hfly := WH.fly (hw.app [.arr [.agg [pkI m pk, .p (.i (w.tk + D[j]))]] 2 144]) ((delW D pk w (j + 1)).fl)
        rw [List.set_append_left _ _ lF] at hfly
        have hnx2 := (hn.trans (Nxt.app [.arr [.agg [pkI m pk, .p (.i (w.tk + D[j]))]] 2 144])).trans ((Nxt.set .Fl trivial (.arr (((delW D pk w (j + 1)).fl).map (pkA m)) 2 144)).trans (Nxt.set .W trivial (.box (wiA R fs m (delW D pk w (j + 1)).fl.length w.tk (w.sent + 1) w.large))))
        rw [List.set_append_left _ _ lF] at hnx2
        have b2 : (delW D pk w (j + 1)).fl.length ≤ 1048576 := hEl ▸ b1
        simp -implicitDefEqProofs (disch := omega) [List.getElem?_cons_zero, List.getElem?_cons_succ, wrap_id, hr, hlj, hW2, hF2, a1, a2, a3, a4, a5, a6, hmin, b1, b2, hE, hEl]
        refine round_keep [47, 46, 45, 0, 1] hlj ?_
        refine ⟨_, rfl, hfly, hnx2, ?_⟩
        have lh := (List.getElem?_eq_some_iff.1 hr).1
        rw [List.getElem?_set_ne (by have := h.lt (x := .W) trivial; omega), List.getElem?_append_left (by simpa using lh), List.getElem?_set_ne (by have := h.lt (x := .Fl) trivial; omega)]
        exact hr
      · obtain rfl : j = D.length := by omega
        simp -implicitDefEqProofs (disch := omega) [List.getElem?_cons_zero, List.getElem?_cons_succ, wrap_id, hr, hlj]
        have e1 : delW D pk w D.length = sendS fs pk w := by simp [delW, sendS, hff, hDf]
        rw [e1] at hw
        exact finH trivial rfl (hK _ hw hn)
    · simp -implicitDefEqProofs (disch := omega) [List.getElem?_cons_zero, List.getElem?_cons_succ, wrap_id, hfv, gc]
      obtain ⟨D, hD⟩ : ∃ D : List Int, D = [6] := ⟨_, rfl⟩
      have hDf : delF f = D := by rw [hD]; subst hfv; rfl
      have hDb : ∀ d ∈ D, 0 ≤ d ∧ d ≤ 6 := by rw [hD]; simp
      refine loopW D.length (fun j s => ∃ H', s = ⟨[(47, .i j), (46, .i D.length), (45, .os H.length 0 D.length), (0, .ptr (m .W) 1 0 0), (1, pkI m pk)], H'⟩ ∧ WH R fs m off (delW D pk w j) H' ∧ Nxt R.length m H m H' ∧ H'[H.length]? = some (rowQ D)) (Wk_keep [47, 46, 45, 0, 1]) ?_ ?_
      · refine ⟨H.set (m .W) (.box (wiA R fs m w.fl.length w.tk (w.sent + 1) w.large)) ++ [rowQ D], by rw [hD]; first | rfl | (rw [hi']; rfl), ?_, ?_, ?_⟩
        · simpa [delW] using WH.app hH1 [rowQ D]
        · exact (Nxt.set .W trivial _).trans (Nxt.app _)
        · rw [List.getElem?_append_right (by simp)]; simp
      rintro j s hj ⟨H', rfl, hw, hn, hr⟩
      by_cases hlj : j < D.length
      · have hW2 := hw.at' .W trivial
        have hF2 := hw.at' .Fl trivial
        simp only [hpC, delW] at hW2 hF2
        have nWF := hw.ne (x := .Fl) (y := .W) trivial trivial (by simp)
        have lF := hw.lt (x := .Fl) trivial
        have a1 : ∀ X, (H' ++ X)[m .W]? = _ := fun X => (List.getElem?_append_left (hw.lt (x := .W) trivial)).trans hW2
        have a2 : ∀ X, (H' ++ X)[m .Fl]? = _ := fun X => (List.getElem?_append_left lF).trans hF2
        have a3 : ∀ x, (H' ++ [x])[H'.length]? = some x := fun x => List.getElem?_concat_length
        have a4 : ∀ X y, ((H' ++ X).set (m .Fl) y)[m .W]? = _ := fun X y => (List.getElem?_set_ne nWF).trans (a1 X)
        have hdj := hDb _ (List.getElem_mem hlj)
        have hdl : D.length ≤ 2 := by rw [hD]; simp
        have b1 : w.fl.length + j + 1 ≤ 1048576 := by omega
        have hmin : min j D.length = j := by omega
        have a5 : ∀ X y, (H'.set (m .Fl) y ++ X)[m .W]? = _ := fun X y => (List.getElem?_append_left (by rw [List.length_set]; exact hw.lt (x := .W) trivial)).trans ((List.getElem?_set_ne nWF).trans hW2)
        have a6 : ∀ X y, (H'.set (m .Fl) y ++ X)[m .Fl]? = some y := fun X y => (List.getElem?_append_left (by rw [List.length_set]; exact lF)).trans (List.getElem?_set_self lF)
        have hE : w.fl.map (pkA m) ++ (List.take j (List.map (pkA m ∘ fun d => (pk, w.tk + d)) D) ++ [AV.agg [pkI m pk, .p (.i (w.tk + D[j]))]]) = ((delW D pk w (j + 1)).fl).map (pkA m) := by
          simp only [delW, List.map_append, List.map_map, ← List.map_take, ← List.take_append_getElem hlj]
          rfl
        have hEl : w.fl.length + j + 1 = (delW D pk w (j + 1)).fl.length := by simp [delW]; omega
        have hfly := WH.fly (hw.app [.arr [.agg [pkI m pk, .p (.i (w.tk + D[j]))]] 2 144]) ((delW D pk w (j + 1)).fl)
        rw [List.set_append_left _ _ lF] at hfly
        have hnx2 := (hn.trans (Nxt.app [.arr [.agg [pkI m pk, .p (.i (w.tk + D[j]))]] 2 144])).trans ((Nxt.set .Fl trivial (.arr (((delW D pk w (j + 1)).fl).map (pkA m)) 2 144)).trans (Nxt.set .W trivial (.box (wiA R fs m (delW D pk w (j + 1)).fl.length w.tk (w.sent + 1) w.large))))
        rw [List.set_append_left _ _ lF] at hnx2
        have b2 : (delW D pk w (j + 1)).fl.length ≤ 1048576 := hEl ▸ b1
        simp -implicitDefEqProofs (disch := omega) [List.getElem?_cons_zero, List.getElem?_cons_succ, wrap_id, hr, hlj, hW2, hF2, a1, a2, a3, a4, a5, a6, hmin, b1, b2, hE, hEl]
        refine round_keep [47, 46, 45, 0, 1] hlj ?_
        refine ⟨_, rfl, hfly, hnx2, ?_⟩
        have lh := (List.getElem?_eq_some_iff.1 hr).1
        rw [List.getElem?_set_ne (by have := h.lt (x := .W) trivial; omega), List.getElem?_append_left (by simpa using lh), List.getElem?_set_ne (by have := h.lt (x := .Fl) trivial; omega)]
        exact hr
      · obtain rfl : j = D.length := by omega
        simp -implicitDefEqProofs (disch := omega) [List.getElem?_cons_zero, List.getElem?_cons_succ, wrap_id, hr, hlj]
        have e1 : delW D pk w D.length = sendS fs pk w := by simp [delW, sendS, hff, hDf]
        rw [e1] at hw
        exact finH trivial rfl (hK _ hw hn)
  · have hfv : f = 0 := by rw [← hff]; unfold fateF; rw [if_neg hlt]
    have hi' : w.sent = w.sent := rfl
    simp -implicitDefEqProofs (disch := omega) [c48, List.getElem?_cons_zero, List.getElem?_cons_succ, wrap_id, hW, g1, hlt, gc]
    obtain ⟨D, hD⟩ : ∃ D : List Int, D = [1] := ⟨_, rfl⟩
    have hDf : delF f = D := by rw [hD]; subst hfv; rfl
    have hDb : ∀ d ∈ D, 0 ≤ d ∧ d ≤ 6 := by rw [hD]; simp
    refine loopW D.length (fun j s => ∃ H', s = ⟨[(47, .i j), (46, .i D.length), (45, .os H.length 0 D.length), (0, .ptr (m .W) 1 0 0), (1, pkI m pk)], H'⟩ ∧ WH R fs m off (delW D pk w j) H' ∧ Nxt R.length m H m H' ∧ H'[H.length]? = some (rowQ D)) (Wk_keep [47, 46, 45, 0, 1]) ?_ ?_
    · refine ⟨H.set (m .W) (.box (wiA R fs m w.fl.length w.tk (w.sent + 1) w.large)) ++ [rowQ D], by rw [hD]; first | rfl | (rw [hi']; rfl), ?_, ?_, ?_⟩
      · simpa [delW] using WH.app hH1 [rowQ D]
      · exact (Nxt.set .W trivial _).trans (Nxt.app _)
      · rw [List.getElem?_append_right (by simp)]; simp
    rintro j s hj ⟨H', rfl, hw, hn, hr⟩
    by_cases hlj : j < D.length
    · have hW2 := hw.at' .W trivial
      have hF2 := hw.at' .Fl trivial
      simp only [hpC, delW] at hW2 hF2
      have nWF := hw.ne (x := .Fl) (y := .W) trivial trivial (by simp)
      have lF := hw.lt (x := .Fl) trivial
      have a1 : ∀ X, (H' ++ X)[m .W]? = _ := fun X => (List.getElem?_append_left (hw.lt (x := .W) trivial)).trans hW2
      have a2 : ∀ X, (H' ++ X)[m .Fl]? = _ := fun X => (List.getElem?_append_left lF).trans hF2
      have a3 : ∀ x, (H' ++ [x])[H'.length]? = some x := fun x => List.getElem?_concat_length
      have a4 : ∀ X y, ((H' ++ X).set (m .Fl) y)[m .W]? = _ := fun X y => (List.getElem?_set_ne nWF).trans (a1 X)
      have hdj := hDb _ (List.getElem_mem hlj)
      have hdl : D.length ≤ 2 := by rw [hD]; simp
      have b1 : w.fl.length + j + 1 ≤ 1048576 := by omega
      have hmin : min j D.length = j := by omega
      have a5 : ∀ X y, (H'.set (m .Fl) y ++ X)[m .W]? = _ := fun X y => (List.getElem?_append_left (by rw [List.length_set]; exact hw.lt (x := .W) trivial)).trans ((List.getElem?_set_ne nWF).trans hW2)
      have a6 : ∀ X y, (H'.set (m .Fl) y ++ X)[m .Fl]? = some y := fun X y => (List.getElem?_append_left (by rw [List.length_set]; exact lF)).trans (List.getElem?_set_self lF)
      have hE : w.fl.map (pkA m) ++ (List.take j (List.map (pkA m ∘ fun d => (pk, w.tk + d)) D) ++ [AV.agg [pkI m pk, .p (.i (w.tk + D[j]))]]) = ((delW D pk w (j + 1)).fl).map (pkA m) := by
        simp only [delW, List.map_append, List.map_map, ← List.map_take, ← List.take_append_getElem hlj]
        rfl
      have hEl : w.fl.length + j + 1 = (delW D pk w (j + 1)).fl.length := by simp [delW]; omega
      have hfly := WH.fly (hw.app [.arr [.agg [pkI m pk, .p (.i (w.tk + D[j]))]] 2 144]) ((delW D pk w (j + 1)).fl)
      rw [List.set_append_left _ _ lF] at hfly
      have hnx2 := (hn.trans (Nxt.app [.arr [.agg [pkI m pk, .p (.i (w.tk + D[j]))]] 2 144])).trans ((Nxt.set .Fl trivial (.arr (((delW D pk w (j + 1)).fl).map (pkA m)) 2 144)).trans (Nxt.set .W trivial (.box (wiA R fs m (delW D pk w (j + 1)).fl.length w.tk (w.sent + 1) w.large))))
      rw [List.set_append_left _ _ lF] at hnx2
      have b2 : (delW D pk w (j + 1)).fl.length ≤ 1048576 := hEl ▸ b1
      simp -implicitDefEqProofs (disch := omega) [List.getElem?_cons_zero, List.getElem?_cons_succ, wrap_id, hr, hlj, hW2, hF2, a1, a2, a3, a4, a5, a6, hmin, b1, b2, hE, hEl]
      refine round_keep [47, 46, 45, 0, 1] hlj ?_
      refine ⟨_, rfl, hfly, hnx2, ?_⟩
      have lh := (List.getElem?_eq_some_iff.1 hr).1
      rw [List.getElem?_set_ne (by have := h.lt (x := .W) trivial; omega), List.getElem?_append_left (by simpa using lh), List.getElem?_set_ne (by have := h.lt (x := .Fl) trivial; omega)]
      exact hr
    · obtain rfl : j = D.length := by omega
      simp -implicitDefEqProofs (disch := omega) [List.getElem?_cons_zero, List.getElem?_cons_succ, wrap_id, hr, hlj]
      have e1 : delW D pk w D.length = sendS fs pk w := by simp [delW, sendS, hff, hDf]
      rw [e1] at hw
      exact finH trivial rfl (hK _ hw hn)
end
end Go.Proofs.YtekniokkmgencaaGreat
end
