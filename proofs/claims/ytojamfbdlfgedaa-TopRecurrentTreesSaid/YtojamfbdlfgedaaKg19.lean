/-
  Texts joined: Dk Dl.
-/
import Derived.Test.YtojamfbdlfgedaaKg18

section
set_option linter.unusedSimpArgs false
set_option linter.unusedVariables false
namespace Go.Proofs.Ytojamfbdlfgedaa
open Go.Abs Go.Sand
attribute [local simp] ap_0 ap_i
section
variable (n : Nat) (es : List Ed) (L : List (Int × Int)) (lp : AO) (T : List AV) (fb nz : Nat) (y : AV) (xs : List Int) (e : Int) (F2 : List Int) (m0 : Nat) (Zb Z0 : List AO) (cnt : Nat)
theorem grg0 {K : St → Prop} {F : List Int} {c : Nat → Nat} (hF : TF F c) {a b : Nat} (ha : a < 12) (hb : b < 12) (hF2e : F2 = F.set (c a) ((c b : Nat) : Int)) (hnz : nz = Zb.length) (hZ0 : Z0 = Zb ++ [boxF F]) (hTk : TOk Zb y xs) {k : Nat} (hk : k < L.length) (hek : e = k) (hLk : L[k] = ((a : Int), (b : Int))) (hab : c a ≠ c b) : grG n es L lp T fb nz y xs e F2 m0 Zb Z0 cnt K grD0 (grS0 n es L lp T fb nz y e Z0) := by
  have hpp : pP L[k] = .agg [.i a, .i b] := by rw [hLk]
  have hz : Z0[nz]? = some (boxF F) := by rw [hZ0, hnz]; simp
  have hzz : (trA n es L lp T ++ Z0)[nz + 10]? = some (boxF F) := by simpa using hz
  subst hek
  unfold grG grD0 grS0
  simp -implicitDefEqProofs (disch := omega) [List.getElem?_cons_zero, List.getElem?_cons_succ, wrap_id, hk, hpp]
  refine tjoin_ok hF hzz a b ha hb fun Zx => ?_
  rw [show decide (c a ≠ c b) = true from decide_eq_true hab]
  have hzj : (trA n es L lp T ++ Z0).set (nz + 10) (boxF (F.set (c a) ((c b : Nat) : Int))) ++ Zx = trA n es L lp T ++ (Zb ++ ([boxF F2] ++ Zx)) := by
    rw [set_at, hZ0, hnz, hF2e]; simp
  rw [hzj]
  have hJ : grJ nz y xs F2 Zb (Zb ++ ([boxF F2] ++ Zx)) := ⟨by rw [hnz]; simp, (FrT.app y xs Zb _).tok hTk, FrT.app y xs Zb _⟩
  exact ⟨_, Wk_keep [42, 11, 9, 0, 3, 4, 5, 6, 12], _, rfl, _, .bc (((Zb ++ ([boxF F2] ++ Zx)) ++ []).length + 10) (xs.length + 1) (xs.length + 1), _, hJ, outT_new (X := []) hJ.2.1 (Nat.le_refl _) rfl, rfl⟩
theorem grg17 {Q : AExit → St → Prop} (hQ : ∀ (T' : List AV) (Z3 : List AO), T'.length = T.length + cnt → FrT y xs Zb Z3 → Q .normal ⟨[(54, .b false), (53, .b false), (52, .b true), (43, .b true)] ++ grB fb nz y e, trA n es L lp T' ++ Z3⟩) {s : St} (hs : grE n es L lp T fb nz y xs e Zb cnt s) : grG n es L lp T fb nz y xs e F2 m0 Zb Z0 cnt (fun s => Q .normal s) grD17 s := by
  obtain ⟨T', Z3, h1, h2, rfl⟩ := hs
  have h := hQ T' Z3 h1 h2
  unfold grG grD17
  dsimp only [List.cons_append, List.nil_append] at h ⊢
  simp -implicitDefEqProofs (disch := omega) [List.getElem?_cons_zero, List.getElem?_cons_succ, wrap_id, h]
/-- THE GRAPH OF CUTS, where the edge joins two classes. -/
theorem gr_dag {Q : AExit → St → Prop} (hlen : xs.length ≤ 1000) (he : 0 ≤ e ∧ e ≤ 1000000) (hF2 : F2.length = 12) (hcall : ∀ ZJ y2 Z2, grJ nz y xs F2 Zb ZJ → OutT ZJ y xs e y2 Z2 → ∀ K : AV → List AO → Prop, (∀ (T' : List AV) (Z3 : List AO), T'.length = T.length + cnt → FrT y xs Zb Z3 → K (.b true) (trA n es L lp T' ++ Z3)) → HC Try.prog false 36 [y2, .i (e + 1), .p (.agg (F2.map PV.i)), .ptr 4 1 0 0, .ptr 8 1 0 0, .ptr 5 1 0 0, .ptr 9 1 0 0] (trA n es L lp T ++ Z2) K) {F : List Int} {c : Nat → Nat} (hF : TF F c) {a b : Nat} (ha : a < 12) (hb : b < 12) (hF2e : F2 = F.set (c a) ((c b : Nat) : Int)) (hnz : nz = Zb.length) (hZ0 : Z0 = Zb ++ [boxF F]) (hTk : TOk Zb y xs) {k : Nat} (hk : k < L.length) (hek : e = k) (hLk : L[k] = ((a : Int), (b : Int))) (hab : c a ≠ c b)
    (hQ : ∀ (T' : List AV) (Z3 : List AO), T'.length = T.length + cnt → FrT y xs Zb Z3 → Q .normal ⟨[(54, .b false), (53, .b false), (52, .b true), (43, .b true)] ++ grB fb nz y e, trA n es L lp T' ++ Z3⟩) :
    W Try.prog m0 (.dag grD) Q (grS0 n es L lp T fb nz y e Z0) := by
  have hz : ∀ p ∈ List.zip [grD0, grD1, grD2, grD3, grD4, grD5, grD6, grD7, grD8, grD9, grD10, grD11, grD12, grD13, grD14, grD15, grD16, grD17, grD18, grD19, grD20, grD21, grD22, grD23, grD24, grD25] (grP n es L lp T fb nz y xs e F2 Zb Z0 cnt), ∀ s, p.2 s → grG n es L lp T fb nz y xs e F2 m0 Zb Z0 cnt (fun s => Q .normal s) p.1 s := by
    unfold grP
    simp only [List.zip_cons_cons, List.zip_nil_left, List.forall_mem_cons]
    refine ⟨?_, ?_, ?_, ?_, ?_, ?_, ?_, ?_, ?_, ?_, ?_, ?_, ?_, ?_, ?_, ?_, ?_, ?_, ?_, ?_, ?_, ?_, ?_, ?_, ?_, ?_, fun x hx => by cases hx⟩
    · intro s hs; rw [show s = _ from hs]; exact grg0 n es L lp T fb nz y xs e F2 m0 Zb Z0 cnt hF ha hb hF2e hnz hZ0 hTk hk hek hLk hab
    · exact fun s hs => by obtain ⟨ZJ, y2, Z2, hJ, hO, rfl⟩ := hs; exact grg1 n es L lp T fb nz y xs e F2 m0 Zb Z0 cnt hlen he hF2 ZJ y2 Z2 hJ hO
    · exact fun s hs => by obtain ⟨ZJ, y2, Z2, hJ, hO, rfl⟩ := hs; exact grg2 n es L lp T fb nz y xs e F2 m0 Zb Z0 cnt hlen he hF2 ZJ y2 Z2 hJ hO
    · exact fun s hs => by obtain ⟨ZJ, y2, Z2, hJ, hO, rfl⟩ := hs; exact grg3 n es L lp T fb nz y xs e F2 m0 Zb Z0 cnt hlen he hF2 ZJ y2 Z2 hJ hO
    · exact fun s hs => by obtain ⟨ZJ, y2, Z2, hJ, hO, rfl⟩ := hs; exact grg4 n es L lp T fb nz y xs e F2 m0 Zb Z0 cnt hlen he hF2 ZJ y2 Z2 hJ hO
    · exact fun s hs => by obtain ⟨ZJ, y2, Z2, hJ, hO, rfl⟩ := hs; exact grg5 n es L lp T fb nz y xs e F2 m0 Zb Z0 cnt hlen he hF2 ZJ y2 Z2 hJ hO
    · exact fun s hs => by obtain ⟨ZJ, y2, Z2, hJ, hO, rfl⟩ := hs; exact grg6 n es L lp T fb nz y xs e F2 m0 Zb Z0 cnt hlen he hF2 ZJ y2 Z2 hJ hO
    · exact fun s hs => by obtain ⟨ZJ, y2, Z2, hJ, hO, rfl⟩ := hs; exact grg7 n es L lp T fb nz y xs e F2 m0 Zb Z0 cnt hlen he hF2 ZJ y2 Z2 hJ hO
    · exact fun s hs => by obtain ⟨ZJ, y2, Z2, hJ, hO, rfl⟩ := hs; exact grg8 n es L lp T fb nz y xs e F2 m0 Zb Z0 cnt hlen he hF2 ZJ y2 Z2 hJ hO
    · exact fun s hs => by obtain ⟨ZJ, y2, Z2, hJ, hO, rfl⟩ := hs; exact grg9 n es L lp T fb nz y xs e F2 m0 Zb Z0 cnt hlen he hF2 hcall ZJ y2 Z2 hJ hO
    · exact fun s hs => by obtain ⟨ZJ, y2, Z2, hJ, hO, rfl⟩ := hs; exact grg10 n es L lp T fb nz y xs e F2 m0 Zb Z0 cnt hlen he hF2 ZJ y2 Z2 hJ hO
    · exact fun s hs => by obtain ⟨ZJ, y2, Z2, hJ, hO, rfl⟩ := hs; exact grg11 n es L lp T fb nz y xs e F2 m0 Zb Z0 cnt hlen he hF2 ZJ y2 Z2 hJ hO
    · exact fun s hs => by obtain ⟨ZJ, y2, Z2, hJ, hO, rfl⟩ := hs; exact grg12 n es L lp T fb nz y xs e F2 m0 Zb Z0 cnt hlen he hF2 ZJ y2 Z2 hJ hO
    · exact fun s hs => by obtain ⟨ZJ, y2, Z2, hJ, hO, rfl⟩ := hs; exact grg13 n es L lp T fb nz y xs e F2 m0 Zb Z0 cnt hlen he hF2 hcall ZJ y2 Z2 hJ hO
    · exact fun s hs => by obtain ⟨ZJ, y2, Z2, hJ, hO, rfl⟩ := hs; exact grg14 n es L lp T fb nz y xs e F2 m0 Zb Z0 cnt hlen he hF2 ZJ y2 Z2 hJ hO
    · exact fun s hs => by obtain ⟨ZJ, y2, Z2, hJ, hO, rfl⟩ := hs; exact grg15 n es L lp T fb nz y xs e F2 m0 Zb Z0 cnt hlen he hF2 ZJ y2 Z2 hJ hO
    · exact fun s hs => by obtain ⟨ZJ, y2, Z2, hJ, hO, rfl⟩ := hs; exact grg16 n es L lp T fb nz y xs e F2 m0 Zb Z0 cnt hlen he hF2 ZJ y2 Z2 hJ hO
    · exact fun s hs => grg17 n es L lp T fb nz y xs e F2 m0 Zb Z0 cnt hQ hs
    · exact fun s hs => by obtain ⟨ZJ, y2, Z2, hJ, hO, rfl⟩ := hs; exact grg18 n es L lp T fb nz y xs e F2 m0 Zb Z0 cnt hlen he hF2 hcall ZJ y2 Z2 hJ hO
    · exact fun s hs => by obtain ⟨ZJ, y2, Z2, hJ, hO, rfl⟩ := hs; exact grg19 n es L lp T fb nz y xs e F2 m0 Zb Z0 cnt hlen he hF2 ZJ y2 Z2 hJ hO
    · exact fun s hs => by obtain ⟨ZJ, y2, Z2, hJ, hO, rfl⟩ := hs; exact grg20 n es L lp T fb nz y xs e F2 m0 Zb Z0 cnt hlen he hF2 hcall ZJ y2 Z2 hJ hO
    · exact fun s hs => by obtain ⟨ZJ, y2, Z2, hJ, hO, rfl⟩ := hs; exact grg21 n es L lp T fb nz y xs e F2 m0 Zb Z0 cnt hlen he hF2 hcall ZJ y2 Z2 hJ hO
    · exact fun s hs => by obtain ⟨ZJ, y2, Z2, hJ, hO, rfl⟩ := hs; exact grg22 n es L lp T fb nz y xs e F2 m0 Zb Z0 cnt hlen he hF2 ZJ y2 Z2 hJ hO
    · exact fun s hs => by obtain ⟨ZJ, y2, Z2, hJ, hO, rfl⟩ := hs; exact grg23 n es L lp T fb nz y xs e F2 m0 Zb Z0 cnt hlen he hF2 hcall ZJ y2 Z2 hJ hO
    · exact fun s hs => by obtain ⟨ZJ, y2, Z2, hJ, hO, rfl⟩ := hs; exact grg24 n es L lp T fb nz y xs e F2 m0 Zb Z0 cnt hlen he hF2 hcall ZJ y2 Z2 hJ hO
    · exact fun s hs => by obtain ⟨ZJ, y2, Z2, hJ, hO, rfl⟩ := hs; exact grg25 n es L lp T fb nz y xs e F2 m0 Zb Z0 cnt hlen he hF2 hcall ZJ y2 Z2 hJ hO
  refine ⟨grI n es L lp T fb nz y xs e F2 Zb Z0 cnt, ⟨_, Wk.refl _ _, _, rfl, rfl⟩, fun i c hc s hs => ?_⟩
  obtain ⟨p, hp, hps⟩ := hs
  rw [grD_eq] at hc
  exact hz (c, p) (List.mem_iff_getElem?.2 ⟨i, by rw [List.getElem?_zip_eq_some]; exact ⟨hc, hp⟩⟩) s hps
end
section
variable (n : Nat) (es : List Ed) (L : List (Int × Int)) (lp : AO) (T : List AV) (fb nz : Nat) (y : AV) (xs : List Int) (e : Int) (F2 : List Int) (m0 : Nat) (Zb Z0 : List AO)
def gfP : List (St → Prop) := [fun s => s = grS0 n es L lp T fb nz y e Z0,
  fun s => ∃ ZJ, grJ nz y xs F2 Zb ZJ ∧ s = ⟨(42, .b false) :: grB fb nz y e, trA n es L lp T ++ ZJ⟩,
  fun s => ∃ ZJ, grJ nz y xs F2 Zb ZJ ∧ s = ⟨(43, .b false) :: grB fb nz y e, trA n es L lp T ++ ZJ⟩,
  fun s => ∃ ZJ, grJ nz y xs F2 Zb ZJ ∧ s = ⟨(43, .b false) :: grB fb nz y e, trA n es L lp T ++ ZJ⟩,
  fun s => ∃ ZJ, grJ nz y xs F2 Zb ZJ ∧ s = ⟨(43, .b false) :: grB fb nz y e, trA n es L lp T ++ ZJ⟩,
  fun s => ∃ ZJ, grJ nz y xs F2 Zb ZJ ∧ s = ⟨(43, .b false) :: grB fb nz y e, trA n es L lp T ++ ZJ⟩,
  fun s => ∃ ZJ, grJ nz y xs F2 Zb ZJ ∧ s = ⟨(43, .b false) :: grB fb nz y e, trA n es L lp T ++ ZJ⟩,
  fun s => ∃ ZJ, grJ nz y xs F2 Zb ZJ ∧ s = ⟨(43, .b false) :: grB fb nz y e, trA n es L lp T ++ ZJ⟩,
  fun s => ∃ ZJ, grJ nz y xs F2 Zb ZJ ∧ s = ⟨(43, .b false) :: grB fb nz y e, trA n es L lp T ++ ZJ⟩,
  fun s => ∃ ZJ, grJ nz y xs F2 Zb ZJ ∧ s = ⟨(43, .b false) :: grB fb nz y e, trA n es L lp T ++ ZJ⟩,
  fun s => ∃ ZJ, grJ nz y xs F2 Zb ZJ ∧ s = ⟨(43, .b false) :: grB fb nz y e, trA n es L lp T ++ ZJ⟩,
  fun s => ∃ ZJ, grJ nz y xs F2 Zb ZJ ∧ s = ⟨(43, .b false) :: grB fb nz y e, trA n es L lp T ++ ZJ⟩,
  fun s => ∃ ZJ, grJ nz y xs F2 Zb ZJ ∧ s = ⟨(43, .b false) :: grB fb nz y e, trA n es L lp T ++ ZJ⟩,
  fun s => ∃ ZJ, grJ nz y xs F2 Zb ZJ ∧ s = ⟨(43, .b false) :: grB fb nz y e, trA n es L lp T ++ ZJ⟩,
  fun s => ∃ ZJ, grJ nz y xs F2 Zb ZJ ∧ s = ⟨(43, .b false) :: grB fb nz y e, trA n es L lp T ++ ZJ⟩,
  fun s => ∃ ZJ, grJ nz y xs F2 Zb ZJ ∧ s = ⟨(43, .b false) :: grB fb nz y e, trA n es L lp T ++ ZJ⟩,
  fun s => ∃ ZJ, grJ nz y xs F2 Zb ZJ ∧ s = ⟨(43, .b false) :: grB fb nz y e, trA n es L lp T ++ ZJ⟩,
  fun s => ∃ ZJ, grJ nz y xs F2 Zb ZJ ∧ s = ⟨(43, .b false) :: grB fb nz y e, trA n es L lp T ++ ZJ⟩,
  fun s => ∃ ZJ, grJ nz y xs F2 Zb ZJ ∧ s = ⟨(43, .b false) :: grB fb nz y e, trA n es L lp T ++ ZJ⟩,
  fun s => ∃ ZJ, grJ nz y xs F2 Zb ZJ ∧ s = ⟨(43, .b false) :: grB fb nz y e, trA n es L lp T ++ ZJ⟩,
  fun s => ∃ ZJ, grJ nz y xs F2 Zb ZJ ∧ s = ⟨(43, .b false) :: grB fb nz y e, trA n es L lp T ++ ZJ⟩,
  fun s => ∃ ZJ, grJ nz y xs F2 Zb ZJ ∧ s = ⟨(43, .b false) :: grB fb nz y e, trA n es L lp T ++ ZJ⟩,
  fun s => ∃ ZJ, grJ nz y xs F2 Zb ZJ ∧ s = ⟨(43, .b false) :: grB fb nz y e, trA n es L lp T ++ ZJ⟩,
  fun s => ∃ ZJ, grJ nz y xs F2 Zb ZJ ∧ s = ⟨(43, .b false) :: grB fb nz y e, trA n es L lp T ++ ZJ⟩,
  fun s => ∃ ZJ, grJ nz y xs F2 Zb ZJ ∧ s = ⟨(43, .b false) :: grB fb nz y e, trA n es L lp T ++ ZJ⟩,
  fun s => ∃ ZJ, grJ nz y xs F2 Zb ZJ ∧ s = ⟨(43, .b false) :: grB fb nz y e, trA n es L lp T ++ ZJ⟩]
def gfI (k : Nat) (s : St) : Prop := ∃ p, (gfP n es L lp T fb nz y xs e F2 Zb Z0)[k]? = some p ∧ p s
def gfG (K : St → Prop) (c : ADN) (s : St) : Prop := Wops Try.prog c.look (fun s1 => (c.acts = [] → K s1) ∧ ∀ x ∈ c.acts, Wop Try.prog x.1 x.2.1 (fun s2 => ∃ s3, Wk m0 s2 s3 ∧ gfI n es L lp T fb nz y xs e F2 Zb Z0 x.2.2 s3) s1) s
theorem gfg0 {K : St → Prop} {F : List Int} {c : Nat → Nat} (hF : TF F c) {a b : Nat} (ha : a < 12) (hb : b < 12) (hF2e : F2 = F.set (c a) ((c b : Nat) : Int)) (hnz : nz = Zb.length) (hZ0 : Z0 = Zb ++ [boxF F]) (hTk : TOk Zb y xs) {k : Nat} (hk : k < L.length) (hek : e = k) (hLk : L[k] = ((a : Int), (b : Int))) (hab : c a = c b) : gfG n es L lp T fb nz y xs e F2 m0 Zb Z0 K grD0 (grS0 n es L lp T fb nz y e Z0) := by
  have hpp : pP L[k] = .agg [.i a, .i b] := by rw [hLk]
  have hz : Z0[nz]? = some (boxF F) := by rw [hZ0, hnz]; simp
  have hzz : (trA n es L lp T ++ Z0)[nz + 10]? = some (boxF F) := by simpa using hz
  subst hek
  unfold gfG grD0 grS0
  simp -implicitDefEqProofs (disch := omega) [List.getElem?_cons_zero, List.getElem?_cons_succ, wrap_id, hk, hpp]
  refine tjoin_ok hF hzz a b ha hb fun Zx => ?_
  rw [show decide (c a ≠ c b) = false from decide_eq_false (fun h => h hab)]
  have hzj : (trA n es L lp T ++ Z0).set (nz + 10) (boxF (F.set (c a) ((c b : Nat) : Int))) ++ Zx = trA n es L lp T ++ (Zb ++ ([boxF F2] ++ Zx)) := by
    rw [set_at, hZ0, hnz, hF2e]; simp
  rw [hzj]
  have hJ : grJ nz y xs F2 Zb (Zb ++ ([boxF F2] ++ Zx)) := ⟨by rw [hnz]; simp, (FrT.app y xs Zb _).tok hTk, FrT.app y xs Zb _⟩
  exact ⟨_, Wk_keep [42, 11, 9, 0, 3, 4, 5, 6, 12], _, rfl, _, hJ, rfl⟩
theorem gfg1 {K : St → Prop} (hK : ∀ ZJ, FrT y xs Zb ZJ → K ⟨(54, .b false) :: (53, .tup []) :: (43, .b false) :: grB fb nz y e, trA n es L lp T ++ ZJ⟩) {s : St} (hs : ∃ ZJ, grJ nz y xs F2 Zb ZJ ∧ s = ⟨(42, .b false) :: grB fb nz y e, trA n es L lp T ++ ZJ⟩) : gfG n es L lp T fb nz y xs e F2 m0 Zb Z0 K grD1 s := by
  obtain ⟨ZJ, hJ, rfl⟩ := hs
  have h := hK ZJ hJ.2.2
  unfold gfG grD1
  dsimp only [List.cons_append, List.nil_append] at h ⊢
  simp -implicitDefEqProofs (disch := omega) [List.getElem?_cons_zero, List.getElem?_cons_succ, wrap_id]
  refine ⟨?_, ?_, ?_, ?_⟩ <;> exact ⟨_, Wk_keep [43, 11, 9, 0, 3, 4, 5, 6, 12], _, rfl, ZJ, hJ, rfl⟩
theorem gfg2 {K : St → Prop} (hK : ∀ ZJ, FrT y xs Zb ZJ → K ⟨(54, .b false) :: (53, .tup []) :: (43, .b false) :: grB fb nz y e, trA n es L lp T ++ ZJ⟩) {s : St} (hs : ∃ ZJ, grJ nz y xs F2 Zb ZJ ∧ s = ⟨(43, .b false) :: grB fb nz y e, trA n es L lp T ++ ZJ⟩) : gfG n es L lp T fb nz y xs e F2 m0 Zb Z0 K grD2 s := by
  obtain ⟨ZJ, hJ, rfl⟩ := hs
  have h := hK ZJ hJ.2.2
  unfold gfG grD2
  dsimp only [List.cons_append, List.nil_append] at h ⊢
  simp -implicitDefEqProofs (disch := omega) [List.getElem?_cons_zero, List.getElem?_cons_succ, wrap_id]
  refine ⟨?_, ?_, ?_⟩ <;> exact ⟨_, Wk_keep [43, 11, 9, 0, 3, 4, 5, 6, 12], _, rfl, ZJ, hJ, rfl⟩
theorem gfg3 {K : St → Prop} (hK : ∀ ZJ, FrT y xs Zb ZJ → K ⟨(54, .b false) :: (53, .tup []) :: (43, .b false) :: grB fb nz y e, trA n es L lp T ++ ZJ⟩) {s : St} (hs : ∃ ZJ, grJ nz y xs F2 Zb ZJ ∧ s = ⟨(43, .b false) :: grB fb nz y e, trA n es L lp T ++ ZJ⟩) : gfG n es L lp T fb nz y xs e F2 m0 Zb Z0 K grD3 s := by
  obtain ⟨ZJ, hJ, rfl⟩ := hs
  have h := hK ZJ hJ.2.2
  unfold gfG grD3
  dsimp only [List.cons_append, List.nil_append] at h ⊢
  simp -implicitDefEqProofs (disch := omega) [List.getElem?_cons_zero, List.getElem?_cons_succ, wrap_id]
  refine ⟨?_, ?_, ?_, ?_⟩ <;> exact ⟨_, Wk_keep [43, 11, 9, 0, 3, 4, 5, 6, 12], _, rfl, ZJ, hJ, rfl⟩
theorem gfg4 {K : St → Prop} (hK : ∀ ZJ, FrT y xs Zb ZJ → K ⟨(54, .b false) :: (53, .tup []) :: (43, .b false) :: grB fb nz y e, trA n es L lp T ++ ZJ⟩) {s : St} (hs : ∃ ZJ, grJ nz y xs F2 Zb ZJ ∧ s = ⟨(43, .b false) :: grB fb nz y e, trA n es L lp T ++ ZJ⟩) : gfG n es L lp T fb nz y xs e F2 m0 Zb Z0 K grD4 s := by
  obtain ⟨ZJ, hJ, rfl⟩ := hs
  have h := hK ZJ hJ.2.2
  unfold gfG grD4
  dsimp only [List.cons_append, List.nil_append] at h ⊢
  simp -implicitDefEqProofs (disch := omega) [List.getElem?_cons_zero, List.getElem?_cons_succ, wrap_id]
  refine ⟨?_, ?_, ?_⟩ <;> exact ⟨_, Wk_keep [43, 11, 9, 0, 3, 4, 5, 6, 12], _, rfl, ZJ, hJ, rfl⟩
theorem gfg5 {K : St → Prop} (hK : ∀ ZJ, FrT y xs Zb ZJ → K ⟨(54, .b false) :: (53, .tup []) :: (43, .b false) :: grB fb nz y e, trA n es L lp T ++ ZJ⟩) {s : St} (hs : ∃ ZJ, grJ nz y xs F2 Zb ZJ ∧ s = ⟨(43, .b false) :: grB fb nz y e, trA n es L lp T ++ ZJ⟩) : gfG n es L lp T fb nz y xs e F2 m0 Zb Z0 K grD5 s := by
  obtain ⟨ZJ, hJ, rfl⟩ := hs
  have h := hK ZJ hJ.2.2
  unfold gfG grD5
  dsimp only [List.cons_append, List.nil_append] at h ⊢
  simp -implicitDefEqProofs (disch := omega) [List.getElem?_cons_zero, List.getElem?_cons_succ, wrap_id]
  refine ⟨?_, ?_, ?_⟩ <;> exact ⟨_, Wk_keep [43, 11, 9, 0, 3, 4, 5, 6, 12], _, rfl, ZJ, hJ, rfl⟩
theorem gfg6 {K : St → Prop} (hK : ∀ ZJ, FrT y xs Zb ZJ → K ⟨(54, .b false) :: (53, .tup []) :: (43, .b false) :: grB fb nz y e, trA n es L lp T ++ ZJ⟩) {s : St} (hs : ∃ ZJ, grJ nz y xs F2 Zb ZJ ∧ s = ⟨(43, .b false) :: grB fb nz y e, trA n es L lp T ++ ZJ⟩) : gfG n es L lp T fb nz y xs e F2 m0 Zb Z0 K grD6 s := by
  obtain ⟨ZJ, hJ, rfl⟩ := hs
  have h := hK ZJ hJ.2.2
  unfold gfG grD6
  dsimp only [List.cons_append, List.nil_append] at h ⊢
  simp -implicitDefEqProofs (disch := omega) [List.getElem?_cons_zero, List.getElem?_cons_succ, wrap_id]
  refine ⟨?_, ?_, ?_⟩ <;> exact ⟨_, Wk_keep [43, 11, 9, 0, 3, 4, 5, 6, 12], _, rfl, ZJ, hJ, rfl⟩
theorem gfg7 {K : St → Prop} (hK : ∀ ZJ, FrT y xs Zb ZJ → K ⟨(54, .b false) :: (53, .tup []) :: (43, .b false) :: grB fb nz y e, trA n es L lp T ++ ZJ⟩) {s : St} (hs : ∃ ZJ, grJ nz y xs F2 Zb ZJ ∧ s = ⟨(43, .b false) :: grB fb nz y e, trA n es L lp T ++ ZJ⟩) : gfG n es L lp T fb nz y xs e F2 m0 Zb Z0 K grD7 s := by
  obtain ⟨ZJ, hJ, rfl⟩ := hs
  have h := hK ZJ hJ.2.2
  unfold gfG grD7
  dsimp only [List.cons_append, List.nil_append] at h ⊢
  simp -implicitDefEqProofs (disch := omega) [List.getElem?_cons_zero, List.getElem?_cons_succ, wrap_id]
  refine ⟨?_, ?_⟩ <;> exact ⟨_, Wk_keep [43, 11, 9, 0, 3, 4, 5, 6, 12], _, rfl, ZJ, hJ, rfl⟩
theorem gfg8 {K : St → Prop} (hK : ∀ ZJ, FrT y xs Zb ZJ → K ⟨(54, .b false) :: (53, .tup []) :: (43, .b false) :: grB fb nz y e, trA n es L lp T ++ ZJ⟩) {s : St} (hs : ∃ ZJ, grJ nz y xs F2 Zb ZJ ∧ s = ⟨(43, .b false) :: grB fb nz y e, trA n es L lp T ++ ZJ⟩) : gfG n es L lp T fb nz y xs e F2 m0 Zb Z0 K grD8 s := by
  obtain ⟨ZJ, hJ, rfl⟩ := hs
  have h := hK ZJ hJ.2.2
  unfold gfG grD8
  dsimp only [List.cons_append, List.nil_append] at h ⊢
  simp -implicitDefEqProofs (disch := omega) [List.getElem?_cons_zero, List.getElem?_cons_succ, wrap_id]
  refine ⟨?_, ?_⟩ <;> exact ⟨_, Wk_keep [43, 11, 9, 0, 3, 4, 5, 6, 12], _, rfl, ZJ, hJ, rfl⟩
theorem gfg9 {K : St → Prop} (hK : ∀ ZJ, FrT y xs Zb ZJ → K ⟨(54, .b false) :: (53, .tup []) :: (43, .b false) :: grB fb nz y e, trA n es L lp T ++ ZJ⟩) {s : St} (hs : ∃ ZJ, grJ nz y xs F2 Zb ZJ ∧ s = ⟨(43, .b false) :: grB fb nz y e, trA n es L lp T ++ ZJ⟩) : gfG n es L lp T fb nz y xs e F2 m0 Zb Z0 K grD9 s := by
  obtain ⟨ZJ, hJ, rfl⟩ := hs
  have h := hK ZJ hJ.2.2
  unfold gfG grD9
  dsimp only [List.cons_append, List.nil_append] at h ⊢
  simp -implicitDefEqProofs (disch := omega) [List.getElem?_cons_zero, List.getElem?_cons_succ, wrap_id]
  exact ⟨_, Wk_keep [43, 11, 9, 0, 3, 4, 5, 6, 12], _, rfl, ZJ, hJ, rfl⟩
theorem gfg10 {K : St → Prop} (hK : ∀ ZJ, FrT y xs Zb ZJ → K ⟨(54, .b false) :: (53, .tup []) :: (43, .b false) :: grB fb nz y e, trA n es L lp T ++ ZJ⟩) {s : St} (hs : ∃ ZJ, grJ nz y xs F2 Zb ZJ ∧ s = ⟨(43, .b false) :: grB fb nz y e, trA n es L lp T ++ ZJ⟩) : gfG n es L lp T fb nz y xs e F2 m0 Zb Z0 K grD10 s := by
  obtain ⟨ZJ, hJ, rfl⟩ := hs
  have h := hK ZJ hJ.2.2
  unfold gfG grD10
  dsimp only [List.cons_append, List.nil_append] at h ⊢
  simp -implicitDefEqProofs (disch := omega) [List.getElem?_cons_zero, List.getElem?_cons_succ, wrap_id]
  refine ⟨?_, ?_, ?_⟩ <;> exact ⟨_, Wk_keep [43, 11, 9, 0, 3, 4, 5, 6, 12], _, rfl, ZJ, hJ, rfl⟩
theorem gfg11 {K : St → Prop} (hK : ∀ ZJ, FrT y xs Zb ZJ → K ⟨(54, .b false) :: (53, .tup []) :: (43, .b false) :: grB fb nz y e, trA n es L lp T ++ ZJ⟩) {s : St} (hs : ∃ ZJ, grJ nz y xs F2 Zb ZJ ∧ s = ⟨(43, .b false) :: grB fb nz y e, trA n es L lp T ++ ZJ⟩) : gfG n es L lp T fb nz y xs e F2 m0 Zb Z0 K grD11 s := by
  obtain ⟨ZJ, hJ, rfl⟩ := hs
  have h := hK ZJ hJ.2.2
  unfold gfG grD11
  dsimp only [List.cons_append, List.nil_append] at h ⊢
  simp -implicitDefEqProofs (disch := omega) [List.getElem?_cons_zero, List.getElem?_cons_succ, wrap_id]
  refine ⟨?_, ?_, ?_⟩ <;> exact ⟨_, Wk_keep [43, 11, 9, 0, 3, 4, 5, 6, 12], _, rfl, ZJ, hJ, rfl⟩
theorem gfg12 {K : St → Prop} (hK : ∀ ZJ, FrT y xs Zb ZJ → K ⟨(54, .b false) :: (53, .tup []) :: (43, .b false) :: grB fb nz y e, trA n es L lp T ++ ZJ⟩) {s : St} (hs : ∃ ZJ, grJ nz y xs F2 Zb ZJ ∧ s = ⟨(43, .b false) :: grB fb nz y e, trA n es L lp T ++ ZJ⟩) : gfG n es L lp T fb nz y xs e F2 m0 Zb Z0 K grD12 s := by
  obtain ⟨ZJ, hJ, rfl⟩ := hs
  have h := hK ZJ hJ.2.2
  unfold gfG grD12
  dsimp only [List.cons_append, List.nil_append] at h ⊢
  simp -implicitDefEqProofs (disch := omega) [List.getElem?_cons_zero, List.getElem?_cons_succ, wrap_id]
  refine ⟨?_, ?_⟩ <;> exact ⟨_, Wk_keep [43, 11, 9, 0, 3, 4, 5, 6, 12], _, rfl, ZJ, hJ, rfl⟩
theorem gfg13 {K : St → Prop} (hK : ∀ ZJ, FrT y xs Zb ZJ → K ⟨(54, .b false) :: (53, .tup []) :: (43, .b false) :: grB fb nz y e, trA n es L lp T ++ ZJ⟩) {s : St} (hs : ∃ ZJ, grJ nz y xs F2 Zb ZJ ∧ s = ⟨(43, .b false) :: grB fb nz y e, trA n es L lp T ++ ZJ⟩) : gfG n es L lp T fb nz y xs e F2 m0 Zb Z0 K grD13 s := by
  obtain ⟨ZJ, hJ, rfl⟩ := hs
  have h := hK ZJ hJ.2.2
  unfold gfG grD13
  dsimp only [List.cons_append, List.nil_append] at h ⊢
  simp -implicitDefEqProofs (disch := omega) [List.getElem?_cons_zero, List.getElem?_cons_succ, wrap_id]
  exact ⟨_, Wk_keep [43, 11, 9, 0, 3, 4, 5, 6, 12], _, rfl, ZJ, hJ, rfl⟩
theorem gfg14 {K : St → Prop} (hK : ∀ ZJ, FrT y xs Zb ZJ → K ⟨(54, .b false) :: (53, .tup []) :: (43, .b false) :: grB fb nz y e, trA n es L lp T ++ ZJ⟩) {s : St} (hs : ∃ ZJ, grJ nz y xs F2 Zb ZJ ∧ s = ⟨(43, .b false) :: grB fb nz y e, trA n es L lp T ++ ZJ⟩) : gfG n es L lp T fb nz y xs e F2 m0 Zb Z0 K grD14 s := by
  obtain ⟨ZJ, hJ, rfl⟩ := hs
  have h := hK ZJ hJ.2.2
  unfold gfG grD14
  dsimp only [List.cons_append, List.nil_append] at h ⊢
  simp -implicitDefEqProofs (disch := omega) [List.getElem?_cons_zero, List.getElem?_cons_succ, wrap_id]
  refine ⟨?_, ?_⟩ <;> exact ⟨_, Wk_keep [43, 11, 9, 0, 3, 4, 5, 6, 12], _, rfl, ZJ, hJ, rfl⟩
theorem gfg15 {K : St → Prop} (hK : ∀ ZJ, FrT y xs Zb ZJ → K ⟨(54, .b false) :: (53, .tup []) :: (43, .b false) :: grB fb nz y e, trA n es L lp T ++ ZJ⟩) {s : St} (hs : ∃ ZJ, grJ nz y xs F2 Zb ZJ ∧ s = ⟨(43, .b false) :: grB fb nz y e, trA n es L lp T ++ ZJ⟩) : gfG n es L lp T fb nz y xs e F2 m0 Zb Z0 K grD15 s := by
  obtain ⟨ZJ, hJ, rfl⟩ := hs
  have h := hK ZJ hJ.2.2
  unfold gfG grD15
  dsimp only [List.cons_append, List.nil_append] at h ⊢
  simp -implicitDefEqProofs (disch := omega) [List.getElem?_cons_zero, List.getElem?_cons_succ, wrap_id]
  refine ⟨?_, ?_⟩ <;> exact ⟨_, Wk_keep [43, 11, 9, 0, 3, 4, 5, 6, 12], _, rfl, ZJ, hJ, rfl⟩
theorem gfg16 {K : St → Prop} (hK : ∀ ZJ, FrT y xs Zb ZJ → K ⟨(54, .b false) :: (53, .tup []) :: (43, .b false) :: grB fb nz y e, trA n es L lp T ++ ZJ⟩) {s : St} (hs : ∃ ZJ, grJ nz y xs F2 Zb ZJ ∧ s = ⟨(43, .b false) :: grB fb nz y e, trA n es L lp T ++ ZJ⟩) : gfG n es L lp T fb nz y xs e F2 m0 Zb Z0 K grD16 s := by
  obtain ⟨ZJ, hJ, rfl⟩ := hs
  have h := hK ZJ hJ.2.2
  unfold gfG grD16
  dsimp only [List.cons_append, List.nil_append] at h ⊢
  simp -implicitDefEqProofs (disch := omega) [List.getElem?_cons_zero, List.getElem?_cons_succ, wrap_id]
  exact ⟨_, Wk_keep [43, 11, 9, 0, 3, 4, 5, 6, 12], _, rfl, ZJ, hJ, rfl⟩
theorem gfg17 {K : St → Prop} (hK : ∀ ZJ, FrT y xs Zb ZJ → K ⟨(54, .b false) :: (53, .tup []) :: (43, .b false) :: grB fb nz y e, trA n es L lp T ++ ZJ⟩) {s : St} (hs : ∃ ZJ, grJ nz y xs F2 Zb ZJ ∧ s = ⟨(43, .b false) :: grB fb nz y e, trA n es L lp T ++ ZJ⟩) : gfG n es L lp T fb nz y xs e F2 m0 Zb Z0 K grD17 s := by
  obtain ⟨ZJ, hJ, rfl⟩ := hs
  have h := hK ZJ hJ.2.2
  unfold gfG grD17
  dsimp only [List.cons_append, List.nil_append] at h ⊢
  simp -implicitDefEqProofs (disch := omega) [List.getElem?_cons_zero, List.getElem?_cons_succ, wrap_id, h]
theorem gfg18 {K : St → Prop} (hK : ∀ ZJ, FrT y xs Zb ZJ → K ⟨(54, .b false) :: (53, .tup []) :: (43, .b false) :: grB fb nz y e, trA n es L lp T ++ ZJ⟩) {s : St} (hs : ∃ ZJ, grJ nz y xs F2 Zb ZJ ∧ s = ⟨(43, .b false) :: grB fb nz y e, trA n es L lp T ++ ZJ⟩) : gfG n es L lp T fb nz y xs e F2 m0 Zb Z0 K grD18 s := by
  obtain ⟨ZJ, hJ, rfl⟩ := hs
  have h := hK ZJ hJ.2.2
  unfold gfG grD18
  dsimp only [List.cons_append, List.nil_append] at h ⊢
  simp -implicitDefEqProofs (disch := omega) [List.getElem?_cons_zero, List.getElem?_cons_succ, wrap_id]
  exact ⟨_, Wk_keep [43, 11, 9, 0, 3, 4, 5, 6, 12], _, rfl, ZJ, hJ, rfl⟩
theorem gfg19 {K : St → Prop} (hK : ∀ ZJ, FrT y xs Zb ZJ → K ⟨(54, .b false) :: (53, .tup []) :: (43, .b false) :: grB fb nz y e, trA n es L lp T ++ ZJ⟩) {s : St} (hs : ∃ ZJ, grJ nz y xs F2 Zb ZJ ∧ s = ⟨(43, .b false) :: grB fb nz y e, trA n es L lp T ++ ZJ⟩) : gfG n es L lp T fb nz y xs e F2 m0 Zb Z0 K grD19 s := by
  obtain ⟨ZJ, hJ, rfl⟩ := hs
  have h := hK ZJ hJ.2.2
  unfold gfG grD19
  dsimp only [List.cons_append, List.nil_append] at h ⊢
  simp -implicitDefEqProofs (disch := omega) [List.getElem?_cons_zero, List.getElem?_cons_succ, wrap_id]
  refine ⟨?_, ?_⟩ <;> exact ⟨_, Wk_keep [43, 11, 9, 0, 3, 4, 5, 6, 12], _, rfl, ZJ, hJ, rfl⟩
theorem gfg20 {K : St → Prop} (hK : ∀ ZJ, FrT y xs Zb ZJ → K ⟨(54, .b false) :: (53, .tup []) :: (43, .b false) :: grB fb nz y e, trA n es L lp T ++ ZJ⟩) {s : St} (hs : ∃ ZJ, grJ nz y xs F2 Zb ZJ ∧ s = ⟨(43, .b false) :: grB fb nz y e, trA n es L lp T ++ ZJ⟩) : gfG n es L lp T fb nz y xs e F2 m0 Zb Z0 K grD20 s := by
  obtain ⟨ZJ, hJ, rfl⟩ := hs
  have h := hK ZJ hJ.2.2
  unfold gfG grD20
  dsimp only [List.cons_append, List.nil_append] at h ⊢
  simp -implicitDefEqProofs (disch := omega) [List.getElem?_cons_zero, List.getElem?_cons_succ, wrap_id]
  exact ⟨_, Wk_keep [43, 11, 9, 0, 3, 4, 5, 6, 12], _, rfl, ZJ, hJ, rfl⟩
theorem gfg21 {K : St → Prop} (hK : ∀ ZJ, FrT y xs Zb ZJ → K ⟨(54, .b false) :: (53, .tup []) :: (43, .b false) :: grB fb nz y e, trA n es L lp T ++ ZJ⟩) {s : St} (hs : ∃ ZJ, grJ nz y xs F2 Zb ZJ ∧ s = ⟨(43, .b false) :: grB fb nz y e, trA n es L lp T ++ ZJ⟩) : gfG n es L lp T fb nz y xs e F2 m0 Zb Z0 K grD21 s := by
  obtain ⟨ZJ, hJ, rfl⟩ := hs
  have h := hK ZJ hJ.2.2
  unfold gfG grD21
  dsimp only [List.cons_append, List.nil_append] at h ⊢
  simp -implicitDefEqProofs (disch := omega) [List.getElem?_cons_zero, List.getElem?_cons_succ, wrap_id]
  exact ⟨_, Wk_keep [43, 11, 9, 0, 3, 4, 5, 6, 12], _, rfl, ZJ, hJ, rfl⟩
theorem gfg22 {K : St → Prop} (hK : ∀ ZJ, FrT y xs Zb ZJ → K ⟨(54, .b false) :: (53, .tup []) :: (43, .b false) :: grB fb nz y e, trA n es L lp T ++ ZJ⟩) {s : St} (hs : ∃ ZJ, grJ nz y xs F2 Zb ZJ ∧ s = ⟨(43, .b false) :: grB fb nz y e, trA n es L lp T ++ ZJ⟩) : gfG n es L lp T fb nz y xs e F2 m0 Zb Z0 K grD22 s := by
  obtain ⟨ZJ, hJ, rfl⟩ := hs
  have h := hK ZJ hJ.2.2
  unfold gfG grD22
  dsimp only [List.cons_append, List.nil_append] at h ⊢
  simp -implicitDefEqProofs (disch := omega) [List.getElem?_cons_zero, List.getElem?_cons_succ, wrap_id]
  exact ⟨_, Wk_keep [43, 11, 9, 0, 3, 4, 5, 6, 12], _, rfl, ZJ, hJ, rfl⟩
theorem gfg23 {K : St → Prop} (hK : ∀ ZJ, FrT y xs Zb ZJ → K ⟨(54, .b false) :: (53, .tup []) :: (43, .b false) :: grB fb nz y e, trA n es L lp T ++ ZJ⟩) {s : St} (hs : ∃ ZJ, grJ nz y xs F2 Zb ZJ ∧ s = ⟨(43, .b false) :: grB fb nz y e, trA n es L lp T ++ ZJ⟩) : gfG n es L lp T fb nz y xs e F2 m0 Zb Z0 K grD23 s := by
  obtain ⟨ZJ, hJ, rfl⟩ := hs
  have h := hK ZJ hJ.2.2
  unfold gfG grD23
  dsimp only [List.cons_append, List.nil_append] at h ⊢
  simp -implicitDefEqProofs (disch := omega) [List.getElem?_cons_zero, List.getElem?_cons_succ, wrap_id]
  exact ⟨_, Wk_keep [43, 11, 9, 0, 3, 4, 5, 6, 12], _, rfl, ZJ, hJ, rfl⟩
theorem gfg24 {K : St → Prop} (hK : ∀ ZJ, FrT y xs Zb ZJ → K ⟨(54, .b false) :: (53, .tup []) :: (43, .b false) :: grB fb nz y e, trA n es L lp T ++ ZJ⟩) {s : St} (hs : ∃ ZJ, grJ nz y xs F2 Zb ZJ ∧ s = ⟨(43, .b false) :: grB fb nz y e, trA n es L lp T ++ ZJ⟩) : gfG n es L lp T fb nz y xs e F2 m0 Zb Z0 K grD24 s := by
  obtain ⟨ZJ, hJ, rfl⟩ := hs
  have h := hK ZJ hJ.2.2
  unfold gfG grD24
  dsimp only [List.cons_append, List.nil_append] at h ⊢
  simp -implicitDefEqProofs (disch := omega) [List.getElem?_cons_zero, List.getElem?_cons_succ, wrap_id]
  exact ⟨_, Wk_keep [43, 11, 9, 0, 3, 4, 5, 6, 12], _, rfl, ZJ, hJ, rfl⟩
theorem gfg25 {K : St → Prop} (hK : ∀ ZJ, FrT y xs Zb ZJ → K ⟨(54, .b false) :: (53, .tup []) :: (43, .b false) :: grB fb nz y e, trA n es L lp T ++ ZJ⟩) {s : St} (hs : ∃ ZJ, grJ nz y xs F2 Zb ZJ ∧ s = ⟨(43, .b false) :: grB fb nz y e, trA n es L lp T ++ ZJ⟩) : gfG n es L lp T fb nz y xs e F2 m0 Zb Z0 K grD25 s := by
  obtain ⟨ZJ, hJ, rfl⟩ := hs
  have h := hK ZJ hJ.2.2
  unfold gfG grD25
  dsimp only [List.cons_append, List.nil_append] at h ⊢
  simp -implicitDefEqProofs (disch := omega) [List.getElem?_cons_zero, List.getElem?_cons_succ, wrap_id]
  exact ⟨_, Wk_keep [43, 11, 9, 0, 3, 4, 5, 6, 12], _, rfl, ZJ, hJ, rfl⟩
/-- THE GRAPH OF CUTS, where the edge closes a cycle. -/
theorem gf_dag {Q : AExit → St → Prop} {F : List Int} {c : Nat → Nat} (hF : TF F c) {a b : Nat} (ha : a < 12) (hb : b < 12) (hF2e : F2 = F.set (c a) ((c b : Nat) : Int)) (hnz : nz = Zb.length) (hZ0 : Z0 = Zb ++ [boxF F]) (hTk : TOk Zb y xs) {k : Nat} (hk : k < L.length) (hek : e = k) (hLk : L[k] = ((a : Int), (b : Int))) (hab : c a = c b)
    (hQ : ∀ ZJ, FrT y xs Zb ZJ → Q .normal ⟨(54, .b false) :: (53, .tup []) :: (43, .b false) :: grB fb nz y e, trA n es L lp T ++ ZJ⟩) :
    W Try.prog m0 (.dag grD) Q (grS0 n es L lp T fb nz y e Z0) := by
  have hz : ∀ p ∈ List.zip [grD0, grD1, grD2, grD3, grD4, grD5, grD6, grD7, grD8, grD9, grD10, grD11, grD12, grD13, grD14, grD15, grD16, grD17, grD18, grD19, grD20, grD21, grD22, grD23, grD24, grD25] (gfP n es L lp T fb nz y xs e F2 Zb Z0), ∀ s, p.2 s → gfG n es L lp T fb nz y xs e F2 m0 Zb Z0 (fun s => Q .normal s) p.1 s := by
    unfold gfP
    simp only [List.zip_cons_cons, List.zip_nil_left, List.forall_mem_cons]
    refine ⟨?_, ?_, ?_, ?_, ?_, ?_, ?_, ?_, ?_, ?_, ?_, ?_, ?_, ?_, ?_, ?_, ?_, ?_, ?_, ?_, ?_, ?_, ?_, ?_, ?_, ?_, fun x hx => by cases hx⟩
    · intro s hs; rw [show s = _ from hs]; exact gfg0 n es L lp T fb nz y xs e F2 m0 Zb Z0 hF ha hb hF2e hnz hZ0 hTk hk hek hLk hab
    · exact fun s hs => gfg1 n es L lp T fb nz y xs e F2 m0 Zb Z0 hQ hs
    · exact fun s hs => gfg2 n es L lp T fb nz y xs e F2 m0 Zb Z0 hQ hs
    · exact fun s hs => gfg3 n es L lp T fb nz y xs e F2 m0 Zb Z0 hQ hs
    · exact fun s hs => gfg4 n es L lp T fb nz y xs e F2 m0 Zb Z0 hQ hs
    · exact fun s hs => gfg5 n es L lp T fb nz y xs e F2 m0 Zb Z0 hQ hs
    · exact fun s hs => gfg6 n es L lp T fb nz y xs e F2 m0 Zb Z0 hQ hs
    · exact fun s hs => gfg7 n es L lp T fb nz y xs e F2 m0 Zb Z0 hQ hs
    · exact fun s hs => gfg8 n es L lp T fb nz y xs e F2 m0 Zb Z0 hQ hs
    · exact fun s hs => gfg9 n es L lp T fb nz y xs e F2 m0 Zb Z0 hQ hs
    · exact fun s hs => gfg10 n es L lp T fb nz y xs e F2 m0 Zb Z0 hQ hs
    · exact fun s hs => gfg11 n es L lp T fb nz y xs e F2 m0 Zb Z0 hQ hs
    · exact fun s hs => gfg12 n es L lp T fb nz y xs e F2 m0 Zb Z0 hQ hs
    · exact fun s hs => gfg13 n es L lp T fb nz y xs e F2 m0 Zb Z0 hQ hs
    · exact fun s hs => gfg14 n es L lp T fb nz y xs e F2 m0 Zb Z0 hQ hs
    · exact fun s hs => gfg15 n es L lp T fb nz y xs e F2 m0 Zb Z0 hQ hs
    · exact fun s hs => gfg16 n es L lp T fb nz y xs e F2 m0 Zb Z0 hQ hs
    · exact fun s hs => gfg17 n es L lp T fb nz y xs e F2 m0 Zb Z0 hQ hs
    · exact fun s hs => gfg18 n es L lp T fb nz y xs e F2 m0 Zb Z0 hQ hs
    · exact fun s hs => gfg19 n es L lp T fb nz y xs e F2 m0 Zb Z0 hQ hs
    · exact fun s hs => gfg20 n es L lp T fb nz y xs e F2 m0 Zb Z0 hQ hs
    · exact fun s hs => gfg21 n es L lp T fb nz y xs e F2 m0 Zb Z0 hQ hs
    · exact fun s hs => gfg22 n es L lp T fb nz y xs e F2 m0 Zb Z0 hQ hs
    · exact fun s hs => gfg23 n es L lp T fb nz y xs e F2 m0 Zb Z0 hQ hs
    · exact fun s hs => gfg24 n es L lp T fb nz y xs e F2 m0 Zb Z0 hQ hs
    · exact fun s hs => gfg25 n es L lp T fb nz y xs e F2 m0 Zb Z0 hQ hs
  refine ⟨gfI n es L lp T fb nz y xs e F2 Zb Z0, ⟨_, Wk.refl _ _, _, rfl, rfl⟩, fun i c hc s hs => ?_⟩
  obtain ⟨p, hp, hps⟩ := hs
  rw [grD_eq] at hc
  exact hz (c, p) (List.mem_iff_getElem?.2 ⟨i, by rw [List.getElem?_zip_eq_some]; exact ⟨hc, hp⟩⟩) s hps
end
end Go.Proofs.Ytojamfbdlfgedaa
end
section
set_option linter.unusedSimpArgs false
set_option linter.unusedVariables false
namespace Go.Proofs.Ytojamfbdlfgedaa
open Go.Abs Go.Sand
attribute [local simp] ap_0 ap_i
section
variable (n : Nat) (es : List Ed) (L : List (Int × Int)) (lp : AO) (T : List AV)
theorem TOk.lenA {Z : List AO} {o cap : Nat} {xs : List Int} (h : TOk Z (.bc o xs.length cap) xs) (X : List AO) : lenA (trA n es L lp T ++ (Z ++ X)) (.bc o xs.length cap) = some xs.length := by
  obtain ⟨o', cap', he, hh⟩ := h
  injection he with e1 e2 e3
  subst e1 e3
  unfold Abs.lenA
  rcases hh with ⟨rfl, rfl, rfl⟩ | ⟨h1, j, rest, rfl, h2, h3⟩
  · rfl
  · dsimp only
    rw [if_neg (by omega)]
    have h2' : (trA n es L lp T ++ (Z ++ X))[j + 10]? = some (.box (.agg (ciL xs ++ rest))) := by
      have : (Z ++ X)[j]? = some (.box (.agg (ciL xs ++ rest))) := by rw [List.getElem?_append_left (List.getElem?_eq_some_iff.1 h2).1]; exact h2
      simpa using this
    rw [h2']
theorem TOk.view {Z : List AO} {o cap : Nat} {xs : List Int} (h : TOk Z (.bc o xs.length cap) xs) (X : List AO) : views (trA n es L lp T ++ (Z ++ X)) [.bc o xs.length cap] = some [.is xs] := by
  obtain ⟨o', cap', he, hh⟩ := h
  injection he with e1 e2 e3
  subst e1 e3
  rcases hh with ⟨rfl, rfl, rfl⟩ | ⟨h1, j, rest, rfl, h2, h3⟩
  · rfl
  · have h2' : (trA n es L lp T ++ (Z ++ X))[j + 10]? = some (.box (.agg (ciL xs ++ rest))) := by
      have : (Z ++ X)[j]? = some (.box (.agg (ciL xs ++ rest))) := by rw [List.getElem?_append_left (List.getElem?_eq_some_iff.1 h2).1]; exact h2
      simpa using this
    have e : ownEls (trA n es L lp T ++ (Z ++ X)) (.bc (j + 10) xs.length cap) = some (xs.map PV.i) := by
      unfold ownEls
      dsimp only
      rw [if_neg (by omega), h2']
      have hle : xs.length ≤ (AV.agg (ciL xs ++ rest)).flat.length := by
        show xs.length ≤ (ciL xs ++ rest).length
        rw [List.length_append, ciL_len]; omega
      dsimp only
      rw [if_pos hle]
      exact allOne_ci xs rest
    have e2 : Abs.view (trA n es L lp T ++ (Z ++ X)) (.bc (j + 10) xs.length cap) = some (.is xs) := by
      unfold Abs.view
      dsimp only
      unfold viewC
      dsimp only
      rw [e]; rfl
    show (match Abs.view (trA n es L lp T ++ (Z ++ X)) (.bc (j + 10) xs.length cap), views (trA n es L lp T ++ (Z ++ X)) [] with
      | some y, some m => some (y :: m)
      | _, _ => none) = _
    rw [e2]; rfl
end
section
variable {n : Nat} {es : List Ed} {L : List (Int × Int)} {t : List (Nat × AV)}
theorem grow_leaf (hn1 : 1 ≤ n) (hn : n ≤ 12) (ht6 : Abs.get t 6 = .ptr 3 1 0 0) (hLl : L.length ≤ 1000) {xs : List Int} {y : AV} {e : Nat} {F : List Int} {T : List AV} {Z : List AO} {K : AV → List AO → Prop} (hx : xs.length + 1 = n) (hF : F.length = 12) (hT : TOk Z y xs) (hTl : T.length < 16384)
    (hK : ∀ T' Z', T'.length = T.length + 1 → FrT y xs Z Z' → K (.b true) (trA n es L (.lp 29 t [20] rc14_0a rc14_0c .ready) T' ++ Z')) :
    HC Try.prog false 36 [y, .i e, .p (.agg (F.map PV.i)), .ptr 4 1 0 0, .ptr 8 1 0 0, .ptr 5 1 0 0, .ptr 9 1 0 0] (trA n es L (.lp 29 t [20] rc14_0a rc14_0c .ready) T ++ Z) K := by
  have hT0 := hT
  obtain ⟨o, cap, rfl, -⟩ := hT
  obtain ⟨lp, hlp⟩ : ∃ lp, lp = AO.lp 29 t [20] rc14_0a rc14_0c .ready := ⟨_, rfl⟩
  have hlen := TOk.lenA n es L lp T hT0
  have hvw := TOk.view n es L lp T hT0
  rw [← hlp] at hK ⊢
  dsimp only [trA, List.cons_append, List.nil_append] at hlen hvw
  have hxn : ((xs.length : Int) = (n : Int) - 1) = True := eq_true (by omega)
  refine HC_of_W (af := _) ((by exact cfn36 : cfn _ _ _ = some _)) ?_
  simp -implicitDefEqProofs (disch := omega) [c36, List.getElem?_cons_zero, List.getElem?_cons_succ, wrap_id, -lenA, hlen, hF, hxn]
  refine HC_of_PC (ps := [.is xs]) (hvw _) (cloneI_ok xs (by omega)) ?_
  simp -implicitDefEqProofs (disch := omega) [List.getElem?_cons_zero, List.getElem?_cons_succ, wrap_id]
  subst hlp
  refine ⟨rfl, tr_yield (Z := Z ++ [boxF F, .row (xs.map PV.i) 1 3 false]) ht6 hTl (.inr ⟨Z.length + 1, xs.map PV.i, by simp, by simp⟩) fun Z' => ?_⟩
  simp -implicitDefEqProofs (disch := omega) [List.getElem?_cons_zero, List.getElem?_cons_succ, wrap_id]
  refine finH trivial rfl ?_
  have h := hK (T ++ [.os (Z.length + 1 + 10) 0 xs.length]) (Z ++ (boxF F :: .row (xs.map PV.i) 1 3 false :: Z')) (by simp) (FrT.app _ _ _ _)
  simpa using h
end
end Go.Proofs.Ytojamfbdlfgedaa
end
