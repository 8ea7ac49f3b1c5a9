/-
  AN ABSTRACT MACHINE, part 14: objects under other numbers; what a call leaves is taken over.
-/
import Derived.Test.YtjkmhjjfipnbbaaAbsm
namespace Go
namespace Abs
open Go.RowKit

mutual
def AV.ren (H : List AO) (ρ : Nat → Option Nat) : AV → AV
  | .p x => .p x
  | .os o off len => match ρ o with
    | some o' => .os o' off len
    | none => match H[o]? with
      | some (.row els _ _ _) => if off + len = els.length then .p (.sl (els.drop off)) else .dead
      | _ => .dead
  | .ptr o n i j => match ρ o with
    | some o' => .ptr o' n i j
    | none => .dead
  | .sp e j => .sp e j
  | .agg l => .agg (renL H ρ l)
  | .tup l => .tup (renL H ρ l)
  | .fn f a b => .fn f (renL H ρ a) (renL H ρ b)
  | .dead => .dead
def renL (H : List AO) (ρ : Nat → Option Nat) : List AV → List AV
  | [] => []
  | x :: l => AV.ren H ρ x :: renL H ρ l
end
theorem renL_eq (H : List AO) (ρ : Nat → Option Nat) : ∀ l, renL H ρ l = l.map (AV.ren H ρ)
  | [] => rfl
  | x :: l => by rw [renL, renL_eq H ρ l]; rfl
def AO.ren (H : List AO) (ρ : Nat → Option Nat) : AO → AO
  | .row els sz t fz => .row els sz t fz
  | .box x => .box (x.ren H ρ)
/-- It reads no memory that somebody else may write. -/
def calmP : PV → Bool
  | .v _ => true
  | .sl _ => false
  | .agg l => l.all fun
    | .v _ => true
    | _ => false
mutual
def calmA : AV → Bool
  | .p x => calmP x
  | .os _ _ _ | .ptr _ _ _ _ | .dead => true
  | .sp _ _ => false
  | .agg l | .tup l => calmL l
  | .fn _ a b => calmL a && calmL b
def calmL : List AV → Bool
  | [] => true
  | x :: l => calmA x && calmL l
end
theorem calmL_mem : ∀ {l : List AV}, calmL l = true → ∀ x ∈ l, calmA x = true
  | y :: l, h, x, hx => by
    simp only [calmL, Bool.and_eq_true] at h
    rcases List.mem_cons.1 hx with rfl | hx
    · exact h.1
    · exact calmL_mem h.2 x hx
def calmO : AO → Bool
  | .row els _ _ _ => els.all calmP
  | .box x => calmA x
theorem calmP_flat {e : PV} (h : calmP e = true) : ∀ c ∈ e.flat, calmP c = true := by
  cases e with
  | v => intro c hc; simp [PV.flat] at hc; subst hc; rfl
  | sl => cases h
  | agg l =>
    intro c hc
    have := List.all_eq_true.1 h c hc
    cases c <;> first | rfl | simp at this
theorem RP.calm {S S' : Nat → Prop} {w w' : World} {x : PV} {v : Value} (h : RP S w x v) (hc : calmP x = true) : RP S' w' x v := by
  cases h with
  | v _ h => exact .v _ h
  | sl => cases hc
  | agg l cs hl ho hr =>
    refine .agg l cs hl ho (fun i hi hi' => ?_)
    have := List.all_eq_true.1 hc _ (List.getElem_mem hi)
    have h2 := hr i hi hi'
    generalize l[i] = e at this h2 ⊢
    generalize cs[i] = u at h2 ⊢
    cases h2 with
    | v _ h => exact .v _ h
    | sl => simp at this
    | agg => simp at this

structure RenOk (M M' : Mem) (ρ : Nat → Option Nat) : Prop where
  ob : ∀ o o' ob, ρ o = some o' → M.H[o]? = some ob → ∃ ob', M'.H[o']? = some ob' ∧ ob'.tag = ob.tag ∧ ob'.len = ob.len ∧ ob'.sz = ob.sz ∧ M'.φ o' = M.φ o ∧ ∀ b, M.φ o = some b → M'.w.shape? b = M.w.shape? b
  dr : ∀ o ob, ρ o = none → M.H[o]? = some ob → ∀ b, M.φ o = some b → M'.shared b ∧ M'.w.heap[b]? = M.w.heap[b]?
def ShOk (M M' : Mem) : Prop := ∀ b, M.shared b → M'.shared b ∧ M'.w.heap[b]? = M.w.heap[b]?
theorem RA.ren {M M' : Mem} {ρ : Nat → Option Nat} (hM : MemOk M) (hr : RenOk M M' ρ) {x : AV} {v : Value} (h : RA M x v) : ((calmA x = true ∧ ∀ o, (ρ o).isSome = true) ∨ ShOk M M') → RA M' (x.ren M.H ρ) v := by
  induction h with
  | p x v h =>
    intro hc
    rw [AV.ren]
    rcases hc with hc | hc
    · exact .p _ _ (h.calm hc.1)
    · exact .p _ _ (h.mono hc)
  | os o off len v h =>
    intro hc
    rw [AV.ren]
    obtain ⟨ob, h1, h2, h3⟩ := id h
    cases hρ : ρ o with
    | some o' =>
      obtain ⟨ob', k1, k2, k3, k4, k5, k6⟩ := hr.ob o o' ob hρ h1
      dsimp only
      refine .os _ _ _ _ ⟨ob', k1, by omega, fun e t ht => ?_⟩
      rcases h3 (by omega) t (k2 ▸ ht) with ⟨a1, a2, a3, a4⟩ | ⟨b, cap, a1, a2, a3, a4, a5⟩
      · exact .inl ⟨k5.trans a1, a2, a3, a4⟩
      · exact .inr ⟨b, cap, k5.trans a1, by rw [k4]; exact a2, a3, a4, by rw [k6 b a1, k4]; exact a5⟩
    | none =>
      dsimp only
      rcases hc with hc | hc
      · have := hc.2 o
        rw [hρ] at this
        cases this
      · rw [h1]
        cases ob with
        | box y => exact .dead _
        | row els sz t fz =>
          dsimp only
          split
          · rename_i hlen
            rcases h3 (by simpa [AO.len] using hlen) t rfl with ⟨a1, a2, a3, a4⟩ | ⟨b, cap, a1, a2, a3, a4, a5⟩
            · subst a2
              have e0 : els = [] := List.length_eq_zero_iff.1 (by omega)
              subst e0
              rw [a4]
              exact .p _ _ (.sl [] none 0 0 (fun _ _ => undef) (by simp) (by simp) (fun i h => by simp at h) (.inl rfl) (fun i h => by simp at h))
            · obtain ⟨hfl, hrest⟩ := hM.ok o _ h1
              obtain ⟨hsh, hheap⟩ := hr.dr o _ hρ h1 b a1
              rcases hrest with ⟨hnone, _⟩ | ⟨b', cur, cap', hb1, hb2, hcs, hcap, hcells⟩
              · rw [a1] at hnone; cases hnone
              · rw [a1] at hb1
                injection hb1 with hb1
                subst hb1
                have hll : (els.drop off).length = len := by simp; omega
                rw [a2, ← hll]
                simp only [AO.sz]
                have hb2' : M'.w.heap[b]? = some (.cells cur t (0, 0)) := hheap.trans hb2
                refine .p _ _ (.sl (els.drop off) _ cap sz (fun i j => cur.getD ((off + i) * sz + j) undef) (by omega) a4 (fun i hi => ?_) (.inr ⟨b, off * sz, rfl, hsh, fun i j hi hj => ?_⟩) (fun i hi j hj => ?_))
                · rw [List.getElem_drop]; exact hfl _ (List.getElem_mem _)
                · rw [hll] at hi
                  have hfe := (hfl _ (List.getElem_mem (by omega : off + i < els.length))).1
                  obtain ⟨c, k1, _⟩ := hcells (off + i) (by omega) j (by omega)
                  rw [cell_of_row M'.w b _ cur t (0, 0) hb2', show off * sz + i * sz + j = (off + i) * sz + j by rw [Nat.add_mul], Array.getD_eq_getD_getElem?, k1]
                  rfl
                · rw [hll] at hi
                  simp only [List.getElem_drop] at hj ⊢
                  obtain ⟨c, k1, k2⟩ := hcells (off + i) (by omega) j hj
                  rw [Array.getD_eq_getD_getElem?, k1]
                  exact k2.mono hc
          · exact .dead _
  | ptr o n i j v h =>
    intro hc
    rw [AV.ren]
    obtain ⟨ob, h1, h2, h3⟩ := h
    cases hρ : ρ o with
    | some o' =>
      obtain ⟨ob', k1, k2, k3, k4, k5, k6⟩ := hr.ob o o' ob hρ h1
      refine .ptr _ _ _ _ _ ⟨ob', k1, by omega, fun e => ?_⟩
      obtain ⟨b, a1, a2⟩ := h3 (by omega)
      exact ⟨b, k5.trans a1, by rw [k4]; exact a2⟩
    | none => exact .dead _
  | sp e j b off c hb ho hc2 hr2 =>
    intro hc
    rw [AV.ren]
    rcases hc with hc | hc
    · exact absurd hc.1 (by simp [calmA])
    · refine .sp e j b off c (hc b hb).1 ho (fun k hk => ?_) (fun k hk => (hr2 k hk).mono hc)
      rw [World.cell?_of_block (w := M.w) (w' := M'.w) (hc b hb).2]
      exact hc2 k hk
  | agg l cs hl ho hr2 ih =>
    intro hc
    rw [AV.ren, renL_eq]
    refine .agg _ cs (by simpa using hl) ho (fun i hi hi' => ?_)
    simp only [List.length_map] at hi
    simp only [List.getElem_map]
    exact ih i hi hi' (hc.imp (fun h => ⟨calmL_mem (by simpa [calmA] using h.1) _ (List.getElem_mem hi), h.2⟩) id)
  | tup l cs hl hr2 ih =>
    intro hc
    rw [AV.ren, renL_eq]
    refine .tup _ cs (by simpa using hl) (fun i hi hi' => ?_)
    simp only [List.length_map] at hi
    simp only [List.getElem_map]
    exact ih i hi hi' (hc.imp (fun h => ⟨calmL_mem (by simpa [calmA] using h.1) _ (List.getElem_mem hi), h.2⟩) id)
  | fn f first cap fs cs hl hl' hr2 hr3 ih ih' =>
    intro hc
    rw [AV.ren, renL_eq, renL_eq]
    have hcc : ((calmL first = true ∧ calmL cap = true) ∧ ∀ o, (ρ o).isSome = true) ∨ ShOk M M' := hc.imp (fun h => ⟨by simpa [calmA] using h.1, h.2⟩) id
    refine .fn f _ _ fs cs (by simpa using hl) (by simpa using hl') (fun i hi hi' => ?_) (fun i hi hi' => ?_)
    · simp only [List.length_map] at hi
      simp only [List.getElem_map]
      exact ih i hi hi' (hcc.imp (fun h => ⟨calmL_mem h.1.1 _ (List.getElem_mem hi), h.2⟩) id)
    · simp only [List.length_map] at hi
      simp only [List.getElem_map]
      exact ih' i hi hi' (hcc.imp (fun h => ⟨calmL_mem h.1.2 _ (List.getElem_mem hi), h.2⟩) id)
  | dead v => intro _; rw [AV.ren]; exact .dead v
theorem solidFlat {x : AV} (H : List AO) (ρ : Nat → Option Nat) (hx : ∀ l, x ≠ .agg l) (hp : ∀ q, x ≠ .p q) : (x.ren H ρ).flat = x.flat.map (AV.ren H ρ) := by
  cases x with
  | p q => exact absurd rfl (hp q)
  | agg l => exact absurd rfl (hx l)
  | os o off len =>
    show (AV.ren H ρ (.os o off len)).flat = [AV.ren H ρ (.os o off len)]
    rw [AV.ren]
    cases ρ o with
    | some o' => rfl
    | none =>
      cases H[o]? with
      | none => rfl
      | some ob =>
        cases ob with
        | box y => rfl
        | row els sz t fz =>
          dsimp only
          split <;> rfl
  | ptr o n i j =>
    show (AV.ren H ρ (.ptr o n i j)).flat = [AV.ren H ρ (.ptr o n i j)]
    rw [AV.ren]
    cases ρ o <;> rfl
  | sp e j => simp [AV.ren, AV.flat]
  | tup l => simp [AV.ren, AV.flat]
  | fn f a b => simp [AV.ren, AV.flat]
  | dead => simp [AV.ren, AV.flat]
theorem flat_ren (x : AV) (H : List AO) (ρ : Nat → Option Nat) : (x.ren H ρ).flat = x.flat.map (AV.ren H ρ) := by
  by_cases h1 : ∃ l, x = .agg l
  · obtain ⟨l, rfl⟩ := h1
    rw [AV.ren, renL_eq]
    rfl
  · by_cases h2 : ∃ q, x = .p q
    · obtain ⟨q, rfl⟩ := h2
      rw [AV.ren]
      simp only [AV.flat, List.map_map]
      apply List.map_congr_left
      intro y _
      simp [AV.ren]
    · exact solidFlat H ρ (fun l h => h1 ⟨l, h⟩) (fun q h => h2 ⟨q, h⟩)
theorem calmA_flat {x : AV} (h : calmA x = true) : ∀ c ∈ x.flat, calmA c = true := by
  cases x with
  | p q =>
    intro c hc
    simp only [AV.flat, List.mem_map] at hc
    obtain ⟨y, hy, rfl⟩ := hc
    exact calmP_flat h y hy
  | agg l =>
    rw [calmA] at h
    exact calmL_mem h
  | _ => intro c hc; simp [AV.flat] at hc; subst hc; exact h
theorem CellsOk.ren {M M' : Mem} {ρ : Nat → Option Nat} (hM : MemOk M) (hr : RenOk M M' ρ) {x : AV} {cur : Array Value} (h : CellsOk M x.flat cur) (hc : (calmA x = true ∧ ∀ o, (ρ o).isSome = true) ∨ ShOk M M') : CellsOk M' (x.ren M.H ρ).flat cur := by
  rw [flat_ren]
  refine ⟨by simpa using h.1, fun i hi => ?_⟩
  simp only [List.length_map] at hi
  obtain ⟨c, k1, k2, k3⟩ := h.2 i hi
  simp only [List.getElem_map]
  exact ⟨c, k1, k2.ren hM hr (hc.imp (fun h => ⟨calmA_flat h.1 _ (List.getElem_mem hi), h.2⟩) id), k3⟩
theorem AO.ren_len (ob : AO) (H : List AO) (ρ : Nat → Option Nat) : (ob.ren H ρ).len = ob.len ∧ (ob.ren H ρ).sz = ob.sz ∧ (ob.ren H ρ).tag = ob.tag ∧ (ob.ren H ρ).fz = ob.fz := by cases ob <;> exact ⟨rfl, rfl, rfl, rfl⟩
theorem ObOk.ren {M M' : Mem} {ρ : Nat → Option Nat} (hM : MemOk M) (hr : RenOk M M' ρ) {o o' : Nat} {ob : AO} (hφ : M'.φ o' = M.φ o) (hh : ∀ b, M.φ o = some b → M'.w.heap[b]? = M.w.heap[b]?) (h : ObOk M o ob) (hc : (calmO ob = true ∧ ∀ o, (ρ o).isSome = true) ∨ ShOk M M') : ObOk M' o' (ob.ren M.H ρ) := by
  cases ob with
  | row els sz t fz =>
    refine ⟨h.1, ?_⟩
    rcases h.2 with ⟨h1, h2⟩ | ⟨b, cur, cap, hb, hc2, h1, h2, h3⟩
    · exact .inl ⟨hφ.trans h1, h2⟩
    · refine .inr ⟨b, cur, cap, hφ.trans hb, (hh b hb).trans hc2, h1, h2, fun i hi j hj => ?_⟩
      obtain ⟨c, k1, k2⟩ := h3 i hi j hj
      refine ⟨c, k1, ?_⟩
      rcases hc with hc | hc
      · exact k2.calm (calmP_flat (List.all_eq_true.1 hc.1 _ (List.getElem_mem hi)) _ (List.getElem_mem hj))
      · exact k2.mono hc
  | box x =>
    obtain ⟨b, cur, t, hb, hc2, h1⟩ := h
    exact ⟨b, cur, t, hφ.trans hb, (hh b hb).trans hc2, h1.ren hM hr hc⟩

/-- The place of a number in a list. -/
def idx : List Nat → Nat → Nat → Option Nat
  | [], _, _ => none
  | x :: l, k, o => if x = o then some k else idx l (k + 1) o
theorem idx_some : ∀ {l : List Nat} {k o o' : Nat}, idx l k o = some o' → k ≤ o' ∧ l[o' - k]? = some o
  | x :: l, k, o, o', h => by
    simp only [idx] at h
    split at h
    · rename_i e; injection h with h; subst h e; simp
    · obtain ⟨h1, h2⟩ := idx_some h
      refine ⟨by omega, ?_⟩
      rw [show o' - k = (o' - (k + 1)) + 1 by omega, List.getElem?_cons_succ]
      exact h2
theorem idx_none : ∀ {l : List Nat} {k o : Nat}, idx l k o = none → o ∉ l
  | [], _, _, _ => by simp
  | x :: l, k, o, h => by
    simp only [idx] at h
    split at h
    · cases h
    · rename_i e
      intro hm
      rcases List.mem_cons.1 hm with rfl | hm
      · exact e rfl
      · exact idx_none h hm
/-- The slots in keep, the objects in σ. -/
def norm (σ keep : List Nat) (s : St) : St := ⟨keep.map fun i => (i, (get s.t i).ren s.H (idx σ 0)), σ.map fun o => (s.H.getD o (.box .dead)).ren s.H (idx σ 0)⟩
theorem get_keep (f : Nat → AV) : ∀ (keep : List Nat) (i : Nat), get (keep.map fun i => (i, f i)) i = f i ∨ get (keep.map fun i => (i, f i)) i = .dead
  | [], _ => .inr rfl
  | j :: l, i => by
    simp only [List.map_cons, get]
    by_cases e : j = i
    · subst e; simp
    · rw [if_neg e]; exact get_keep f l i
def nodupB : List Nat → Bool
  | [] => true
  | x :: l => !l.contains x && nodupB l
theorem nodupB_inj : ∀ {l : List Nat}, nodupB l = true → ∀ (i j x : Nat), l[i]? = some x → l[j]? = some x → i = j
  | [], _, i, j, x, h, _ => by simp at h
  | y :: l, hn, i, j, x, h, h' => by
    simp only [nodupB, Bool.and_eq_true, Bool.not_eq_true', List.contains_eq_mem, decide_eq_false_iff_not] at hn
    cases i with
    | zero =>
      cases j with
      | zero => rfl
      | succ j =>
        simp at h h'
        subst h
        exact absurd (List.mem_of_getElem? h') hn.1
    | succ i =>
      cases j with
      | zero =>
        simp at h h'
        subst h'
        exact absurd (List.mem_of_getElem? h) hn.1
      | succ j => rw [nodupB_inj hn.2 i j x (by simpa using h) (by simpa using h')]
def firstB : Nat → Nat → List Nat → Bool
  | _, 0, _ => true
  | k, m + 1, x :: l => x == k && firstB (k + 1) m l
  | _, _ + 1, [] => false
theorem firstB_get : ∀ {m k : Nat} {l : List Nat}, firstB k m l = true → ∀ i, i < m → l[i]? = some (k + i)
  | m + 1, k, x :: l, h, i, hi => by
    simp only [firstB, Bool.and_eq_true, beq_iff_eq] at h
    cases i with
    | zero => simp [h.1]
    | succ i =>
      rw [List.getElem?_cons_succ, firstB_get h.2 i (by omega)]
      congr 1
      omega
/-- Which objects may be kept. -/
def okσ (σ : List Nat) (m0 : Nat) (H : List AO) : Bool := (σ.all fun o => decide (o < H.length)) && nodupB σ && firstB 0 m0 σ
def renH (σ : List Nat) (H : List AO) : List AO := σ.map fun o => (H.getD o (.box .dead)).ren H (idx σ 0)
theorem mem_norm {M0 M : Mem} (hM : MemOk M) (hle : Le M0 M) (hbase : M.base = M0.base) {σ : List Nat} (h : okσ σ M0.H.length M.H = true) :
    ∃ M' : Mem, M'.w = M.w ∧ M'.H = renH σ M.H ∧ M'.base = M.base ∧ M'.S = M.S ∧ MemOk M' ∧ Le M0 M' ∧ ∀ {x : AV} {v : Value}, RA M x v → RA M' (x.ren M.H (idx σ 0)) v := by
  simp only [okσ, Bool.and_eq_true] at h
  obtain ⟨⟨h1, h2⟩, h3⟩ := h
  have hlt : ∀ (i : Nat) (o : Nat), σ[i]? = some o → o < M.H.length := fun i o hi => by
    have := List.all_eq_true.1 h1 o (List.mem_of_getElem? hi)
    simpa using this
  obtain ⟨M', hMd'⟩ : ∃ M' : Mem, M' = ⟨M.w, renH σ M.H, fun o => (σ[o]?).bind M.φ, M.base, M.S⟩ := ⟨_, rfl⟩
  have hget : ∀ (o' o : Nat) (ob : AO), σ[o']? = some o → M.H[o]? = some ob → M'.H[o']? = some (ob.ren M.H (idx σ 0)) := by
    intro o' o ob h4 h5
    rw [hMd']
    simp only [renH, List.getElem?_map, h4, Option.map_some, List.getD_eq_getElem?_getD, h5, Option.getD_some]
  have hback : ∀ (o' : Nat) (ob' : AO), M'.H[o']? = some ob' → ∃ o ob, σ[o']? = some o ∧ M.H[o]? = some ob ∧ ob' = ob.ren M.H (idx σ 0) := by
    intro o' ob' h4
    rw [hMd'] at h4
    simp only [renH, List.getElem?_map, Option.map_eq_some_iff] at h4
    obtain ⟨o, h5, h6⟩ := h4
    have h7 := List.getElem?_eq_getElem (hlt o' o h5)
    refine ⟨o, _, h5, h7, ?_⟩
    rw [← h6, List.getD_eq_getElem?_getD, h7]
    rfl
  have hφ' : ∀ (o' o : Nat), σ[o']? = some o → M'.φ o' = M.φ o := fun o' o h4 => by rw [hMd']; simp [h4]
  have hsh : ShOk M M' := by
    intro b hb
    refine ⟨⟨by rw [hMd']; exact hb.1, by rw [hMd']; exact hb.2.1, fun o' ob' h4 h5 => ?_⟩, by rw [hMd']⟩
    obtain ⟨o, ob, k1, k2, k3⟩ := hback o' ob' h4
    rw [hφ' o' o k1]
    subst k3
    rw [(ob.ren_len M.H (idx σ 0)).2.2.2] at h5
    exact hb.2.2 o ob k2 h5
  have hren : RenOk M M' (idx σ 0) := by
    refine ⟨fun o o' ob h4 h5 => ?_, fun o ob h4 h5 b hb => ?_⟩
    · obtain ⟨_, k1⟩ := idx_some h4
      rw [Nat.sub_zero] at k1
      have hl := ob.ren_len M.H (idx σ 0)
      exact ⟨_, hget o' o ob k1 h5, hl.2.2.1, hl.1, hl.2.1, hφ' o' o k1, fun b _ => by rw [hMd']⟩
    · have hlt' := (List.getElem?_eq_some_iff.1 h5).1
      refine ⟨⟨by rw [hMd']; exact hM.lt hlt' hb, fun hlt2 => ?_, fun o' ob' h6 h7 e => ?_⟩, by rw [hMd']⟩
      · rw [hMd'] at hlt2
        have := hM.lo o b hlt' hb
        dsimp only at hlt2
        omega
      · obtain ⟨o2, ob2, k1, k2, k3⟩ := hback o' ob' h6
        rw [hφ' o' o2 k1] at e
        have := hM.inj o2 o b (hlt o' o2 k1) hlt' e hb
        subst this
        exact idx_none h4 (List.mem_of_getElem? k1)
  refine ⟨M', by rw [hMd'], by rw [hMd'], by rw [hMd'], by rw [hMd'], ⟨fun o' ob' h4 => ?_, fun o1 o2 b k1 k2 k3 k4 => ?_, fun o b k1 k2 => ?_, by rw [hMd']; exact hM.bs⟩, ⟨fun b hb => ?_, fun o ob ho => ?_⟩, fun {x v} hx => RA.ren hM hren hx (.inr hsh)⟩
  · obtain ⟨o, ob, k1, k2, k3⟩ := hback o' ob' h4
    subst k3
    exact ObOk.ren (o' := o') hM hren (hφ' o' o k1) (fun b _ => by rw [hMd']) (hM.ok o ob k2) (.inr hsh)
  · have e1 : o1 < σ.length := by rw [hMd'] at k1; simpa [renH] using k1
    have e2 : o2 < σ.length := by rw [hMd'] at k2; simpa [renH] using k2
    rw [hφ' o1 _ (List.getElem?_eq_getElem e1)] at k3
    rw [hφ' o2 _ (List.getElem?_eq_getElem e2)] at k4
    have := hM.inj _ _ b (hlt o1 _ (List.getElem?_eq_getElem e1)) (hlt o2 _ (List.getElem?_eq_getElem e2)) k3 k4
    exact nodupB_inj h2 o1 o2 _ (List.getElem?_eq_getElem e1) (by rw [this]; exact List.getElem?_eq_getElem e2)
  · have e1 : o < σ.length := by rw [hMd'] at k1; simpa [renH] using k1
    rw [hφ' o _ (List.getElem?_eq_getElem e1)] at k2
    rw [hMd']
    exact hM.lo _ b (hlt o _ (List.getElem?_eq_getElem e1)) k2
  · have k1 := hle.sh b hb
    have k2 := hsh b k1.1
    exact ⟨k2.1, k2.2.trans k1.2⟩
  · obtain ⟨ob1, k1, k2, k3, k4⟩ := hle.ob o ob ho
    have hlo := (List.getElem?_eq_some_iff.1 ho).1
    have hσ : σ[o]? = some o := by rw [firstB_get h3 o (by omega), Nat.zero_add]
    have hl := ob1.ren_len M.H (idx σ 0)
    refine ⟨_, hget o o ob1 hσ k1, hl.2.2.1.trans k2, by rw [hl.1]; exact k3, fun e => ?_⟩
    obtain ⟨a1, a2, a3⟩ := k4 (by rw [hl.1] at e; exact e)
    exact ⟨hl.2.1.trans a1, by rw [hφ' o o hσ]; exact a2, fun b hb => by rw [hMd']; exact a3 b hb⟩
theorem Wk_norm {m0 : Nat} {s : St} (σ keep : List Nat) (h : okσ σ m0 s.H = true) : Wk m0 s (norm σ keep s) := by
  intro N M0 φ a w hm hs
  subst hm
  obtain ⟨M', e1, e2, e3, e4, hM', hle, hx⟩ := mem_norm (M := ⟨w, s.H, φ, M0.base, M0.S⟩) hs.m hs.le rfl h
  obtain ⟨w', H', φ', base', S'⟩ := M'
  dsimp only at e1 e2 e3 e4
  subst e1 e2 e3 e4
  refine ⟨φ', hs.d, hs.n, hM', fun i => ?_, hs.b, hle⟩
  rcases get_keep (fun i => (get s.t i).ren s.H (idx σ 0)) keep i with h4 | h4
  · rw [show get (norm σ keep s).t i = _ from h4]
    exact hx (hs.r i)
  · rw [show get (norm σ keep s).t i = .dead from h4]
    exact .dead _

section
variable {P : Program} {N : Nat} {M0 : Mem}
/-- What W has to bring at a function's end. -/
def Fin (m0 : Nat) (rs : List ARes) (R : AV → List AO → Prop) (e : AExit) (s : St) : Prop := (match e with | .exit _ => False | _ => True) ∧ ((∃ s2 r σ, Wk m0 s s2 ∧ resOf s2 rs = some r ∧ okσ σ m0 s2.H = true ∧ R (r.ren s2.H (idx σ 0)) (renH σ s2.H)) ∨ ∃ s2 r, Wk m0 s s2 ∧ resOf s2 rs = some r ∧ R r s2.H)
theorem fin_calls {f : FuncId} {af : AFn} {M : Mem} {args : List AV} {vs : List Value} (hf : cfn P f args.length = some af) (hM : MemOk M) (ha : RAs M args vs) {R : AV → List AO → Prop} (h : W P M.H.length af.body (Fin M.H.length af.res R) ⟨initT 0 args, M.H⟩) :
    Calls P f vs.toArray M.w fun en w' => ∃ v r H' φ', en = .returned v ∧ R r H' ∧ MemOk ⟨w', H', φ', M.base, M.S⟩ ∧ Le M ⟨w', H', φ', M.base, M.S⟩ ∧ RA ⟨w', H', φ', M.base, M.S⟩ r v ∧ Below M.base M.w w' := by
  unfold cfn at hf
  split at hf
  · cases hf
  · rename_i fn hfn
    split at hf
    · rename_i c rs hc hrs
      obtain ⟨ac, hac, rfl⟩ := Option.map_eq_some_iff.1 hf
      have hlen := ha.1
      refine calls_of_wp hfn hc (wp_mono (W_ok (M0 := M) hac h (φ := M.φ) (a := { tmps := vs.toArray ++ Array.replicate (fn.ntmps - vs.toArray.size) undef, defers := [] }) (w := M.w) ⟨rfl, by simp; omega, hM, env_init ha _, Below.refl _ _, Le.refl M⟩) ?_)
      rintro e a' w' ⟨ae, s', φ', rfl, ⟨hq, hq2⟩, hs'⟩
      have fin : a'.defers = [] ∧ ∃ v, (results fn a'.tmps).run P w' = .ok v w' ∧ ∃ v' r H' φ', Ending.returned v = .returned v' ∧ R r H' ∧ MemOk ⟨w', H', φ', M.base, M.S⟩ ∧ Le M ⟨w', H', φ', M.base, M.S⟩ ∧ RA ⟨w', H', φ', M.base, M.S⟩ r v' ∧ Below M.base M.w w' := by
        rcases hq2 with ⟨s2, r, σ, hk, hrr, hσ, hR⟩ | ⟨s2, r, hk, hrr, hR⟩
        · obtain ⟨φ2, hs2⟩ := hk _ M φ' a' w' rfl hs'
          obtain ⟨v, hrun, hrv⟩ := res_ok (M := ⟨w', s2.H, φ2, M.base, M.S⟩) hs2.m rfl hs2.r hrs hrr
          obtain ⟨M', e1, e2, e3, e4, hM', hle, hx⟩ := mem_norm (M := ⟨w', s2.H, φ2, M.base, M.S⟩) hs2.m hs2.le rfl hσ
          obtain ⟨w1, H', φ', base', S'⟩ := M'
          dsimp only at e1 e2 e3 e4
          subst e1 e2 e3 e4
          exact ⟨hs2.d, v, hrun, _, _, _, φ', rfl, hR, hM', hle, hx hrv, hs2.b⟩
        · obtain ⟨φ2, hs2⟩ := hk _ M φ' a' w' rfl hs'
          obtain ⟨v, hrun, hrv⟩ := res_ok (M := ⟨w', s2.H, φ2, M.base, M.S⟩) hs2.m rfl hs2.r hrs hrr
          exact ⟨hs2.d, v, hrun, _, _, _, φ2, rfl, hR, hs2.m, hs2.le, hrv, hs2.b⟩
      cases ae with
      | normal => exact fin
      | ret => exact fin
      | exit i => exact hq.elim
    · cases hf
theorem HC_of_W {f : FuncId} {af : AFn} {args : List AV} {H : List AO} (hf : cfn P f args.length = some af) {R : AV → List AO → Prop} (h : W P H.length af.body (Fin H.length af.res R) ⟨initT 0 args, H⟩) : HC P false f args H R := by
  intro M vs hM hH ha
  subst hH
  exact (fin_calls hf hM ha h).mono fun _ _ ⟨v, r, H', φ', h1, h2, h3, h4, h5, h6⟩ => ⟨v, r, H', φ', h1, h2, h3, h4, h5, h6, fun h => by cases h⟩

/-- The contract of a function that is given values alone. r, HR: what it leaves, and the objects of its own that belong to it. -/
def PC (P : Program) (f : FuncId) (args : List PV) (r : AV) (HR : List AO) : Prop :=
  ∀ (w : World) (S : Nat → Prop) (vs : List Value), RPs (fun b => b < w.heap.size ∧ S b) w args vs → Calls P f vs.toArray w fun en w' => ∃ v φ, en = .returned v ∧ MemOk ⟨w', HR, φ, w.heap.size, S⟩ ∧ RA ⟨w', HR, φ, w.heap.size, S⟩ r v ∧ Below w.heap.size w w'
theorem PC_of_W {f : FuncId} {af : AFn} {args : List PV} {r : AV} {HR : List AO} (hf : cfn P f args.length = some af) (h : W P 0 af.body (Fin 0 af.res fun r' H' => r' = r ∧ H' = HR) ⟨initT 0 (args.map .p), []⟩) : PC P f args r HR := by
  intro w S vs hvs
  have hM : MemOk ⟨w, [], fun _ => none, w.heap.size, S⟩ := ⟨fun o ob h => by simp at h, fun o o' b h => by simp at h, fun o b h => by simp at h, Nat.le_refl _⟩
  have ha : RAs ⟨w, [], fun _ => none, w.heap.size, S⟩ (args.map .p) vs := ⟨by simpa using hvs.1, fun i hi hi' => by
    simp only [List.length_map] at hi
    simp only [List.getElem_map]
    exact .p _ _ ((hvs.2 i hi hi').mono fun b hb => ⟨⟨hb.1, fun _ => hb.2, fun o ob h => by simp at h⟩, rfl⟩)⟩
  refine (fin_calls (by simpa using hf) hM ha h).mono ?_
  rintro en w' ⟨v, r', H', φ', h1, ⟨rfl, rfl⟩, h3, _, h5, h6⟩
  exact ⟨v, φ', h1, h3, h5, h6⟩
end
/-- Slots may be left out. -/
theorem Wk_keep {m0 : Nat} {s : St} (keep : List Nat) : Wk m0 s ⟨keep.map fun i => (i, get s.t i), s.H⟩ := by
  intro N M0 φ a w hm hs
  refine ⟨φ, hs.d, hs.n, hs.m, fun i => ?_, hs.b, hs.le⟩
  rcases get_keep (fun i => get s.t i) keep i with h4 | h4
  · rw [show get (⟨keep.map fun i => (i, get s.t i), s.H⟩ : St).t i = _ from h4]
    exact hs.r i
  · rw [show get (⟨keep.map fun i => (i, get s.t i), s.H⟩ : St).t i = .dead from h4]
    exact .dead _
end Abs
end Go
