/-
  Texts joined: Wa.
-/
import Derived.Test.YtamiekhoaggpkaaKa4

section
namespace Go
namespace Sand
/-- A script, some vertices fire once more, one after the other. -/
def incL (s l : List Int) : List Int := l.foldl (fun s v => moreS s v.toNat 1) s
theorem incL_snoc (s l : List Int) (v : Int) : incL s (l ++ [v]) = moreS (incL s l) v.toNat 1 := by
  unfold incL
  rw [List.foldl_append]; rfl
theorem incL_len (s : List Int) : ∀ l : List Int, (incL s l).length = s.length := by
  intro l
  unfold incL
  induction l generalizing s with
  | nil => rfl
  | cons v l ih => rw [List.foldl_cons, ih, moreS_len]
section
variable (n : Nat) (es : List Ed) (q : Int)
/-- Whether a vertex fires in a round. -/
def rdyB (c : List Int) (v : Nat) : Bool := decide ((v : Int) ≠ q ∧ 0 < valTo es v n ∧ valTo es v n ≤ c.getD v 0)
def rdyK (c : List Int) (k : Nat) : List Int := ((List.range k).filter fun v => rdyB n es q c v).map fun v : Nat => (v : Int)
/-- The vertices that fire in a round. -/
def rdyL (c : List Int) : List Int := rdyK n es q c n
/-- The script, and the chips, behind k rounds. -/
def rdS (d : List Int) : Nat → List Int
  | 0 => List.replicate n 0
  | k + 1 => incL (rdS d k) (rdyL n es q (movedE es (rdS d k) d))
def rdC (d : List Int) (k : Nat) : List Int := movedE es (rdS n es q d k) d
end
section
variable {n : Nat} {es : List Ed} {q : Int}
theorem rdyK_succ (c : List Int) (k : Nat) : rdyK n es q c (k + 1) = rdyK n es q c k ++ if rdyB n es q c k = true then [(k : Int)] else [] := by
  unfold rdyK
  rw [List.range_succ, List.filter_append, List.map_append]
  congr 1
  by_cases h : rdyB n es q c k = true <;> simp [h]
theorem rdyK_len (c : List Int) (k : Nat) : (rdyK n es q c k).length ≤ k := by
  unfold rdyK
  have := List.length_filter_le (fun v => rdyB n es q c v) (List.range k)
  simpa using this
theorem rdyK_mem {c : List Int} {k : Nat} {x : Int} (h : x ∈ rdyK n es q c k) : ∃ v : Nat, x = v ∧ v < k ∧ rdyB n es q c v = true := by
  obtain ⟨v, hv, rfl⟩ := List.mem_map.1 h
  have := List.mem_filter.1 hv
  exact ⟨v, rfl, List.mem_range.1 this.1, this.2⟩
theorem incL_sum {s : List Int} (hs : s.length = n) (c : List Int) : ∀ k, k ≤ n → sumI (incL s (rdyK n es q c k)) = sumI s + (rdyK n es q c k).length
  | 0, _ => by simp [rdyK, incL]
  | k + 1, hk => by
    have ih := incL_sum hs c k (by omega)
    rw [rdyK_succ]
    by_cases hb : rdyB n es q c k = true
    · rw [if_pos hb, incL_snoc, Int.toNat_natCast, sumI_more (by rw [incL_len, hs]; omega), ih, List.length_append]
      simp; omega
    · rw [if_neg hb, List.append_nil, ih]
variable (hg : GoodG n es) {d : List Int} (hd : d.length = n)
theorem rdS_len : ∀ k, (rdS n es q d k).length = n
  | 0 => by simp [rdS]
  | k + 1 => by rw [rdS, incL_len, rdS_len k]
theorem rdS_sum (k : Nat) : sumI (rdS n es q d (k + 1)) = sumI (rdS n es q d k) + (rdyL n es q (rdC n es q d k)).length := by
  rw [rdS, rdyL, incL_sum (rdS_len k) _ n (Nat.le_refl _)]; rfl
include hg hd
omit hg hd
/-- How the rounds go: behind k more rounds; over the limit. -/
def wentN (n : Nat) (es : List Ed) (q : Int) (d : List Int) : Nat → Nat → Nat × Bool
  | 0, k => (k, false)
  | f + 1, k => if rdyL n es q (rdC n es q d k) = [] then (k, false) else if 1048576 < sumI (rdS n es q d (k + 1)) then (k, true) else wentN n es q d f (k + 1)
theorem wentN_succ (f k : Nat) : wentN n es q d (f + 1) k = if rdyL n es q (rdC n es q d k) = [] then (k, false) else if 1048576 < sumI (rdS n es q d (k + 1)) then (k, true) else wentN n es q d f (k + 1) := rfl
end
end Sand
end Go
end
