/-
  Texts joined: Own.
-/
import Derived.Test.YtekniokkmgencaaGreatKh2
import Derived.Deep.OwnRows
section
namespace Go
namespace Sand
open Go.RowKit
theorem SlE.drew {w : World} {v : Value} {es : List Ed} (h : SlE w v es) : SlE w.drew v es := h
theorem SlI.drew {w : World} {v : Value} {xs : List Int} (h : SlI w v xs) : SlI w.drew v xs := h
def vI (xs : List Int) : List Value := xs.map (Value.int .i64)
def OwnI (e : TypeId) (w : World) (B : Nat) (v : Value) (xs : List Int) : Prop := w.ownsRow B e 1 v xs.length (vI xs) ∧ xs.length ≤ 9223372036854775807
theorem vI_get (xs : List Int) (i : Nat) (h : i < xs.length) : (vI xs)[i]? = some (.int .i64 xs[i]) := by simp [vI, h]
section
variable {e : TypeId} {w w' : World} {B : Nat} {v : Value} {xs : List Int}
theorem OwnI.nil : OwnI e w B (.slice none 0 0) [] := ⟨World.ownsRow_nil w B e 1, by simp⟩
theorem OwnI.form (h : OwnI e w B v xs) : (v = .slice none 0 0 ∧ xs = []) ∨ ∃ g cap, v = .slice (some ⟨g, 0, none⟩) xs.length cap ∧ B ≤ g ∧ g < w.heap.size ∧ xs.length ≤ cap ∧ cap ≤ 9223372036854775807 ∧
    (∀ j, w.frozen? ⟨g, j, none⟩ = false) ∧ ∀ j (h : j < xs.length), w.cell? ⟨g, j, none⟩ = some (.int .i64 xs[j]) := by
  rcases h.1.2 with ⟨h1, h2⟩ | ⟨g, cap, cur, hv, hg, hh, hnc, hcm, hcs, htake⟩
  · exact .inl ⟨h1, List.length_eq_zero_iff.1 h2⟩
  · refine .inr ⟨g, cap, hv, hg, lt_of_block hh, hnc, hcm, ?_, fun j hj => ?_⟩
    · have h1 := h.1
      rw [hv] at h1
      exact fun j => World.ownsRow.frozenAt h1 j
    · have h1 := h.1
      rw [hv] at h1
      rw [World.ownsRow.cellAt h1 j (by omega), vI_get xs j hj]
theorem OwnI.row (h : OwnI e w B v xs) (hx : 0 < xs.length) : ∃ g cap, v = .slice (some ⟨g, 0, none⟩) xs.length cap ∧ B ≤ g ∧ g < w.heap.size ∧ xs.length ≤ cap ∧ cap ≤ 9223372036854775807 ∧
    (∀ j, w.frozen? ⟨g, j, none⟩ = false) ∧ ∀ j (h : j < xs.length), w.cell? ⟨g, j, none⟩ = some (.int .i64 xs[j]) := by
  rcases h.form with ⟨_, h2⟩ | h
  · subst h2; simp at hx
  · exact h
theorem OwnI.sl (h : OwnI e w B v xs) : SlI w v xs := by
  rcases h.form with ⟨h1, h2⟩ | ⟨g, cap, hv, _, _, h1, h2, _, hc⟩
  · subst h1 h2; exact SlI.nil w
  · exact ⟨some ⟨g, 0, none⟩, cap, hv, h1, h2, fun i hi => ⟨g, 0, rfl, by rw [Nat.zero_add]; exact hc i hi⟩⟩
theorem OwnI.grown {row : Option Nat} (h : OwnI e w B v xs) (hg : w.grownBy w' row) (hne : v.ownBlock = none ∨ v.ownBlock ≠ row) : OwnI e w' B v xs := ⟨h.1.kept hg hne, h.2⟩
theorem grownBy_of_below (hb : Below w.heap.size w w') : w.grownBy w' none := ⟨hb.os, hb.tape, hb.output, hb.size, fun i hi _ => hb.block i hi⟩
theorem OwnI.ext (h : OwnI e w B v xs) (hb : Below w.heap.size w w') : OwnI e w' B v xs := ⟨h.1.kept (row := none) (grownBy_of_below hb) (by cases v.ownBlock <;> simp), h.2⟩
theorem OwnI.drew (h : OwnI e w B v xs) : OwnI e w.drew B v xs := h
theorem OwnI.alloc (h : OwnI e w B v xs) (o : Obj) : OwnI e (w.alloc o) B v xs := ⟨h.1.alloc o, h.2⟩
theorem OwnI.set {g cap n : Nat} (h : OwnI e w B (.slice (some ⟨g, 0, none⟩) n cap) xs) (j : Nat) (u : Int) : OwnI e (w.setCell ⟨g, j, none⟩ (.int .i64 u)) B (.slice (some ⟨g, 0, none⟩) n cap) (xs.set j u) := by
  have hn : n = xs.length := by
    rcases h.form with ⟨h1, _⟩ | ⟨g', cap', h1, _⟩
    · cases h1
    · injection h1
  subst hn
  have h2 := (World.ownsRow.stored h.1 j (.int .i64 u)).1
  refine ⟨?_, by simpa using h.2⟩
  have e1 : vI (xs.set j u) = (vI xs).set j (.int .i64 u) := by simp [vI, List.map_set]
  rw [e1, List.length_set]
  exact h2
theorem OwnI.len {g cap n : Nat} (h : OwnI e w B (.slice (some ⟨g, 0, none⟩) n cap) xs) : n = xs.length := by
  rcases h.form with ⟨h1, _⟩ | ⟨g', cap', h1, _⟩
  · cases h1
  · injection h1
theorem OwnI.lt (h : OwnI e w B v xs) : ∀ k, v.ownBlock = some k → B ≤ k ∧ k < w.heap.size := h.1.lt
end
end Sand
end Go
end
