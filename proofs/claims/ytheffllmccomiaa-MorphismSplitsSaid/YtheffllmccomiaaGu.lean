/-
  A byte that is handed.
-/
import Derived.Test.YtheffllmccomiaaGd
namespace Go.Proofs.Ytheffllmccomiaa
open Go.Abs Go.Sand Go.ChangeShapes Go.WideShapes Go.ChangeAt Go.RowKit

theorem arg_u8 {P : Program} {H : Type} {enc : TypeId × Value → H} {w : World} {base : Nat} {spare : Nat → Bool} {held : Bool} {v : Value} {d : DataW H} {p : List MemPlace} {r : Reach} {base' : Nat} {t : TypeId} (_ : Unit)
    (ht : P.underlying t = some (.int .u8)) (_ : ∀ b : Int, b = b) (hw : Value.okWide P w r base' t v) (hd : DataW.Trod enc P w base spare held t v d p) : ∃ b : {n : Int // 0 ≤ n ∧ n < 256}, RP (Here w) w (.v (.int .u8 b.1)) v := by
  obtain ⟨n, rfl⟩ := okWide_int ht hw
  have hb : 0 ≤ n ∧ n < 256 := by
    simp [Value.okWide, ht, Cell.okWide, Cell.ok, IntKind.has] at hw
    have e1 : IntKind.u8.min = 0 := rfl
    have e2 : IntKind.u8.max = 255 := rfl
    omega
  exact ⟨⟨n, hb⟩, .v _ rfl⟩
end Go.Proofs.Ytheffllmccomiaa
