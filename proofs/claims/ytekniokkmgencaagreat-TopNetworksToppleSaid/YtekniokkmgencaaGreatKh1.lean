/-
  Texts joined: Early.
-/
import Derived.WalkKit
import Derived.StillTail
import Derived.TacticsIn
import Derived.OrdersIn
import Derived.RangeFuncRecord
import Derived.RangeFuncLeaves
import Derived.LoopNIn
section
namespace Go
namespace Early
def Ext (w w' : World) : Prop := ∀ (k : Nat) (o : Obj), w.heap[k]? = some o → w'.heap[k]? = some o
theorem Ext.refl (w : World) : Ext w w := fun _ _ h => h
theorem Ext.trans {a b c : World} (h : Ext a b) (k : Ext b c) : Ext a c := fun i o hi => k i o (h i o hi)
theorem Ext.of_below {w w' : World} (h : RowKit.Below w.heap.size w w') : Ext w w' := fun k o hk => by
  have hlt : k < w.heap.size := by
    rcases Nat.lt_or_ge k w.heap.size with h' | h'
    · exact h'
    · rw [Array.getElem?_eq_none h'] at hk; cases hk
  rw [h.block k hlt]; exact hk
theorem Ext.alloc (w : World) (o : Obj) : Ext w (w.alloc o) := fun k o' hk => by
  have hlt : k < w.heap.size := by
    rcases Nat.lt_or_ge k w.heap.size with h' | h'
    · exact h'
    · rw [Array.getElem?_eq_none h'] at hk; cases hk
  rw [RowKit.Below.heap_alloc w o k hlt]; exact hk
theorem Ext.cell {w w' : World} (h : Ext w w') {a : Addr} {v : Value} (hc : w.cell? a = some v) : w'.cell? a = some v := by
  unfold World.cell? at hc ⊢
  split at hc
  · rename_i c e f ho
    rw [h _ _ ho]; exact hc
  · cases hc
def Steady {α : Type} (P : Program) (e : Sem α) : Prop := ∀ (w : World) (v : α) (w2 : World), e.run P w = .ok v w2 → w2 = w ∧ ∀ w', Ext w w' → e.run P w' = .ok v w'
section
variable {P : Program} {α β : Type}
theorem steady_pure (a : α) : Steady P (pure a : Sem α) := fun w v w2 h => by
  simp only [Sem.run_pure] at h
  cases h
  exact ⟨rfl, fun w' _ => by simp⟩
theorem steady_bind {e : Sem α} {f : α → Sem β} (he : Steady P e) (hf : ∀ a, Steady P (f a)) : Steady P (e >>= f) := fun w v w2 h => by
  rw [Sem.run_bind] at h
  cases hr : e.run P w with
  | halt x wx => rw [hr] at h; cases h
  | ok a wa =>
    rw [hr] at h
    obtain ⟨rfl, h1⟩ := he _ _ _ hr
    obtain ⟨rfl, h2⟩ := hf a _ _ _ h
    exact ⟨rfl, fun w' hw => by rw [Sem.run_bind, h1 w' hw]; exact h2 w' hw⟩
theorem steady_never {e : Sem α} (h : ∀ w v w2, e.run P w ≠ .ok v w2) : Steady P e := fun w v w2 hr => absurd hr (h w v w2)
theorem steady_halt (x : Halt) : Steady P (.halt x : Sem α) := steady_never fun w v w2 h => by cases h
theorem steady_stuck (s : String) : Steady P (stuck s : Sem α) := steady_halt _
theorem steady_unsupported (s : Unsupported) : Steady P (unsupported s : Sem α) := steady_halt _
theorem steady_program : Steady P program := fun w v w2 h => by
  simp only [program, Sem.run] at h
  cases h
  exact ⟨rfl, fun w' _ => rfl⟩
theorem steady_ite {c : Prop} [Decidable c] {x y : Sem α} (hx : Steady P x) (hy : Steady P y) : Steady P (if c then x else y) := by split <;> assumption
theorem seen_mono {w w' : World} (h : Ext w w') {p : Program} {a : Addr} {u : TypeId} {k : Addr} {b : Bool} {r} (hs : w.seen p a u k b = .ok r) : w'.seen p a u k b = .ok r := by
  cases hb : w.heap[a.block]? with
  | none =>
    exfalso
    unfold World.seen at hs
    simp only [hb] at hs
    revert hs
    simp only [bind, Except.bind]
    repeat' split
    all_goals (try (intro hs; cases hs))
    all_goals simp_all
  | some o =>
    have hb' := h _ _ hb
    unfold World.seen at hs ⊢
    rw [hb] at hs
    rw [hb']
    exact hs
theorem farLoad_mono {w w' : World} (h : Ext w w') {p : Program} {a : Addr} {b : Bool} {r} (hs : w.farLoad p a b = .ok r) : w'.farLoad p a b = .ok r := by
  unfold World.farLoad at hs ⊢
  cases hb : w.heap[a.block]? with
  | none => rw [hb] at hs; cases hs
  | some o =>
    rw [h _ _ hb]
    rw [hb] at hs
    cases o with
    | view at_ u =>
      simp only at hs ⊢
      split at hs
      · rename_i r' hv
        cases hs
        have : w'.viewLoad p at_ u a b = .ok r := by
          unfold World.viewLoad at hv ⊢
          cases hse : w.seen p at_ u a b with
          | error x => rw [hse] at hv; cases hv
          | ok y =>
            rw [hse] at hv
            rw [seen_mono h hse]
            exact hv
        rw [this]
      · cases hs
    | _ => cases hs
theorem steady_load (a : Addr) (m : Mode) : Steady P (load a m) := fun w v w2 h => by
  unfold load at h ⊢
  simp only [Sem.run] at h
  cases hc : w.cell? a with
  | some u =>
    rw [hc] at h
    simp only at h
    cases h
    refine ⟨rfl, fun w' hw => ?_⟩
    simp only [Sem.run, hw.cell hc]
  | none =>
    rw [hc] at h
    simp only at h
    cases hf : w.farLoad P a (m == .atomic) with
    | error x => rw [hf] at h; cases h
    | ok r =>
      rw [hf] at h
      simp only at h
      cases h
      refine ⟨rfl, fun w' hw => ?_⟩
      simp only [Sem.run]
      have hb : ∃ at_ u, w.heap[a.block]? = some (.view at_ u) := by
        unfold World.farLoad at hf
        split at hf
        · exact ⟨_, _, by assumption⟩
        · cases hf
      obtain ⟨at_, u, hb⟩ := hb
      have hc' : w'.cell? a = none := by unfold World.cell?; rw [hw _ _ hb]
      rw [hc', farLoad_mono hw hf]
theorem steady_getObj (r : Nat) : Steady P (getObj r) := fun w v w2 h => by
  unfold getObj at h ⊢
  simp only [Sem.run] at h
  cases hb : w.heap[r]? with
  | none => rw [hb] at h; cases h
  | some o =>
    rw [hb] at h
    have hh := fun w' (hw : Ext w w') => hw _ _ hb
    cases o <;> simp only at h <;> cases h <;> exact ⟨rfl, fun w' hw => by simp only [Sem.run, hh w' hw]⟩
theorem steady_typeInfo (t : TypeId) : Steady P (typeInfo t) := by
  unfold typeInfo
  refine steady_bind steady_program fun p => ?_
  split
  · exact steady_pure _
  · exact steady_stuck _
theorem steady_underlying (t : TypeId) : Steady P (underlying t) := by
  unfold underlying
  refine steady_bind steady_program fun p => ?_
  split
  · exact steady_pure _
  · exact steady_stuck _
theorem steady_sizeOf (t : TypeId) : Steady P (sizeOf t) := steady_bind (steady_typeInfo t) fun _ => steady_pure _
theorem steady_isAgg (t : TypeId) : Steady P (isAgg t) := by
  unfold isAgg
  refine steady_bind (steady_underlying t) fun d => ?_
  split <;> exact steady_pure _
theorem steady_asBool (v : Value) : Steady P (asBool v) := by unfold asBool; split <;> first | exact steady_pure _ | exact steady_stuck _
theorem steady_asAgg (v : Value) : Steady P (asAgg v) := by unfold asAgg; split <;> first | exact steady_pure _ | exact steady_stuck _
theorem steady_asIntOf (v : Value) : Steady P (asIntOf v) := by unfold asIntOf; split <;> first | exact steady_pure _ | exact steady_stuck _ | exact steady_unsupported _
theorem steady_sureAddr (v : Value) : Steady P (Instr.sureAddr v) := by unfold Instr.sureAddr; split <;> first | exact steady_pure _ | exact steady_stuck _
theorem steady_loadCellsFrom (a : Addr) : ∀ (n i : Nat) (acc : Array Value), Steady P (loadCellsFrom a i n acc)
  | 0, _, _ => steady_pure _
  | n + 1, i, acc => steady_bind (steady_load _ _) fun v => steady_loadCellsFrom a n (i + 1) (acc.push v)
theorem steady_loadVar (t : TypeId) (a : Addr) : Steady P (loadVar t a) := by
  unfold loadVar
  refine steady_bind (steady_isAgg t) fun b => ?_
  split
  · exact steady_bind (steady_sizeOf t) fun n => steady_bind (steady_loadCellsFrom a n 0 #[]) fun _ => steady_pure _
  · exact steady_load _ _
theorem steady_part (t : TypeId) (cs : Array Value) (off : Nat) : Steady P (part t cs off) := by
  unfold part
  refine steady_bind (steady_isAgg t) fun b => ?_
  split
  · exact steady_bind (steady_sizeOf t) fun n => steady_pure _
  · split
    · exact steady_pure _
    · exact steady_stuck _
def Never (P : Program) {α : Type} (e : Sem α) : Prop := ∀ (w : World) (v : α) (w2 : World), e.run P w ≠ .ok v w2
theorem never_bind {e : Sem α} {f : α → Sem β} (hf : ∀ a, Never P (f a)) : Never P (e >>= f) := fun w v w2 h => by
  rw [Sem.run_bind] at h
  cases hr : e.run P w with
  | halt x wx => rw [hr] at h; cases h
  | ok a wa => rw [hr] at h; exact hf a _ _ _ h
theorem never_halt (x : Halt) : Never P (.halt x : Sem α) := fun w v w2 h => by cases h
theorem never_runtimePanic (e : RuntimeError) : Never P (runtimePanic e : Sem α) := by
  unfold runtimePanic
  refine never_bind fun p => ?_
  cases e <;> first | exact never_halt _ | exact never_bind fun _ => never_halt _ | exact never_bind fun _ => never_bind fun _ => never_halt _
theorem never_boundsPanic (k : IntKind) (x y : Int) (c : BoundsCode) : Never P (boundsPanic k x y c : Sem α) := by
  unfold boundsPanic
  dsimp only
  split <;> exact never_bind fun _ => never_runtimePanic _
theorem steady_boundsPanic (k : IntKind) (x y : Int) (c : BoundsCode) : Steady P (boundsPanic k x y c : Sem α) := steady_never (never_boundsPanic k x y c)
theorem steady_runtimePanic (e : RuntimeError) : Steady P (runtimePanic e : Sem α) := steady_never (never_runtimePanic e)
theorem steady_of_block {e : Sem α} (r : Nat) (hn : ∀ w v w2, w.heap[r]? = none → e.run P w ≠ .ok v w2)
    (hs : ∀ (w : World) v w2, e.run P w = .ok v w2 → w2 = w ∧ ∀ w' : World, w'.heap[r]? = w.heap[r]? → e.run P w' = .ok v w') : Steady P e := fun w v w2 h => by
  cases hb : w.heap[r]? with
  | none => exact absurd h (hn w v w2 hb)
  | some o => exact ⟨(hs w v w2 h).1, fun w' hw => (hs w v w2 h).2 w' (by rw [hw _ _ hb, hb])⟩
theorem steady_viewAt (r : Nat) : Steady P (viewAt r) := by
  refine steady_of_block r (fun w v w2 hb h => ?_) (fun w v w2 h => ?_)
  · unfold viewAt shape getObj at h
    simp [Sem.run, World.shape?, hb] at h
  · unfold viewAt shape getObj at h ⊢
    cases hb : w.heap[r]? with
    | none => simp [Sem.run, World.shape?, hb] at h
    | some o =>
      cases o <;> simp [Sem.run, World.shape?, hb] at h <;> (obtain ⟨rfl, rfl⟩ := h; refine ⟨rfl, fun w' hw => ?_⟩; simp [Sem.run, World.shape?, hw])
theorem steady_noView (a : Addr) : Steady P (noView a) := by
  unfold noView
  refine steady_bind (steady_viewAt _) fun v => ?_
  split
  · exact steady_unsupported _
  · exact steady_pure _
theorem steady_shape_or (r : Nat) {f : Option (TypeId × Nat) → Sem α} (he : ∀ x, Steady P (f (some x))) (hn : Never P (f none)) : Steady P (shape r >>= f) := fun w v w2 h => by
  unfold shape at h ⊢
  rw [Sem.run_bind] at h
  simp only [Sem.run, Result.andThen_ok] at h
  cases hs : w.shape? r with
  | none => rw [hs] at h; exact absurd h (hn _ _ _)
  | some x =>
    rw [hs] at h
    obtain ⟨rfl, h2⟩ := he x _ _ _ h
    refine ⟨rfl, fun w' hw => ?_⟩
    have hs' : w'.shape? r = some x := by
      unfold World.shape? at hs ⊢
      split at hs
      · rename_i c e f hb
        rw [hw _ _ hb]; exact hs
      · cases hs
    rw [Sem.run_bind]
    simp only [Sem.run, Result.andThen_ok, hs']
    exact h2 w' hw
theorem steady_byteOf (a : Addr) : Steady P (byteOf a) := by
  unfold byteOf
  split
  · exact steady_pure _
  · refine steady_bind steady_program fun p => steady_bind (steady_noView a) fun _ => ?_
    refine steady_shape_or a.block (fun x => ?_) (never_halt _)
    dsimp only
    split
    · exact steady_pure _
    · split
      · exact steady_pure _
      · exact steady_stuck _
theorem steady_fieldPlace (a : Addr) (f : Field) : Steady P (fieldPlace a f) := by
  unfold fieldPlace partAt
  refine steady_bind (steady_sizeOf _) fun n => steady_ite ?_ (steady_pure _)
  exact steady_bind (steady_byteOf _) fun b => steady_bind (steady_byteOf _) fun c => steady_pure _
theorem steady_fieldAt (s : TypeId) (x : Value) (f : Nat) : Steady P (Instr.fieldAt s x f) := by
  unfold Instr.fieldAt
  refine steady_bind (steady_underlying s) fun d => ?_
  split
  · split
    · exact steady_bind (steady_sureAddr _) fun a => steady_bind (steady_fieldPlace _ _) fun _ => steady_pure _
    · exact steady_stuck _
  · exact steady_stuck _
theorem steady_indexAt (t : TypeId) (x i : Value) : Steady P (Instr.indexAt t x i) := by
  unfold Instr.indexAt
  refine steady_bind (steady_asIntOf i) fun ki => ?_
  split
  dsimp only
  refine steady_bind (steady_underlying t) fun d => ?_
  have fin : ∀ (k : IntKind) (i : Int) (z : Option Addr × Nat × TypeId), Steady P (do
      let d ← underlying t
      match z.1 with
      | some a =>
        if 0 ≤ i ∧ i < z.2.1 then pure (Value.pointer (some (a.add (i.toNat * (← sizeOf z.2.2)))))
        else if (decide (z.2.1 ≤ 1) && (match d with | .array _ _ => true | _ => false)) = true then unsupported (.noEntry "op/indexAddr.an index out of range at an array of length 0 or 1 (ledger 616)")
        else boundsPanic k i z.2.1 .index
      | none => boundsPanic k i 0 .index) := by
    intro k i z
    refine steady_bind (steady_underlying t) fun d => ?_
    split
    · exact steady_ite (steady_bind (steady_sizeOf _) fun _ => steady_pure _) (steady_ite (steady_unsupported _) (steady_boundsPanic _ _ _ _))
    · exact steady_boundsPanic _ _ _ _
  split
  · exact steady_bind (steady_sureAddr _) fun a => steady_bind (steady_pure _) fun z => fin _ _ z
  · exact steady_bind (steady_pure _) fun z => fin _ _ z
  · exact steady_bind (steady_stuck _) fun z => fin _ _ z
theorem steady_field (t : TypeId) (x : Value) (f : Nat) : Steady P (Instr.field t x f) := by
  unfold Instr.field
  refine steady_bind (steady_underlying t) fun d => ?_
  split
  · split
    · exact steady_bind (steady_asAgg _) fun a => steady_part _ _ _
    · exact steady_stuck _
  · exact steady_stuck _
theorem steady_index (t : TypeId) (x i : Value) : Steady P (Instr.index t x i) := by
  unfold Instr.index
  refine steady_bind (steady_asIntOf i) fun ki => ?_
  split
  refine steady_bind (steady_underlying t) fun d => ?_
  split
  · exact steady_ite (steady_bind (steady_sizeOf _) fun _ => steady_part _ _ _) (steady_boundsPanic _ _ _ _)
  · split
    · exact steady_pure _
    · exact steady_boundsPanic _ _ _ _
  · exact steady_stuck _
theorem steady_extract (v : Value) (i : Nat) : Steady P (Instr.extract v i) := by
  unfold Instr.extract
  split
  · split
    · exact steady_pure _
    · exact steady_stuck _
  · exact steady_stuck _
theorem steady_unary (op : UnOp) (x : Value) : Steady P (Op.unary op x) := by
  unfold Op.unary Op.intArith Op.intBits
  dsimp only
  split <;> first | exact steady_pure _ | exact steady_stuck _ | exact steady_unsupported _
theorem steady_v {e : Sem Value} (h : Steady P e) : Steady P (do pure (Next.value (← e))) := steady_bind h fun _ => steady_pure _
theorem steady_binInt (op : BinOp) (t : TypeId) (k k' : IntKind) (a b : Int) : Steady P (binOp op t (.int k a) (.int k' b)) := by
  cases op
  all_goals
    simp only [binOp, Op.intArith, Op.intDiv, Op.intBits, Op.intCmp, Op.shift]
    (repeat' split) <;> first | exact steady_pure _ | exact steady_stuck _ | exact steady_runtimePanic _
theorem steady_binBool (op : BinOp) (t : TypeId) (a b : Bool) : Steady P (binOp op t (.bool a) (.bool b)) := by
  have he : Steady P (Op.equal t (.bool a) (.bool b)) := by
    unfold Op.equal Op.maxDepth
    unfold Op.equalIn
    refine steady_bind (steady_underlying t) fun d => ?_
    split <;> first | exact steady_pure _ | exact steady_stuck _ | exact steady_unsupported _ | (rename_i h _ ; cases h; done) | (rename_i h; cases h; done) | (exfalso; simp_all; done)
  cases op <;> first | exact steady_bind he fun _ => steady_pure _ | exact steady_stuck _
theorem steady_binString (op : BinOp) (t : TypeId) (a b : ByteArray) : Steady P (binOp op t (.string a) (.string b)) := by
  cases op <;> simp only [binOp, Op.stringOp] <;> (repeat' split) <;> first | exact steady_pure _ | exact steady_stuck _ | exact steady_unsupported _
theorem steady_eqGuard_int (op : BinOp) (t : TypeId) (x y : Operand) (k k' : IntKind) (a b : Int) : Steady P (eqGuard op t x y (.int k a) (.int k' b)) := by
  unfold eqGuard; dsimp only; split <;> exact steady_pure _
theorem steady_eqGuard_bool (op : BinOp) (t : TypeId) (x y : Operand) (a b : Bool) : Steady P (eqGuard op t x y (.bool a) (.bool b)) := by
  unfold eqGuard; dsimp only; split <;> exact steady_pure _
theorem steady_eqGuard_string (op : BinOp) (t : TypeId) (x y : Operand) (a b : ByteArray) : Steady P (eqGuard op t x y (.string a) (.string b)) := by
  unfold eqGuard; dsimp only; split <;> exact steady_pure _
def looks (ρ : Operand → Value) (o : Oper) : Bool :=
  match o.op with
  | .move _ | .assign _ | .pick _ _ _ | .load _ _ | .unOp _ _ _ | .fieldAddr _ _ _ | .field _ _ _ | .indexAddr _ _ _ | .index _ _ _ | .extract _ _ => true
  | .binOp _ _ x y _ => match ρ x, ρ y with
    | .int _ _, .int _ _ => true
    | .bool _, .bool _ => true
    | .string _, .string _ => true
    | _, _ => false
  | .call { callee := .builtin .len, .. } => true
  | .call { callee := .builtin .min, args, .. } => args.toList.all fun x => match ρ x with | .int _ _ => true | _ => false
  | .call { callee := .builtin .max, args, .. } => args.toList.all fun x => match ρ x with | .int _ _ => true | _ => false
  | .nilCheck x => match ρ x with | .pointer _ => true | _ => false
  | .build _ _ => true
  | .makeFunc _ _ _ => true
  | .slice _ _ _ _ _ => true
  | .lookup _ _ k _ => match ρ k with | .int _ _ => true | _ => false
  | _ => false
def lookKind (o : Oper) : Bool :=
  match o.op with
  | .move _ | .assign _ | .pick _ _ _ | .load _ _ | .unOp _ _ _ | .fieldAddr _ _ _ | .field _ _ _ | .indexAddr _ _ _ | .index _ _ _ | .extract _ _ => true
  | .binOp _ _ _ _ _ => true
  | .call { callee := .builtin .len, .. } => true
  | .call { callee := .builtin .min, .. } => true
  | .call { callee := .builtin .max, .. } => true
  | .nilCheck _ => true
  | .build _ _ => true
  | .makeFunc _ _ _ => true
  | .slice _ _ _ _ _ => true
  | .lookup _ _ _ _ => true
  | _ => false
def Valued (P : Program) (e : Sem Next) : Prop := ∀ (w : World) (n : Next) (w1 : World), e.run P w = .ok n w1 → ∃ v, n = .value v
theorem valued_pure (v : Value) : Valued P (pure (Next.value v)) := fun w n w1 h => by
  simp only [Sem.run_pure] at h
  cases h
  exact ⟨v, rfl⟩
theorem valued_bind {e : Sem α} {f : α → Sem Next} (hf : ∀ a, Valued P (f a)) : Valued P (e >>= f) := fun w n w1 h => by
  rw [Sem.run_bind] at h
  cases hr : e.run P w with
  | halt x wx => rw [hr] at h; cases h
  | ok a wa => rw [hr] at h; exact hf a _ _ _ h
theorem valued_never {e : Sem Next} (h : Never P e) : Valued P e := fun w n w1 hr => absurd hr (h w n w1)
theorem valued_v (e : Sem Value) : Valued P (do pure (Next.value (← e))) := valued_bind fun _ => valued_pure _
theorem lookKind_spec {o : Oper} (h : lookKind o = true) (ρ : Operand → Value) : Valued P (execOp ρ o) := by
  unfold lookKind at h
  split at h
  case h_1 x ho => unfold execOp; rw [ho]; exact valued_pure _
  case h_2 x ho => unfold execOp; rw [ho]; exact valued_pure _
  case h_3 ho => unfold execOp; rw [ho]; exact valued_bind fun _ => valued_pure _
  case h_12 args ts ho => unfold execOp; rw [ho]; exact valued_v _
  case h_13 args ts ho => unfold execOp; rw [ho]; exact valued_v _
  case h_14 args ts ho => unfold execOp; rw [ho]; exact valued_v _
  case h_15 x ho =>
    unfold execOp; rw [ho]
    dsimp only
    split
    · exact valued_never (never_runtimePanic _)
    · exact valued_never (never_runtimePanic _)
    · exact valued_never (never_runtimePanic _)
    · split
      · exact valued_never (never_runtimePanic _)
      · refine valued_bind fun p => valued_bind fun b => ?_
        split
        · exact valued_bind fun _ => valued_pure _
        · exact valued_pure _
      · exact valued_pure _
    · exact valued_pure _
  case h_20 => cases h
  all_goals (rename_i ho; unfold execOp; rw [ho]; exact valued_v _)
theorem steady_len (ts : Array TypeId) (ty : TypeId) (args : Array Value) : Steady P (Builtin.len_ ts ty args) := by
  unfold Builtin.len_
  split
  · refine steady_bind (steady_underlying _) fun d => ?_
    split
    · exact steady_pure _
    · exact steady_pure _
    · refine steady_bind (steady_underlying _) fun d => ?_
      split
      · exact steady_pure _
      · exact steady_stuck _
    · exact steady_pure _
    · exact steady_pure _
    · exact steady_pure _
    · refine steady_bind (steady_getObj _) fun o => ?_
      split
      · exact steady_pure _
      · exact steady_stuck _
    · refine steady_bind (steady_getObj _) fun o => ?_
      split
      · exact steady_pure _
      · exact steady_stuck _
    · exact steady_stuck _
  · exact steady_stuck _
theorem ints_of {ρ : Operand → Value} {args : Array Operand} (h : (args.toList.all fun x => match ρ x with | .int _ _ => true | _ => false) = true) :
    ∀ v ∈ (args.map ρ).toList, ∃ k n, v = .int k n := fun v hv => by
  rw [Array.toList_map] at hv
  obtain ⟨x, hx, rfl⟩ := List.mem_map.1 hv
  have := List.all_eq_true.1 h x hx
  split at this
  · rename_i k n e; exact ⟨k, n, e⟩
  · cases this
theorem steady_foldInts (f : Value → Value → Sem Value) (hf : ∀ k x k' y, ∃ z, f (.int k x) (.int k' y) = pure (.int k z)) : ∀ (l : List Value) (k : IntKind) (x : Int), (∀ v ∈ l, ∃ k n, v = .int k n) → Steady P (l.foldlM f (.int k x))
  | [], k, x, _ => steady_pure _
  | v :: l, k, x, h => by
    obtain ⟨k', y, rfl⟩ := h v (by simp)
    obtain ⟨z, hz⟩ := hf k x k' y
    rw [List.foldlM_cons, hz, pure_bind]
    exact steady_foldInts f hf l k z fun u hu => h u (by simp [hu])
theorem steady_min (ts : Array TypeId) (ty : TypeId) (args : Array Value) (h : ∀ v ∈ args.toList, ∃ k n, v = .int k n) : Steady P (Builtin.min_ ts ty args) := by
  unfold Builtin.min_
  split
  · exact steady_stuck _
  · rename_i x rest hl
    rw [hl] at h
    obtain ⟨k, n, rfl⟩ := h x (by simp)
    exact steady_foldInts _ (fun k x k' y => ⟨_, rfl⟩) rest k n fun u hu => h u (by simp [hu])
theorem steady_max (ts : Array TypeId) (ty : TypeId) (args : Array Value) (h : ∀ v ∈ args.toList, ∃ k n, v = .int k n) : Steady P (Builtin.max_ ts ty args) := by
  unfold Builtin.max_
  split
  · exact steady_stuck _
  · rename_i x rest hl
    rw [hl] at h
    obtain ⟨k, n, rfl⟩ := h x (by simp)
    exact steady_foldInts _ (fun k x k' y => ⟨_, rfl⟩) rest k n fun u hu => h u (by simp [hu])
theorem steady_zeroValue (t : TypeId) : Steady P (zeroValue t) := by
  unfold zeroValue
  refine steady_bind (steady_typeInfo t) fun i => ?_
  split
  · exact steady_pure _
  · exact steady_unsupported _
theorem steady_mapM {γ δ : Type} (f : γ → Sem δ) (hf : ∀ x, Steady P (f x)) (xs : Array γ) : Steady P (xs.mapM f) := by
  rw [Array.mapM_eq_mapM_toList]
  have : ∀ l : List γ, Steady P (l.mapM f) := by
    intro l
    induction l with
    | nil => exact steady_pure _
    | cons x l ih =>
      rw [List.mapM_cons]
      exact steady_bind (hf x) fun _ => steady_bind ih fun _ => steady_pure _
  rw [map_eq_pure_bind]
  exact steady_bind (this _) fun _ => steady_pure _
theorem steady_build (t : TypeId) (ps : Array (Nat × Value)) : Steady P (Instr.build t ps) := by
  unfold Instr.build
  refine steady_bind (steady_zeroValue t) fun z => ?_
  refine steady_bind (steady_underlying t) fun d => ?_
  split
  · refine steady_bind (steady_mapM _ (fun f => steady_bind (steady_sizeOf _) fun _ => steady_pure _) _) fun pl => ?_
    split
    · exact steady_pure _
    · exact steady_stuck _
  · refine steady_bind (steady_sizeOf _) fun pl => ?_
    split
    · exact steady_pure _
    · exact steady_stuck _
  · exact steady_stuck _
theorem steady_sliceBound (x : Value) (y : Nat) (c : BoundsCode) : Steady P (Instr.sliceBound x y c) := by
  unfold Instr.sliceBound
  refine steady_bind (steady_asIntOf x) fun ki => ?_
  split
  exact steady_ite (steady_pure _) (steady_boundsPanic _ _ _ _)
theorem steady_sliceBounds (b : Bool) (len cap : Nat) (lo hi mx : Option Value) : Steady P (Instr.sliceBounds b len cap lo hi mx) := by
  unfold Instr.sliceBounds
  cases mx with
  | none =>
    refine steady_bind (steady_pure _) fun m => ?_
    cases hi with
    | none =>
      refine steady_bind (steady_pure _) fun h => ?_
      cases lo with
      | none => exact steady_pure _
      | some l => exact steady_bind (steady_sliceBound _ _ _) fun _ => steady_pure _
    | some v =>
      refine steady_bind (steady_sliceBound _ _ _) fun h => ?_
      cases lo with
      | none => exact steady_pure _
      | some l => exact steady_bind (steady_sliceBound _ _ _) fun _ => steady_pure _
  | some u =>
    refine steady_bind (steady_sliceBound _ _ _) fun m => ?_
    cases hi with
    | none => exact steady_bind (steady_stuck _) fun h => (by cases lo with
      | none => exact steady_pure _
      | some l => exact steady_bind (steady_sliceBound _ _ _) fun _ => steady_pure _)
    | some v =>
      refine steady_bind (steady_sliceBound _ _ _) fun h => ?_
      cases lo with
      | none => exact steady_pure _
      | some l => exact steady_bind (steady_sliceBound _ _ _) fun _ => steady_pure _
theorem steady_asAddr (v : Value) : Steady P (asAddr v) := by unfold asAddr; split <;> first | exact steady_pure _ | exact steady_stuck _ | exact steady_runtimePanic _
theorem steady_slice (t : TypeId) (x : Value) (lo hi mx : Option Value) : Steady P (Instr.slice t x lo hi mx) := by
  unfold Instr.slice
  refine steady_bind (steady_underlying t) fun d => ?_
  split
  · split
    · exact steady_bind (steady_stuck _) fun _ => steady_bind (steady_sliceBounds _ _ _ _ _ _) fun _ => steady_pure _
    · exact steady_bind (steady_sliceBounds _ _ _ _ _ _) fun _ => steady_pure _
  · exact steady_bind (steady_sliceBounds _ _ _ _ _ _) fun _ => steady_bind (steady_sizeOf _) fun _ => steady_pure _
  · refine steady_bind (steady_asAddr _) fun a => steady_bind (steady_underlying _) fun d => ?_
    split
    · exact steady_bind (steady_sliceBounds _ _ _ _ _ _) fun _ => steady_bind (steady_sizeOf _) fun _ => steady_pure _
    · exact steady_stuck _
  · exact steady_stuck _
theorem steady_sliceAt (t : TypeId) (x : Value) (lo hi mx : Option Value) : Steady P (Instr.sliceAt t x lo hi mx) := by
  unfold Instr.sliceAt
  refine steady_bind (steady_underlying t) fun d => ?_
  split
  · exact steady_bind (steady_sureAddr _) fun a => steady_bind (steady_sliceBounds _ _ _ _ _ _) fun _ => steady_bind (steady_sizeOf _) fun _ => steady_pure _
  · exact steady_slice _ _ _ _ _
theorem steady_equal_int (t : TypeId) (k : IntKind) (n : Int) (y : Value) : Steady P (Op.equal t (.int k n) y) := by
  unfold Op.equal Op.maxDepth
  unfold Op.equalIn
  refine steady_bind (steady_underlying t) fun d => ?_
  split <;> first | exact steady_pure _ | exact steady_stuck _ | exact steady_unsupported _ | (split <;> first | exact steady_pure _ | exact steady_stuck _) | (rename_i h _ ; cases h; done) | (rename_i h; cases h; done) | (exfalso; simp_all; done)
theorem steady_findAsking_int (t : TypeId) (k : IntKind) (n : Int) : ∀ (es : List MapEntry) (i : Nat), Steady P (Instr.findAsking t (.int k n) es i)
  | [], i => by unfold Instr.findAsking; exact steady_pure _
  | e :: es, i => by
    unfold Instr.findAsking
    refine steady_bind (steady_equal_int t k n e.key) fun b => ?_
    split
    · exact steady_pure _
    · exact steady_findAsking_int t k n es (i + 1)
theorem steady_findKey_int (t : TypeId) (k : IntKind) (n : Int) (es : List MapEntry) : Steady P (Instr.findKey t (.int k n) es) := by
  unfold Instr.findKey
  refine steady_bind (steady_underlying t) fun d => ?_
  split
  · exact steady_pure _
  · exact steady_findAsking_int t k n es 0
theorem steady_checkKey_int (em : Bool) (m : Nat) (t : TypeId) (k : IntKind) (n : Int) : Steady P (Instr.checkKey em (m + 1) t (.int k n)) := by
  unfold Instr.checkKey
  refine steady_bind (steady_underlying t) fun d => ?_
  split <;> first | exact steady_pure _ | exact steady_stuck _ | (rename_i h _ ; cases h; done) | (rename_i h; cases h; done) | (exfalso; simp_all; done)
theorem steady_lookup_int (t : TypeId) (m : Value) (k : IntKind) (n : Int) (ok : Bool) : Steady P (Instr.lookup t m (.int k n) ok) := by
  unfold Instr.lookup
  cases ok <;> dsimp only <;>
  (repeat' first | exact steady_pure _ | exact steady_stuck _ | exact steady_zeroValue _ | exact steady_checkKey_int _ 9999 _ _ _ | exact steady_findKey_int _ _ _ _ | exact steady_getObj _ | exact steady_underlying _ | refine steady_bind ?_ fun _ => ?_ | split)
theorem looks_spec {ρ : Operand → Value} {o : Oper} (h : looks ρ o = true) : Steady P (execOp ρ o) := by
  unfold looks at h
  split at h
  case h_1 x ho => unfold execOp; rw [ho]; exact steady_pure _
  case h_2 x ho => unfold execOp; rw [ho]; exact steady_pure _
  case h_3 ho =>
    unfold execOp; rw [ho]
    exact steady_bind (steady_asBool _) fun b => steady_pure _
  case h_4 ho => unfold execOp; rw [ho]; exact steady_v (steady_bind (steady_sureAddr _) fun a => steady_loadVar _ _)
  case h_5 ho => unfold execOp; rw [ho]; exact steady_v (steady_unary _ _)
  case h_6 ho => unfold execOp; rw [ho]; exact steady_v (steady_fieldAt _ _ _)
  case h_7 ho => unfold execOp; rw [ho]; exact steady_v (steady_field _ _ _)
  case h_8 ho => unfold execOp; rw [ho]; exact steady_v (steady_indexAt _ _ _)
  case h_9 ho => unfold execOp; rw [ho]; exact steady_v (steady_index _ _ _)
  case h_10 ho => unfold execOp; rw [ho]; exact steady_v (steady_extract _ _)
  case h_11 op t x y _ ho =>
    unfold execOp; rw [ho]
    split at h
    · rename_i k a k' b hx hy
      simp only [hx, hy]
      refine steady_v (steady_bind (steady_eqGuard_int _ _ _ _ _ _ _ _) fun _ => steady_binInt _ _ _ _ _ _)
    · rename_i a b hx hy
      simp only [hx, hy]
      exact steady_v (steady_bind (steady_eqGuard_bool _ _ _ _ _ _) fun _ => steady_binBool _ _ _ _)
    · rename_i a b hx hy
      simp only [hx, hy]
      exact steady_v (steady_bind (steady_eqGuard_string _ _ _ _ _ _) fun _ => steady_binString _ _ _ _)
    · cases h
  case h_12 args ts ho =>
    unfold execOp; rw [ho]
    exact steady_v (steady_len _ _ _)
  case h_13 args ts ho =>
    unfold execOp; rw [ho]
    exact steady_v (steady_min _ _ _ (ints_of h))
  case h_14 args ts ho =>
    unfold execOp; rw [ho]
    exact steady_v (steady_max _ _ _ (ints_of h))
  case h_15 x ho =>
    unfold execOp; rw [ho]
    split at h
    · rename_i v hx
      simp only [hx]
      cases v
      · exact steady_runtimePanic _
      · exact steady_pure _
    · cases h
  case h_16 ho => unfold execOp; rw [ho]; exact steady_v (steady_build _ _)
  case h_17 ho => unfold execOp; rw [ho]; exact steady_v (steady_pure _)
  case h_18 ho => unfold execOp; rw [ho]; exact steady_v (steady_sliceAt _ _ _ _ _)
  case h_19 ho =>
    unfold execOp; rw [ho]
    split at h
    · rename_i hk
      simp only [hk]
      exact steady_v (steady_lookup_int _ _ _ _ _)
    · cases h
  case h_20 => cases h

/-! ### The region -/
variable {ops : Array Oper} {md : Region.Mode} {Q : Exit → Act → World → Prop}

/-! ### Operations in whatever round -/
def fen (r : Option Nat) : Fence := { Fence.wide with round := r }
def opY (P : Program) (o : Oper) (a : Act) (w : World) (next : Act → World → Prop) (Q : Exit → Act → World → Prop) : Prop :=
  (∀ c, o.op ≠ .defer c) ∧ o.uponIn Fence.wide 0 P a next Q ((execOp a.eval o).run P w)
def wpOp (P : Program) (ops : Array Oper) (Q : Exit → Act → World → Prop) (i : Nat) (K : Act → World → Prop) (a : Act) (w : World) : Prop :=
  match ops[i]? with
  | none => K a w
  | some o => if Region.wanted o (yielded ops a.tmps) then opY P o a w K Q else K (a.put o.dst undef) w
def wpList (P : Program) (ops : Array Oper) (Q : Exit → Act → World → Prop) : List Oper → Act → World → Prop
  | [], a, w => Q .normal a w
  | o :: rest, a, w => if Region.wanted o (yielded ops a.tmps) then opY P o a w (wpList P ops Q rest) Q else wpList P ops Q rest (a.put o.dst undef) w
def wpAny (P : Program) (md : Region.Mode) (ops : Array Oper) (Q : Exit → Act → World → Prop) : Nat → Array Bool → Act → World → Prop
  | 0, listed, a, w => Region.ready md ops listed = [] ∧ Q .normal a w
  | fuel + 1, listed, a, w =>
    (Region.ready md ops listed = [] → Q .normal a w) ∧
    ∀ i ∈ Region.ready md ops listed, wpOp P ops Q i (wpAny P md ops Q fuel (listed.setIfInBounds i true)) a w
section
variable {P : Program} {ops : Array Oper} {Q : Exit → Act → World → Prop} {md : Region.Mode}
theorem wpList_nil {a : Act} {w : World} (h : Q .normal a w) : wpList P ops Q [] a w := h
theorem uponIn_mono {o : Oper} {a : Act} {K K' : Act → World → Prop} (h : ∀ a w, K a w → K' a w) {r : Result Next} (hh : o.uponIn Fence.wide 0 P a K Q r) : o.uponIn Fence.wide 0 P a K' Q r := by
  cases r with
  | ok x w' =>
    cases x <;> simp only [Oper.uponIn] at hh ⊢ <;>
      first
        | exact h _ _ hh
        | exact ⟨hh.1, CallsIn.mono hh.2 (fun e w'' he => by cases e <;> first | exact h _ _ he | exact he)⟩
        | exact ⟨hh.1, RowsIn.mono hh.2 (fun _ _ he => h _ _ he)⟩
        | exact ⟨hh.1, RoundIn.mono hh.2 (fun e w'' he => by cases e <;> first | exact h _ _ he | exact he)⟩
  | halt x w' => cases x <;> simp only [Oper.uponIn] at hh ⊢ <;> exact hh
theorem not_defer {o : Oper} {ρ : Operand → Value} {v : Value} {w w' : World} (h : (execOp ρ o).run P w = .ok (.value v) w') : ∀ c, o.op ≠ .defer c := by
  intro c hc
  unfold execOp at h
  rw [hc] at h
  simp only [Sem.run_bind] at h
  cases hr : (resolve ρ c o.type).run P w with
  | ok d w1 => rw [hr] at h; simp [Result.andThen_ok, Sem.run_pure] at h
  | halt x w1 => rw [hr] at h; cases h
theorem opY_mono {o : Oper} {a : Act} {w : World} {K K' : Act → World → Prop} (h : ∀ a w, K a w → K' a w) (hh : opY P o a w K Q) : opY P o a w K' Q := ⟨hh.1, uponIn_mono h hh.2⟩
theorem wpOp_mono {i : Nat} {a : Act} {w : World} {K K' : Act → World → Prop} (h : ∀ a w, K a w → K' a w) (hh : wpOp P ops Q i K a w) : wpOp P ops Q i K' a w := by
  unfold wpOp at *
  split
  · exact h _ _ (by simpa [*] using hh)
  · rename_i o ho
    simp only [ho] at hh
    split
    · rename_i hw; simp only [hw, if_true] at hh; exact opY_mono h hh
    · rename_i hw; simp only [hw] at hh; exact h _ _ hh
theorem opY_in (r : Option Nat) {o : Oper} {a : Act} {w : World} {K : Act → World → Prop} (h : opY P o a w K Q) : o.wpIn (fen r) 0 P a w K Q := by
  refine ⟨fun _ _ => trivial, ?_⟩
  rw [Oper.semAt_eq _ _ _ h.1]
  have h2 := h.2
  generalize (execOp a.eval o).run P w = x at h2
  cases x with
  | ok n w' => cases n <;> simp only [Oper.uponIn] at h2 ⊢ <;> exact h2
  | halt y w' => cases y <;> simp only [Oper.uponIn] at h2 ⊢ <;> exact h2
theorem wpOp_in (r : Option Nat) {i : Nat} {a : Act} {w : World} {K K' : Act → World → Prop} (hk : ∀ a w, K a w → K' a w) (h : wpOp P ops Q i K a w) : wpOpIn (fen r) 0 P ops Q i K' a w := by
  refine wpOpIn_mono hk ?_
  unfold wpOp at h
  unfold wpOpIn
  cases ho : ops[i]? with
  | none => simp only [ho] at h ⊢; exact h
  | some o =>
    simp only [ho] at h ⊢
    split at h
    · rename_i hw; rw [if_pos hw]; exact opY_in r h
    · rename_i hw; rw [if_neg hw]; exact ⟨fun _ _ => trivial, h⟩
theorem wpAny_in (r : Option Nat) : ∀ (fuel : Nat) (listed : Array Bool) (a : Act) (w : World), wpAny P md ops Q fuel listed a w → wpAnyIn (fen r) 0 P md ops Q fuel listed a w
  | 0, _, _, _, h => h
  | fuel + 1, _, _, _, h => ⟨h.1, fun i hi => wpOp_in r (fun a' w' h' => wpAny_in r fuel _ a' w' h') (h.2 i hi)⟩
theorem wpList_in (r : Option Nat) : ∀ (l : List Oper) (a : Act) (w : World), wpList P ops Q l a w → wpListIn (fen r) 0 P ops Q l a w
  | [], _, _, h => h
  | o :: l, a, w, h => by
    unfold wpList at h
    unfold wpListIn
    split at h
    · rename_i hw; rw [if_pos hw]; exact Oper.wpIn_mono (fun a' w' h' => wpList_in r l a' w' h') (opY_in r h)
    · rename_i hw; rw [if_neg hw]; exact ⟨fun _ _ => trivial, wpList_in r l _ _ h⟩
end
def Rel (pu : Bool) (w w' : World) : Prop := pu = true ∨ Ext w w'
theorem Rel.refl (pu : Bool) (w : World) : Rel pu w w := .inr (Ext.refl w)
theorem Rel.trans {pu : Bool} {a b c : World} (h : Rel pu a b) (k : Rel pu b c) : Rel pu a c := by
  rcases h with h | h
  · exact .inl h
  · rcases k with k | k
    · exact .inl k
    · exact .inr (h.trans k)
def YieldsX (P : Program) (pu : Bool) (ops : Array Oper) (w : World) (o : Oper) (v : Value) (a : Act) : Prop :=
  (Region.wanted o (yielded ops a.tmps) = true ∧ ∀ w', Rel pu w w' → (execOp a.eval o).run P w' = .ok (.value v) w') ∨
  (Region.wanted o (yielded ops a.tmps) = false ∧ v = undef)
theorem YieldsX.wpOp {pu : Bool} {i : Nat} {o : Oper} {v : Value} {a : Act} {w : World} (hi : ops[i]? = some o) (hy : YieldsX P pu ops w o v a)
    {K : Act → World → Prop} (h : K (a.put o.dst v) w) : wpOp P ops Q i K a w := by
  unfold Early.wpOp
  simp only [hi]
  rcases hy with ⟨hw, hv⟩ | ⟨hw, rfl⟩
  · simp only [hw, if_true]
    exact ⟨not_defer (hv w (Rel.refl pu w)), by rw [hv w (Rel.refl pu w)]; exact h⟩
  · simp only [hw, Bool.false_eq_true, if_false]; exact h
theorem YieldsX.of_same {pu : Bool} {w w' : World} {o : Oper} {v : Value} {a a' : Act} (hy : YieldsX P pu ops w o v a) (he : execOp a'.eval o = execOp a.eval o)
    (hw : Region.wanted o (yielded ops a'.tmps) = Region.wanted o (yielded ops a.tmps)) (hx : Rel pu w w') : YieldsX P pu ops w' o v a' := by
  unfold YieldsX at *
  rw [he, hw]
  exact hy.imp (fun h => ⟨h.1, fun u hu => h.2 u (hx.trans hu)⟩) id
theorem wpOp_putX {pu : Bool} {j : Nat} {oi oj : Oper} {v : Value} (hj : ops[j]? = some oj) (hap : oi.apart ops oj = true)
    (hsi : ∀ cs b, oi.op ≠ .select cs b) (hsj : ∀ cs b, oj.op ≠ .select cs b)
    (hQ : ∀ c a w, Q (.panic c) (a.put oi.dst v) w → Q (.panic c) a w) {K : Act → World → Prop} {a : Act} {w : World}
    (hy : YieldsX P pu ops w oi v a) (h : wpOp P ops Q j (fun a' w' => Rel pu w w' ∧ K a' w') (a.put oi.dst v) w) :
    wpOp P ops Q j (fun a' w' => Rel pu w w' ∧ YieldsX P pu ops w' oi v a' ∧ K (a'.put oi.dst v) w') a w := by
  obtain ⟨h1, h2, h3⟩ := Oper.apart_spec hap
  have keep : ∀ (u : Value) {w'}, Rel pu w w' → YieldsX P pu ops w' oi v (a.put oj.dst u) := fun u _ hx =>
    hy.of_same (execOp_put oi hsi a oj.dst u h3) (wanted_put oi a oj.dst u h3) hx
  have keepD : ∀ d {w'}, Rel pu w w' → YieldsX P pu ops w' oi v (({ a with defers := d :: a.defers } : Act).put oj.dst undef) := fun d _ hx =>
    (hy.of_same (a' := { a with defers := d :: a.defers }) (w' := w) rfl rfl (Rel.refl pu w)).of_same (execOp_put oi hsi _ oj.dst undef h3) (wanted_put oi _ oj.dst undef h3) hx
  unfold wpOp at *
  simp only [hj] at *
  rw [wanted_put oj a oi.dst v h1] at h
  split
  · rename_i hw
    simp only [hw, if_true] at h
    obtain ⟨hnd, h⟩ := h
    refine ⟨hnd, ?_⟩
    rw [execOp_put oj hsj a oi.dst v h1] at h
    generalize (execOp a.eval oj).run P w = r at *
    cases r with
    | ok n w' =>
      cases n <;> simp only [Oper.uponIn] at h ⊢
      case value u => exact ⟨h.1, keep u h.1, by rw [← Act.put_comm a v u h2]; exact h.2⟩
      case skip => exact ⟨h.1, keep _ h.1, by rw [← Act.put_comm a v undef h2]; exact h.2⟩
      case defer d =>
        refine ⟨h.1, keepD d h.1, ?_⟩
        rw [← Act.put_comm _ v undef h2, ← Act.put_defers]
        exact h.2
      case enter f args =>
        refine ⟨h.1, CallsIn.mono h.2 fun e w'' he => ?_⟩
        cases e with
        | returned u => exact ⟨he.1, keep u he.1, by rw [← Act.put_comm a v u h2]; exact he.2⟩
        | panicked c => exact hQ _ _ _ he
        | outgrown => exact he
      case row row args => exact ⟨h.1, RowsIn.mono h.2 fun u w'' he => ⟨he.1, keep u he.1, by rw [← Act.put_comm a v u h2]; exact he.2⟩⟩
      case round l f tmps assign body =>
        refine ⟨h.1, RoundIn.mono h.2 fun e w'' he => ?_⟩
        cases e with
        | returned u => exact ⟨he.1, keep u he.1, by rw [← Act.put_comm a v u h2]; exact he.2⟩
        | panicked c => exact hQ _ _ _ he
        | outgrown => exact he
    | halt x w' =>
      cases x <;> simp only [Oper.uponIn] at h ⊢
      case panic u => exact hQ _ _ _ h
  · rename_i hw
    simp only [hw] at h
    exact ⟨h.1, keep _ h.1, by rw [← Act.put_comm a v undef h2]; exact h.2⟩
def wpAnyX (P : Program) (md : Region.Mode) (ops : Array Oper) (Q : Exit → Act → World → Prop) (X : Nat → Bool) : Nat → Array Bool → Act → World → Prop
  | 0, listed, a, w => Region.ready md ops listed = [] ∧ Q .normal a w
  | fuel + 1, listed, a, w =>
    (Region.ready md ops listed = [] → Q .normal a w) ∧
    ∀ i ∈ Region.ready md ops listed, wpOp P ops Q i (fun a' w' => (X i = true → Ext w w') ∧ wpAnyX P md ops Q X fuel (listed.setIfInBounds i true) a' w') a w
theorem wpAny_of_X {X : Nat → Bool} : ∀ (fuel : Nat) (listed : Array Bool) (a : Act) (w : World), wpAnyX P md ops Q X fuel listed a w → wpAny P md ops Q fuel listed a w
  | 0, _, _, _, h => h
  | fuel + 1, _, _, _, h => ⟨h.1, fun i hi => wpOp_mono (fun a' w' h' => wpAny_of_X fuel _ a' w' h'.2) (h.2 i hi)⟩
def waitsT (md : Region.Mode) (ops : Array Oper) : Nat → Nat → Nat → Bool
  | 0, _, _ => false
  | f + 1, j, i => match ops[j]? with
    | some oj => oj.after.any fun e => Region.binds md e && (e.on == i || waitsT md ops f e.on i)
    | none => false
def Closed (md : Region.Mode) (ops : Array Oper) (listed : Array Bool) : Prop :=
  ∀ j oj, ops[j]? = some oj → listed.getD j false = true → ∀ e ∈ oj.after, Region.binds md e = true → listed.getD e.on false = true
theorem Closed.set {listed : Array Bool} {i : Nat} (h : Closed md ops listed) (hi : i ∈ Region.ready md ops listed) : Closed md ops (listed.setIfInBounds i true) := by
  obtain ⟨_, oi, hoi, hall⟩ := mem_ready.1 hi
  intro j oj hj hl e he hb
  by_cases hij : i = j
  · subst hij
    have : oj = oi := Option.some.inj (hj.symm.trans hoi)
    subst this
    exact getD_set_true (hall e he hb)
  · rw [getD_set_ne false hij] at hl
    exact getD_set_true (h j oj hj hl e he hb)
theorem waitsT_listed {listed : Array Bool} (hc : Closed md ops listed) : ∀ (f j i : Nat), waitsT md ops f j i = true →
    (∀ oj, ops[j]? = some oj → ∀ e ∈ oj.after, Region.binds md e = true → listed.getD e.on false = true) → listed.getD i false = true
  | 0, _, _, h, _ => by cases h
  | f + 1, j, i, h, hall => by
    unfold waitsT at h
    split at h
    · rename_i oj hj
      obtain ⟨e, he, hb⟩ := Array.any_eq_true'.1 h
      simp only [Bool.and_eq_true, Bool.or_eq_true, beq_iff_eq] at hb
      have hl := hall oj hj e he hb.1
      rcases hb.2 with h1 | h1
      · rw [← h1]; exact hl
      · exact waitsT_listed hc f e.on i h1 fun ok hk e' he' hb' => hc e.on ok hk hl e' he' hb'
    · cases h
theorem wpAnyX_first {pu : Bool} {X : Nat → Bool} {i : Nat} {oi : Oper} {v : Value} (hi : ops[i]? = some oi) (hsel : ∀ (j : Nat) (o : Oper) cs b, ops[j]? = some o → o.op ≠ .select cs b)
    (hQ : ∀ c a w, Q (.panic c) (a.put oi.dst v) w → Q (.panic c) a w) (f : Nat) :
    ∀ (fuel : Nat) (listed : Array Bool) (a : Act) (w : World), Closed md ops listed →
      (∀ j, listed.getD j true = false → j ≠ i → (pu = true ∨ X j = true) ∨ waitsT md ops f j i = true) →
      (∀ j oj, ops[j]? = some oj → j ≠ i → listed.getD j true = false → (∀ e ∈ oj.after, Region.binds md e = true → e.on ≠ i) → oi.apart ops oj = true) →
      i ∈ Region.ready md ops listed → YieldsX P pu ops w oi v a →
      wpAnyX P md ops Q X fuel (listed.setIfInBounds i true) (a.put oi.dst v) w → wpAnyX P md ops Q X (fuel + 1) listed a w := by
  intro fuel
  induction fuel with
  | zero =>
    intro listed a w _ _ _ hr hy H
    refine ⟨fun h => (by rw [h] at hr; cases hr), fun j hj => ?_⟩
    by_cases hji : j = i
    · subst hji; exact hy.wpOp hi ⟨fun _ => Ext.refl w, H⟩
    · have := ready_mono hj hji
      rw [H.1] at this
      cases this
  | succ fuel ih =>
    intro listed a w hcl hX hfree hr hy H
    refine ⟨fun h => (by rw [h] at hr; cases hr), fun j hj => ?_⟩
    by_cases hji : j = i
    · subst hji; exact hy.wpOp hi ⟨fun _ => Ext.refl w, H⟩
    · have h1 := H.2 j (ready_mono hj hji)
      obtain ⟨hjun, oj, hoj, hall⟩ := mem_ready.1 hj
      have hnl : listed.getD i false ≠ true := fun h1 => by
        have h0 := (mem_ready.1 hr).1
        rw [getD_both h0] at h1
        cases h1
      have hXj : pu = true ∨ X j = true := by
        rcases hX j hjun hji with h | h
        · exact h
        · refine absurd (waitsT_listed hcl f j i h fun ok hk e he hb => ?_) hnl
          have : ok = oj := Option.some.inj (hk.symm.trans hoj)
          subst this
          exact hall e he hb
      have hnot : ∀ e ∈ oj.after, Region.binds md e = true → e.on ≠ i := fun e he hb heq => by
        have h1 := hall e he hb
        rw [heq] at h1
        exact hnl h1
      have h1' : wpOp P ops Q j (fun a' w' => Rel pu w w' ∧ (X j = true → Ext w w') ∧ wpAnyX P md ops Q X fuel ((listed.setIfInBounds i true).setIfInBounds j true) a' w') (a.put oi.dst v) w :=
        wpOp_mono (fun a' w' h => ⟨hXj.imp id h.1, h.1, h.2⟩) h1
      have h2 := wpOp_putX (K := fun a' w' => (X j = true → Ext w w') ∧ wpAnyX P md ops Q X fuel ((listed.setIfInBounds i true).setIfInBounds j true) a' w') hoj (hfree j oj hoj hji hjun hnot) (fun cs b => hsel i oi cs b hi) (fun cs b => hsel j oj cs b hoj) hQ hy h1'
      have hun' : ∀ k, (listed.setIfInBounds j true).getD k true = false → listed.getD k true = false := fun k hun => by
        by_cases hjk : j = k
        · subst hjk; exact hjun
        · rw [getD_set_ne true hjk] at hun; exact hun
      refine wpOp_mono (fun a' w' h3 => ⟨h3.2.2.1, ih (listed.setIfInBounds j true) a' w' (hcl.set hj) (fun k hk => hX k (hun' k hk)) (fun k ok hk hki hun hno => hfree k ok hk hki (hun' k hun) hno)
        (ready_mono hr (Ne.symm hji)) h3.2.1 ?_⟩) h2
      rw [Array.setIfInBounds_comm _ _ hji]
      exact h3.2.2.2
theorem _root_.List.all_congr_of {γ : Type} {l : List γ} {p q : γ → Bool} (h : ∀ x ∈ l, p x = q x) : l.all p = l.all q := by
  induction l with
  | nil => rfl
  | cons x l ih => rw [List.all_cons, List.all_cons, h x (by simp), ih fun y hy => h y (by simp [hy])]
theorem looks_congr {ρ ρ' : Operand → Value} (o : Oper) (h : ∀ x ∈ o.op.operands, ρ x = ρ' x) : looks ρ o = looks ρ' o := by
  unfold looks
  split <;> try rfl
  · rename_i op t x y _ ho
    rw [h x (by rw [ho]; simp [Op.operands]), h y (by rw [ho]; simp [Op.operands])]
  · rename_i args ts ho
    refine List.all_congr_of (fun x hx => ?_)
    rw [h x (by rw [ho]; simpa [Op.operands, Call.operands] using hx)]
  · rename_i args ts ho
    refine List.all_congr_of (fun x hx => ?_)
    rw [h x (by rw [ho]; simpa [Op.operands, Call.operands] using hx)]
  · rename_i x ho
    rw [h x (by rw [ho]; simp [Op.operands])]
  · rename_i k _ ho
    rw [h k (by rw [ho]; simp [Op.operands])]
theorem looks_put (o : Oper) (a : Act) (dst : Option Tmp) (v : Value) (h : ∀ d, dst = some d → d ∉ o.looksAt ops) : looks (a.put dst v).eval o = looks a.eval o :=
  looks_congr o fun x hx => Act.eval_put fun d hd hxd => h d hd (by
    subst hxd
    exact List.mem_append_left _ (List.mem_filterMap.2 ⟨.tmp d, by simpa using hx, rfl⟩))
def Path (P : Program) (ops : Array Oper) : List Oper → Act → World → Act → World → Prop
  | [], a, w, a', w' => a' = a ∧ w' = w
  | o :: l, a, w, a', w' => ∃ v w1, ((Region.wanted o (yielded ops a.tmps) = true ∧ (execOp a.eval o).run P w = .ok (.value v) w1) ∨ (Region.wanted o (yielded ops a.tmps) = false ∧ v = undef ∧ w1 = w)) ∧
      Path P ops l (a.put o.dst v) w1 a' w'
def AtCut (ops : Array Oper) (l : List Oper) (K : Act → World → Prop) (e : Exit) (a : Act) (w : World) : Prop :=
  e = .normal ∧ (l.all fun o => looks a.eval o || !Region.wanted o (yielded ops a.tmps)) = true ∧ K a w
def AtAct (x : Bool) (w1 : World) (K : Act → World → Prop) (e : Exit) (a : Act) (w : World) : Prop :=
  e = .normal ∧ (x = true → Ext w1 w) ∧ K a w
theorem AtCut.mk {l : List Oper} {K : Act → World → Prop} {a : Act} {w : World} (h : (l.all fun o => looks a.eval o || !Region.wanted o (yielded ops a.tmps)) = true) (hK : K a w) : AtCut ops l K .normal a w := ⟨rfl, h, hK⟩
theorem AtAct.mk {x : Bool} {w1 : World} {K : Act → World → Prop} {a : Act} {w : World} (h : x = true → Ext w1 w) (hK : K a w) : AtAct x w1 K .normal a w := ⟨rfl, h, hK⟩
theorem letsOut_no {Q' : Exit → Act → World → Prop} (hQ : ∀ e a w, Q' e a w → e = .normal) : ¬ LetsOut Q' := fun ⟨a, w, h⟩ => by
  have := hQ _ _ _ h
  cases this
theorem path_of_wpList {Q' : Exit → Act → World → Prop} (hQ : ∀ e a w, Q' e a w → e = .normal) : ∀ (l : List Oper) (a : Act) (w : World), (l.all lookKind) = true → wpList P ops Q' l a w →
    ∃ a' w', Path P ops l a w a' w' ∧ Q' .normal a' w'
  | [], a, w, _, h => ⟨a, w, ⟨rfl, rfl⟩, h⟩
  | o :: l, a, w, hl, h => by
    simp only [List.all_cons, Bool.and_eq_true] at hl
    unfold wpList at h
    split at h
    · rename_i hw
      have h := h.2
      cases hr : (execOp a.eval o).run P w with
      | ok n w1 =>
        obtain ⟨v, rfl⟩ := lookKind_spec hl.1 a.eval _ _ _ hr
        rw [hr] at h
        obtain ⟨a', w', hp, hq⟩ := path_of_wpList hQ l _ _ hl.2 h
        exact ⟨a', w', ⟨v, w1, .inl ⟨hw, hr⟩, hp⟩, hq⟩
      | halt x w1 =>
        rw [hr] at h
        cases x <;> simp only [Oper.uponIn] at h
        exact absurd (hQ _ _ _ h) (by simp)
    · rename_i hw
      obtain ⟨a', w', hp, hq⟩ := path_of_wpList hQ l _ _ hl.2 h
      exact ⟨a', w', ⟨undef, w, .inr ⟨by simpa using hw, rfl, rfl⟩, hp⟩, hq⟩
def clean (ops : Array Oper) : List Oper → Bool
  | [] => true
  | o :: l => ((o :: l).all fun o' => match o'.dst with | some d => !(o.looksAt ops).contains d | none => true) && clean ops l
theorem path_same {o0 : Oper} (hsel : ∀ cs b, o0.op ≠ .select cs b) : ∀ (l : List Oper) {a : Act} {w : World} {a' : Act} {w' : World}, Path P ops l a w a' w' →
    (l.all fun o' => match o'.dst with | some d => !(o0.looksAt ops).contains d | none => true) = true →
    looks a'.eval o0 = looks a.eval o0 ∧ Region.wanted o0 (yielded ops a'.tmps) = Region.wanted o0 (yielded ops a.tmps)
  | [], a, w, a', w', h, _ => by obtain ⟨rfl, rfl⟩ := h; exact ⟨rfl, rfl⟩
  | o :: l, a, w, a', w', h, hc => by
    obtain ⟨v, w1, _, hp⟩ := h
    simp only [List.all_cons, Bool.and_eq_true] at hc
    obtain ⟨h1, h2⟩ := path_same hsel l hp hc.2
    have hd : ∀ d, o.dst = some d → d ∉ o0.looksAt ops := fun d hd => by
      have := hc.1
      rw [hd] at this
      simpa using this
    rw [h1, h2, looks_put o0 a o.dst v hd, wanted_put o0 a o.dst v hd]
    exact ⟨rfl, rfl⟩
def consO : Option Oper → List Oper → List Oper
  | some o, l => o :: l
  | none, l => l
def pick (ops : Array Oper) : List Nat → List Oper
  | [] => []
  | i :: ps => consO (ops[i]?) (pick ops ps)
theorem pick_nil (ops : Array Oper) : pick ops [] = [] := rfl
theorem pick_cons (ops : Array Oper) (i : Nat) (ps : List Nat) : pick ops (i :: ps) = consO (ops[i]?) (pick ops ps) := rfl
theorem consO_some (o : Oper) (l : List Oper) : consO (some o) l = o :: l := rfl
def pureB (o : Oper) : Bool := match o.op with
  | .move _ | .assign _ => true
  | _ => false
theorem pureB_spec {o : Oper} (h : pureB o = true) (ρ : Operand → Value) : ∃ v, ∀ w, (execOp ρ o).run P w = .ok (.value v) w := by
  unfold pureB at h
  split at h
  · rename_i x ho; exact ⟨ρ x, fun w => by unfold execOp; rw [ho]; rfl⟩
  · rename_i x ho; exact ⟨ρ x, fun w => by unfold execOp; rw [ho]; rfl⟩
  · cases h
def pureAt (ops : Array Oper) (i : Nat) : Bool := match ops[i]? with
  | some o => pureB o
  | none => false
def headB (md : Region.Mode) (ops : Array Oper) (X : Nat → Bool) (f : Nat) : List Nat → Array Bool → Bool
  | [], _ => true
  | i :: ps, listed => (match ops[i]? with | some o => lookKind o | none => false) && (Region.ready md ops listed).contains i && Region.free md ops listed i &&
      ((List.range listed.size).all fun j => listed.getD j true || j == i || (pureAt ops i || X j) || waitsT md ops f j i) && headB md ops X f ps (listed.setIfInBounds i true)
theorem wpAnyX_head {X : Nat → Bool} {f : Nat} (hsel : ∀ (j : Nat) (o : Oper) cs b, ops[j]? = some o → o.op ≠ .select cs b) (hQ : ∀ e a w, Q e a w → e = .normal) :
    ∀ (ps : List Nat) (fuel : Nat) (listed : Array Bool) (a : Act) (w : World) (a' : Act) (w' : World), headB md ops X f ps listed = true → clean ops (pick ops ps) = true → Closed md ops listed →
      Path P ops (pick ops ps) a w a' w' → ((pick ops ps).all fun o => looks a'.eval o || !Region.wanted o (yielded ops a'.tmps)) = true →
      w' = w ∧ Closed md ops (ps.foldl (fun L i => L.setIfInBounds i true) listed) ∧
        (wpAnyX P md ops Q X fuel (ps.foldl (fun L i => L.setIfInBounds i true) listed) a' w → wpAnyX P md ops Q X (fuel + ps.length) listed a w)
  | [], fuel, listed, a, w, a', w', _, _, hcl, hp, _ => by
    obtain ⟨rfl, rfl⟩ := hp
    exact ⟨rfl, hcl, id⟩
  | i :: ps, fuel, listed, a, w, a', w', hB, hc, hcl, hp, hs => by
    unfold headB at hB
    cases ho : ops[i]? with
    | none => rw [ho] at hB; simp at hB
    | some o =>
      rw [ho] at hB
      simp only [Bool.and_eq_true] at hB
      obtain ⟨⟨⟨⟨hk, hr⟩, hfree⟩, hX⟩, hB'⟩ := hB
      have hpk : pick ops (i :: ps) = o :: pick ops ps := by rw [pick_cons, ho, consO_some]
      rw [hpk] at hc hp hs
      obtain ⟨v, w1, hrun, hp'⟩ := hp
      unfold clean at hc
      simp only [Bool.and_eq_true, List.all_cons] at hc
      simp only [List.all_cons, Bool.and_eq_true] at hs
      have hd : ∀ d, o.dst = some d → d ∉ o.looksAt ops := fun d hd => by
        have := hc.1.1
        rw [hd] at this
        simpa using this
      obtain ⟨e1, e2⟩ := path_same (o0 := o) (fun cs b => hsel i o cs b ho) (pick ops ps) hp' hc.1.2
      rw [looks_put o a o.dst v hd] at e1
      rw [wanted_put o a o.dst v hd] at e2
      rw [e1, e2] at hs
      have hy : w1 = w ∧ YieldsX P (pureAt ops i) ops w o v a := by
        rcases hrun with ⟨hw, hr⟩ | ⟨hw, hv, hw1⟩
        · have hpu : pureAt ops i = true → ∀ w', (execOp a.eval o).run P w' = .ok (.value v) w' := fun hp w' => by
            unfold pureAt at hp
            rw [ho] at hp
            obtain ⟨u, hu⟩ := pureB_spec (P := P) hp a.eval
            have := (hu w).symm.trans hr
            injection this with e1 _
            injection e1 with e1
            rw [← e1]
            exact hu w'
          have hl : looks a.eval o = true := by
            have := hs.1
            rw [hw] at this
            simpa using this
          obtain ⟨h1, h2⟩ := looks_spec hl _ _ _ hr
          exact ⟨h1, .inl ⟨hw, fun w' hrel => hrel.elim (fun hp => hpu hp w') (h2 w')⟩⟩
        · exact ⟨hw1, .inr ⟨hw, hv⟩⟩
      obtain ⟨rfl, hy⟩ := hy
      have hr' : i ∈ Region.ready md ops listed := by simpa using hr
      obtain ⟨hw', hcl', himp⟩ := wpAnyX_head hsel hQ ps fuel (listed.setIfInBounds i true) (a.put o.dst v) w1 a' w' hB' hc.2 (hcl.set hr') hp' hs.2
      refine ⟨hw', hcl', fun H => ?_⟩
      refine wpAnyX_first ho hsel (fun c a w h => absurd (hQ _ _ _ h) (by simp)) f (fuel + ps.length) listed a w1 hcl (fun j hj hji => ?_) (Region.free_spec ho hfree) hr' hy (himp H)
      have hlt : j < listed.size := by
        rcases Nat.lt_or_ge j listed.size with h | h
        · exact h
        · simp [Array.getElem?_eq_none h] at hj
      have := List.all_eq_true.1 hX j (List.mem_range.2 hlt)
      simp only [hj, Bool.or_eq_true, beq_iff_eq, Bool.false_eq_true, false_or] at this
      rcases this with (h | h) | h
      · exact absurd h hji
      · exact .inl h
      · exact .inr h
def segsB (md : Region.Mode) (ops : Array Oper) (X : Nat → Bool) (f : Nat) : List (List Nat × Option Nat) → Array Bool → Bool
  | [], listed => (Region.ready md ops listed).isEmpty
  | (ps, none) :: rest, listed => headB md ops X f ps listed && clean ops (pick ops ps) && segsB md ops X f rest (ps.foldl (fun L i => L.setIfInBounds i true) listed)
  | (ps, some i) :: rest, listed => headB md ops X f ps listed && clean ops (pick ops ps) && decide (Region.ready md ops (ps.foldl (fun L i => L.setIfInBounds i true) listed) = [i]) &&
      segsB md ops X f rest ((ps.foldl (fun L i => L.setIfInBounds i true) listed).setIfInBounds i true)
def wpAct (P : Program) (ops : Array Oper) (x : Bool) (i : Nat) (K : Act → World → Prop) (a : Act) (w : World) : Prop := wpList P ops (AtAct x w K) (pick ops [i]) a w
def wpSegs (P : Program) (ops : Array Oper) (K : Act → World → Prop) (X : Nat → Bool) : List (List Nat × Option Nat) → Act → World → Prop
  | [], a, w => K a w
  | (ps, none) :: rest, a, w => wpList P ops (AtCut ops (pick ops ps) (wpSegs P ops K X rest)) (pick ops ps) a w
  | (ps, some i) :: rest, a, w => wpList P ops (AtCut ops (pick ops ps) (wpAct P ops (X i) i (wpSegs P ops K X rest))) (pick ops ps) a w
section
variable {K : Act → World → Prop} {X : Nat → Bool} {a : Act} {w : World} {ps : List Nat} {i : Nat} {x : Bool} {rest : List (List Nat × Option Nat)}
theorem segs_last (h : wpList P ops (AtCut ops (pick ops ps) (wpSegs P ops K X rest)) (pick ops ps) a w) : wpSegs P ops K X ((ps, none) :: rest) a w := h
theorem segs_some (h : wpList P ops (AtCut ops (pick ops ps) (wpAct P ops (X i) i (wpSegs P ops K X rest))) (pick ops ps) a w) : wpSegs P ops K X ((ps, some i) :: rest) a w := h
theorem act (h : wpList P ops (AtAct x w K) (pick ops [i]) a w) : wpAct P ops x i K a w := h
end
def segsLen : List (List Nat × Option Nat) → Nat
  | [] => 0
  | (ps, none) :: rest => segsLen rest + ps.length
  | (ps, some _) :: rest => segsLen rest + 1 + ps.length
theorem headB_kind {X : Nat → Bool} {f : Nat} : ∀ (ps : List Nat) (listed : Array Bool), headB md ops X f ps listed = true → (pick ops ps).all lookKind = true
  | [], _, _ => rfl
  | i :: ps, listed, hB => by
    unfold headB at hB
    cases ho : ops[i]? with
    | none => rw [ho] at hB; simp at hB
    | some o =>
      rw [ho] at hB
      simp only [Bool.and_eq_true] at hB
      have hpk : pick ops (i :: ps) = o :: pick ops ps := by rw [pick_cons, ho, consO_some]
      rw [hpk, List.all_cons, hB.1.1.1.1, headB_kind ps _ hB.2]
      rfl
def Well (K : Act → World → Prop) (e : Exit) (a : Act) (w : World) : Prop := e = .normal ∧ K a w
theorem wpAnyX_segs {K : Act → World → Prop} {X : Nat → Bool} {f : Nat} (hsel : ∀ (j : Nat) (o : Oper) cs b, ops[j]? = some o → o.op ≠ .select cs b) :
    ∀ (segs : List (List Nat × Option Nat)) (listed : Array Bool) (a : Act) (w : World), segsB md ops X f segs listed = true → Closed md ops listed →
      wpSegs P ops K X segs a w → wpAnyX P md ops (Well K) X (segsLen segs) listed a w
  | [], listed, a, w, hB, _, h => ⟨by simpa [segsB] using hB, rfl, h⟩
  | (ps, none) :: rest, listed, a, w, hB, hcl, h => by
    simp only [segsB, Bool.and_eq_true] at hB
    obtain ⟨a', w', hp, hq⟩ := path_of_wpList (fun e a w h => h.1) _ a w (headB_kind ps listed hB.1.1) h
    obtain ⟨rfl, hcl', himp⟩ := wpAnyX_head (Q := Well K) hsel (fun e a w h => h.1) ps (segsLen rest) listed a w a' w' hB.1.1 hB.1.2 hcl hp hq.2.1
    exact himp (wpAnyX_segs hsel rest _ _ _ hB.2 hcl' hq.2.2)
  | (ps, some i) :: rest, listed, a, w, hB, hcl, h => by
    simp only [segsB, Bool.and_eq_true, decide_eq_true_eq] at hB
    obtain ⟨⟨⟨hB1, hB2⟩, hB3⟩, hB4⟩ := hB
    obtain ⟨a', w', hp, hq⟩ := path_of_wpList (fun e a w h => h.1) _ a w (headB_kind ps listed hB1) h
    obtain ⟨rfl, hcl', himp⟩ := wpAnyX_head (Q := Well K) hsel (fun e a w h => h.1) ps (segsLen rest + 1) listed a w a' w' hB1 hB2 hcl hp hq.2.1
    refine himp ?_
    have hi : i ∈ Region.ready md ops (ps.foldl (fun L i => L.setIfInBounds i true) listed) := by rw [hB3]; simp
    obtain ⟨_, oi, hoi, _⟩ := mem_ready.1 hi
    have hpk : pick ops [i] = [oi] := by rw [pick_cons, hoi, consO_some, pick_nil]
    have h3 : wpList P ops (AtAct (X i) w' (wpSegs P ops K X rest)) (pick ops [i]) a' w' := hq.2.2
    rw [hpk] at h3
    refine ⟨fun h0 => (by rw [h0] at hi; cases hi), fun j hj => ?_⟩
    rw [hB3] at hj
    have hji : j = i := by simpa using hj
    subst hji
    have h4 : wpOp P ops (AtAct (X j) w' (wpSegs P ops K X rest)) j (fun a2 w2 => AtAct (X j) w' (wpSegs P ops K X rest) .normal a2 w2) a' w' := by
      unfold wpOp; simp only [hoi]; exact h3
    have h5 : wpOp P ops (Well K) j (fun a2 w2 => AtAct (X j) w' (wpSegs P ops K X rest) .normal a2 w2) a' w' := by
      unfold wpOp at h4 ⊢
      simp only [hoi] at h4 ⊢
      split
      · rename_i hw
        simp only [hw, if_true] at h4
        refine ⟨h4.1, ?_⟩
        have h4 := h4.2
        generalize (execOp a'.eval oi).run P w' = r at *
        cases r with
        | ok n w2 =>
          cases n <;> simp only [Oper.uponIn] at h4 ⊢ <;> first | exact h4 | skip
          case enter g args =>
            refine ⟨h4.1, CallsIn.mono h4.2 fun e w3 he => ?_⟩
            cases e with
            | returned u => exact he
            | panicked c => exact absurd he.1 (by simp)
            | outgrown => exact absurd he (letsOut_no fun e a w h => h.1)
          case round l f tmps assign body =>
            refine ⟨h4.1, RoundIn.mono h4.2 fun e w3 he => ?_⟩
            cases e with
            | returned u => exact he
            | panicked c => exact absurd he.1 (by simp)
            | outgrown => exact absurd he (letsOut_no fun e a w h => h.1)
        | halt x w2 =>
          cases x <;> simp only [Oper.uponIn] at h4 ⊢
          exact absurd h4.1 (by simp)
      · rename_i hw
        simp only [hw] at h4
        exact h4
    refine wpOp_mono (fun a2 w2 h6 => ⟨h6.2.1, ?_⟩) h5
    exact wpAnyX_segs hsel rest _ _ _ hB4 (hcl'.set hi) h6.2.2
theorem wp_region_early {id : Nat} {l : List Oper} {a : Act} {w : World} (stores : List Nat) (segs : List (List Nat × Option Nat)) (hm : P.follows .mixedOrders = true) (hs : Region.noSelect l.toArray = true)
    (hB : segsB .any l.toArray (fun i => !stores.contains i) l.length segs (Array.replicate l.length false) = true) (hl : segsLen segs = l.length)
    (h : wpSegs P l.toArray (Q .normal) (fun i => !stores.contains i) segs a w.drew) (r : Option Nat) : (Code.region id l.toArray true).wpIn (fen r) 0 P Q a w := by
  have h1 : wpAny P .any l.toArray (Well (Q .normal)) l.toArray.size (Array.replicate l.toArray.size false) a { w with drawn := w.drawn + 1 } := by
    have := wpAny_of_X _ _ _ _ (wpAnyX_segs (md := .any) (Region.noSelect_spec hs) segs (Array.replicate l.length false) a w.drew hB (fun j oj _ hl => (by rw [getD_replicate_false] at hl; cases hl)) h)
    rw [hl] at this
    simpa using this
  refine Code.wpIn_mono (fun e a w h => ?_) (wpIn_region_any hm (wpAny_in r _ _ _ _ h1))
  obtain ⟨rfl, h⟩ := h
  exact h
end
end Early
end Go
end
