/- Part of a proof that the laws of this seat return true: a machine over plain data (Idl) that is sound for the given model, and its runs. Conditions: none. -/
import Derived.Test.YtemfbebfodagpaaBridge
set_option linter.all false
namespace Go.Idl
open Go

/-- A table over the numbers: a tree of decisions. -/
inductive Tr (α : Type) where
  | nil
  | leaf (k : Nat) (a : α)
  | node (m : Nat) (l r : Tr α)
def Tr.get {α : Type} : Tr α → Nat → Option α
  | .nil, _ => none
  | .leaf k a, x => cond (Nat.beq x k) (some a) none
  | .node m l r, x => cond (Nat.blt x m) (l.get x) (r.get x)
def Tr.All {α : Type} (p : Nat → α → Prop) : Tr α → Prop
  | .nil => True
  | .leaf k a => p k a
  | .node _ l r => l.All p ∧ r.All p
theorem Tr.all_get {α : Type} {p : Nat → α → Prop} : ∀ {t : Tr α}, t.All p → ∀ {x : Nat} {a : α}, t.get x = some a → p x a := by
  intro t
  induction t with
  | nil => intro _ x a e; simp [Tr.get] at e
  | leaf k b =>
    intro h x a e
    simp only [Tr.get] at e
    cases hb : Nat.beq x k with
    | true => rw [hb] at e; cases e; rw [Nat.eq_of_beq_eq_true hb]; exact h
    | false => rw [hb] at e; cases e
  | node m l r ihl ihr =>
    intro h x a e
    simp only [Tr.get] at e
    cases hb : Nat.blt x m with
    | true => rw [hb] at e; exact ihl h.1 e
    | false => rw [hb] at e; exact ihr h.2 e

def tyChk (P : Program) (d : TypeDesc) : Bool :=
  match d with
  | .struct fs => fs.all fun f => (P.info? f.type).isSome
  | .array _ e => (P.info? e).isSome
  | _ => true
def zChk (ti : TypeInfo) (i : TI) : Bool :=
  match ti.zero with
  | some (.agg _) => i.agg
  | some v => !i.agg && v.oneCell'
  | none => false
theorem TyOk.of {P : Program} {t : TypeId} {i : TI} {ti : TypeInfo} (h1 : P.info? t = some ti) (hs : ti.size = i.size) (hb : ti.bytes = i.bytes) (hu : P.underlying t = some i.desc) (hc : tyChk P i.desc = true)
    (hz : i.zero = none ∨ (i.zero = ti.zero.bind (fun v => constDs v.cells.toList) ∧ zChk ti i = true)) : TyOk P t i where
  ti := by
    refine ⟨ti, h1, hs, hb, ?_⟩
    intro z e
    rcases hz with h | ⟨h, hk⟩
    · rw [h] at e; cases e
    · rw [h] at e
      cases hv : ti.zero with
      | none => rw [hv] at e; cases e
      | some v =>
        rw [hv] at e
        refine ⟨v, rfl, e, ?_, ?_⟩
        · intro ha
          unfold zChk at hk
          rw [hv] at hk
          split at hk
          · rw [ha] at hk; cases hk
          · rename_i heq; cases heq; simp only [Bool.and_eq_true] at hk; exact hk.2
          · rename_i heq; cases heq
        · intro ha
          unfold zChk at hk
          rw [hv] at hk
          split at hk
          · rename_i heq; cases heq; exact ⟨_, rfl⟩
          · rw [ha] at hk; simp at hk
          · rename_i heq; cases heq
  und := hu
  fields := by
    intro fs e f hf
    rw [e] at hc
    simp only [tyChk] at hc
    rw [Array.all_eq_true'] at hc
    have := hc f hf
    exact Option.isSome_iff_exists.1 this
  arr := by
    intro n e h
    rw [h] at hc
    simp only [tyChk] at hc
    exact Option.isSome_iff_exists.1 hc

def FnGood (P : Program) (f : FuncId) (fn : Func) : Prop := P.funcs[f]? = some fn ∧ (fn.name == "runtime.NumGoroutine") = false ∧ (match fn.body with | some b => codeOk b | none => true) = true
theorem FunOk.of {P : Program} {T : Tab} (h : ∀ f fn, T.func f = some fn → FnGood P f fn) : FunOk P T where
  func := fun f fn e => ⟨(h f fn e).1, (h f fn e).2.1⟩
  code := fun f fn body e hb => by have := (h f fn e).2.2; rw [hb] at this; exact this
end Go.Idl
