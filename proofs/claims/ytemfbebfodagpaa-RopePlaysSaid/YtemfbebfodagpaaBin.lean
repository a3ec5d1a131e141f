/- Part of a proof that the laws of this seat return true: a machine over plain data (Idl) that is sound for the given model, and its runs. Conditions: none. -/
import Derived.Test.YtemfbebfodagpaaAppend
import Derived.Laws.Strings
import Derived.Laws.ComplexArith
set_option linter.all false
namespace Go.Idl
open Go

/-- Values of this type are held against each other cell by cell. -/
def EqOk (P : Program) (t : TypeId) (eqk : List Nat) : Prop := ∀ (σ : Sg) (H : Im) (h : Heap) (w : World) (xs ys : List C) (x y : Value) (b : Bool), RelM σ H h w →
  eqCs (eqKs eqk) xs ys = some b → Xrel σ H (eqAgg eqk, xs) x → Xrel σ H (eqAgg eqk, ys) y → ∀ op xo yo, (op = .eql ∨ op = .neq) →
  (do eqGuard op t xo yo x y; binOp op t x y : Sem Value).run P w = .ok (.bool (if op = .eql then b else !b)) w

theorem toNat_inj : ∀ {a b : List UInt8}, a.map UInt8.toNat = b.map UInt8.toNat → a = b
  | [], [], _ => rfl
  | x :: a, y :: b, h => by
    simp only [List.map_cons, List.cons.injEq] at h
    rw [UInt8.toNat_inj.1 h.1, toNat_inj h.2]
  | [], _ :: _, h => by simp at h
  | _ :: _, [], h => by simp at h
theorem bytes_beq {a b : ByteArray} : (bytesOf a == bytesOf b) = (a.toList == b.toList) := by
  rw [ByteArray.toList_eq, ByteArray.toList_eq, Bool.eq_iff_iff, beq_iff_eq, beq_iff_eq]
  exact ⟨toNat_inj, fun e => by unfold bytesOf; rw [e]⟩
theorem bytes_len (a : ByteArray) : (bytesOf a).length = a.size := by simp [bytesOf]
theorem bytes_append (a b : ByteArray) : bytesOf (a ++ b) = bytesOf a ++ bytesOf b := by simp [bytesOf]

theorem binD_ok {P : Program} {H : Im} {op : BinOp} {a b d : D} {x y : Value} {t : TypeId} (w : World) (ha : plainD a = true) (hb : plainD b = true) (e : binD op a b = some d) (hx : Drel H a x) (hy : Drel H b y) (xo yo : Operand) :
    ∃ v, (do eqGuard op t xo yo x y; binOp op t x y : Sem Value).run P w = .ok v w ∧ Drel H d v := by
  cases hx <;> simp [plainD] at ha <;> cases hy <;> simp [plainD] at hb
  · rename_i k n k' m
    have hg : (eqGuard op t xo yo (.int k n) (.int k' m)).run P w = .ok () w := by
      unfold eqGuard; cases op <;> simp
    have arith : ∀ v : Int, (k = k' → (binOp op t (.int k n) (.int k' m)).run P w = .ok (.int k v) w) → k = k' → d = .int k v → ∃ v, (do eqGuard op t xo yo (.int k n) (.int k' m); binOp op t (.int k n) (.int k' m) : Sem Value).run P w = .ok v w ∧ Drel H d v := by
      intro v h1 h2 h3
      exact ⟨.int k v, by rw [Sem.run_bind, hg, Result.andThen_ok, h1 h2], by rw [h3]; exact .int _ _⟩
    have test : ∀ v : Bool, (k = k' → (binOp op t (.int k n) (.int k' m)).run P w = .ok (.bool v) w) → k = k' → d = .bool v → ∃ v, (do eqGuard op t xo yo (.int k n) (.int k' m); binOp op t (.int k n) (.int k' m) : Sem Value).run P w = .ok v w ∧ Drel H d v := by
      intro v h1 h2 h3
      exact ⟨.bool v, by rw [Sem.run_bind, hg, Result.andThen_ok, h1 h2], by rw [h3]; exact .bool _⟩
    cases op
    case shl =>
      simp only [binD] at e
      split at e
      · cases e
      · rename_i hneg
        cases e
        refine ⟨.int k (k.wrap (n * 2 ^ (min m.toNat k.bits))), ?_, .int _ _⟩
        rw [Sem.run_bind, hg, Result.andThen_ok]
        simp [binOp, Op.shift, hneg]
    case shr =>
      simp only [binD] at e
      split at e
      · cases e
      · rename_i hneg
        cases e
        refine ⟨.int k (n.fdiv (2 ^ (min m.toNat k.bits))), ?_, .int _ _⟩
        rw [Sem.run_bind, hg, Result.andThen_ok]
        simp [binOp, Op.shift, hneg]
    all_goals
      simp only [binD] at e
      split at e
      · cases e
      rename_i hk
      simp only [ne_eq, Decidable.not_not] at hk
    case int.int.add.isFalse => cases e; exact arith _ (fun h => by subst h; simp [binOp, Op.intArith]) hk rfl
    case int.int.sub.isFalse => cases e; exact arith _ (fun h => by subst h; simp [binOp, Op.intArith]) hk rfl
    case int.int.mul.isFalse => cases e; exact arith _ (fun h => by subst h; simp [binOp, Op.intArith]) hk rfl
    case int.int.quo.isFalse =>
      split at e
      · cases e
      · rename_i h0; cases e; exact arith _ (fun h => by subst h; simp [binOp, Op.intDiv, h0]) hk rfl
    case int.int.rem.isFalse =>
      split at e
      · cases e
      · rename_i h0; cases e; exact arith _ (fun h => by subst h; simp [binOp, Op.intDiv, h0]) hk rfl
    case int.int.and.isFalse => cases e; exact arith _ (fun h => by subst h; simp only [binOp, ne_eq, not_true_eq_false, if_false, Op.intBits]; rfl) hk rfl
    case int.int.or.isFalse => cases e; exact arith _ (fun h => by subst h; simp only [binOp, ne_eq, not_true_eq_false, if_false, Op.intBits]; rfl) hk rfl
    case int.int.xor.isFalse => cases e; exact arith _ (fun h => by subst h; simp only [binOp, ne_eq, not_true_eq_false, if_false, Op.intBits]; rfl) hk rfl
    case int.int.andNot.isFalse => cases e; exact arith _ (fun h => by subst h; simp only [binOp, ne_eq, not_true_eq_false, if_false, Op.intBits]; rfl) hk rfl
    case int.int.eql.isFalse => cases e; exact test _ (fun h => by subst h; simp [binOp, Op.intCmp]) hk rfl
    case int.int.neq.isFalse => cases e; exact test _ (fun h => by subst h; simp [binOp, Op.intCmp]) hk rfl
    case int.int.lss.isFalse => cases e; exact test _ (fun h => by subst h; simp [binOp, Op.intCmp]) hk rfl
    case int.int.leq.isFalse => cases e; exact test _ (fun h => by subst h; simp [binOp, Op.intCmp]) hk rfl
    case int.int.gtr.isFalse => cases e; exact test _ (fun h => by subst h; simp [binOp, Op.intCmp]) hk rfl
    case int.int.geq.isFalse => cases e; exact test _ (fun h => by subst h; simp [binOp, Op.intCmp]) hk rfl
  · simp [binD] at e
  · simp [binD] at e
  · simp [binD] at e
  · rename_i s hs s' hs'
    have hg : (eqGuard op t xo yo (.string s) (.string s')).run P w = .ok () w := by
      unfold eqGuard; cases op <;> simp
    cases op <;> simp only [binD] at e <;> first | cases e | skip
    · split at e
      · rename_i hl
        simp only [Option.some.injEq] at e
        subst e
        rw [bytes_len, bytes_len] at hl
        refine ⟨.string (s ++ s'), ?_, ?_⟩
        · have h63 : ¬ (9223372036854775807 < (s.size : Int) + (s'.size : Int)) := by unfold maxStr at hl; omega
          simp [hg, binOp, Op.stringOp, h63]
          try rfl
        · rw [← bytes_append]
          exact .str _ (by rw [ByteArray.size_append]; exact hl)
      · cases e
    · exact ⟨_, by simp [hg, binOp, Op.stringOp]; rw [bytes_beq], .bool _⟩
    · exact ⟨_, by simp [hg, binOp, Op.stringOp]; rw [bytes_beq], .bool _⟩
  · simp [binD] at e
  · simp [binD] at e
  · simp [binD] at e
  · rename_i k a b k' a' b'
    have hg : (eqGuard op t xo yo (.complex k a b) (.complex k' a' b')).run P w = .ok () w := by
      unfold eqGuard; cases op <;> simp
    cases op <;> simp only [binD] at e <;> (split at e; · cases e) <;> rename_i hk <;> simp only [ne_eq, Decidable.not_not] at hk <;> subst hk <;> first | cases e | skip
    · split at e
      · rename_i h1 h2
        cases e
        exact ⟨_, by simp [hg, binOp, Op.complexOp, Op.Complex.arith, Op.floatArith, h1, h2], .cpx _ _ _⟩
      · cases e
    · split at e
      · rename_i h1 h2
        cases e
        exact ⟨_, by simp [hg, binOp, Op.complexOp, Op.Complex.arith, Op.floatArith, h1, h2], .cpx _ _ _⟩
      · cases e
    · exact ⟨_, by simp [hg, binOp, Op.complexOp, Op.Complex.cmp, Op.floatCmp, asBool, floatEqB], .bool _⟩
    · exact ⟨_, by simp [hg, binOp, Op.complexOp, Op.Complex.cmp, Op.floatCmp, asBool, floatEqB], .bool _⟩

theorem binV_ok {P : Program} {σ : Sg} {H : Im} {h : Heap} {w : World} (r : RelM σ H h w) {op : BinOp} {eqk : List Nat} {x y v : DV} {a b : Value} {t : TypeId} (he : eqk ≠ [] → EqOk P t eqk)
    (e : binV eqk op x y = some v) (hx : Vrel σ H x a) (hy : Vrel σ H y b) (xo yo : Operand) :
    ∃ rv, (do eqGuard op t xo yo a b; binOp op t a b : Sem Value).run P w = .ok rv w ∧ Vrel σ H v rv := by
  unfold binV at e
  split at e
  · rename_i ax xs ay ys
    split at e
    · rename_i hp
      simp only [Bool.and_eq_true, Bool.not_eq_true'] at hp
      obtain ⟨⟨⟨h1, h2⟩, h3⟩, h4⟩ := hp
      subst h1; subst h2
      split at e
      · rename_i dx dy
        split at e
        · rename_i d hd
          cases e
          obtain ⟨v, hv, hr⟩ := binD_ok (P := P) w h3 h4 hd (Vrel.one.1 hx) (Vrel.one.1 hy) xo yo
          exact ⟨v, hv, Vrel.one.2 hr⟩
        · cases e
      · cases e
    · split at e
      · rename_i hq
        simp only [Bool.and_eq_true, beq_iff_eq, Bool.not_eq_true'] at hq
        obtain ⟨⟨hq, rfl⟩, rfl⟩ := hq
        have hE := he (by rintro rfl; simp at hq)
        split at e
        · split at e
          · rename_i bb hb
            cases e
            exact ⟨_, hE σ H h w xs ys a b bb r hb hx hy _ xo yo (.inl rfl), Vrel.one.2 (by simp; exact .bool _)⟩
          · cases e
        · split at e
          · rename_i bb hb
            cases e
            exact ⟨_, hE σ H h w xs ys a b bb r hb hx hy _ xo yo (.inr rfl), Vrel.one.2 (by simp; exact .bool _)⟩
          · cases e
        · cases e
      · cases e
  · cases e
end Go.Idl
