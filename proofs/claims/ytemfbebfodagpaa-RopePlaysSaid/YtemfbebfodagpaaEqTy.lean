/- Part of a proof that the laws of this seat return true: a machine over plain data (Idl) that is sound for the given model, and its runs. Conditions: none. -/
import Derived.Test.YtemfbebfodagpaaFacts
import Derived.Laws.StructEq
set_option linter.all false
set_option linter.unusedSectionVars false
namespace Go.Idl
open Go

/-- A type whose values are one cell of this kind. -/
def KindOk (P : Program) (t : TypeId) : Nat → Prop
  | 1 => P.underlying t = some .bool
  | 2 => ∃ k, P.underlying t = some (.int k)
  | 3 => P.underlying t = some .string
  | 4 => ∃ k, P.underlying t = some (.complex k)
  | 5 => ∃ e ti, P.underlying t = some (.pointer e) ∧ P.info? e = some ti ∧ ti.size ≠ 0
  | _ => False

theorem bytesOf_inj {a b : ByteArray} (h : bytesOf a = bytesOf b) : a = b := by
  have := toNat_inj h
  cases a; cases b
  simp at this
  exact congrArg _ this
theorem bytes_eqb (a b : ByteArray) : (bytesOf a == bytesOf b) = (a == b) := by
  rw [bytes_beq, beq_toListBytes]

theorem eqC_ok {P : Program} {t : TypeId} {k : Nat} (hk : KindOk P t k) {σ : Sg} {H : Im} {w : World} {x y : C} {vx vy : Value} {b : Bool} (e : eqC k x y = some b) (hx : Crel σ H x vx) (hy : Crel σ H y vy) (d : Nat) :
    (Op.equalIn (d + 1) t vx vy).run P w = .ok b w := by
  rw [Op.equalIn.eq_2]
  unfold eqC at e
  split at e
  · cases e; cases hx; cases hy
    simp [Go.underlying, show P.underlying t = some .bool from hk]
  · split at e
    · rename_i h; cases e; cases hx; cases hy
      obtain ⟨q, hq⟩ := hk
      simp [Go.underlying, hq, h]
    · cases e
  · cases e; cases hx; cases hy
    rw [bytes_eqb]
    simp [Go.underlying, show P.underlying t = some .string from hk]
  · split at e
    · rename_i h; cases e; cases hx; cases hy
      obtain ⟨q, hq⟩ := hk
      simp [Go.underlying, hq, h, floatEqB, Op.floatEq]
    · cases e
  · obtain ⟨el, ti, hq, _, _⟩ := hk
    cases e; cases hx; cases hy
    simp [Go.underlying, hq]
  · obtain ⟨el, ti, hq, _, _⟩ := hk
    cases e; cases hx; cases hy
    simp [Go.underlying, hq]
  · obtain ⟨el, ti, hq, _, _⟩ := hk
    cases e; cases hx; cases hy
    simp [Go.underlying, hq]
  · obtain ⟨el, ti, hq, _, _⟩ := hk
    cases e; cases hx; obtain ⟨b, _, rfl⟩ := hy
    simp [Go.underlying, hq]
  · obtain ⟨el, ti, hq, _, _⟩ := hk
    cases e; cases hy; obtain ⟨b, _, rfl⟩ := hx
    simp [Go.underlying, hq]
  · obtain ⟨el, ti, hq, hi, hs⟩ := hk
    split at e
    · rename_i k o k' o' h
      cases e
      have := Nat.eq_of_beq_eq_true h
      subst this
      obtain ⟨b, h1, rfl⟩ := hx
      obtain ⟨b', h2, rfl⟩ := hy
      rw [h1] at h2
      cases h2
      have hbeq : ((⟨b, o, none⟩ : Addr) == ⟨b, o', none⟩) = Nat.beq o o' := by
        rw [Bool.eq_iff_iff, beq_iff_eq, Nat.beq_eq]
        simp
      simp [Go.underlying, hq, Go.sizeOf, typeInfo, hi, hs, sameAddr, hbeq]
    · cases e
  · cases e

/-- Values of this type are held against each other cell by cell. -/
def EqIn (P : Program) (d : Nat) (t : TypeId) (a : Bool) (ks : List Nat) : Prop := ∀ (σ : Sg) (H : Im) (h : Heap) (w : World) (xs ys : List C) (x y : Value) (b : Bool), RelM σ H h w →
  eqCs ks xs ys = some b → Xrel σ H (a, xs) x → Xrel σ H (a, ys) y → (Op.equalIn d t x y).run P w = .ok b w
theorem EqIn.one {P : Program} {t : TypeId} {k : Nat} (hk : KindOk P t k) (d : Nat) : EqIn P (d + 1) t false [k] := by
  intro σ H h w xs ys x y b _ e hx hy
  simp only [Xrel, Bool.false_eq_true, if_false] at hx hy
  obtain ⟨c, rfl, hc⟩ := hx
  obtain ⟨c', rfl, hc'⟩ := hy
  simp only [eqCs] at e
  split at e
  · rename_i u v hu hv
    cases hv
    cases e
    rw [Bool.and_true]
    exact eqC_ok hk hu hc hc' d
  · cases e
theorem eqCs_append : ∀ {ks ks' : List Nat} {xs ys : List C} {b : Bool}, eqCs (ks ++ ks') xs ys = some b →
    ∃ b1 b2, eqCs ks (xs.take ks.length) (ys.take ks.length) = some b1 ∧ eqCs ks' (xs.drop ks.length) (ys.drop ks.length) = some b2 ∧ b = (b1 && b2) := by
  intro ks
  induction ks with
  | nil => intro ks' xs ys b e; exact ⟨true, b, by simp [eqCs], by simpa using e, by simp⟩
  | cons k ks ih =>
    intro ks' xs ys b e
    cases xs with
    | nil => simp [eqCs] at e
    | cons x xs =>
      cases ys with
      | nil => simp [eqCs] at e
      | cons y ys =>
        simp only [List.cons_append, eqCs] at e
        split at e
        · rename_i u v hu hv
          cases e
          obtain ⟨b1, b2, h1, h2, rfl⟩ := ih hv
          exact ⟨u && b1, b2, by simp [eqCs, hu, h1], by simpa using h2, by simp [Bool.and_assoc]⟩
        · cases e
theorem eqCs_len : ∀ {ks : List Nat} {xs ys : List C} {b : Bool}, eqCs ks xs ys = some b → xs.length = ks.length ∧ ys.length = ks.length := by
  intro ks
  induction ks with
  | nil => intro xs ys b e; cases xs <;> cases ys <;> simp [eqCs] at e ⊢
  | cons k ks ih =>
    intro xs ys b e
    cases xs with
    | nil => simp [eqCs] at e
    | cons x xs =>
      cases ys with
      | nil => simp [eqCs] at e
      | cons y ys =>
        simp only [eqCs] at e
        split at e
        · rename_i hv
          have := ih hv
          simp [this]
        · cases e

inductive EqFs (P : Program) (T : Tab) (d : Nat) : Nat → List Field → List Nat → Prop where
  | nil (off : Nat) : EqFs P T d off [] []
  | cons {off : Nat} {f : Field} {fs : List Field} {i : TI} {ks ks' : List Nat} (hn : f.name ≠ "_") (ho : f.offset = off) (hi : T.info f.type = some i) (hs : i.size = ks.length) (hpos : 0 < ks.length) (ha : i.agg = false → ks.length = 1)
      (he : EqIn P d f.type i.agg ks) (t : EqFs P T d (off + ks.length) fs ks') : EqFs P T d off (f :: fs) (ks ++ ks')

theorem part_of {P : Program} {T : Tab} (hT : TabTy P T) {σ : Sg} {H : Im} {h : Heap} {w : World} (r : RelM σ H h w) {t : TypeId} {i : TI} (ht : T.info t = some i) {cs : List C} {a : Array Value} {off : Nat}
    (hl : off + i.size ≤ cs.length) (ha : i.agg = false → i.size = 1) (hc : Crels σ H cs a.toList) :
    ∃ rv, (part t a off).run P w = .ok rv w ∧ Xrel σ H (i.agg, (cs.drop off).take i.size) rv := by
  cases hg : i.agg with
  | true =>
    obtain ⟨rv, h1, h2⟩ := part_ok hT r (ρ := fun _ => none) (ρr := fun _ => undef) (by intro x dv e; cases e) ht (cs := cs) (a := a) (off := off) (dv := .val true ((cs.drop off).take i.size)) (by simp [mkVal, hg]) hc
    exact ⟨rv, h1, h2⟩
  | false =>
    have h1 := ha hg
    obtain ⟨c, hcs⟩ : ∃ c, (cs.drop off).take i.size = [c] := by
      have hlen : ((cs.drop off).take i.size).length = 1 := by simp; omega
      match hm : (cs.drop off).take i.size, hlen with
      | [c], _ => exact ⟨c, rfl⟩
    obtain ⟨rv, h1, h2⟩ := part_ok hT r (ρ := fun _ => none) (ρr := fun _ => undef) (by intro x dv e; cases e) ht (cs := cs) (a := a) (off := off) (dv := .one c) (by simp [mkVal, hg, hcs]) hc
    exact ⟨rv, h1, by rw [hcs]; exact h2⟩

theorem eqFs_ok {P : Program} {T : Tab} (hT : TabTy P T) {d : Nat} {σ : Sg} {H : Im} {h : Heap} {w : World} (r : RelM σ H h w) {xs ys : List C} {X Y : Array Value} (hx : Crels σ H xs X.toList) (hy : Crels σ H ys Y.toList)
    {off : Nat} {fs : List Field} {ks : List Nat} (hf : EqFs P T d off fs ks) : ∀ {b : Bool}, eqCs ks (xs.drop off) (ys.drop off) = some b → (Op.eqFields d X Y fs).run P w = .ok b w := by
  induction hf with
  | nil off =>
    intro b e
    generalize xs.drop off = u at e
    generalize ys.drop off = v at e
    cases u <;> cases v <;> simp [eqCs] at e
    subst e
    simp [Op.eqFields]
  | cons hn ho hi hs hpos ha he t ih =>
    rename_i off f fs i ks ks'
    intro b e
    have hlen := eqCs_len e
    obtain ⟨b1, b2, h1, h2, rfl⟩ := eqCs_append e
    rw [List.drop_drop, List.drop_drop] at h2
    simp only [List.length_drop, List.length_append] at hlen
    have hsz : i.agg = false → i.size = 1 := fun h => by rw [hs]; exact ha h
    obtain ⟨rx, px, vx⟩ := part_of hT r hi (cs := xs) (off := off) (by omega) hsz hx
    obtain ⟨ry, py, vy⟩ := part_of hT r hi (cs := ys) (off := off) (by omega) hsz hy
    rw [hs] at vx vy
    have hq := he σ H h w _ _ rx ry b1 r h1 vx vy
    simp only [Op.eqFields, ho, px, py, hq, hn, ne_eq, not_false_eq_true, if_true, Sem.run_bind, Result.andThen_ok]
    cases b1 with
    | false => simp
    | true => simpa using ih h2

theorem EqIn.struct {P : Program} {T : Tab} (hT : TabTy P T) {d : Nat} {t : TypeId} {ks : List Nat} (ht : P.underlying t = some (.struct (P.fieldsOf t))) (hp : P.stoodInHeld t = false)
    (hf : EqFs P T d 0 (P.fieldsOf t).toList ks) : EqIn P (d + 1) t true ks := by
  intro σ H h w xs ys x y b r e hx hy
  simp only [Xrel, if_true] at hx hy
  obtain ⟨X, rfl, hx⟩ := hx
  obtain ⟨Y, rfl, hy⟩ := hy
  rw [run_equalIn_struct w d t X Y ht hp]
  exact eqFs_ok hT r hx hy hf (by simpa using e)

theorem EqOk.agg {P : Program} {t : TypeId} {ks : List Nat} (hm : P.eqGuardType P.depth t = false) (he : EqIn P 10000 t true ks) : EqOk P t (0 :: ks) := by
  intro σ H h w xs ys x y b r e hx hy op xo yo hop
  have hq := he σ H h w xs ys x y b r e hx hy
  simp only [eqAgg, Xrel, if_true] at hx hy
  obtain ⟨X, rfl, _⟩ := hx
  obtain ⟨Y, rfl, _⟩ := hy
  rw [Sem.run_bind, run_eqGuard_agg w op t xo yo X Y hm, Result.andThen_ok]
  rcases hop with rfl | rfl
  · rw [run_eql_struct, hq]; simp
  · rw [run_neq_struct, hq]; simp
theorem EqOk.one {P : Program} {t : TypeId} {k : Nat} (hk : KindOk P t k) (h15 : k = 1 ∨ k = 5) : EqOk P t [k] := by
  have hag : eqAgg [k] = false := by rcases h15 with rfl | rfl <;> rfl
  have hks : eqKs [k] = [k] := by rcases h15 with rfl | rfl <;> rfl
  intro σ H h w xs ys x y b r e hx hy op xo yo hop
  rw [hag] at hx hy
  rw [hks] at e
  have hq := EqIn.one hk 9999 σ H h w xs ys x y b r e hx hy
  simp only [Xrel, Bool.false_eq_true, if_false] at hx hy
  obtain ⟨c, rfl, hc⟩ := hx
  obtain ⟨c', rfl, hc'⟩ := hy
  have hkind : (∃ p, x = .bool p) ∨ ∃ p, x = .pointer p := by
    simp only [eqCs] at e
    split at e
    · rename_i u v hu hv
      rcases h15 with rfl | rfl
      · unfold eqC at hu
        split at hu <;> (try contradiction) <;> (cases hc; exact .inl ⟨_, rfl⟩)
      · unfold eqC at hu
        split at hu <;> first | contradiction | (cases hc; exact .inr ⟨_, rfl⟩) | (obtain ⟨_, _, rfl⟩ := hc; exact .inr ⟨_, rfl⟩)
    · cases e
  rcases hkind with ⟨p, rfl⟩ | ⟨p, rfl⟩
  · rcases hop with rfl | rfl
    · simp [eqGuard, binOp, Op.equal, Op.maxDepth, hq]
    · simp [eqGuard, binOp, Op.equal, Op.maxDepth, hq]
  · rcases hop with rfl | rfl
    · simp [eqGuard, binOp, Op.equal, Op.maxDepth, hq]
    · simp [eqGuard, binOp, Op.equal, Op.maxDepth, hq]
end Go.Idl
