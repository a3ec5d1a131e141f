/- Part of a proof that the laws of this seat return true: a machine over plain data (Idl) that is sound for the given model, and its runs. Conditions: none. -/
import Derived.Test.YtemfbebfodagpaaRopeS3
set_option linter.all false
set_option linter.all false
set_option maxRecDepth 100000
namespace Go.Proofs.TryI
open Go Go.Idl Go.Proofs

/-! rope.Of -/
def ofN : Nat → List It → RT
  | 0, _ => .nil
  | f + 1, l => match l[l.length / 2]? with
    | some x => .node (ofN f (l.take (l.length / 2))) x.key x.m.1 x.m.2 (ofN f (l.drop (l.length / 2 + 1)))
    | none => .nil
def ofT (l : List It) : RT := ofN l.length l
theorem mid (l : List It) (h : l ≠ []) : ∃ x, l[l.length / 2]? = some x ∧ l.take (l.length / 2) ++ x :: l.drop (l.length / 2 + 1) = l := by
  have hlen : 0 < l.length := List.length_pos_iff.2 h
  have hm : l.length / 2 < l.length := by omega
  refine ⟨l[l.length / 2], by simp [hm], ?_⟩
  rw [List.getElem_cons_drop]
  exact List.take_append_drop _ _
theorem ofN_items : ∀ (f : Nat) (l : List It), l.length ≤ f → (ofN f l).items = l := by
  intro f
  induction f with
  | zero => intro l h; have : l = [] := List.length_eq_zero_iff.1 (by omega); subst this; rfl
  | succ f ih =>
    intro l h
    by_cases h0 : l = []
    · subst h0; rfl
    · obtain ⟨x, h1, h2⟩ := mid l h0
      have hlen : 0 < l.length := List.length_pos_iff.2 h0
      simp only [ofN, h1, RT.items]
      rw [ih _ (by rw [List.length_take]; omega), ih _ (by rw [List.length_drop]; omega)]
      exact h2
theorem ofT_items (l : List It) : (ofT l).items = l := ofN_items _ l (Nat.le_refl _)
theorem of_spec : ∀ (f : Nat) (l : List It), l.length ≤ f → Small l → callω T 8 [.val false [.d (.slice 2 (eIts l))]] [] = some (vR (ofN f l), []) := by
  intro f
  induction f with
  | zero =>
    intro l h o
    have : l = [] := List.length_eq_zero_iff.1 (by omega)
    subst this
    refine byK (fn := Try.f8) (by kernel_rfl) (by kernel_rfl) ?_
    rw [r8]
    rfl
  | succ f ih =>
    intro l h o
    refine byK (fn := Try.f8) (by kernel_rfl) (by kernel_rfl) ?_
    rw [r8]
    unfold g8
    by_cases h0 : l = []
    · subst h0; rfl
    · obtain ⟨x, h1, h2⟩ := mid l h0
      have hlen : 0 < l.length := List.length_pos_iff.2 h0
      have o1 := o.1
      have e0 : (((eIts l).length : Int) == 0) = false := by
        have : ¬ ((l.length : Int) = 0) := by omega
        simp [this]
        intro h; subst h; simp at hlen
      have e1 : IntKind.wrap .i64 (Int.tdiv ((eIts l).length : Int) 2) = ((l.length / 2 : Nat) : Int) := by
        have : Int.tdiv ((eIts l).length : Int) 2 = ((l.length / 2 : Nat) : Int) := by
          rw [List.length_map]
          rfl
        rw [this, wrap64 (by omega) (by omega)]
      have e2 : IntKind.wrap .i64 (((l.length / 2 : Nat) : Int) + 1) = ((l.length / 2 + 1 : Nat) : Int) := by
        rw [wrap64 (by omega) (by omega)]; rfl
      have hx : (eIts l)[l.length / 2]? = some (eIt x) := by simp [h1]
      have s1 : Small (l.take (l.length / 2)) := o.take _
      have s2 : Small (l.drop (l.length / 2 + 1)) := o.drop _
      have ha := ih (l.take (l.length / 2)) (by rw [List.length_take]; omega) s1
      have hb := ih (l.drop (l.length / 2 + 1)) (by rw [List.length_drop]; omega) s2
      have ca (F : Fr) (kk : _ → Option (DV × Heap)) := fx_call (R := DV × Heap) (F := F) (s := ⟨[(true, [.d .any])], []⟩) (k := kk) (((enc (ofN f (l.take (l.length / 2))), ()), ()), ()) ha rfl
      have cb (F : Fr) (kk : _ → Option (DV × Heap)) := fx_call (R := DV × Heap) (F := F) (s := ⟨[(true, [.d .any])], []⟩) (k := kk) (((enc (ofN f (l.drop (l.length / 2 + 1))), ()), ()), ()) hb rfl
      have t1 : List.drop 0 (List.take (Int.toNat ((l.length / 2 : Nat) : Int)) (eIts l)) = eIts (l.take (l.length / 2)) := by
        rw [Int.toNat_natCast, List.drop_zero]; simp only [eIts, List.map_take]
      have t2 : List.drop (Int.toNat ((l.length / 2 + 1 : Nat) : Int)) (List.take (Int.toNat ((eIts l).length : Int)) (eIts l)) = eIts (l.drop (l.length / 2 + 1)) := by
        rw [Int.toNat_natCast, Int.toNat_natCast, List.take_length]; simp only [eIts, List.map_drop]
      have k1 : (true && (decide (0 ≤ ((l.length / 2 : Nat) : Int)) && decide (((l.length / 2 : Nat) : Int) ≤ ((eIts l).length : Int)))) = true := by
        rw [List.length_map]
        simp
        omega
      have k2 : (decide (0 ≤ ((l.length / 2 + 1 : Nat) : Int)) && (decide (((l.length / 2 + 1 : Nat) : Int) ≤ ((eIts l).length : Int)) && decide (((eIts l).length : Int) ≤ ((eIts l).length : Int)))) = true := by
        rw [List.length_map]
        simp
        omega
      have ht : (RT.node (ofN f (l.take (l.length / 2))) x.key x.m.1 x.m.2 (ofN f (l.drop (l.length / 2 + 1)))).Ok := by
        rw [ok_iff]
        simp only [RT.items]
        rw [ofN_items _ _ (by rw [List.length_take]; omega), ofN_items _ _ (by rw [List.length_drop]; omega)]
        rw [show (⟨x.key, (x.m.1, x.m.2)⟩ : It) = x from rfl, h2]
        exact o
      simp only [e0, cond_false, fx_chk, e1, e2, k1, k2, cond_true, t1, t2, ca, cb]
      simp only [fx_elp, Int.natCast_nonneg, if_true, Int.toNat_natCast, hx]
      simp only [fx_ptr, eIt, cp, ld_item]
      rw [c24 _ x.key x.m.1 x.m.2 _ ht]
      simp only [ofN, h1]
section
variable {R : Type} {F : Fr}
theorem c8 (l : List It) (o : Small l) (k : _ → Option R) : (fxR T F).call 8 [.val false [.d (.slice 2 (eIts l))]] [] ⟨[(true, [.d .any])], []⟩ k = k (((enc (ofT l), ()), ()), ()) :=
  fx_call (s := ⟨[(true, [.d .any])], []⟩) (((enc (ofT l), ()), ()), ()) (of_spec _ l (Nat.le_refl _) o) rfl
end

/-! rope.Join -/
def eR (t : RT) : List D := [enc t]
abbrev eRs (l : List RT) : List (List D) := l.map eR
def allI : List RT → List It
  | [] => []
  | t :: l => t.items ++ allI l
def joinL (acc : RT) : List RT → RT
  | [] => acc
  | t :: l => joinL (joinT acc t) l
theorem joinL_items : ∀ (l : List RT) (acc : RT), (joinL acc l).items = acc.items ++ allI l := by
  intro l
  induction l with
  | nil => intro acc; simp [joinL, allI]
  | cons t l ih => intro acc; simp [joinL, allI, ih, (joinT_sums acc t).2.2.2]
theorem join_loop {x : DV × Heap} {kk : Ex → St → Option (DV × Heap)} (l1 : List (List D)) (d5 : D) : ∀ (l pre : List RT) (acc : RT), Small (acc.items ++ allI l) → pre.length + l.length < 2 ^ 40 →
    (∀ i b, kk (.exit 0) (sx11_0_0 l1 (eRs (pre ++ l)) (pre ++ l).length i b d5 (enc (joinL acc l))) = some x) →
    lpk T (frOf T 11 Try.f11 0) 0 [0, 2, 3, 6, 7, 8] (bodyAt 0 0 (bodyOf Try.f11)) (st11_0 l1 (eRs (pre ++ l)) (pre ++ l).length pre.length d5 (enc acc)) kk = some x := by
  intro l
  induction l with
  | nil =>
    intro pre acc o hl hk
    refine lpk_go kx ?_
    rw [rl11_0]
    simpa [gl11_0, joinL] using hk pre.length (decide ((pre.length : Int) < pre.length))
  | cons t l ih =>
    intro pre acc o hl hk
    simp only [List.length_cons] at hl
    refine lpk_go kx ?_
    rw [rl11_0]
    have e3 : IntKind.wrap .i64 ((pre.length : Int) + 1) = ((pre.length + 1 : Nat) : Int) := by rw [wrap64 (by omega) (by omega)]; rfl
    have e4 : decide ((pre.length : Int) < ((pre ++ t :: l).length : Int)) = true := by
      apply decide_eq_true
      rw [List.length_append, List.length_cons]
      omega
    have hx : (eRs (pre ++ t :: l))[pre.length]? = some (eR t) := by simp
    have hs := joinT_sums acc t
    have o1 : Small (acc.items ++ t.items) := by
      simp only [allI] at o
      rw [← List.append_assoc] at o
      exact o.left
    have o2 : acc.n + t.n < 1099511627776 ∧ acc.wa + t.wa < 1099511627776 ∧ acc.wb + t.wb < 1099511627776 := by
      obtain ⟨q1, q2, q3⟩ := o1
      rw [List.length_append] at q1
      rw [sA_append] at q2
      rw [sB_append] at q3
      rw [acc.n_items, t.n_items, acc.wa_items, t.wa_items, acc.wb_items, t.wb_items]
      exact ⟨q1, q2, q3⟩
    have := ih (pre ++ [t]) (joinT acc t) (by rw [hs.2.2.2, List.append_assoc]; exact o) (by simp; omega) (by intro i b; simpa [joinL] using hk i b)
    simp only [gl11_0, e4, cond_true, fx_elp, Int.natCast_nonneg, if_true, Int.toNat_natCast, hx, fx_ptr, eR, ld_any, e3]
    rw [c26 acc t o2.1 o2.2.1 o2.2.2]
    simpa using this
theorem joinM_spec (l : List RT) (o : Small (allI l)) (hl : l.length < 1099511627776) : callω T 11 [.val false [.d (.slice 1 (eRs l))]] [] = some (vR (joinL .nil l), []) := by
  refine byK (fn := Try.f11) (by kernel_rfl) (by kernel_rfl) ?_
  rw [r11]
  unfold g11
  rw [fx_lp]
  have h := join_loop (x := (vR (joinL .nil l), [])) (kk := contAt T kt (fxR T (frOf T 11 Try.f11 0)) (frOf T 11 Try.f11 0) 0 0 (bodyOf Try.f11) (endK T 11 Try.f11 0)) (eRs l) (enc .nil) l [] .nil (by simpa [RT.items] using o) (by simpa using hl) (by
    intro i b
    rw [ra11_0_0]
    rfl)
  simpa [enc] using h
section
variable {R : Type} {F : Fr}
theorem c11 (l : List RT) (o : Small (allI l)) (hl : l.length < 1099511627776) (k : _ → Option R) : (fxR T F).call 11 [.val false [.d (.slice 1 (eRs l))]] [] ⟨[(true, [.d .any])], []⟩ k = k (((enc (joinL .nil l), ()), ()), ()) :=
  fx_call (s := ⟨[(true, [.d .any])], []⟩) (((enc (joinL .nil l), ()), ()), ()) (joinM_spec l o hl) rfl
end

/-! Same, of the same -/
theorem floatEq_self {a : Nat} (h : a < 9007199254740992) : floatEqB .f64 (FN a) (FN a) = true := by
  show (Ieee.double.order (FN a) (FN a) == some .eq) = true
  rw [FN_cmp h h]
  have : compare a a = .eq := by simp [compare, compareOfLessAndEq]
  rw [this]
  rfl
theorem Small.get {l : List It} {x : It} (h : Small l) (hx : x ∈ l) : x.m.1 < 9007199254740992 ∧ x.m.2 < 9007199254740992 := by
  obtain ⟨p, q, rfl⟩ := List.append_of_mem hx
  have h2 := h.right
  have h3 := h2.2
  simp only [sA, sB] at h3
  omega
theorem same_loop {x : DV × Heap} {kk : Ex → St → Option (DV × Heap)} (l : List It) (o : Small l) (b6 : Bool) (hk : ∀ i b, kk (.exit 0) (sx16_0_1 (eIts l) (eIts l) false i b6 b) = some x) : ∀ (n : Nat), n ≤ l.length →
    lpk T (frOf T 16 Try.f16 0) 0 [0, 1, 4, 5, 10] (bodyAt 0 0 (bodyOf Try.f16)) (st16_0 (eIts l) (eIts l) false ((l.length - n : Nat) : Int) b6) kk = some x := by
  have o1 := o.1
  intro n
  induction n with
  | zero =>
    intro _
    refine lpk_go kx ?_
    rw [rl16_0]
    simpa [gl16_0] using hk l.length (decide ((l.length : Int) < l.length))
  | succ n ih =>
    intro hn
    refine lpk_go kx ?_
    rw [rl16_0]
    obtain ⟨y, hy⟩ : ∃ y, l[l.length - (n + 1)]? = some y := ⟨l[l.length - (n + 1)], by simp <;> omega⟩
    have hm := o.get (List.mem_of_getElem? hy)
    have hx : (eIts l)[l.length - (n + 1)]? = some (eIt y) := by simp [hy]
    have e3 : IntKind.wrap .i64 (((l.length - (n + 1) : Nat) : Int) + 1) = ((l.length - n : Nat) : Int) := by rw [wrap64 (by omega) (by omega)]; omega
    have e4 : decide (((l.length - (n + 1) : Nat) : Int) < ((eIts l).length : Int)) = true := by
      apply decide_eq_true
      rw [List.length_map]
      omega
    simp only [gl16_0, e4, cond_true, fx_elp, Int.natCast_nonneg, if_true, Int.toNat_natCast, hx, fx_ptr, eIt, cp, ld_item, floatEq_self hm.1, floatEq_self hm.2, beq_self_eq_true, Bool.and_self, Bool.not_true, cond_false, e3]
    exact ih (by omega)
theorem same_spec (l : List It) (o : Small l) : callω T 16 [.val false [.d (.slice 2 (eIts l))], .val false [.d (.slice 2 (eIts l))]] [] = some (.val false [.d (.bool true)], []) := by
  refine byK (fn := Try.f16) (by kernel_rfl) (by kernel_rfl) ?_
  rw [r16]
  unfold g16
  rw [bne_self_eq_false, cond_false, fx_lp]
  have h := same_loop (x := (.val false [.d (.bool true)], [])) (kk := contAt T kt (fxR T (frOf T 16 Try.f16 0)) (frOf T 16 Try.f16 0) 0 0 (bodyOf Try.f16) (endK T 16 Try.f16 0)) l o false (by
    intro i b
    rw [ra16_0_1]
    rfl) l.length (Nat.le_refl _)
  simpa using h
section
variable {R : Type} {F : Fr}
theorem c16 (l : List It) (o : Small l) (k : _ → Option R) : (fxR T F).call 16 [.val false [.d (.slice 2 (eIts l))], .val false [.d (.slice 2 (eIts l))]] [] ⟨[(false, [.d .bool])], []⟩ k = k (((true, ()), ()), ()) :=
  fx_call (s := ⟨[(false, [.d .bool])], []⟩) (((true, ()), ()), ()) (same_spec l o) rfl
theorem c3 (k : _ → Option R) : (fxR T F).call 3 [] [] ⟨[(false, [.d .bool])], []⟩ k = k (((true, ()), ()), ()) :=
  fx_call (s := ⟨[(false, [.d .bool])], []⟩) (((true, ()), ()), ()) (callω_iff.2 ⟨400, runs⟩) rfl
end
end Go.Proofs.TryI
