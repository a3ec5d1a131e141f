/- Part of a proof that the laws of this seat return true: a machine over plain data (Idl) that is sound for the given model, and its runs. Conditions: none. -/
import Derived.Test.YtemfbebfodagpaaRopeS4
set_option linter.all false
set_option linter.all false
set_option maxRecDepth 100000
namespace Go.Proofs.TryI
open Go Go.Idl Go.Proofs

/-! At -/
def atT : RT → Int → It
  | .nil, _ => ⟨0, (0, 0)⟩
  | .node l k a b r, i => if i = l.n then ⟨k, (a, b)⟩ else if i > l.n then atT r (i - l.n - 1) else atT l i
theorem atT_items : ∀ (t : RT) (i : Int), 0 ≤ i → i < t.n → t.items[i.toNat]? = some (atT t i) := by
  intro t
  induction t with
  | nil => intro i h0 h1; simp [RT.n] at h1; omega
  | node l k a b r ihl ihr =>
    intro i h0 h1
    have hl := l.n_items
    simp only [RT.n] at h1
    simp only [atT, RT.items]
    by_cases e1 : i = l.n
    · rw [if_pos e1, List.getElem?_append_right (by omega)]
      have : i.toNat - l.items.length = 0 := by omega
      rw [this]; rfl
    · rw [if_neg e1]
      by_cases e2 : i > l.n
      · rw [if_pos e2, List.getElem?_append_right (by omega)]
        have : i.toNat - l.items.length = (i - l.n - 1).toNat + 1 := by omega
        rw [this, List.getElem?_cons_succ]
        exact ihr _ (by omega) (by omega)
      · rw [if_neg e2, List.getElem?_append_left (by omega)]
        exact ihl _ h0 (by omega)
theorem at_loop {x : DV × Heap} {kk : Ex → St → Option (DV × Heap)} (d3 : D) (b5 b7 : Bool) (d8 : D) (i9 : Int) (n10 n11 : Nat) : ∀ (t : RT) (i : Int), t.Ok → 0 ≤ i → i < t.n →
    (∀ l k a b r i' b31, atT t i = ⟨k, (a, b)⟩ → kk (.exit 0) (sx21_0_0 d3 i' b5 (enc (.node l k a b r)) b7 b31 d8 i9 n10 n11) = some x) →
    lpk T (frOf T 21 Try.f21 0) 0 [0, 1, 2, 4, 5, 6, 15] (bodyAt 0 0 (bodyOf Try.f21)) (st21_0 d3 i b5 (enc t) b7 d8 i9 n10 n11) kk = some x := by
  intro t
  induction t with
  | nil => intro i o h0 h1; simp [RT.n] at h1; omega
  | node l k a b r ihl ihr =>
    intro i o h0 h1 hk
    refine lpk_go kx ?_
    rw [rl21_0]
    have on := o.1
    simp only [RT.n] at h1 on
    simp only [gl21_0, p_node, nn_node, fx_ptr, List.drop_zero, List.drop_succ_cons, ld_any, c29]
    by_cases e1 : i = l.n
    · have d1 : (i != (l.n : Int)) = false := by simp [e1]
      rw [d1, cond_false]
      exact hk l k a b r i false (by simp [atT, e1])
    · have d1 : (i != (l.n : Int)) = true := by simp [e1]
      rw [d1, cond_true]
      by_cases e2 : i > l.n
      · have hw : IntKind.wrap .i64 (IntKind.wrap .i64 (i - l.n) - 1) = i - l.n - 1 := by
          rw [wrap64 (n := i - l.n) (by omega) (by omega), wrap64 (by omega) (by omega)]
        rw [decide_eq_true e2, cond_true, hw]
        exact ihr (i - l.n - 1) o.right (by omega) (by omega) (fun l' k' a' b' r' i' b31 h => hk l' k' a' b' r' i' b31 (by simp only [atT]; rw [if_neg e1, if_pos e2]; exact h))
      · rw [decide_eq_false e2, cond_false]
        exact ihl i o.left h0 (by omega) (fun l' k' a' b' r' i' b31 h => hk l' k' a' b' r' i' b31 (by simp only [atT]; rw [if_neg e1, if_neg e2]; exact h))
theorem at_in (t : RT) (i : Int) (o : t.Ok) (h0 : 0 ≤ i) (h1 : i < t.n) : callω T 21 [vR t, vI i] [] = some (.tup [(true, [.d (.int .i64 (atT t i).key), .d (.cpx .f64 (FN (atT t i).m.1) (FN (atT t i).m.2))]), (false, [.d (.bool true)])], []) := by
  refine byK (fn := Try.f21) (by kernel_rfl) (by kernel_rfl) ?_
  rw [r21]
  unfold g21
  rw [decide_eq_false (by omega), cond_false, c14]
  simp only
  have hd : decide (i ≥ (t.n : Int)) = false := decide_eq_false (by omega)
  rw [hd, cond_false, fx_lp]
  have h := at_loop (x := (.tup [(true, [.d (.int .i64 (atT t i).key), .d (.cpx .f64 (FN (atT t i).m.1) (FN (atT t i).m.2))]), (false, [.d (.bool true)])], [])) (kk := contAt T kt (fxR T (frOf T 21 Try.f21 0)) (frOf T 21 Try.f21 0) 0 0 (bodyOf Try.f21) (endK T 21 Try.f21 0)) (enc t) false false (enc t) 0 0 0 t i o h0 h1 (by
    intro l k a b r i' b31 e
    rw [ra21_0_0]
    unfold ga21_0_0
    simp only [p_node, nn_node, fx_ptr, List.drop_zero, List.drop_succ_cons, ld_item]
    rw [e])
  exact h
theorem at_out (t : RT) (i : Int) (h : i < 0 ∨ i ≥ t.n) : callω T 21 [vR t, vI i] [] = some (.tup [(true, [.d (.int .i64 0), .d (.cpx .f64 0 0)]), (false, [.d (.bool false)])], []) := by
  refine byK (fn := Try.f21) (by kernel_rfl) (by kernel_rfl) ?_
  rw [r21]
  unfold g21
  by_cases h0 : i < 0
  · rw [decide_eq_true h0, cond_true]
  · rw [decide_eq_false h0, cond_false, c14]
    simp only
    have hd : decide (i ≥ (t.n : Int)) = true := decide_eq_true (by omega)
    rw [hd, cond_true]
section
variable {R : Type} {F : Fr}
theorem c21in (t : RT) (i : Int) (o : t.Ok) (h0 : 0 ≤ i) (h1 : i < t.n) (k : _ → Option R) : (fxR T F).call 21 [vR t, vI i] [] ⟨[(true, [.d (.int .i64), .d .cpx]), (false, [.d .bool])], []⟩ k = k ((((atT t i).key, ((FN (atT t i).m.1, FN (atT t i).m.2), ())), ((true, ()), ())), ()) :=
  fx_call (s := ⟨[(true, [.d (.int .i64), .d .cpx]), (false, [.d .bool])], []⟩) ((((atT t i).key, ((FN (atT t i).m.1, FN (atT t i).m.2), ())), ((true, ()), ())), ()) (at_in t i o h0 h1) rfl
theorem c21out (t : RT) (i : Int) (h : i < 0 ∨ i ≥ t.n) (k : _ → Option R) : (fxR T F).call 21 [vR t, vI i] [] ⟨[(true, [.d (.int .i64), .d .cpx]), (false, [.d .bool])], []⟩ k = k ((((0 : Int), (((0 : Nat), (0 : Nat)), ())), ((false, ()), ())), ()) :=
  fx_call (s := ⟨[(true, [.d (.int .i64), .d .cpx]), (false, [.d .bool])], []⟩) ((((0 : Int), (((0 : Nat), (0 : Nat)), ())), ((false, ()), ())), ()) (at_out t i h) rfl
end

/-! Line -/
def lineF : List It → Int → Nat → Nat → Nat → Nat × Nat × Nat
  | [], _, at_, a, b => (at_, a, b)
  | x :: l, k, at_, a, b => if ((a + x.m.1 : Nat) : Int) > k then (at_, a, b) else lineF l k (at_ + 1) (a + x.m.1) (b + x.m.2)
theorem lineF_app1 : ∀ (l m : List It) (k : Int) (p a b : Nat), ((a + sA l : Nat) : Int) > k → l ≠ [] → lineF (l ++ m) k p a b = lineF l k p a b := by
  intro l
  induction l with
  | nil => intro m k p a b _ h; exact absurd rfl h
  | cons x l ih =>
    intro m k p a b h _
    have hs : sA (x :: l) = x.m.1 + sA l := rfl
    simp only [List.cons_append, lineF]
    by_cases h1 : ((a + x.m.1 : Nat) : Int) > k
    · rw [if_pos h1, if_pos h1]
    · rw [if_neg h1, if_neg h1]
      refine ih _ _ _ _ _ (by omega) ?_
      rintro rfl
      have : sA [] = 0 := rfl
      omega
theorem lineF_app2 : ∀ (l m : List It) (k : Int) (p a b : Nat), (¬ ((a + sA l : Nat) : Int) > k ∨ l = []) → lineF (l ++ m) k p a b = lineF m k (p + l.length) (a + sA l) (b + sB l) := by
  intro l
  induction l with
  | nil => intro m k p a b _; simp [sA, sB]
  | cons x l ih =>
    intro m k p a b h
    have hs : sA (x :: l) = x.m.1 + sA l := rfl
    have hs2 : sB (x :: l) = x.m.2 + sB l := rfl
    have h : ¬ ((a + sA (x :: l) : Nat) : Int) > k := by
      rcases h with h | h
      · exact h
      · cases h
    have h1 : ¬ ((a + x.m.1 : Nat) : Int) > k := by omega
    simp only [List.cons_append, lineF]
    rw [if_neg h1, ih _ _ _ _ _ (.inl (by omega)), hs, hs2, List.length_cons]
    congr 1 <;> omega
theorem sumM2 (a b c d : Nat) : sumM [(a, b), (c, d)] = (a + c, b + d) := by simp [sumM]
section
variable {R : Type} {F : Fr}
theorem c18b (a b c d : Nat) (h1 : a + c < 9007199254740992) (h2 : b + d < 9007199254740992) (k : _ → Option R) : (fxR T F).call 18 [.val false [.d (.slice 1 [[.cpx .f64 (FN a) (FN b)], [.cpx .f64 (FN c) (FN d)]])]] [] ⟨[(false, [.d .cpx])], []⟩ k = k ((((FN (a + c), FN (b + d)), ()), ()), ()) := by
  have h := c18 (R := R) (F := F) [(a, b), (c, d)] (by rw [sumM2]; exact h1) (by rw [sumM2]; exact h2) (by simp) k
  simpa [sumM2, eM, cp] using h
end
theorem line_loop {x : DV × Heap} {kk : Ex → St → Option (DV × Heap)} (d2 : D) (n : Int) (i4 : Int) (n5 n6 : Nat) (d11 : D) : ∀ (t : RT) (p a b : Nat), a + t.wa < 1099511627776 → b + t.wb < 1099511627776 → p + t.n < 1099511627776 →
    (∀ d bb, kk (.exit 0) (sx13_0_0 d2 n i4 n5 n6 (lineF t.items n p a b).1 (FN (lineF t.items n p a b).2.1) (FN (lineF t.items n p a b).2.2) d bb d11) = some x) →
    (∀ i73 n74 n75 d76 n77 n78 n79 n80 b81 b82 b83 l85 l86, kk .ret (sx13_0_1 d2 n (lineF t.items n p a b).1 (FN (lineF t.items n p a b).2.1) (FN (lineF t.items n p a b).2.2) i73 n74 n75 d76 n77 n78 n79 n80 b81 b82 b83 d11 l85 l86) = some x) →
    lpk T (frOf T 13 Try.f13 0) 0 [0, 1, 2, 4, 5, 6, 7, 8] (bodyAt 0 0 (bodyOf Try.f13)) (st13_0 d2 n i4 n5 n6 p (FN a) (FN b) (enc t) d11) kk = some x := by
  intro t
  induction t with
  | nil =>
    intro p a b _ _ _ h0 h1
    refine lpk_go kx ?_
    rw [rl13_0]
    unfold gl13_0
    rw [isnil_nil]
    exact h0 (enc .nil) false
  | node l k ma mb r ihl ihr =>
    intro p a b ha hb hp h0 h1
    refine lpk_go kx ?_
    rw [rl13_0]
    simp only [RT.wa] at ha
    simp only [RT.wb] at hb
    simp only [RT.n] at hp
    have hll := l.n_items
    have hla := l.wa_items
    have hlb := l.wb_items
    have hitems : (RT.node l k ma mb r).items = l.items ++ ⟨k, (ma, mb)⟩ :: r.items := rfl
    have e1 : IntKind.wrap .i64 ((p : Int) + l.n) = ((p + l.n : Nat) : Int) := by rw [wrap64 (by omega) (by omega)]; omega
    have e2 : IntKind.wrap .i64 (((p + l.n : Nat) : Int) + 1) = ((p + l.n + 1 : Nat) : Int) := by rw [wrap64 (by omega) (by omega)]; omega
    rw [hitems] at h0 h1
    simp only [gl13_0, isnil_node, p_node, nn_node, fx_ptr, List.drop_zero, List.drop_succ_cons, ld_any, ld_item, ld_cpx, c28]
    rw [c18b a b l.wa l.wb (by omega) (by omega)]
    simp only
    rw [c18b (a + l.wa) (b + l.wb) ma mb (by omega) (by omega)]
    simp only
    have hleft : ((a + l.wa : Nat) : Int) > n → l ≠ .nil → lineF (l.items ++ ⟨k, (ma, mb)⟩ :: r.items) n p a b = lineF l.items n p a b := by
      intro h2 h3
      refine lineF_app1 _ _ _ _ _ _ (by omega) ?_
      cases l with
      | nil => exact absurd rfl h3
      | node l' k' a' b' r' => simp [RT.items]
    have hright : (l = .nil ∨ ¬ ((a + l.wa : Nat) : Int) > n) → lineF (l.items ++ ⟨k, (ma, mb)⟩ :: r.items) n p a b = if ((a + l.wa + ma : Nat) : Int) > n then (p + l.n, a + l.wa, b + l.wb) else lineF r.items n (p + l.n + 1) (a + l.wa + ma) (b + l.wb + mb) := by
      intro h2
      rw [lineF_app2]
      · simp only [lineF]
        rw [← hll, ← hla, ← hlb]
      · rcases h2 with rfl | h2
        · exact .inr rfl
        · exact .inl (by omega)
    have own (hr : l = .nil ∨ ¬ ((a + l.wa : Nat) : Int) > n) : ∀ (m1 m2 : Option (DV × Heap)), (((a + l.wa + ma : Nat) : Int) > n → m1 = some x) → (¬ ((a + l.wa + ma : Nat) : Int) > n → m2 = some x) → cond (decide (((a + l.wa + ma : Nat) : Int) > n)) m1 m2 = some x := by
      intro m1 m2 g1 g2
      by_cases hc : ((a + l.wa + ma : Nat) : Int) > n
      · rw [decide_eq_true hc, cond_true]; exact g1 hc
      · rw [decide_eq_false hc, cond_false]; exact g2 hc
    cases hl : l with
    | nil =>
      subst hl
      have hr := hright (.inl rfl)
      rw [hr] at h0 h1
      simp only [isnil_nil]
      rw [c22 _ _ (by omega)]
      simp only [c29]
      refine own (.inl rfl) _ _ ?_ ?_
      · intro hc
        rw [if_pos hc] at h1
        rw [e1]
        exact h1 _ _ _ _ _ _ _ _ _ _ _ _ _
      · intro hc
        rw [if_neg hc] at h0 h1
        rw [e1, e2]
        exact ihr _ _ _ (by omega) (by omega) (by omega) h0 h1
    | node l' k' a' b' r' =>
      rw [← hl]
      have hne : l ≠ .nil := by rw [hl]; simp
      have hnil : ∀ (q q' : Option (DV × Heap)), (fxR T (frOf T 13 Try.f13 0)).isnil (enc l) q q' = q' := by rw [hl]; intro q q'; rfl
      simp only [hnil]
      rw [c22 _ _ (by omega)]
      simp only [c29]
      by_cases hc0 : ((a + l.wa : Nat) : Int) > n
      · rw [decide_eq_true hc0, cond_true]
        rw [hleft hc0 hne] at h0 h1
        exact ihl p a b (by omega) (by omega) (by omega) h0 h1
      · rw [decide_eq_false hc0, cond_false]
        have hr := hright (.inr hc0)
        rw [hr] at h0 h1
        rw [c22 _ _ (by omega)]
        simp only [c29]
        refine own (.inr hc0) _ _ ?_ ?_
        · intro hc
          rw [if_pos hc] at h1
          rw [e1]
          exact h1 _ _ _ _ _ _ _ _ _ _ _ _ _
        · intro hc
          rw [if_neg hc] at h0 h1
          rw [e1, e2]
          exact ihr _ _ _ (by omega) (by omega) (by omega) h0 h1
theorem line_spec (t : RT) (n : Int) (o : t.Ok) : callω T 13 [vR t, vI n] [] = some (.tup [(false, [.d (.int .i64 (lineF t.items n 0 0 0).1)]), (false, [.d (.cpx .f64 (FN (lineF t.items n 0 0 0).2.1) (FN (lineF t.items n 0 0 0).2.2))])], []) := by
  refine byK (fn := Try.f13) (by kernel_rfl) (by kernel_rfl) ?_
  rw [r13]
  unfold g13
  rw [fx_lp]
  obtain ⟨o1, o2, o3⟩ := o
  have h := line_loop (x := (.tup [(false, [.d (.int .i64 (lineF t.items n 0 0 0).1)]), (false, [.d (.cpx .f64 (FN (lineF t.items n 0 0 0).2.1) (FN (lineF t.items n 0 0 0).2.2))])], [])) (kk := contAt T kt (fxR T (frOf T 13 Try.f13 0)) (frOf T 13 Try.f13 0) 0 0 (bodyOf Try.f13) (endK T 13 Try.f13 0)) (enc t) n 0 0 0 (enc t) t 0 0 0 (by omega) (by omega) (by omega) (by intros; rw [ra13_0_0]; rfl) (by intros; rw [ra13_0_1]; rfl)
  rw [FN_zero] at h
  exact h
section
variable {R : Type} {F : Fr}
theorem c13 (t : RT) (n : Int) (o : t.Ok) (k : _ → Option R) : (fxR T F).call 13 [vR t, vI n] [] ⟨[(false, [.d (.int .i64)]), (false, [.d .cpx])], []⟩ k = k (((((lineF t.items n 0 0 0).1 : Int), ()), (((FN (lineF t.items n 0 0 0).2.1, FN (lineF t.items n 0 0 0).2.2), ()), ())), ()) :=
  fx_call (s := ⟨[(false, [.d (.int .i64)]), (false, [.d .cpx])], []⟩) (((((lineF t.items n 0 0 0).1 : Int), ()), (((FN (lineF t.items n 0 0 0).2.1, FN (lineF t.items n 0 0 0).2.2), ()), ())), ()) (line_spec t n o) rfl
end
end Go.Proofs.TryI
