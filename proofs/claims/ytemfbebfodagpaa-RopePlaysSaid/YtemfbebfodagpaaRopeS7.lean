/- Part of a proof that the laws of this seat return true: a machine over plain data (Idl) that is sound for the given model, and its runs. Conditions: none. -/
import Derived.Test.YtemfbebfodagpaaRopeS6
set_option linter.all false
set_option linter.all false
set_option maxRecDepth 100000
namespace Go.Proofs.TryI
open Go Go.Idl Go.Proofs

theorem lineF_cases : ∀ (l : List It) (k : Int) (p a b : Nat), lineF l k p a b = (p + l.length, a + sA l, b + sB l) ∨ ((lineF l k p a b).1 < p + l.length ∧ (lineF l k p a b).2.1 ≤ a + sA l ∧ (lineF l k p a b).2.2 ≤ b + sB l) := by
  intro l
  induction l with
  | nil => intro k p a b; exact .inl (by simp [lineF, sA, sB])
  | cons x l ih =>
    intro k p a b
    have hs : sA (x :: l) = x.m.1 + sA l := rfl
    have hs2 : sB (x :: l) = x.m.2 + sB l := rfl
    simp only [lineF]
    split
    · exact .inr ⟨by simp, by simp, by simp⟩
    · rcases ih k (p + 1) (a + x.m.1) (b + x.m.2) with h | ⟨h1, h2, h3⟩
      · left
        rw [h, hs, hs2, List.length_cons]
        refine Prod.ext ?_ (Prod.ext ?_ ?_) <;> simp only <;> omega
      · right
        rw [List.length_cons]
        exact ⟨by omega, by omega, by omega⟩
theorem looks_found {x : DV × Heap} {kk : Ex → St → Option (DV × Heap)} (d4 : D) (its : List It) (n : Int) (b7 : Bool) (place pa pb : Nat) (k : Int) (d17 : D) (o : Small its) (hp : place < its.length) : ∀ (l pre : List It) (a b : Nat), its = pre ++ l → a = sA pre → b = sB pre →
    (∀ bb, kk (.exit 0) (sx20_0_0 d4 (eIts its) n b7 (FN (sA its)) (FN (sB its)) place (FN pa) (FN pb) k (eIts its) its.length its.length bb d17) = some x) →
    lpk T (frOf T 20 Try.f20 0) 0 [0, 1, 2, 3, 6, 7, 8, 9, 10, 25, 26, 27] (bodyAt 0 0 (bodyOf Try.f20)) (st20_0 d4 (eIts its) n b7 (FN a) (FN b) place (FN pa) (FN pb) k (eIts its) its.length pre.length d17) kk = some x := by
  intro l
  induction l with
  | nil =>
    intro pre a b e ha hb hk
    simp only [List.append_nil] at e
    subst e
    subst ha
    subst hb
    refine lpk_go kx ?_
    rw [rl20_0]
    have hd : decide ((its.length : Int) < its.length) = false := by simp
    have := hk (decide ((its.length : Int) < its.length))
    unfold gl20_0
    rw [hd, cond_false]
    rw [hd] at this
    exact this
  | cons y l ih =>
    intro pre a b e ha hb hk
    refine lpk_go kx ?_
    rw [rl20_0]
    obtain ⟨o1, o2, o3⟩ := o
    have hl : its.length = pre.length + (l.length + 1) := by rw [e]; simp
    have sa : sA its = sA pre + (y.m.1 + sA l) := by rw [e, sA_append]; rfl
    have sb : sB its = sB pre + (y.m.2 + sB l) := by rw [e, sB_append]; rfl
    have e4 : decide ((pre.length : Int) < (its.length : Int)) = true := decide_eq_true (by omega)
    have hx : (eIts its)[pre.length]? = some (eIt y) := by rw [e]; simp
    have e5 : ((place : Int) == ((eIts its).length : Int)) = false := by
      rw [List.length_map]
      have : ¬ ((place : Int) = (its.length : Int)) := by omega
      simp [this]
    have e3 : IntKind.wrap .i64 ((pre.length : Int) + 1) = (((pre ++ [y]).length : Nat) : Int) := by rw [wrap64 (by omega) (by omega)]; simp
    simp only [gl20_0, e4, cond_true, fx_elp, Int.natCast_nonneg, if_true, Int.toNat_natCast, hx, fx_ptr, eIt, cp, ld_item, e5, cond_false]
    rw [c18b a b y.m.1 y.m.2 (by omega) (by omega)]
    simp only [e3]
    exact ih (pre ++ [y]) (a + y.m.1) (b + y.m.2) (by rw [e]; simp) (by rw [sA_append, ha]; rfl) (by rw [sB_append, hb]; rfl) hk
theorem looks_open {x : DV × Heap} {kk : Ex → St → Option (DV × Heap)} (d4 : D) (its : List It) (n : Int) (b7 : Bool) (k : Int) (d17 : D) (o : Small its) : ∀ (l pre : List It) (a b : Nat), its = pre ++ l → a = sA pre → b = sB pre →
    (lineF l k pre.length a b = (its.length, sA its, sB its) → ∀ bb, kk (.exit 0) (sx20_0_0 d4 (eIts its) n b7 (FN (sA its)) (FN (sB its)) its.length (FN 0) (FN 0) k (eIts its) its.length its.length bb d17) = some x) →
    (∀ p u v, lineF l k pre.length a b = (p, u, v) → p < its.length → ∀ bb, kk (.exit 0) (sx20_0_0 d4 (eIts its) n b7 (FN (sA its)) (FN (sB its)) p (FN u) (FN v) k (eIts its) its.length its.length bb d17) = some x) →
    lpk T (frOf T 20 Try.f20 0) 0 [0, 1, 2, 3, 6, 7, 8, 9, 10, 25, 26, 27] (bodyAt 0 0 (bodyOf Try.f20)) (st20_0 d4 (eIts its) n b7 (FN a) (FN b) its.length (FN 0) (FN 0) k (eIts its) its.length pre.length d17) kk = some x := by
  intro l
  induction l with
  | nil =>
    intro pre a b e ha hb hk _
    simp only [List.append_nil] at e
    subst e
    subst ha
    subst hb
    refine lpk_go kx ?_
    rw [rl20_0]
    have hd : decide ((its.length : Int) < its.length) = false := by simp
    have := hk rfl (decide ((its.length : Int) < its.length))
    unfold gl20_0
    rw [hd, cond_false]
    rw [hd] at this
    exact this
  | cons y l ih =>
    intro pre a b e ha hb hN hF
    refine lpk_go kx ?_
    rw [rl20_0]
    obtain ⟨o1, o2, o3⟩ := o
    have hl : its.length = pre.length + (l.length + 1) := by rw [e]; simp
    have sa : sA its = sA pre + (y.m.1 + sA l) := by rw [e, sA_append]; rfl
    have sb : sB its = sB pre + (y.m.2 + sB l) := by rw [e, sB_append]; rfl
    have e4 : decide ((pre.length : Int) < (its.length : Int)) = true := decide_eq_true (by omega)
    have hx : (eIts its)[pre.length]? = some (eIt y) := by rw [e]; simp
    have e5 : ((its.length : Int) == ((eIts its).length : Int)) = true := by
      rw [List.length_map]; simp
    have e3 : IntKind.wrap .i64 ((pre.length : Int) + 1) = (((pre ++ [y]).length : Nat) : Int) := by rw [wrap64 (by omega) (by omega)]; simp
    have e6 : IntKind.wrap .i64 ((a : Int) + (y.m.1 : Int)) = ((a + y.m.1 : Nat) : Int) := by rw [wrap64 (by omega) (by omega)]; simp
    simp only [gl20_0, e4, cond_true, fx_elp, Int.natCast_nonneg, if_true, Int.toNat_natCast, hx, fx_ptr, eIt, cp, ld_item, e5]
    rw [c22 a _ (by omega)]
    simp only
    rw [c22 y.m.1 _ (by omega)]
    simp only [e6]
    by_cases hc : ((a + y.m.1 : Nat) : Int) > k
    · rw [decide_eq_true hc, cond_true]
      rw [c18b a b y.m.1 y.m.2 (by omega) (by omega)]
      simp only [e3]
      refine looks_found d4 its n b7 pre.length a b k d17 ⟨o1, o2, o3⟩ (by omega) l (pre ++ [y]) (a + y.m.1) (b + y.m.2) (by rw [e]; simp) (by rw [sA_append, ha]; rfl) (by rw [sB_append, hb]; rfl) ?_
      exact hF pre.length a b (by simp only [lineF]; rw [if_pos hc]) (by omega)
    · rw [decide_eq_false hc, cond_false]
      rw [c18b a b y.m.1 y.m.2 (by omega) (by omega)]
      simp only [e3]
      have el : lineF (y :: l) k pre.length a b = lineF l k (pre ++ [y]).length (a + y.m.1) (b + y.m.2) := by
        simp only [lineF]
        rw [if_neg hc]
        simp
      rw [el] at hN hF
      exact ih (pre ++ [y]) (a + y.m.1) (b + y.m.2) (by rw [e]; simp) (by rw [sA_append, ha]; rfl) (by rw [sB_append, hb]; rfl) hN hF
theorem looks_bits {x : DV × Heap} {kk : Ex → St → Option (DV × Heap)} (d46 : D) (l47 : List (List D)) (i48 : Int) (b49 : Bool) (n50 n51 : Nat) (i52 : Int) (n53 n54 : Nat) (i55 : Int) (l58 : List (List D)) (i59 i60 : Int) (b61 b62 : Bool) (d63 : D) : ∀ (m c : Nat), m < 1099511627776 → c + bitsN m < 1099511627776 →
    (∀ bb, kk (.exit 2) (sx20_1_0 d46 l47 i48 b49 n50 n51 i52 n53 n54 i55 ((c + bitsN m : Nat) : Int) 0 l58 i59 i60 b61 b62 bb d63) = some x) →
    lpk T (frOf T 20 Try.f20 0) 2 [0, 1, 2, 3, 6, 7, 8, 9, 10, 13, 14, 25, 26, 27, 28, 57] (bodyAt 2 0 (bodyOf Try.f20)) (st20_1 d46 l47 i48 b49 n50 n51 i52 n53 n54 i55 (c : Int) (m : Int) l58 i59 i60 b61 b62 d63) kk = some x := by
  intro m
  induction m using Nat.strongRecOn with
  | _ m ih =>
    intro c hm hc hk
    refine lpk_go kx ?_
    rw [rl20_1]
    unfold gl20_1
    by_cases h0 : m = 0
    · subst h0
      have hb : bitsN 0 = 0 := by rw [bitsN]; rfl
      rw [hb] at hk
      exact hk false
    · have hd : decide ((m : Int) > 0) = true := decide_eq_true (by omega)
      have hb : bitsN m = 1 + bitsN (m / 2) := by rw [bitsN.eq_def m, dif_neg h0]
      have e1 : IntKind.wrap .i64 ((c : Int) + 1) = ((c + 1 : Nat) : Int) := by rw [wrap64 (by omega) (by omega)]; simp
      have e2 : IntKind.wrap .i64 (Int.tdiv (m : Int) 2) = ((m / 2 : Nat) : Int) := by
        have : Int.tdiv (m : Int) 2 = ((m / 2 : Nat) : Int) := rfl
        rw [this, wrap64 (by omega) (by omega)]
      rw [hd, cond_true, fx_chk, cond_true, e1, e2]
      refine ih (m / 2) (by omega) (c + 1) (by omega) (by omega) ?_
      have : c + 1 + bitsN (m / 2) = c + bitsN m := by omega
      rw [this]
      exact hk
theorem looks_spec (t : RT) (n : Int) (o : t.Ok) (bal : t.Bal) (hn : t.n < 1000000) : callω T 20 [vR t, .val false [.d (.slice 2 (eIts t.items))], vI n] [] = some (.val false [.d (.bool true)], []) := by
  refine byK (fn := Try.f20) (by kernel_rfl) (by kernel_rfl) ?_
  rw [r20]
  unfold g20
  have hlen := t.n_items
  have hwa := t.wa_items
  have hwb := t.wb_items
  have so : Small t.items := (ok_iff t).1 o
  rw [c15 n (-1) 40 (by omega) (by omega) (by omega)]
  simp only [fx_lp]
  generalize win n (-1) 40 = k
  -- behind the first loop
  have fin : ∀ (p u v : Nat) (bb b2 : Bool), lineF t.items k 0 0 0 = (p, u, v) →
      lpk T (frOf T 20 Try.f20 0) 2 [0, 1, 2, 3, 6, 7, 8, 9, 10, 13, 14, 25, 26, 27, 28, 57] (bodyAt 2 0 (bodyOf Try.f20)) (st20_1 (enc t) (eIts t.items) n false (FN (sA t.items)) (FN (sB t.items)) p (FN u) (FN v) k ((0 : Nat) : Int) (t.items.length : Int) (eIts t.items) t.items.length t.items.length bb b2 (enc t))
        (contAt T kt (fxR T (frOf T 20 Try.f20 0)) (frOf T 20 Try.f20 0) 2 0 (bodyOf Try.f20) (endK T 20 Try.f20 0)) = some (.val false [.d (.bool true)], []) := by
    intro p u v bb b2 hF
    have hbl : bitsN t.items.length < 1099511627776 := by
      have h1 := bitsN_mono t.items.length (2 ^ 20) (by omega)
      have h2 : bitsN (2 ^ 20) < 100 := by decide +kernel
      omega
    refine looks_bits _ _ _ _ _ _ _ _ _ _ _ _ _ _ _ _ t.items.length 0 (by omega) (by omega) ?_
    intro b3
    rw [ra20_1_0]
    unfold ga20_1_0
    rw [c13 t k o, hF]
    simp only
    have hw1 : IntKind.wrap .i64 (((eIts t.items).length : Int) + 1) = ((t.n + 1 : Nat) : Int) := by
      rw [List.length_map, wrap64 (by omega) (by omega)]; omega
    rw [hw1, c15 n (-2) _ (by omega) (by omega) (by omega)]
    simp only
    have hwin := win_in n (-2) ((t.n + 1 : Nat) : Int) (by omega)
    generalize win n (-2) ((t.n + 1 : Nat) : Int) = i at hwin
    have huv : u < 9007199254740992 ∧ v < 9007199254740992 := by
      have h1 := so.2.1
      have h2 := so.2.2
      rcases lineF_cases t.items k 0 0 0 with h | ⟨_, h3, h4⟩
      · rw [hF] at h
        simp only [Prod.mk.injEq] at h
        omega
      · rw [hF] at h3 h4
        simp only at h3 h4
        omega
    have f1 := floatEq_self (a := t.wa) (by have := o.2.1; omega)
    have f2 := floatEq_self (a := t.wb) (by have := o.2.2; omega)
    have f3 := floatEq_self huv.1
    have f4 := floatEq_self huv.2
    have hlen2 : ((t.n : Int) == ((eIts t.items).length : Int)) = true := by rw [List.length_map, hlen]; simp
    have hpp : ((p : Int) == (p : Int)) = true := by simp
    have hh : decide ((t.h : Int) ≤ IntKind.wrap .i64 (2 * ((0 + bitsN t.items.length : Nat) : Int))) = true := by
      have := bal_height t bal
      rw [hlen] at this
      rw [wrap64 (by omega) (by omega)]
      exact decide_eq_true (by omega)
    have hh2 : decide ((t.h : Int) ≥ if false = true then if 1 > ((0 + bitsN t.items.length : Nat) : Int) then 1 else ((0 + bitsN t.items.length : Nat) : Int) else if 1 < ((0 + bitsN t.items.length : Nat) : Int) then 1 else ((0 + bitsN t.items.length : Nat) : Int)) = true := by
      rw [if_neg (by simp)]
      apply decide_eq_true
      cases t with
      | nil =>
        have hb : bitsN (RT.items .nil).length = 0 := by show bitsN 0 = 0; rw [bitsN]; rfl
        rw [hb]
        simp [RT.h]
      | node l kk a b r =>
        simp only [RT.h]
        split <;> omega
    by_cases h0 : i ≥ 0
    · rw [decide_eq_true h0]
      by_cases h1 : i < t.n
      · rw [c21in t i o h0 h1]
        have d1 : decide (i < ((eIts t.items).length : Int)) = true := by rw [List.length_map]; exact decide_eq_true (by omega)
        have hat := atT_items t i h0 h1
        have hel : (eIts t.items)[i.toNat]? = some (eIt (atT t i)) := by simp [hat]
        have sm := so.get (List.mem_of_getElem? hat)
        have g1 := floatEq_self sm.1
        have g2 := floatEq_self sm.2
        simp only [cond_true, c14, hlen2, c17, ← hwa, ← hwb, f1, f2, f3, f4, Bool.and_self]
        rw [c12 t hn]
        simp only
        rw [c16 _ so]
        simp only [cond_true, hpp, d1, beq_self_eq_true, Bool.and_self, Bool.not_true, cond_false, fx_elp, if_pos h0, hel, fx_ptr, eIt, cp, ld_item, g1, g2, c23, hh, hh2]
      · rw [c21out t i (.inr (by omega))]
        have d1 : decide (i < ((eIts t.items).length : Int)) = false := by rw [List.length_map]; exact decide_eq_false (by omega)
        have f0 : floatEqB .f64 0 0 = true := by have := floatEq_self (a := 0) (by omega); rw [FN_zero] at this; exact this
        simp only [cond_true, c14, hlen2, c17, ← hwa, ← hwb, f1, f2, f3, f4, Bool.and_self]
        rw [c12 t hn]
        simp only
        rw [c16 _ so]
        simp only [cond_true, hpp, d1, beq_self_eq_true, Bool.and_self, Bool.not_false, cond_false, f0, c23, hh, hh2]
    · rw [decide_eq_false h0]
      rw [c21out t i (.inl (by omega))]
      have f0 : floatEqB .f64 0 0 = true := by have := floatEq_self (a := 0) (by omega); rw [FN_zero] at this; exact this
      simp only [cond_true, cond_false, c14, hlen2, c17, ← hwa, ← hwb, f1, f2, f3, f4, Bool.and_self]
      rw [c12 t hn]
      simp only
      rw [c16 _ so]
      simp only [cond_true, hpp, beq_self_eq_true, Bool.and_self, f0, c23, hh, hh2]
  have h := looks_open (x := (.val false [.d (.bool true)], [])) (kk := contAt T kt (fxR T (frOf T 20 Try.f20 0)) (frOf T 20 Try.f20 0) 0 0 (bodyOf Try.f20) (endK T 20 Try.f20 0)) (enc t) t.items n false k (enc t) so t.items [] 0 0 rfl rfl rfl
    (by
      intro hF bb
      rw [ra20_0_0]
      unfold ga20_0_0
      have e : ((t.items.length : Int) == ((eIts t.items).length : Int)) = true := by rw [List.length_map]; simp
      rw [e, cond_true, fx_lp]
      have := fin t.items.length (sA t.items) (sB t.items) bb true hF
      rw [show ((eIts t.items).length : Int) = (t.items.length : Int) from by rw [List.length_map]]
      exact this)
    (by
      intro p u v hF hp bb
      rw [ra20_0_0]
      unfold ga20_0_0
      have e : ((p : Int) == ((eIts t.items).length : Int)) = false := by
        rw [List.length_map]
        have : ¬ ((p : Int) = (t.items.length : Int)) := by omega
        simp [this]
      rw [e, cond_false, fx_lp]
      have := fin p u v bb false hF
      rw [show ((eIts t.items).length : Int) = (t.items.length : Int) from by rw [List.length_map]]
      exact this)
  simp only [FN_zero, List.length_nil] at h
  rw [show ((eIts t.items).length : Int) = (t.items.length : Int) from by rw [List.length_map]]
  exact h
section
variable {R : Type} {F : Fr}
theorem c20 (t : RT) (n : Int) (o : t.Ok) (bal : t.Bal) (hn : t.n < 1000000) (k : _ → Option R) : (fxR T F).call 20 [vR t, .val false [.d (.slice 2 (eIts t.items))], vI n] [] ⟨[(false, [.d .bool])], []⟩ k = k (((true, ()), ()), ()) :=
  fx_call (s := ⟨[(false, [.d .bool])], []⟩) (((true, ()), ()), ()) (looks_spec t n o bal hn) rfl
end
end Go.Proofs.TryI
