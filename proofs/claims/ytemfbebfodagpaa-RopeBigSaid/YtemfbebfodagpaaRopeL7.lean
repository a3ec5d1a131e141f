/- Part of a proof that the laws of this seat return true: a machine over plain data (Idl) that is sound for the given model, and its runs. Conditions: none. -/
import Derived.Test.YtemfbebfodagpaaRopeS7
import Derived.Test.YtemfbebfodagpaaGL7
set_option linter.all false
set_option linter.all false
set_option maxRecDepth 100000
namespace Go.Proofs.TryI
open Go Go.Idl Go.Proofs

def bigIt (k : Nat) : It := ⟨(k : Int), (1, k % 7)⟩
def bigIts (m : Nat) : List It := (List.range m).map bigIt
theorem bigIts_succ (m : Nat) : bigIts (m + 1) = bigIts m ++ [bigIt m] := by simp [bigIts, List.range_succ]
theorem bigIts_len (m : Nat) : (bigIts m).length = m := by simp [bigIts]
theorem bigIts_get (m k : Nat) (h : k < m) : (bigIts m)[k]? = some (bigIt k) := by simp [bigIts, h]
theorem bigIts_sums (m : Nat) : sA (bigIts m) = m ∧ sB (bigIts m) ≤ 7 * m := by
  induction m with
  | zero => simp [bigIts, sA, sB]
  | succ m ih =>
    rw [bigIts_succ, sA_append, sB_append]
    simp only [sA, sB, bigIt]
    have : m % 7 < 7 := Nat.mod_lt _ (by omega)
    omega
theorem bigIts_small (m : Nat) (h : m ≤ 100000) : Small (bigIts m) := by
  obtain ⟨h1, h2⟩ := bigIts_sums m
  have := bigIts_len m
  exact ⟨by omega, by omega, by omega⟩
theorem bigIts_drop (m j : Nat) (h : j < m) : (bigIts m).drop (m - (j + 1)) = bigIt (m - 1 - j) :: (bigIts m).drop (m - j) := by
  have hx := bigIts_get m (m - (j + 1)) (by omega)
  have hlt : m - (j + 1) < (bigIts m).length := by rw [bigIts_len]; omega
  rw [List.drop_eq_getElem_cons hlt]
  have h1 : (bigIts m)[m - (j + 1)] = bigIt (m - (j + 1)) := by
    rw [List.getElem?_eq_getElem hlt] at hx
    exact Option.some.inj hx
  rw [h1, show m - (j + 1) + 1 = m - j from by omega, show m - 1 - j = m - (j + 1) from by omega]
section
variable {R : Type} {F : Fr}
theorem c9one (b : Nat) (k : _ → Option R) : (fxR T F).call 9 [vI 1, vI b] [] ⟨[(false, [.d .cpx])], []⟩ k = k ((((FN 1, FN b), ()), ()), ()) := c9 1 b k
theorem c8one (q : Nat) (k : _ → Option R) : (fxR T F).call 8 [.val false [.d (.slice 2 [[.int .i64 (q : Int), .cpx .f64 (FN 1) (FN (q % 7))]])]] [] ⟨[(true, [.d .any])], []⟩ k = k (((enc (ofT [bigIt q]), ()), ()), ()) :=
  c8 [bigIt q] ⟨by simp, by simp [sA, bigIt], by simp only [sB, bigIt]; have : q % 7 < 7 := Nat.mod_lt _ (by omega); omega⟩ k
end
theorem big_loop {x : DV × Heap} {kk : Ex → St → Option (DV × Heap)} (i3 i4 : Int) (b5 : Bool) (m : Nat) (d11 : D) (hm : m ≤ 300)
    (hk : ∀ b (f g : RT), f.items = bigIts m → g.items = bigIts m → f.Bal → g.Bal → kk (.exit 0) (sx7_0_0 i3 i4 b5 m m m b (enc f) (enc g) d11) = some x) : ∀ (n : Nat) (f g : RT), n ≤ m → f.items = (bigIts m).drop n → g.items = bigIts (m - n) → f.Bal → g.Bal →
    lpk T (frOf T 7 Try.f7 0) 0 [0, 1, 4, 5, 6, 7, 8, 22, 23] (bodyAt 0 0 (bodyOf Try.f7)) (st7_0 i3 i4 b5 m m ((m - n : Nat) : Int) (enc f) (enc g) d11) kk = some x := by
  intro n
  induction n with
  | zero =>
    intro f g _ hf hg bf bg
    refine lpk_go kx ?_
    rw [rl7_0]
    unfold gl7_0
    rw [Nat.sub_zero] at hg ⊢
    have hd : decide ((m : Int) < m) = false := by simp
    rw [hd, cond_false]
    exact hk false f g hf hg bf bg
  | succ n ih =>
    intro f g hn hf hg bf bg
    refine lpk_go kx ?_
    rw [rl7_0]
    unfold gl7_0
    obtain ⟨j, hj, hj2⟩ : ∃ j, m - (n + 1) = j ∧ m - n = j + 1 := ⟨m - (n + 1), rfl, by omega⟩
    rw [hj] at hg ⊢
    have hd : decide ((j : Int) < m) = true := decide_eq_true (by omega)
    have e1 : IntKind.wrap .i64 (IntKind.wrap .i64 ((m : Int) - 1) - j) = ((n : Nat) : Int) := by
      rw [wrap64 (n := (m : Int) - 1) (by omega) (by omega), wrap64 (by omega) (by omega)]; omega
    have e2 : Int.tmod (j : Int) 7 = ((j % 7 : Nat) : Int) := rfl
    have e3 : Int.tmod ((n : Nat) : Int) 7 = ((n % 7 : Nat) : Int) := rfl
    have e4 : IntKind.wrap .i64 ((j : Int) + 1) = ((j + 1 : Nat) : Int) := by rw [wrap64 (by omega) (by omega)]; omega
    have hof := ofT_items [bigIt n]
    have hog := ofT_items [bigIt j]
    have so := bigIts_small m (by omega)
    have hdrop : (bigIts m).drop n = bigIt n :: (bigIts m).drop (n + 1) := by
      have := bigIts_drop m j (by omega)
      rw [show m - (j + 1) = n from by omega, show m - 1 - j = n from by omega, show m - j = n + 1 from by omega] at this
      exact this
    have hf1 : allI [ofT [bigIt n], f] = (bigIts m).drop n := by
      simp only [allI, hof, List.append_nil, hf]
      rw [hdrop]
      rfl
    have hg1 : allI [g, ofT [bigIt j]] = bigIts (j + 1) := by
      simp only [allI, hog, List.append_nil, hg]
      rw [bigIts_succ]
    have c1 (F : Fr) := c11 (R := DV × Heap) (F := F) [ofT [bigIt n], f] (by rw [hf1]; exact so.drop _) (by simp)
    have c2 (F : Fr) := c11 (R := DV × Heap) (F := F) [g, ofT [bigIt j]] (by rw [hg1]; exact bigIts_small _ (by omega)) (by simp)
    simp only [eRs, List.map_cons, List.map_nil, eR] at c1 c2
    simp only [hd, cond_true, fx_chk, e2, c9one, e1, e3, c8one, c1, c2, e4]
    have := ih (joinL .nil [ofT [bigIt n], f]) (joinL .nil [g, ofT [bigIt j]]) (by omega) (by rw [joinL_items, hf1]; rfl) (by rw [joinL_items, hg1, hj2]; rfl)
      (joinL_bal _ _ trivial (by intro t ht; simp at ht; rcases ht with rfl | rfl; exact ofT_bal _; exact bf))
      (joinL_bal _ _ trivial (by intro t ht; simp at ht; rcases ht with rfl | rfl; exact bg; exact ofT_bal _))
    rw [hj2] at this
    exact this
theorem bits_loop7 {x : DV × Heap} {kk : Ex → St → Option (DV × Heap)} (i76 i77 : Int) (b78 : Bool) (i79 i80 : Int) (b81 b82 : Bool) (i83 : Int) (n84 n85 : Nat) (i88 i89 : Int) (b90 b91 : Bool) (i92 : Int) (b93 : Bool) (d94 d95 d96 : D) (i97 : Int) (n98 n99 : Nat) (i100 : Int) (n101 n102 : Nat) : ∀ (m c : Nat), m < 1099511627776 → c + bitsN m < 1099511627776 →
    (∀ bb, kk (.exit 4) (sx7_2_0 i76 i77 b78 i79 i80 b81 b82 i83 n84 n85 ((c + bitsN m : Nat) : Int) 0 i88 i89 b90 b91 i92 b93 bb d94 d95 d96 i97 n98 n99 i100 n101 n102) = some x) →
    lpk T (frOf T 7 Try.f7 0) 4 [0, 1, 4, 5, 6, 7, 8, 11, 12, 13, 14, 15, 16, 17, 18, 19, 22, 23, 24, 66, 67, 68] (bodyAt 4 0 (bodyOf Try.f7)) (st7_2 i76 i77 b78 i79 i80 b81 b82 i83 n84 n85 (c : Int) (m : Int) i88 i89 b90 b91 i92 b93 d94 d95 d96 i97 n98 n99 i100 n101 n102) kk = some x := by
  intro m
  induction m using Nat.strongRecOn with
  | _ m ih =>
    intro c hm hc hk
    refine lpk_go kx ?_
    rw [rl7_2]
    unfold gl7_2
    by_cases h0 : m = 0
    · subst h0
      have hb : bitsN 0 = 0 := by rw [bitsN]; rfl
      rw [hb] at hk
      exact hk false
    · have hd : decide ((m : Int) > 0) = true := decide_eq_true (by omega)
      have hb : bitsN m = 1 + bitsN (m / 2) := by rw [bitsN.eq_def m, dif_neg h0]
      have e1 : IntKind.wrap .i64 ((c : Int) + 1) = ((c + 1 : Nat) : Int) := by rw [wrap64 (by omega) (by omega)]; simp
      have e2 : IntKind.wrap .i64 (Int.tdiv (m : Int) 2) = ((m / 2 : Nat) : Int) := by
        have : Int.tdiv (m : Int) 2 = ((m / 2 : Nat) : Int) := rfl
        rw [this, wrap64 (by omega) (by omega)]
      rw [hd, cond_true, fx_chk, cond_true, e1, e2]
      refine ih (m / 2) (by omega) (c + 1) (by omega) (by omega) ?_
      have : c + 1 + bitsN (m / 2) = c + bitsN m := by omega
      rw [this]
      exact hk
theorem lineF_ones : ∀ (l : List It) (i p a b : Nat), (∀ x ∈ l, x.m.1 = 1) → a ≤ i → i < a + l.length → (lineF l i p a b).1 = p + (i - a) ∧ (lineF l i p a b).2.1 = i := by
  intro l
  induction l with
  | nil => intro i p a b _ h1 h2; simp at h2; omega
  | cons x l ih =>
    intro i p a b hx h1 h2
    have hx1 := hx x (by simp)
    simp only [List.length_cons] at h2
    simp only [lineF, hx1]
    split
    · simp only
      omega
    · obtain ⟨g1, g2⟩ := ih i (p + 1) (a + 1) (b + x.m.2) (fun y hy => hx y (by simp [hy])) (by omega) (by omega)
      exact ⟨by omega, g2⟩
theorem big (n k : Int) : callω T 7 [vI n, vI k] [] = some (.val false [.d (.bool true)], []) := by
  refine byK (fn := Try.f7) (by kernel_rfl) (by kernel_rfl) ?_
  rw [r7]
  unfold g7
  have hw := win_in n 1 300 (by omega)
  rw [c15 n 1 300 (by omega) (by omega) (by omega)]
  obtain ⟨m, hm⟩ : ∃ m : Nat, win n 1 300 = m := ⟨(win n 1 300).toNat, by omega⟩
  rw [hm] at hw
  simp only [hm, fx_lp]
  have hm300 : m ≤ 300 := by omega
  have h := big_loop (x := (.val false [.d (.bool true)], [])) (kk := contAt T kt (fxR T (frOf T 7 Try.f7 0)) (frOf T 7 Try.f7 0) 0 0 (bodyOf Try.f7) (endK T 7 Try.f7 0)) n k false m (enc .nil) hm300 (by
    intro bb f g hf hg bf bg
    rw [ra7_0_0]
    unfold ga7_0_0
    have so := bigIts_small m (by omega)
    have hlen := bigIts_len m
    have fn : f.n = m := by rw [f.n_items, hf, hlen]
    have gn : g.n = m := by rw [g.n_items, hg, hlen]
    have of' : f.Ok := by rw [ok_iff, hf]; exact so
    have og : g.Ok := by rw [ok_iff, hg]; exact so
    have hwa : f.wa = g.wa := by rw [f.wa_items, g.wa_items, hf, hg]
    have hwb : f.wb = g.wb := by rw [f.wb_items, g.wb_items, hf, hg]
    rw [c12 f (by omega), hf]
    simp only
    rw [c12 g (by omega), hg]
    simp only
    rw [c16 _ so]
    simp only [Bool.not_true, cond_false, c17, hwa, hwb]
    rw [floatEq_self (by have := og.2.1; omega), floatEq_self (by have := og.2.2; omega)]
    simp only [Bool.and_self, Bool.not_true, cond_false, fx_lp]
    -- thrice
    have hall : ∀ t : RT, t.Bal → t.items.length ≤ 2100 → Small (t.items ++ (g.items ++ (t.items ++ []))) → True := fun _ _ _ _ => trivial
    have step : ∀ (t : RT) (q : List It), t.items = q → Small (q ++ (bigIts m ++ q)) → t.Bal → (∀ (F : Fr) (kk : _ → Option (DV × Heap)), (fxR T F).call 11 [.val false [.d (.slice 1 [[enc t], [enc g], [enc t]])]] [] ⟨[(true, [.d .any])], []⟩ kk = kk (((enc (joinL .nil [t, g, t]), ()), ()), ())) ∧ (joinL .nil [t, g, t]).items = q ++ (bigIts m ++ q) ∧ (joinL .nil [t, g, t]).Bal := by
      intro t q ht hs bt
      have ha : allI [t, g, t] = q ++ (bigIts m ++ q) := by simp only [allI, ht, hg, List.append_nil]
      refine ⟨fun F kk => c11 [t, g, t] (by rw [ha]; exact hs) (by simp) kk, by rw [joinL_items, ha]; rfl, joinL_bal _ _ trivial (by intro s hs2; simp at hs2; rcases hs2 with rfl | rfl | rfl; exact bt; exact bg; exact bt)⟩
    obtain ⟨la, lb⟩ := bigIts_sums m
    have sm : ∀ q : List It, q.length ≤ 900 → sA q ≤ 900 → sB q ≤ 6300 → Small (q ++ (bigIts m ++ q)) := by
      intro q h1 h2 h3
      refine ⟨?_, ?_, ?_⟩
      · simp [hlen]; omega
      · simp [sA_append]; omega
      · simp [sB_append]; omega
    obtain ⟨p1, q1, r1⟩ := step .nil [] rfl (sm [] (by simp) (by simp [sA]) (by simp [sB])) trivial
    simp only [List.nil_append, List.append_nil] at q1
    obtain ⟨p2, q2, r2⟩ := step _ _ q1 (sm _ (by omega) (by omega) (by omega)) r1
    obtain ⟨p3, q3, r3⟩ := step _ _ q2 (sm _ (by simp [hlen]; omega) (by simp [sA_append]; omega) (by simp [sB_append]; omega)) r2
    generalize joinL .nil [RT.nil, g, .nil] = t1 at *
    generalize joinL .nil [t1, g, t1] = t2 at *
    generalize joinL .nil [t2, g, t2] = t3 at *
    have t3n : t3.n = 7 * m := by rw [t3.n_items, q3]; simp [hlen]; omega
    have ot3 : t3.Ok := by
      rw [ok_iff, q3]
      refine ⟨?_, ?_, ?_⟩
      · simp [hlen]; omega
      · simp [sA_append]; omega
      · simp [sB_append]; omega
    have fin : lpk T (frOf T 7 Try.f7 0) 2 [0, 1, 4, 5, 6, 7, 8, 22, 23, 24, 66, 67] (bodyAt 2 0 (bodyOf Try.f7)) (st7_1 n k false m m m bb false 3 (enc f) (enc g) (enc t3)) (contAt T kt (fxR T (frOf T 7 Try.f7 0)) (frOf T 7 Try.f7 0) 2 0 (bodyOf Try.f7) (endK T 7 Try.f7 0)) = some (.val false [.d (.bool true)], []) := by
      refine lpk_go kx ?_
      rw [rl7_1]
      unfold gl7_1
      have hd : decide ((3 : Int) < 3) = false := by decide
      rw [hd, cond_false]
      show contAt T kt (fxR T (frOf T 7 Try.f7 0)) (frOf T 7 Try.f7 0) 2 0 (bodyOf Try.f7) (endK T 7 Try.f7 0) (.exit 2) (sx7_1_0 n k false m m m bb false 3 false (enc f) (enc g) (enc t3)) = _
      rw [ra7_1_0]
      unfold ga7_1_0
      have e1 : IntKind.wrap .i64 ((m : Int) - 1) = ((m - 1 : Nat) : Int) := by rw [wrap64 (by omega) (by omega)]; omega
      have wi := win_in k 0 ((m - 1 : Nat) : Int) (by omega)
      rw [e1, c15 k 0 _ (by omega) (by omega) (by omega)]
      obtain ⟨i, hi⟩ : ∃ i : Nat, win k 0 ((m - 1 : Nat) : Int) = i := ⟨(win k 0 ((m - 1 : Nat) : Int)).toNat, by omega⟩
      rw [hi] at wi
      simp only [hi]
      rw [c21in g i og (by omega) (by omega)]
      have hat := atT_items g i (by omega) (by omega)
      rw [hg, Int.toNat_natCast, bigIts_get m i (by omega)] at hat
      have hat := Option.some.inj hat
      have e2 : IntKind.wrap .i64 ((i : Int) + m) = ((i + m : Nat) : Int) := by rw [wrap64 (by omega) (by omega)]; omega
      simp only [e2]
      rw [c21in t3 _ ot3 (by omega) (by omega)]
      have hat3 := atT_items t3 ((i + m : Nat) : Int) (by omega) (by omega)
      rw [q3, Int.toNat_natCast] at hat3
      have hget : ((bigIts m ++ (bigIts m ++ bigIts m)) ++ (bigIts m ++ (bigIts m ++ (bigIts m ++ bigIts m))))[i + m]? = some (bigIt i) := by
        rw [List.append_assoc, List.getElem?_append_right (by omega), hlen, List.append_assoc, List.getElem?_append_left (by omega), show i + m - m = i from by omega]
        exact bigIts_get m i (by omega)
      rw [hget] at hat3
      have hat3 := Option.some.inj hat3
      simp only
      rw [c13 g i og, hg]
      simp only [c14, fx_lp]
      obtain ⟨l1, l2⟩ := lineF_ones (bigIts m) i 0 0 0 (by intro x hx; simp [bigIts] at hx; obtain ⟨q, _, rfl⟩ := hx; rfl) (by omega) (by omega)
      have hl3 : (lineF (bigIts m) i 0 0 0).2.2 < 9007199254740992 := by
        rcases lineF_cases (bigIts m) i 0 0 0 with h | ⟨_, _, h⟩
        · rw [h]; simp only; omega
        · omega
      generalize lineF (bigIts m) i 0 0 0 = lf at l1 l2 hl3
      obtain ⟨lf1, lf2, lf3⟩ := lf
      simp only at l1 l2 hl3
      have hbl : bitsN t3.n < 1099511627776 := by
        have h1 := bitsN_mono t3.n (2 ^ 20) (by omega)
        have h2 : bitsN (2 ^ 20) < 100 := by decide +kernel
        omega
      have hh := bits_loop7 (x := (.val false [.d (.bool true)], [])) (kk := contAt T kt (fxR T (frOf T 7 Try.f7 0)) (frOf T 7 Try.f7 0) 4 0 (bodyOf Try.f7) (endK T 7 Try.f7 0)) n k false m i true true lf1 (FN lf2) (FN lf3) m m bb false 3 false (enc f) (enc g) (enc t3) (atT g i).key (FN (atT g i).m.1) (FN (atT g i).m.2) (atT t3 ((i + m : Nat) : Int)).key (FN (atT t3 ((i + m : Nat) : Int)).m.1) (FN (atT t3 ((i + m : Nat) : Int)).m.2) t3.n 0 (by omega) (by omega) (by
        intro b4
        rw [ra7_2_0]
        unfold ga7_2_0
        rw [← hat, ← hat3]
        have z1 : ((bigIt i).key == (i : Int)) = true := by simp [bigIt]
        have z2 : ((lf1 : Int) == (i : Int)) = true := by simp; omega
        have z3 : ((lf2 : Int) == (i : Int)) = true := by simp; omega
        have z4 : ((t3.n : Int) == IntKind.wrap .i64 (7 * (m : Int))) = true := by rw [wrap64 (by omega) (by omega)]; simp; omega
        have z5 : ((g.n : Int) == (m : Int)) = true := by simp [gn]
        have hfh := bal_height f bf
        have hb300 : bitsN f.n ≤ 9 := by
          have h1 := bitsN_mono f.n 300 (by omega)
          have h2 : bitsN 300 = 9 := by decide +kernel
          omega
        have z6 : decide ((f.h : Int) ≤ 20) = true := decide_eq_true (by omega)
        have hth := bal_height t3 r3
        have z7 : decide ((t3.h : Int) ≤ IntKind.wrap .i64 (2 * ((0 + bitsN t3.n : Nat) : Int))) = true := by
          rw [wrap64 (by omega) (by omega)]
          exact decide_eq_true (by omega)
        simp only [cond_true, z1, z2]
        rw [c22 lf2 _ (by omega)]
        simp only [z3, cond_true, c14, z4, z5, c23, z6, z7]
        rw [c3])
      exact hh
    have s3 : lpk T (frOf T 7 Try.f7 0) 2 [0, 1, 4, 5, 6, 7, 8, 22, 23, 24, 66, 67] (bodyAt 2 0 (bodyOf Try.f7)) (st7_1 n k false m m m bb false 2 (enc f) (enc g) (enc t2)) (contAt T kt (fxR T (frOf T 7 Try.f7 0)) (frOf T 7 Try.f7 0) 2 0 (bodyOf Try.f7) (endK T 7 Try.f7 0)) = some (.val false [.d (.bool true)], []) := by
      refine lpk_go kx ?_
      rw [rl7_1]
      unfold gl7_1
      have hd : decide ((2 : Int) < 3) = true := by decide
      have e : IntKind.wrap .i64 ((2 : Int) + 1) = 3 := by decide +kernel
      simp only [hd, cond_true, p3, e]
      exact fin
    have s2 : lpk T (frOf T 7 Try.f7 0) 2 [0, 1, 4, 5, 6, 7, 8, 22, 23, 24, 66, 67] (bodyAt 2 0 (bodyOf Try.f7)) (st7_1 n k false m m m bb false 1 (enc f) (enc g) (enc t1)) (contAt T kt (fxR T (frOf T 7 Try.f7 0)) (frOf T 7 Try.f7 0) 2 0 (bodyOf Try.f7) (endK T 7 Try.f7 0)) = some (.val false [.d (.bool true)], []) := by
      refine lpk_go kx ?_
      rw [rl7_1]
      unfold gl7_1
      have hd : decide ((1 : Int) < 3) = true := by decide
      have e : IntKind.wrap .i64 ((1 : Int) + 1) = 2 := by decide +kernel
      simp only [hd, cond_true, p2, e]
      exact s3
    have s1 : lpk T (frOf T 7 Try.f7 0) 2 [0, 1, 4, 5, 6, 7, 8, 22, 23, 24, 66, 67] (bodyAt 2 0 (bodyOf Try.f7)) (st7_1 n k false m m m bb false 0 (enc f) (enc g) (enc .nil)) (contAt T kt (fxR T (frOf T 7 Try.f7 0)) (frOf T 7 Try.f7 0) 2 0 (bodyOf Try.f7) (endK T 7 Try.f7 0)) = some (.val false [.d (.bool true)], []) := by
      refine lpk_go kx ?_
      rw [rl7_1]
      unfold gl7_1
      have hd : decide ((0 : Int) < 3) = true := by decide
      have e : IntKind.wrap .i64 ((0 : Int) + 1) = 1 := by decide +kernel
      simp only [hd, cond_true, p1, e]
      exact s2
    exact s1) m .nil .nil (Nat.le_refl _) (by rw [List.drop_of_length_le (by rw [bigIts_len]; omega)]; rfl) (by rw [Nat.sub_self]; rfl) trivial trivial
  rw [Nat.sub_self] at h
  exact h
end Go.Proofs.TryI
