/- Part of a proof that the laws of this seat return true: a machine over plain data (Idl) that is sound for the given model, and its runs. Conditions: none. -/
import Derived.Test.YtemfbebfodagpaaRopeS7
import Derived.Test.YtemfbebfodagpaaGL5
set_option linter.all false
set_option linter.all false
set_option maxRecDepth 100000
namespace Go.Proofs.TryI
open Go Go.Idl Go.Proofs

/-! A cut is at its place. -/
theorem splitT_len : ∀ (t : RT) (i : Int), 0 ≤ i → i ≤ t.n → ((splitT t i).1.n : Int) = i := by
  intro t
  induction t with
  | nil => intro i h0 h1; simp only [RT.n] at h1; simp only [splitT, RT.n]; omega
  | node l k a b r ihl ihr =>
    intro i h0 h1
    simp only [RT.n] at h1
    simp only [splitT]
    split
    · have h2 := ihr (i - l.n - 1) (by omega) (by omega)
      have h3 := link_sums l k a b (splitT r (i - l.n - 1)).1
      rw [h3.1]
      omega
    · exact ihl i h0 (by omega)
theorem splitR_items (t : RT) (i : Int) (own : List It) (h : t.items = own) :
    (splitR t i).1.items = own.take (clampT i 0 own.length).toNat ∧ (splitR t i).2.items = own.drop (clampT i 0 own.length).toNat ∧ ((splitR t i).1.n : Int) = clampT i 0 own.length ∧ ((splitR t i).2.n : Int) = own.length - clampT i 0 own.length ∧ 0 ≤ clampT i 0 own.length ∧ clampT i 0 own.length ≤ own.length := by
  have hn := t.n_items
  rw [h] at hn
  have hc : max 0 (min i t.n) = clampT i 0 own.length := by unfold clampT; split <;> (try split) <;> omega
  unfold splitR
  rw [hc]
  have h0 : 0 ≤ clampT i 0 own.length ∧ clampT i 0 own.length ≤ own.length := by unfold clampT; split <;> (try split) <;> omega
  generalize clampT i 0 own.length = c at *
  have h1 := splitT_len t c h0.1 (by omega)
  obtain ⟨s1, _, _, s4⟩ := splitT_sums t c
  rw [h] at s4
  have l1 := (splitT t c).1.n_items
  have hl : (splitT t c).1.items.length = c.toNat := by omega
  refine ⟨?_, ?_, h1, by omega, h0.1, h0.2⟩
  · rw [← s4, ← hl, List.take_left']
    rfl
  · rw [← s4, ← hl, List.drop_left']
    rfl
def MB (l : List It) : Prop := ∀ x ∈ l, x.m.1 ≤ 50 ∧ x.m.2 ≤ 50
theorem MB.sums : ∀ {l : List It}, MB l → sA l ≤ 50 * l.length ∧ sB l ≤ 50 * l.length := by
  intro l
  induction l with
  | nil => intro _; simp [sA, sB]
  | cons x l ih =>
    intro h
    have h1 := h x (by simp)
    have h2 := ih (fun y hy => h y (by simp [hy]))
    simp only [sA, sB, List.length_cons]
    omega
theorem MB.small {l : List It} (h : MB l) (hl : l.length ≤ 100000) : Small l := by
  have := h.sums
  exact ⟨by omega, by omega, by omega⟩
theorem MB.app {l m : List It} (h1 : MB l) (h2 : MB m) : MB (l ++ m) := by
  intro x hx
  rcases List.mem_append.1 hx with h | h
  · exact h1 x h
  · exact h2 x h
theorem MB.take {l : List It} (h : MB l) (n : Nat) : MB (l.take n) := fun x hx => h x (List.mem_of_mem_take hx)
theorem MB.drop {l : List It} (h : MB l) (n : Nat) : MB (l.drop n) := fun x hx => h x (List.mem_of_mem_drop hx)
/-- A rope and its items. -/
structure PInv (own : List It) (i : Nat) (r : RT) : Prop where
  items : r.items = own
  bal : r.Bal
  len : own.length ≤ 200 + 9 * i
  mb : MB own
theorem PInv.up {own : List It} {i : Nat} {r : RT} (p : PInv own i r) : PInv own (i + 1) r := ⟨p.items, p.bal, by have := p.len; omega, p.mb⟩
theorem PInv.ok {own : List It} {i : Nat} {r : RT} (p : PInv own i r) (hi : i ≤ 30) : r.Ok := by rw [ok_iff, p.items]; exact p.mb.small (by have := p.len; omega)
theorem PInv.c20 {own : List It} {i : Nat} {r : RT} (p : PInv own i r) (hi : i ≤ 30) (n : Int) {R : Type} (F : Fr) (k : _ → Option R) : (fxR T F).call 20 [vR r, .val false [.d (.slice 2 (eIts own))], vI n] [] ⟨[(false, [.d .bool])], []⟩ k = k (((true, ()), ()), ()) := by
  have h := TryI.c20 (R := R) (F := F) r n (p.ok hi) p.bal (by rw [r.n_items, p.items]; have := p.len; omega) k
  rw [p.items] at h
  exact h
structure Ask3 where
  a : Int
  b : Int
  c : Int
def eA (x : Ask3) : List D := [.int .i64 x.a, .int .i64 x.b, .int .i64 x.c]
abbrev eAs (l : List Ask3) : List (List D) := l.map eA
theorem ld_3 {R : Type} {F : Fr} (a b c : Int) (ds : List D) (k : _ → Option R) : (fxR T F).load (.int .i64 a :: .int .i64 b :: .int .i64 c :: ds) [.int .i64, .int .i64, .int .i64] k = k (a, (b, (c, ()))) := rfl

/-- The items that are put. -/
theorem put_loop {x : DV × Heap} {kk : Ex → St → Option (DV × Heap)} (l300 : List (List D)) (b301 : Bool) (l302 l303 : List (List D)) (i305 : Int) (b307 : Bool) (i308 : Int) (b309 : Bool) (d310 d311 : D) (i312 N M : Int) (w : Nat) (hw : win N 0 9 = (w : Int))
    (nx0 : Nat) (hk : ∀ (nx : Nat) (j : Int) (bb : Bool) (its : List It), nx ≤ nx0 + 9 → its.length ≤ 9 → MB its → kk (.exit 3) (sx5_1_0 l300 b301 l302 l303 nx i305 j b307 i308 b309 bb d310 d311 i312 N M (eIts its)) = some x) : ∀ (d j nx : Nat) (its : List It), j + d = 10 → nx = nx0 + j → nx0 ≤ 100000 → its.length = j → j ≤ w → MB its →
    lpk T (frOf T 5 Try.f5 0) 3 [0, 2, 3, 4, 5, 6, 7, 8, 9, 10, 11, 33, 41, 42] (bodyAt 3 0 (bodyOf Try.f5)) (st5_1 l300 b301 l302 l303 nx i305 j b307 i308 b309 d310 d311 i312 N M (eIts its)) kk = some x := by
  have hw9 := win_in N 0 9 (by omega)
  intro d
  induction d with
  | zero =>
    intro j nx its hj hnx hn0 hl hjw hmb
    omega
  | succ d ih =>
    intro j nx its hj hnx hn0 hl hjw hmb
    refine lpk_go kx ?_
    rw [rl5_1]
    unfold gl5_1
    rw [c15 N 0 9 (by omega) (by omega) (by omega), hw]
    simp only
    by_cases hc : j < w
    · have hd : decide ((j : Int) < (w : Int)) = true := decide_eq_true (by omega)
      rw [hd, cond_true]
      rw [c15 _ 0 2 (by omega) (by omega) (by omega)]
      simp only
      rw [c15 _ 0 50 (by omega) (by omega) (by omega)]
      simp only
      have h1 := win_in (IntKind.wrap .i64 (M + j)) 0 2 (by omega)
      have h2 := win_in (IntKind.wrap .i64 (N + j)) 0 50 (by omega)
      obtain ⟨p, hp⟩ : ∃ p : Nat, win (IntKind.wrap .i64 (M + j)) 0 2 = p := ⟨(win (IntKind.wrap .i64 (M + j)) 0 2).toNat, by omega⟩
      obtain ⟨q, hq⟩ : ∃ q : Nat, win (IntKind.wrap .i64 (N + j)) 0 50 = q := ⟨(win (IntKind.wrap .i64 (N + j)) 0 50).toNat, by omega⟩
      rw [hp] at h1 ⊢
      rw [hq] at h2 ⊢
      rw [c9 p q]
      have e1 : IntKind.wrap .i64 ((nx : Int) + 1) = ((nx + 1 : Nat) : Int) := by rw [wrap64 (by omega) (by omega)]; omega
      have e2 : IntKind.wrap .i64 ((j : Int) + 1) = ((j + 1 : Nat) : Int) := by rw [wrap64 (by omega) (by omega)]; omega
      have e3 : decide ((eIts its).length + 1 ≤ 1048576) = true := by rw [List.length_map]; exact decide_eq_true (by omega)
      have e4 : eIts its ++ [[D.int .i64 ((nx + 1 : Nat) : Int), D.cpx .f64 (FN p) (FN q)]] = eIts (its ++ [⟨((nx + 1 : Nat) : Int), (p, q)⟩]) := by simp [eIt, cp]
      simp only [fx_chk, e3, cond_true, e1, e2, e4]
      exact ih (j + 1) (nx + 1) (its ++ [⟨((nx + 1 : Nat) : Int), (p, q)⟩]) (by omega) (by omega) hn0 (by simp [hl]) (by omega) (hmb.app (by intro y hy; simp at hy; subst hy; simp only; omega))
    · have hd : decide ((j : Int) < (w : Int)) = false := decide_eq_false (by omega)
      rw [hd, cond_false]
      exact hk nx j false its (by omega) (by omega) hmb
theorem len_eIts (l : List It) : ((eIts l).length : Int) = (l.length : Int) := by rw [List.length_map]
theorem tk (l : List It) (n : Nat) : List.drop 0 (List.take n (eIts l)) = eIts (l.take n) := by simp only [eIts, List.map_take, List.drop_zero]
theorem dr1 (l : List It) (n : Nat) : List.drop n (List.take (eIts l).length (eIts l)) = eIts (l.drop n) := by
  rw [List.take_length]
  simp only [eIts, List.map_drop]
theorem dr2 (l : List It) (n : Nat) : List.drop n (List.take l.length (eIts l)) = eIts (l.drop n) := by
  rw [← List.length_map (f := eIt), dr1]
theorem clamp_in {n : Int} {m : Nat} (h0 : 0 ≤ n) (h1 : n ≤ m) : clampT n 0 m = n := by
  unfold clampT
  rw [if_neg (by omega), if_neg (by omega)]
theorem plays_loop {x : DV × Heap} {kk : Ex → St → Option (DV × Heap)} (asks : List Ask3)
    (hk : ∀ l282 l283 i284 i285 b286 d287 d288, kk (.exit 0) (sx5_0_12 (eAs asks) false l282 l283 i284 i285 b286 d287 d288) = some x) : ∀ (d i nx : Nat) (own was : List It) (r el : RT), i + d = 25 → nx ≤ 9 * i + 0 → PInv own i r → PInv was i el →
    lpk T (frOf T 5 Try.f5 0) 0 [0, 2, 3, 4, 5, 6, 7, 8] (bodyAt 0 0 (bodyOf Try.f5)) (st5_0 (eAs asks) false (eIts own) (eIts was) nx i (enc r) (enc el)) kk = some x := by
  intro d
  induction d with
  | zero =>
    intro i nx own was r el hd hnx pr pe
    refine lpk_go kx ?_
    rw [rl5_0]
    unfold gl5_0
    have h25 : decide ((i : Int) < 25) = false := decide_eq_false (by omega)
    rw [h25]
    by_cases hi : (i : Int) < ((eAs asks).length : Int)
    · rw [decide_eq_true hi, cond_true, cond_false]; exact hk _ _ _ _ _ _ _
    · rw [decide_eq_false hi, cond_false]; exact hk _ _ _ _ _ _ _
  | succ d ih =>
    intro i nx own was r el hd hnx pr pe
    refine lpk_go kx ?_
    rw [rl5_0]
    unfold gl5_0
    have h25 : decide ((i : Int) < 25) = true := decide_eq_true (by omega)
    rw [h25]
    rcases Decidable.em ((i : Int) < ((eAs asks).length : Int)) with hi | hi
    case inr => rw [decide_eq_false hi, cond_false]; exact hk _ _ _ _ _ _ _
    rw [decide_eq_true hi, cond_true, cond_true]
    rw [List.length_map] at hi
    have hx : (eAs asks)[i]? = some (eA (asks[i]'(by omega))) := by rw [List.getElem?_map, List.getElem?_eq_getElem (by omega)]; rfl
    generalize asks[i]'(by omega) = q at hx
    have e3 : IntKind.wrap .i64 ((i : Int) + 1) = ((i + 1 : Nat) : Int) := by rw [wrap64 (by omega) (by omega)]; omega
    have hlen := pr.len
    have or := pr.ok (by omega)
    -- the rest of a round
    have next : ∀ (own' was' : List It) (r' el' : RT) (nx' : Nat), nx' ≤ 9 * (i + 1) + 0 → PInv own' (i + 1) r' → PInv was' (i + 1) el' →
        lpk T (frOf T 5 Try.f5 0) 0 [0, 2, 3, 4, 5, 6, 7, 8] (bodyAt 0 0 (bodyOf Try.f5)) (st5_0 (eAs asks) false (eIts own') (eIts was') nx' ((i + 1 : Nat) : Int) (enc r') (enc el')) kk = some x :=
      fun own' was' r' el' nx' h1 h2 h3 => ih (i + 1) nx' own' was' r' el' (by omega) h1 h2 h3
    simp only [fx_elp, Int.natCast_nonneg, if_true, Int.toNat_natCast, hx, fx_ptr, eA, ld_3, e3]
    obtain ⟨qa, N, M⟩ := q
    simp only
    have pup := pr.up
    have eup := pe.up
    by_cases q1 : qa = 1
    · subst q1
      simp only [beq_self_eq_true, cond_true]
      rw [fx_lp]
      obtain ⟨w, hw⟩ : ∃ w : Nat, win N 0 9 = w := ⟨(win N 0 9).toNat, by have := win_in N 0 9 (by omega); omega⟩
      refine put_loop (eAs asks) false (eIts own) (eIts was) i true 1 true (enc r) (enc el) 1 N M w hw nx ?_ 10 0 nx [] (by omega) (by omega) (by omega) rfl (by omega) (fun _ h => by simp at h)
      intro nx' j bb its hnx' hl9 hmi
      rw [ra5_1_0]
      unfold ga5_1_0
      simp only [len_eIts]
      have w1 := win_in M 0 own.length (by omega)
      rw [c15 M 0 _ (by omega) (by omega) (by omega)]
      simp only
      generalize win M 0 own.length = at_ at *
      rw [c10 r at_ or]
      simp only
      obtain ⟨s1, s2, s3, s4, s5, s6⟩ := splitR_items r at_ own pr.items
      rw [clamp_in w1.1 w1.2] at s1 s2 s3 s4
      have bl := splitT_bal r (max 0 (min at_ r.n)) pr.bal
      have bl1 : (splitR r at_).1.Bal := bl.1
      have bl2 : (splitR r at_).2.Bal := bl.2
      generalize splitR r at_ = ab at *
      obtain ⟨a, b⟩ := ab
      simp only at s1 s2 s3 s4 bl1 bl2 ⊢
      have oi := ofT_items its
      have bi := ofT_bal its
      rw [c8 its (hmi.small (by omega))]
      simp only
      generalize ofT its = t at oi bi ⊢
      have hitems : own.take at_.toNat ++ its ++ own.drop at_.toNat = allI [a, t, b] := by simp [allI, s1, s2, oi]
      have hl2 : (own.take at_.toNat ++ its ++ own.drop at_.toNat).length ≤ own.length + 9 := by simp; omega
      have hmb : MB (own.take at_.toNat ++ its ++ own.drop at_.toNat) := ((pr.mb.take _).app hmi).app (pr.mb.drop _)
      have e11 (F : Fr) := c11 (R := DV × Heap) (F := F) [a, t, b] (by rw [← hitems]; exact hmb.small (by omega)) (by simp)
      simp only [eRs, List.map_cons, List.map_nil, eR] at e11
      have pn : PInv (own.take at_.toNat ++ its ++ own.drop at_.toNat) (i + 1) (joinL .nil [a, t, b]) := by
        refine ⟨by rw [joinL_items, ← hitems]; rfl, joinL_bal _ _ trivial ?_, by omega, hmb⟩
        intro t' ht
        simp at ht
        rcases ht with rfl | rfl | rfl
        · exact bl1
        · exact bi
        · exact bl2
      have k1 : (decide (0 ≤ at_) && (decide (at_ ≤ (own.length : Int)) && decide ((own.length : Int) ≤ (own.length : Int)))) = true := by simp; omega
      have k2 : (true && (decide (0 ≤ at_) && decide (at_ ≤ (own.length : Int)))) = true := by simp; omega
      have k3 : decide (0 + (eIts (own.take at_.toNat)).length ≤ 1048576) = true := by simp; omega
      have k4 : decide (List.length ([] ++ eIts (own.take at_.toNat)) + (eIts its).length ≤ 1048576) = true := by simp; omega
      have k5 : decide (List.length ([] ++ eIts (own.take at_.toNat) ++ eIts its) + (eIts (own.drop at_.toNat)).length ≤ 1048576) = true := by simp; omega
      have app : [] ++ eIts (own.take at_.toNat) ++ eIts its ++ eIts (own.drop at_.toNat) = eIts (own.take at_.toNat ++ its ++ own.drop at_.toNat) := by simp
      have v1 := fun (n : Int) => pn.c20 (R := DV × Heap) (by omega) n
      have v2 := fun (n : Int) => eup.c20 (R := DV × Heap) (by omega) n
      simp only [e11, fx_chk, Int.toNat_natCast, tk, dr1, dr2, k1, k2, k3, k4, k5, cond_true, app, v1, v2, Bool.not_true, cond_false, e3]
      exact next _ _ _ _ nx' (by omega) pn eup
    · have b1 : (qa == 1) = false := by simp [q1]
      simp only [b1, cond_false]
      by_cases q2 : qa = 2
      · subst q2
        simp only [beq_self_eq_true, cond_true]
        obtain ⟨s1, s2, s3, s4, s5, s6⟩ := splitR_items r N own pr.items
        simp only [len_eIts, c19]
        rw [c10 r N or]
        have bl := splitT_bal r (max 0 (min N r.n)) pr.bal
        have bl1 : (splitR r N).1.Bal := bl.1
        have bl2 : (splitR r N).2.Bal := bl.2
        generalize splitR r N = ab at *
        obtain ⟨a, b⟩ := ab
        simp only at s1 s2 s3 s4 bl1 bl2 ⊢
        generalize clampT N 0 own.length = at_ at *
        have g1 : ((a.n : Int) != at_) = false := by rw [s3]; simp
        have g2 : ((b.n : Int) != IntKind.wrap .i64 ((own.length : Int) - at_)) = false := by rw [s4, wrap64 (by omega) (by omega)]; simp
        have hitems : own.drop at_.toNat ++ own.take at_.toNat = allI [b, a] := by simp [allI, s1, s2]
        have hl2 : (own.drop at_.toNat ++ own.take at_.toNat).length = own.length := by simp; omega
        have hmb : MB (own.drop at_.toNat ++ own.take at_.toNat) := (pr.mb.drop _).app (pr.mb.take _)
        have e11 (F : Fr) := c11 (R := DV × Heap) (F := F) [b, a] (by rw [← hitems]; exact hmb.small (by omega)) (by simp)
        simp only [eRs, List.map_cons, List.map_nil, eR] at e11
        have pn : PInv (own.drop at_.toNat ++ own.take at_.toNat) (i + 1) (joinL .nil [b, a]) := by
          refine ⟨by rw [joinL_items, ← hitems]; rfl, joinL_bal _ _ trivial ?_, by rw [hl2]; omega, hmb⟩
          intro t ht
          simp at ht
          rcases ht with rfl | rfl
          · exact bl2
          · exact bl1
        have k1 : (decide (0 ≤ at_) && (decide (at_ ≤ (own.length : Int)) && decide ((own.length : Int) ≤ (own.length : Int)))) = true := by simp; omega
        have k2 : (true && (decide (0 ≤ at_) && decide (at_ ≤ (own.length : Int)))) = true := by simp; omega
        have k3 : decide (0 + (eIts (own.drop at_.toNat)).length ≤ 1048576) = true := by simp; omega
        have k4 : decide (List.length ([] ++ eIts (own.drop at_.toNat)) + (eIts (own.take at_.toNat)).length ≤ 1048576) = true := by simp; omega
        have app : [] ++ eIts (own.drop at_.toNat) ++ eIts (own.take at_.toNat) = eIts (own.drop at_.toNat ++ own.take at_.toNat) := by simp
        have v1 := fun (n : Int) => pn.c20 (R := DV × Heap) (by omega) n
        have v2 := fun (n : Int) => eup.c20 (R := DV × Heap) (by omega) n
        simp only [c14, g1, g2, cond_false, e11, fx_chk, Int.toNat_natCast, tk, dr1, dr2, k1, k2, k3, k4, cond_true, app, v1, v2, Bool.not_true]
        exact next _ _ _ _ nx (by omega) pn eup
      · have b2 : (qa == 2) = false := by simp [q2]
        simp only [b2, cond_false]
        by_cases q3 : qa = 3
        · subst q3
          simp only [beq_self_eq_true, cond_true]
          simp only [len_eIts]
          have w1 := win_in N 0 own.length (by omega)
          rw [c15 N 0 _ (by omega) (by omega) (by omega)]
          simp only
          generalize win N 0 own.length = fr at *
          have w2 := win_in M fr own.length (by omega)
          rw [c15 M fr _ (by omega) (by omega) (by omega)]
          simp only
          generalize win M fr own.length = to_ at *
          rw [c10 r fr or]
          simp only
          obtain ⟨s1, s2, s3, s4, s5, s6⟩ := splitR_items r fr own pr.items
          rw [clamp_in w1.1 w1.2] at s1 s2 s3 s4
          have bl := splitT_bal r (max 0 (min fr r.n)) pr.bal
          have bl1 : (splitR r fr).1.Bal := bl.1
          have bl2 : (splitR r fr).2.Bal := bl.2
          generalize splitR r fr = ab at *
          obtain ⟨a, b⟩ := ab
          simp only at s1 s2 s3 s4 bl1 bl2 ⊢
          have ob : b.Ok := by rw [ok_iff, s2]; exact (pr.mb.drop _).small (by simp; omega)
          have ew : IntKind.wrap .i64 (to_ - fr) = to_ - fr := by rw [wrap64 (by omega) (by omega)]
          rw [ew, c10 b _ ob]
          simp only
          obtain ⟨t1, t2, t3, t4, t5, t6⟩ := splitR_items b (to_ - fr) _ s2
          have hdl : (own.drop fr.toNat).length = own.length - fr.toNat := by simp
          rw [clamp_in (by omega) (by rw [hdl]; omega)] at t1 t2 t3 t4
          have cl := splitT_bal b (max 0 (min (to_ - fr) b.n)) bl2
          have cl2 : (splitR b (to_ - fr)).2.Bal := cl.2
          generalize splitR b (to_ - fr) = cd at *
          obtain ⟨c, dd⟩ := cd
          simp only at t1 t2 t3 t4 cl2 ⊢
          rw [List.drop_drop, show fr.toNat + (to_ - fr).toNat = to_.toNat from by omega] at t2
          have hitems : own.take fr.toNat ++ own.drop to_.toNat = allI [a, dd] := by simp [allI, s1, t2]
          have hl2 : (own.take fr.toNat ++ own.drop to_.toNat).length ≤ own.length := by simp; omega
          have hmb : MB (own.take fr.toNat ++ own.drop to_.toNat) := (pr.mb.take _).app (pr.mb.drop _)
          have e11 (F : Fr) := c11 (R := DV × Heap) (F := F) [a, dd] (by rw [← hitems]; exact hmb.small (by omega)) (by simp)
          simp only [eRs, List.map_cons, List.map_nil, eR] at e11
          have pn : PInv (own.take fr.toNat ++ own.drop to_.toNat) (i + 1) (joinL .nil [a, dd]) := by
            refine ⟨by rw [joinL_items, ← hitems]; rfl, joinL_bal _ _ trivial ?_, by omega, hmb⟩
            intro t ht
            simp at ht
            rcases ht with rfl | rfl
            · exact bl1
            · exact cl2
          have k1 : (decide (0 ≤ to_) && (decide (to_ ≤ (own.length : Int)) && decide ((own.length : Int) ≤ (own.length : Int)))) = true := by simp; omega
          have k2 : (true && (decide (0 ≤ fr) && decide (fr ≤ (own.length : Int)))) = true := by simp; omega
          have k3 : decide (0 + (eIts (own.take fr.toNat)).length ≤ 1048576) = true := by simp; omega
          have k4 : decide (List.length ([] ++ eIts (own.take fr.toNat)) + (eIts (own.drop to_.toNat)).length ≤ 1048576) = true := by simp; omega
          have app : [] ++ eIts (own.take fr.toNat) ++ eIts (own.drop to_.toNat) = eIts (own.take fr.toNat ++ own.drop to_.toNat) := by simp
          have v1 := fun (n : Int) => pn.c20 (R := DV × Heap) (by omega) n
          have v2 := fun (n : Int) => eup.c20 (R := DV × Heap) (by omega) n
          simp only [e11, fx_chk, Int.toNat_natCast, tk, dr1, dr2, k1, k2, k3, k4, cond_true, app, v1, v2, Bool.not_true, cond_false]
          exact next _ _ _ _ nx (by omega) pn eup
        · have b3 : (qa == 3) = false := by simp [q3]
          simp only [b3, cond_false]
          have v1 := fun (n : Int) => pup.c20 (R := DV × Heap) (by omega) n
          have v2 := fun (n : Int) => eup.c20 (R := DV × Heap) (by omega) n
          by_cases q4 : qa = 4
          · subst q4
            simp only [beq_self_eq_true, cond_true]
            simp only [len_eIts]
            by_cases h100 : own.length < 100
            · have d1 : decide ((own.length : Int) < 100) = true := decide_eq_true (by omega)
              have hitems : own ++ own = allI [r, r] := by simp [allI, pr.items]
              have hmb : MB (own ++ own) := pr.mb.app pr.mb
              have e11 (F : Fr) := c11 (R := DV × Heap) (F := F) [r, r] (by rw [← hitems]; exact hmb.small (by simp; omega)) (by simp)
              simp only [eRs, List.map_cons, List.map_nil, eR] at e11
              have pn : PInv (own ++ own) (i + 1) (joinL .nil [r, r]) := by
                refine ⟨by rw [joinL_items, ← hitems]; rfl, joinL_bal _ _ trivial ?_, by simp; omega, hmb⟩
                intro t ht
                simp at ht
                subst ht
                exact pr.bal
              have k3 : decide (0 + (eIts own).length ≤ 1048576) = true := by simp; omega
              have k4 : decide (List.length ([] ++ eIts own) + (eIts own).length ≤ 1048576) = true := by simp; omega
              have app : [] ++ eIts own ++ eIts own = eIts (own ++ own) := by simp
              have v3 := fun (n : Int) => pn.c20 (R := DV × Heap) (by omega) n
              simp only [d1, cond_true, e11, fx_chk, k3, k4, app, v3, v1, Bool.not_true, cond_false]
              exact next _ _ _ _ nx (by omega) pn pup
            · have d1 : decide ((own.length : Int) < 100) = false := decide_eq_false (by omega)
              simp only [d1, cond_false, v1, v2, Bool.not_true]
              exact next _ _ _ _ nx (by omega) pup eup
          · have b4 : (qa == 4) = false := by simp [q4]
            simp only [b4, cond_false, v1, v2, Bool.not_true]
            exact next _ _ _ _ nx (by omega) pup eup
theorem plays (asks : List Ask3) : callω T 5 [.val false [.d (.slice 3 (eAs asks))]] [] = some (.val false [.d (.bool true)], []) := by
  refine byK (fn := Try.f5) (by kernel_rfl) (by kernel_rfl) ?_
  rw [r5]
  unfold g5
  rw [fx_lp]
  have p0 : PInv [] 0 .nil := ⟨rfl, trivial, by simp, fun _ h => by simp at h⟩
  have h := plays_loop (x := (.val false [.d (.bool true)], [])) (kk := contAt T kt (fxR T (frOf T 5 Try.f5 0)) (frOf T 5 Try.f5 0) 0 0 (bodyOf Try.f5) (endK T 5 Try.f5 0)) asks (by
    intro l282 l283 i284 i285 b286 d287 d288
    rw [ra5_0_12]
    unfold ga5_0_12
    rw [c3]) 25 0 0 [] [] .nil .nil (by omega) (by omega) p0 p0
  exact h
end Go.Proofs.TryI
