/- Part of a proof that the laws of this seat return true: a machine over plain data (Idl) that is sound for the given model, and its runs. Conditions: none. -/
import Derived.Test.YtemfbebfodagpaaRopeS7
import Derived.Test.YtemfbebfodagpaaGL6
set_option linter.all false
set_option linter.all false
set_option maxRecDepth 100000
namespace Go.Proofs.TryI
open Go Go.Idl Go.Proofs

def kit (k : Int) : It := ⟨k, (1, (win k 0 99).toNat)⟩
theorem kit_sums (l : List Int) : sA (l.map kit) = l.length ∧ sB (l.map kit) ≤ 99 * l.length := by
  induction l with
  | nil => simp [sA, sB]
  | cons k l ih =>
    have := win_in k 0 99 (by omega)
    simp only [List.map_cons, sA, sB, kit, List.length_cons] at ih ⊢
    omega
theorem kit_small (l : List Int) (h : l.length ≤ 1000) : Small (l.map kit) := by
  obtain ⟨h1, h2⟩ := kit_sums l
  exact ⟨by simp; omega, by omega, by omega⟩
def eI (k : Int) : List D := [.int .i64 k]
abbrev eKs (l : List Int) : List (List D) := l.map eI
theorem parts_loop {x : DV × Heap} {kk : Ex → St → Option (DV × Heap)} (keys : List Int) (i4 i5 : Int) (b6 : Bool)
    (hk : ∀ (m : Nat) (i : Int) (b : Bool) (one : RT), m ≤ 60 → one.items = (keys.take m).map kit → one.Bal → kk (.exit 0) (sx6_0_0 (eKs keys) i4 i5 b6 i b (eIts ((keys.take m).map kit)) (enc one)) = some x) : ∀ (l pre : List Int) (one : RT), keys = pre ++ l → pre.length ≤ 60 → one.items = pre.map kit → one.Bal →
    lpk T (frOf T 6 Try.f6 0) 0 [0, 1, 2, 6, 7, 8, 9] (bodyAt 0 0 (bodyOf Try.f6)) (st6_0 (eKs keys) i4 i5 b6 pre.length (eIts (pre.map kit)) (enc one)) kk = some x := by
  intro l
  induction l with
  | nil =>
    intro pre one e hp ho bal
    simp only [List.append_nil] at e
    refine lpk_go kx ?_
    rw [rl6_0]
    unfold gl6_0
    have hd : decide ((pre.length : Int) < ((eKs keys).length : Int)) = false := by rw [List.length_map, e]; simp
    rw [hd, cond_false]
    have := hk pre.length pre.length false one hp (by rw [ho, e, List.take_length]) bal
    rw [e, List.take_length] at this
    rw [e]
    exact this
  | cons k l ih =>
    intro pre one e hp ho bal
    refine lpk_go kx ?_
    rw [rl6_0]
    unfold gl6_0
    have hd : decide ((pre.length : Int) < ((eKs keys).length : Int)) = true := by rw [List.length_map, e]; simp; omega
    rw [hd, cond_true]
    by_cases h60 : pre.length < 60
    · have h60' : decide ((pre.length : Int) < 60) = true := decide_eq_true (by omega)
      have hx : (eKs keys)[pre.length]? = some (eI k) := by rw [e]; simp
      have hw := win_in k 0 99 (by omega)
      obtain ⟨w, hw2⟩ : ∃ w : Nat, win k 0 99 = w := ⟨(win k 0 99).toNat, by omega⟩
      have hkit : kit k = ⟨k, (1, w)⟩ := by unfold kit; rw [hw2]; rfl
      have hl : decide ((eIts (pre.map kit)).length + 1 ≤ 1048576) = true := by simp; omega
      have e3 : IntKind.wrap .i64 ((pre.length : Int) + 1) = (((pre ++ [k]).length : Nat) : Int) := by rw [wrap64 (by omega) (by omega)]; simp
      have so : Small (one.items ++ [kit k]) := by
        rw [ho]
        have := kit_small (pre ++ [k]) (by simp; omega)
        rw [List.map_append] at this
        exact this
      have e8 (F : Fr) := c8 (R := DV × Heap) (F := F) [kit k] so.right
      simp only [eIts, List.map_cons, List.map_nil, eIt, cp, hkit] at e8
      have e1 : eIts (pre.map kit) ++ [[D.int .i64 k, D.cpx .f64 (FN 1) (FN w)]] = eIts ((pre ++ [k]).map kit) := by simp [hkit, eIt, cp]
      have o1 := ofT_items [kit k]
      have bal1 := ofT_bal [kit k]
      rw [hkit] at o1 bal1
      have e11 (F : Fr) := c11 (R := DV × Heap) (F := F) [one, ofT [⟨k, (1, w)⟩]] (by simp only [allI, o1, List.append_nil]; rw [← hkit]; exact so) (by simp)
      simp only [eRs, List.map_cons, List.map_nil, eR] at e11
      have hitems : (joinL .nil [one, ofT [⟨k, (1, w)⟩]]).items = (pre ++ [k]).map kit := by
        rw [joinL_items]
        simp [RT.items, allI, o1, ho, hkit]
      have hbal : (joinL .nil [one, ofT [⟨k, (1, w)⟩]]).Bal := joinL_bal _ _ trivial (by
        intro t ht
        simp at ht
        rcases ht with rfl | rfl
        · exact bal
        · exact bal1)
      have hgo := ih (pre ++ [k]) _ (by rw [e]; simp) (by simp; omega) hitems hbal
      rw [h60', cond_true]
      simp only [fx_elp, Int.natCast_nonneg, if_true, Int.toNat_natCast, hx, fx_ptr, eI, ld_int]
      rw [c15 k 0 99 (by omega) (by omega) (by omega), hw2]
      have e9 (F : Fr) (k : _ → Option (DV × Heap)) : (fxR T F).call 9 [vI 1, vI w] [] ⟨[(false, [.d .cpx])], []⟩ k = k ((((FN 1, FN w), ()), ()), ()) := c9 1 w k
      simp only [e9]
      simp only [fx_chk, hl, cond_true, e8, e11, e1, e3]
      exact hgo
    · have h60' : decide ((pre.length : Int) < 60) = false := decide_eq_false (by omega)
      have h60e : pre.length = 60 := by omega
      rw [h60', cond_false]
      have ht : keys.take pre.length = pre := by rw [e]; simp
      have := hk pre.length pre.length false one hp (by rw [ht]; exact ho) bal
      rw [ht] at this
      exact this
theorem parts (keys : List Int) (i j : Int) : callω T 6 [.val false [.d (.slice 1 (eKs keys))], vI i, vI j] [] = some (.val false [.d (.bool true)], []) := by
  refine byK (fn := Try.f6) (by kernel_rfl) (by kernel_rfl) ?_
  rw [r6]
  unfold g6
  rw [fx_lp]
  have h := parts_loop (x := (.val false [.d (.bool true)], [])) (kk := contAt T kt (fxR T (frOf T 6 Try.f6 0)) (frOf T 6 Try.f6 0) 0 0 (bodyOf Try.f6) (endK T 6 Try.f6 0)) keys i j false (by
    intro m i' b one hm ho bal
    rw [ra6_0_0]
    unfold ga6_0_0
    have hits : ((keys.take m).map kit).length ≤ 60 := by simp; omega
    have so := kit_small (keys.take m) (by simp; omega)
    generalize (keys.take m).map kit = its at ho hits so
    rw [c8 its so]
    simp only
    have hi := ofT_items its
    have hbr := ofT_bal its
    generalize ofT its = r at hi hbr
    have or : r.Ok := by rw [ok_iff, hi]; exact so
    rw [c10 r i or]
    simp only
    have s1 : (splitR r i).1.items ++ (splitR r i).2.items = its := by rw [← hi]; exact (splitT_sums r _).2.2.2
    have w1 : (splitR r i).1.wa + (splitR r i).2.wa = r.wa ∧ (splitR r i).1.wb + (splitR r i).2.wb = r.wb ∧ (splitR r i).1.n + (splitR r i).2.n = r.n := by have := splitT_sums r (max 0 (min i r.n)); exact ⟨this.2.1, this.2.2.1, this.1⟩
    have b1 : (splitR r i).1.Bal ∧ (splitR r i).2.Bal := splitT_bal r _ hbr
    generalize splitR r i = ab at s1 w1 b1
    obtain ⟨a, b'⟩ := ab
    simp only at s1 w1 b1
    have ob : b'.Ok := by rw [ok_iff]; rw [← s1] at so; exact so.right
    rw [c10 b' j ob]
    simp only
    have s2 : (splitR b' j).1.items ++ (splitR b' j).2.items = b'.items := (splitT_sums b' _).2.2.2
    have w2 : (splitR b' j).1.wa + (splitR b' j).2.wa = b'.wa ∧ (splitR b' j).1.wb + (splitR b' j).2.wb = b'.wb ∧ (splitR b' j).1.n + (splitR b' j).2.n = b'.n := by have := splitT_sums b' (max 0 (min j b'.n)); exact ⟨this.2.1, this.2.2.1, this.1⟩
    have b2 : (splitR b' j).1.Bal ∧ (splitR b' j).2.Bal := splitT_bal b' _ b1.2
    generalize splitR b' j = cd at s2 w2 b2
    obtain ⟨c, d⟩ := cd
    simp only at s2 w2 b2
    have hall : allI [a, c, d] = its := by simp only [allI, List.append_nil]; rw [s2, s1]
    have e11 (F : Fr) := c11 (R := DV × Heap) (F := F) [a, c, d] (by rw [hall]; exact so) (by simp)
    simp only [eRs, List.map_cons, List.map_nil, eR] at e11
    rw [e11]
    simp only
    have hback : (joinL .nil [a, c, d]).items = its := by rw [joinL_items, hall]; rfl
    have balback : (joinL .nil [a, c, d]).Bal := joinL_bal _ _ trivial (by
      intro t ht
      simp at ht
      rcases ht with rfl | rfl | rfl
      · exact b1.1
      · exact b2.1
      · exact b2.2)
    generalize joinL .nil [a, c, d] = back at hback balback
    have hbig (t : RT) (h : t.items.length ≤ 60) : t.n < 1000000 := by rw [t.n_items]; omega
    have n1 := hbig one (by rw [ho]; exact hits)
    have n2 := hbig back (by rw [hback]; exact hits)
    have o1 : one.Ok := by rw [ok_iff, ho]; exact so
    have o2 : back.Ok := by rw [ok_iff, hback]; exact so
    rw [c12 one n1, ho]
    simp only
    rw [c16 its so]
    simp only [cond_true]
    rw [c12 back n2, hback]
    simp only
    rw [c16 its so]
    simp only [cond_true, c17]
    have z1 : a.wa + (c.wa + (d.wa + 0)) = r.wa := by omega
    have z2 : a.wb + (c.wb + (d.wb + 0)) = r.wb := by omega
    have e18 (F : Fr) := c18 (R := DV × Heap) (F := F) [(a.wa, a.wb), (c.wa, c.wb), (d.wa, d.wb)] (by have := or.2.1; simp only [sumM]; omega) (by have := or.2.2; simp only [sumM]; omega) (by simp)
    simp only [eMs, List.map_cons, List.map_nil, eM, cp] at e18
    rw [e18]
    simp only [sumM]
    rw [z1, z2, floatEq_self (by have := or.2.1; omega), floatEq_self (by have := or.2.2; omega)]
    simp only [Bool.and_self, cond_true, c14]
    have hrn := r.n_items
    rw [hi] at hrn
    have e5 : (IntKind.wrap .i64 (IntKind.wrap .i64 ((a.n : Int) + c.n) + d.n) == ((eIts its).length : Int)) = true := by
      rw [wrap64 (n := (a.n : Int) + c.n) (by omega) (by omega), wrap64 (by omega) (by omega), List.length_map]
      simp
      omega
    rw [e5, cond_true]
    have g1 := fun (F : Fr) (k : _ → Option (DV × Heap)) => c20 (F := F) one i o1 bal n1 k
    have g2 := fun (F : Fr) (k : _ → Option (DV × Heap)) => c20 (F := F) back j o2 balback n2 k
    rw [ho] at g1
    rw [hback] at g2
    simp only [g1, g2, cond_true]
    have e0 (F : Fr) := c11 (R := DV × Heap) (F := F) [] ⟨by simp [allI], by simp [allI, sA], by simp [allI, sB]⟩ (by simp)
    simp only [eRs, List.map_nil, joinL] at e0
    simp only [e0, c14, RT.n]
    rw [c3]
    rfl) keys [] .nil rfl (by simp) rfl trivial
  exact h
end Go.Proofs.TryI
