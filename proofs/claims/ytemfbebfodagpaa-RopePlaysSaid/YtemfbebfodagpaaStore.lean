/- Part of a proof that the laws of this seat return true: a machine over plain data (Idl) that is sound for the given model, and its runs. Conditions: none. -/
import Derived.Test.YtemfbebfodagpaaOps
set_option linter.all false
namespace Go.Idl
open Go

theorem getElem?_setC {α : Type} (l : List α) (n : Nat) (vs : List α) (h : n + vs.length ≤ l.length) (j : Nat) :
    (setC l n vs)[j]? = if n ≤ j ∧ j < n + vs.length then vs[j - n]? else l[j]? := by
  unfold setC
  rw [List.append_assoc, List.getElem?_append, List.getElem?_append]
  simp only [List.length_take, Nat.min_eq_left (show n ≤ l.length by omega)]
  by_cases h1 : j < n
  · rw [if_pos h1, if_neg (by omega), List.getElem?_take_of_lt h1]
  · rw [if_neg h1]
    by_cases h2 : j - n < vs.length
    · rw [if_pos h2, if_pos (by omega)]
    · rw [if_neg h2, if_neg (by omega), List.getElem?_drop]
      congr 1
      omega
theorem length_setC {α : Type} (l : List α) (n : Nat) (vs : List α) (h : n + vs.length ≤ l.length) : (setC l n vs).length = l.length := by
  unfold setC; simp; omega
theorem f2_setC {α β : Type} {R : α → β → Prop} {l : List α} {m : List β} {a : List α} {b : List β} (h : F2 R l m) (n : Nat) (k : F2 R a b) : F2 R (setC l n a) (setC m n b) := by
  unfold setC
  rw [f2_len k]
  exact f2_append (f2_append (f2_take h n) k) (f2_drop h _)

theorem apart_rows {i i' j sz off n : Nat} (h : i' ≠ i) (hj : j < sz) (hn : off + n ≤ sz) : ¬ (i * sz + off ≤ i' * sz + j ∧ i' * sz + j < i * sz + off + n) := by
  rcases Nat.lt_or_gt_of_ne h with h | h
  · have : (i' + 1) * sz ≤ i * sz := Nat.mul_le_mul_right _ h
    rw [Nat.add_mul, Nat.one_mul] at this
    omega
  · have : (i + 1) * sz ≤ i' * sz := Nat.mul_le_mul_right _ h
    rw [Nat.add_mul, Nat.one_mul] at this
    omega

theorem storeC_ok {P : Program} {σ : Sg} {H : Im} {h : Heap} {w : World} (r : RelM σ H h w) {p : C} {v : Value} {cs : List C} {vals : List Value} {h' : Heap}
    (e : storeC h p cs = some h') (hp : Crel σ H p v) (hc : Crels σ H cs vals) :
    ∃ b o w' H', v = .pointer (some ⟨b, o, none⟩) ∧ (Go.storeCells ⟨b, o, none⟩ vals).run P w = .ok () w' ∧ Post σ H h w σ H' h' w' := by
  have hlen := f2_len hc
  unfold storeC at e
  split at e
  · rename_i k off
    split at e
    · rename_i cs0 hk
      split at e
      · rename_i hfit
        cases e
        obtain ⟨b, hσ, rfl⟩ := hp
        obtain ⟨b', c, T, hv, hb, hcs⟩ := r.obj k _ _ hk hσ
        cases hv
        have hl0 := f2_len hcs
        obtain ⟨w', hr, hs, hsz, hoth, c', hb', hcl⟩ := storeCells_run P b off vals 0 w c T 0 0 hb (by simp at hl0; omega) hc.ones (fun j _ _ => by omega)
        have hheld := r.held k _ _ b hk rfl hσ rfl
        refine ⟨b, off, w', H, rfl, hr, Post.upd r k _ _ _ hk rfl hσ hs (by omega) ?_ (.refl H) (fun _ _ _ x => .inl x) ?_ ?_ ?_⟩
        · intro j _ hj; exact hoth j (fun x => hj (by subst x; rfl))
        · intro j i u hj hu; simp [blk] at hj; subst hj; rw [hheld i] at hu; cases hu
        · exact ⟨b, c', T, rfl, hb', by rw [hcl]; exact f2_setC hcs _ hc⟩
        · intro _ j hj; simp [blk] at hj; subst hj; exact hheld
      · cases e
    · cases e
  · rename_i k s i off
    split at e
    · rename_i ds h1 ef
      split at e
      · rename_i st t sz es hk
        split at e
        · rename_i el hi
          split at e
          · rename_i hfit
            obtain ⟨hfit, rfl⟩ := hfit
            cases e
            obtain ⟨H1, p1, hd⟩ := frzL_ok ef r hc
            obtain ⟨b, l, c, hσ, rfl⟩ := hp
            rcases p1.rel.obj k _ _ hk hσ with ⟨hv, _⟩ | ⟨b', cap, c', lo, hi', hv, hb, g1, g2, g3, g4, g5, g6, g7⟩
            · cases hv
            · cases hv
              have hel := g4 el (List.mem_of_getElem? hi)
              have hdl := f2_len hd
              have hilt := ltl_of_some hi
              have hrow := mul_add_lt (sz := s) hilt (show s - 1 < s by omega)
              have hcap : es.length * s ≤ c * s := Nat.mul_le_mul_right _ g2
              obtain ⟨w', hr, hs, hsz, hoth, c2, hb', hcl⟩ := storeCells_run P b (i * s + off) vals 0 w c' t lo hi' hb (by omega) hc.ones (fun j j1 j2 => by
                rcases g7 with g7 | g7 | g7
                · omega
                · have := g7.2; omega
                · cases g7.1)
              have hheld := p1.rel.held k _ _ b hk rfl hσ rfl
              refine ⟨b, i * s + off, w', H1, rfl, hr, p1.trans (Post.upd p1.rel k _ _ _ hk rfl hσ hs (by omega) ?_ (.refl H1) (fun _ _ _ x => .inl x) ?_ ?_ ?_)⟩
              · intro j _ hj; exact hoth j (fun x => hj (by subst x; rfl))
              · intro j i u hj hu; simp [blk] at hj; subst hj; rw [hheld i] at hu; cases hu
              · have hsc : i * s + off + 0 + vals.length ≤ c'.toList.length := by simp; omega
                have hsl := length_setC c'.toList (i * s + off + 0) vals hsc
                have hget := getElem?_setC c'.toList (i * s + off + 0) vals hsc
                have hc2 : ∀ j, c2[j]? = if i * s + off ≤ j ∧ j < i * s + off + vals.length then vals[j - (i * s + off)]? else c'[j]? := by
                  intro j
                  have := hget j
                  rw [← hcl] at this
                  simpa using this
                refine .inr ⟨b, c, c2, lo, hi', by simp, hb', ?_, by simpa using g2, g3, ?_, ?_, ?_, ?_⟩
                · rw [← Array.length_toList, hcl, hsl, Array.length_toList]; exact g1
                · intro x hx
                  rcases List.mem_or_eq_of_mem_set hx with hx | rfl
                  · exact g4 x hx
                  · rw [length_setC _ _ _ hfit]; exact hel
                · intro u hu
                  rw [hcl] at hu
                  unfold setC at hu
                  simp only [List.mem_append] at hu
                  rcases hu with (hu | hu) | hu
                  · exact g5 u (List.mem_of_mem_take hu)
                  · exact hc.ones u hu
                  · exact g5 u (List.mem_of_mem_drop hu)
                · intro i' x hx j d hd'
                  rw [hc2]
                  rcases getElem?_set_cases hx with ⟨rfl, rfl, _⟩ | ⟨hne, hx⟩
                  · rw [getElem?_setC _ _ _ hfit] at hd'
                    have hjl : off ≤ j ∧ j < off + ds.length ∨ ¬ (off ≤ j ∧ j < off + ds.length) := by omega
                    rcases hjl with hj | hj
                    · rw [if_pos hj] at hd'
                      rw [if_pos (by omega)]
                      obtain ⟨u, hu, hr⟩ := f2_get hd _ _ hd'
                      exact ⟨u, by rw [← hu]; congr 1; omega, hr⟩
                    · rw [if_neg hj] at hd'
                      rw [if_neg (by omega)]
                      exact g6 i' el hi j d hd'
                  · have hxl := g4 x (List.mem_of_getElem? hx)
                    rw [if_neg (apart_rows hne (hxl ▸ ltl_of_some hd') (by omega))]
                    exact g6 i' x hx j d hd'
                · have : c2.size = c'.size := by rw [← Array.length_toList, hcl, hsl, Array.length_toList]
                  rw [this]
                  rcases g7 with g7 | g7 | g7
                  · exact .inl g7
                  · exact .inr (.inl g7)
                  · cases g7.1
              · intro _ j hj; simp [blk] at hj; subst hj; exact hheld
          · cases e
        · cases e
      · cases e
    · cases e
  · cases e
end Go.Idl
