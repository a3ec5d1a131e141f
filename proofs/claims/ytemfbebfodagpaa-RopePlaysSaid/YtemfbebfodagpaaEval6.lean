/- Part of a proof that the laws of this seat return true: a machine over plain data (Idl) that is sound for the given model, and its runs. Conditions: none. -/
import Derived.Test.YtemfbebfodagpaaEval5
set_option linter.all false
set_option linter.unusedSectionVars false
namespace Go.Idl
open Go

theorem elemsOf_inv {h : Heap} {sz : Nat} {v : DV} {es : List (List D)} (e : elemsOf h sz v = some es) (hn : ∀ s, v ≠ .val false [.d (.str s)]) :
    v = .val false [.d (.slice sz es)] ∨ (v = .val false [.d .nils] ∧ es = []) ∨ ∃ k f st t, v = .val false [.arr k] ∧ h[k]? = some (.arr f st t sz es) := by
  unfold elemsOf at e
  split at e
  · split at e
    · rename_i hs; cases e; subst hs; exact .inl rfl
    · cases e
  · cases e; exact .inr (.inl ⟨rfl, rfl⟩)
  · rename_i s; exact absurd rfl (hn s)
  · split at e
    · rename_i hk
      split at e
      · rename_i hs; cases e; subst hs; exact .inr (.inr ⟨_, _, _, _, rfl, hk⟩)
      · cases e
    · cases e
  · cases e

theorem slice_cut {H : Im} {sz : Nat} {es : List (List D)} {a : Option Addr} {n cap : Nat} (hd : Drel H (.slice sz es) (.slice a n cap)) {l u : Nat} (hl : l ≤ u) (hu : u ≤ n) :
    n = es.length ∧ n ≤ cap ∧ Drel H (.slice sz ((es.take u).drop l)) (.slice (if cap = l then a else a.map (·.add (l * sz))) (u - l) (cap - l)) := by
  generalize hv : Value.slice a n cap = v at hd
  cases hd with
  | slice sz es a' cap' b o vals hll ha hc h1 h2 =>
    cases hv
    refine ⟨rfl, hc, ?_⟩
    have hget : ∀ i e, ((es.take u).drop l)[i]? = some e → es[l + i]? = some e ∧ l + i < u := by
      intro i e he
      have hlt := ltl_of_some he
      rw [List.getElem?_drop] at he
      simp at hlt
      rw [List.getElem?_take_of_lt (by omega)] at he
      exact ⟨he, by omega⟩
    have hlen : ((es.take u).drop l).length = u - l := by simp; omega
    rw [← hlen]
    have hmul : ∀ i, (l + i) * sz = l * sz + i * sz := fun i => Nat.add_mul _ _ _
    refine .slice sz _ _ (cap - l) b (o + l * sz) (fun i j => vals (l + i) j) ?_ ?_ (by rw [hlen]; omega) ?_ ?_
    · intro e he; exact hll e (List.mem_of_mem_take (List.mem_of_mem_drop he))
    · intro hne
      have hlu : l < u := by
        rcases Nat.lt_or_ge l u with h | h
        · exact h
        · exfalso; apply hne; apply List.eq_nil_of_length_eq_zero; rw [hlen]; omega
      rw [if_neg (by omega), ha (by intro e; subst e; simp at hu; omega)]
      simp [add_lit]
    · intro i e he j d hj
      obtain ⟨he, _⟩ := hget i e he
      have := h1 _ e he j d hj
      rw [hmul] at this
      rw [show o + l * sz + i * sz + j = o + (l * sz + i * sz) + j from by omega]
      exact this
    · intro i e he j d hj
      obtain ⟨he, _⟩ := hget i e he
      exact h2 _ e he j d hj

section
variable {P : Program} {T : Tab} (hT : TabTy P T) {σ : Sg} {H : Im} {h : Heap} {w : World} (r : RelM σ H h w) {ρ : Opnd} {ρr : Operand → Value} (hρ : Ops σ H ρ ρr)
include hT r hρ

theorem bounds_ok {lo hi : Option Operand} {n c : Nat} {l u : Int} (hl : (match lo with | none => some (0 : Int) | some o => intOf? (ρ o)) = some l)
    (hu : (match hi with | none => some (n : Int) | some o => intOf? (ρ o)) = some u) (h0 : 0 ≤ l) (h1 : l ≤ u) (h2 : u ≤ n) (hc : n ≤ c) (b : Bool) :
    (Instr.sliceBounds b n c (lo.map ρr) (hi.map ρr) none).run P w = .ok (l.toNat, u.toNat, c) w := by
  have hbd : ∀ (o : Operand) (m : Int) (y : Nat) (code : BoundsCode), intOf? (ρ o) = some m → 0 ≤ m → m ≤ y → (Instr.sliceBound (ρr o) y code).run P w = .ok m.toNat w := by
    intro o m y code ho hm hy
    obtain ⟨k, hk⟩ := intOf_rel ho (fun dv e => hρ _ _ e)
    simp [Instr.sliceBound, hk, asIntOf, hm, hy]
  cases lo with
  | none =>
    simp at hl; subst hl
    cases hi with
    | none => simp at hu; subst hu; simp [Instr.sliceBounds]
    | some o =>
      simp at hu
      have := fun code => hbd o u c code hu (by omega) (by omega)
      simp [Instr.sliceBounds, this]
  | some p =>
    simp at hl
    cases hi with
    | none =>
      simp at hu; subst hu
      have := fun code => hbd p l n code hl h0 (by omega)
      simp [Instr.sliceBounds, this]
    | some o =>
      simp at hu
      have h3 := fun code => hbd o u c code hu (by omega) (by omega)
      have h4 := fun code => hbd p l u.toNat code hl h0 (by omega)
      simp [Instr.sliceBounds, h3, h4]

theorem ev_slice {t : TypeId} {x : Operand} {lo hi : Option Operand} {ty : TypeId} {v : Option DV} {h' : Heap} (e : evalOp T ρ h (.slice t x lo hi none) ty = some (v, h')) :
    OpOk P σ H h w (do pure (.value (← Instr.sliceAt t (ρr x) (lo.map ρr) (hi.map ρr) none))) v h' := by
  simp only [evalOp] at e
  split at e
  · rename_i it xv ht hx
    have hund : (underlying t).run P w = .ok it.desc w := (hT.ty _ _ ht).underlying w
    split at e
    · rename_i n hn
      split at e
      · rename_i l u hl hu
        split at e
        · rename_i hc
          obtain ⟨h0, h1, h2⟩ := hc
          split at e
          · rename_i s hd
            cases e
            have hp := Vrel.one.1 (hρ _ _ hx)
            obtain ⟨z, hz⟩ : ∃ z, ρr x = z := ⟨_, rfl⟩
            rw [hz] at hp ⊢
            cases hp with
            | str bs hbs =>
              have hnl : n = bs.size := by simp [lenV, bytes_len] at hn; omega
              subst hnl
              have hb := bounds_ok hT r hρ hl hu h0 h1 h2 (Nat.le_refl _) false
              rw [hd] at hund
              refine .still (rv := .string (bs.extract l.toNat u.toNat)) (by simp [Instr.sliceAt, Instr.slice, hund, hb]) r (Vrel.one.2 ?_)
              have : bytesOf (bs.extract l.toNat u.toNat) = ((bytesOf bs).take u.toNat).drop l.toNat := by
                simp only [bytesOf, ByteArray.data_extract, Array.toList_extract, List.extract_eq_take_drop, List.map_take, List.map_drop, List.drop_take]
              rw [← this]
              exact .str _ (by simp [ByteArray.size_extract]; omega)
          · cases e
          · rename_i xv _ _ el hd hns
            rw [hd] at hund
            split at e
            · rename_i ie hie
              split at e
              · rename_i es hes
                have hnv : ∀ s, xv ≠ .val false [.d (.str s)] := fun s e => by exact hns s e
                have hsz := (hT.ty _ _ hie).sizeOf w
                have fin : ∀ (H' : Im) (h2' : Heap), Post σ H h w σ H' h2' w → Drel H' (.slice ie.size es) (ρr x) → n = es.length →
                    OpOk P σ H h w (do pure (.value (← Instr.sliceAt t (ρr x) (lo.map ρr) (hi.map ρr) none))) (some (.dd (.slice ie.size ((es.take u.toNat).drop l.toNat)))) h2' := by
                  intro H' h2' p hd' hn'
                  obtain ⟨z, hz⟩ : ∃ z, ρr x = z := ⟨_, rfl⟩
                  rw [hz] at hd' ⊢
                  have hz2 : ∃ a m cap, z = .slice a m cap := by cases hd'; exact ⟨_, _, _, rfl⟩
                  obtain ⟨a, m, cap, rfl⟩ := hz2
                  have hm : m = n := by cases hd'; exact hn'.symm
                  subst hm
                  obtain ⟨_, hcap, hcut⟩ := slice_cut hd' (l := l.toNat) (u := u.toNat) (by omega) (by omega)
                  have hb := bounds_ok hT r hρ hl hu h0 h1 h2 hcap true
                  exact .value (by simp [Instr.sliceAt, Instr.slice, hund, hb, hsz]) p (Vrel.one.2 hcut)
                rcases elemsOf_inv hes hnv with rfl | ⟨rfl, rfl⟩ | ⟨k, f, st, t', rfl, hk⟩
                · cases e
                  have hp := Vrel.one.1 (hρ _ _ hx)
                  exact fin H h (.refl r) hp (by simp [lenV] at hn; exact hn.symm)
                · cases e
                  have hp := Vrel.one.1 (hρ _ _ hx)
                  obtain ⟨z, hz⟩ : ∃ z, ρr x = z := ⟨_, rfl⟩
                  rw [hz] at hp
                  cases hp
                  exact fin H h (.refl r) (by rw [hz]; exact .slice _ [] none 0 0 0 (fun _ _ => .pointer none) (by simp) (by simp) (by simp) (by simp) (by simp)) (by simp [lenV] at hn; simp [hn])
                · simp only [hk] at e
                  cases e
                  have hp := Vrel.one.1 (hρ _ _ hx)
                  obtain ⟨H', p, hd'⟩ := arr_frz r hk hp.1
                  exact fin H' _ p hd' (by simp [lenV, hk] at hn; exact hn.symm)
              · cases e
            · cases e
          · cases e
        · cases e
      · cases e
    · cases e
  · cases e
end
end Go.Idl
