/- Part of a proof that the laws of this seat return true: a machine over plain data (Idl) that is sound for the given model, and its runs. Conditions: none. -/
import Derived.Test.YtemfbebfodagpaaFrz
set_option linter.all false
namespace Go.Idl
open Go

/-- What the table says of a type is so. -/
structure TyOk (P : Program) (t : TypeId) (i : TI) : Prop where
  ti : ∃ ti, P.info? t = some ti ∧ ti.size = i.size ∧ ti.bytes = i.bytes ∧ ∀ z, i.zero = some z → ∃ v, ti.zero = some v ∧ constDs v.cells.toList = some z ∧ (i.agg = false → v.oneCell' = true) ∧ (i.agg = true → ∃ a, v = .agg a)
  und : P.underlying t = some i.desc
  fields : ∀ fs, i.desc = .struct fs → ∀ f ∈ fs, ∃ ti, P.info? f.type = some ti
  arr : ∀ n e, i.desc = .array n e → ∃ ti, P.info? e = some ti

section
variable {P : Program} {t : TypeId} {i : TI}
theorem TyOk.underlying (h : TyOk P t i) (w : World) : (underlying t).run P w = .ok i.desc w := by simp [Go.underlying, h.und]
theorem TyOk.sizeOf (h : TyOk P t i) (w : World) : (sizeOf t).run P w = .ok i.size w := by
  obtain ⟨ti, h1, h2, _⟩ := h.ti
  simp [Go.sizeOf, typeInfo, h1, h2]
theorem TyOk.bytesOf (h : TyOk P t i) (w : World) : ∃ ti, (typeInfo t).run P w = .ok ti w ∧ ti.bytes = i.bytes ∧ ti.size = i.size := by
  obtain ⟨ti, h1, h2, h3, _⟩ := h.ti
  exact ⟨ti, by simp [typeInfo, h1], h3, h2⟩
theorem TyOk.zeroValue (h : TyOk P t i) {z : List D} (hz : i.zero = some z) (w : World) : ∃ v, (zeroValue t).run P w = .ok v w ∧ constDs v.cells.toList = some z ∧ (i.agg = false → v.oneCell' = true) ∧ (i.agg = true → ∃ a, v = .agg a) := by
  obtain ⟨ti, h1, _, _, h4⟩ := h.ti
  obtain ⟨v, h5, h6⟩ := h4 z hz
  exact ⟨v, by simp [Go.zeroValue, typeInfo, h1, h5], h6⟩
theorem TyOk.isAgg (h : TyOk P t i) (w : World) : (isAgg t).run P w = .ok i.agg w := by
  simp only [Go.isAgg, Sem.run_bind, h.underlying, Result.andThen_ok, TI.agg]
  split <;> simp_all
end

def OpOk (P : Program) (σ : Sg) (H : Im) (h : Heap) (w : World) (s : Sem Next) (v : Option DV) (h' : Heap) : Prop :=
  ∃ nx w' σ' H', s.run P w = .ok nx w' ∧ Post σ H h w σ' H' h' w' ∧ (match v with | some dv => ∃ rv, nx = .value rv ∧ Vrel σ' H' dv rv | none => nx = .skip)
theorem OpOk.value {P : Program} {σ : Sg} {H : Im} {h : Heap} {w : World} {s : Sem Value} {dv : DV} {h' : Heap} {rv : Value} {w' : World} {σ' : Sg} {H' : Im}
    (hs : s.run P w = .ok rv w') (hp : Post σ H h w σ' H' h' w') (hv : Vrel σ' H' dv rv) : OpOk P σ H h w (do pure (.value (← s))) (some dv) h' :=
  ⟨.value rv, w', σ', H', by simp [hs], hp, rv, rfl, hv⟩
theorem OpOk.value' {P : Program} {σ : Sg} {H : Im} {h : Heap} {w : World} {dv : DV} {rv : Value} (r : RelM σ H h w) (hv : Vrel σ H dv rv) :
    OpOk P σ H h w (pure (.value rv)) (some dv) h := ⟨.value rv, w, σ, H, by simp, .refl r, rv, rfl, hv⟩
theorem OpOk.still {P : Program} {σ : Sg} {H : Im} {h : Heap} {w : World} {s : Sem Value} {dv : DV} {rv : Value}
    (hs : s.run P w = .ok rv w) (r : RelM σ H h w) (hv : Vrel σ H dv rv) : OpOk P σ H h w (do pure (.value (← s))) (some dv) h := .value hs (.refl r) hv

/-- Cells that a pointer leads to. -/
theorem loadC_ok {σ : Sg} {H : Im} {h : Heap} {w : World} (r : RelM σ H h w) {p : C} {v : Value} {n : Nat} {cs : List C} (e : loadC h p n = some cs) (hp : Crel σ H p v) :
    ∃ b o vals, v = .pointer (some ⟨b, o, none⟩) ∧ (∀ j u, vals[j]? = some u → w.cell? ⟨b, o + j, none⟩ = some u) ∧ Crels σ H cs vals ∧ vals.length = n := by
  unfold loadC at e
  split at e
  · rename_i ds
    dsimp only at e
    split at e
    · rename_i hl
      cases e
      cases hp with
      | ptr ds b o vals h1 h2 =>
        refine ⟨b, o, (List.range n).map vals, rfl, ?_, ?_, by simp⟩
        · intro j u hj
          have hjn : j < n := by have := ltl_of_some hj; simpa using this
          have hu : vals j = u := by simpa [hjn] using hj
          have hdl : j < ds.length := by simp at hl; omega
          obtain ⟨d, hd⟩ : ∃ d, ds[j]? = some d := ⟨ds[j], by simp [hdl]⟩
          rw [← hu]; exact r.imm _ _ _ (h1 j d hd)
        · refine Drels.crels (f2_of (by simp at hl ⊢; omega) ?_)
          intro j d u hd hu
          have hjn : j < n := by have := ltl_of_some hu; simpa using this
          have hu' : vals j = u := by simpa [hjn] using hu
          rw [List.getElem?_take_of_lt hjn] at hd
          rw [← hu']; exact h2 j d hd
    · cases e
  · rename_i k off
    split at e
    · rename_i f cs' hk
      dsimp only at e
      split at e
      · rename_i hl
        cases e
        obtain ⟨b, hσ, rfl⟩ := hp
        obtain ⟨b', c, T, hv, hb, hcs⟩ := r.obj k _ _ hk hσ
        cases hv
        refine ⟨b, off, (c.toList.drop off).take n, rfl, ?_, f2_take (f2_drop hcs off) n, by rw [← f2_len (f2_take (f2_drop hcs off) n)]; exact hl⟩
        intro j u hj
        rw [cell_of hb]
        have hjn : j < n := by have := ltl_of_some hj; simp at this; omega
        rw [List.getElem?_take_of_lt hjn, List.getElem?_drop] at hj
        simpa using hj
      · cases e
    · cases e
  · rename_i k s i off
    split at e
    · rename_i f st t sz es hk
      split at e
      · rename_i el hi
        dsimp only at e
        split at e
        · rename_i hl
          obtain ⟨hl, rfl⟩ := hl
          cases e
          obtain ⟨b, l, c, hσ, rfl⟩ := hp
          rcases r.obj k _ _ hk hσ with ⟨hv, _⟩ | ⟨b', cap, c', lo, hi', hv, hb, h1, h2, h3, h4, h5, h6, h7⟩
          · cases hv
          · cases hv
            have hex : ∀ j, j < n → ∃ d u, el[off + j]? = some d ∧ c'[i * s + (off + j)]? = some u ∧ Drel H d u := by
              intro j hj
              have : off + j < el.length := by simp at hl; omega
              obtain ⟨u, hu, hd⟩ := h6 i el hi (off + j) el[off + j] (by simp [this])
              exact ⟨_, u, by simp [this], hu, hd⟩
            refine ⟨b, i * s + off, (List.range n).map (fun j => (c'[i * s + (off + j)]?).getD default), rfl, ?_, ?_, by simp⟩
            · intro j u hj
              have hjn : j < n := by have := ltl_of_some hj; simpa using this
              obtain ⟨d, u', _, hu', _⟩ := hex j hjn
              have : (c'[i * s + (off + j)]?).getD default = u := by simpa [hjn] using hj
              rw [hu'] at this
              rw [cell_of hb, Nat.add_assoc, hu', ← this]; rfl
            · refine Drels.crels (f2_of (by simp at hl ⊢; omega) ?_)
              intro j d u hd hu
              have hjn : j < n := by have := ltl_of_some hu; simpa using this
              obtain ⟨d', u', hd', hu', hr⟩ := hex j hjn
              have : (c'[i * s + (off + j)]?).getD default = u := by simpa [hjn] using hu
              rw [hu'] at this
              rw [List.getElem?_take_of_lt hjn, List.getElem?_drop, hd'] at hd
              cases hd
              rw [← this]; exact hr
        · cases e
      · cases e
    · cases e
  · cases e

theorem mkVal_rel {σ : Sg} {H : Im} {i : TI} {cs : List C} {dv : DV} {vals : List Value} (e : mkVal i cs = some dv) (h : Crels σ H cs vals) :
    (i.agg = true ∧ Vrel σ H dv (.agg vals.toArray)) ∨ (i.agg = false ∧ ∃ u, vals = [u] ∧ Vrel σ H dv u) := by
  unfold mkVal at e
  split at e
  · cases e; exact .inl ⟨by assumption, _, rfl, by simpa using h⟩
  · split at e
    · cases e
      cases h with
      | cons h t => cases t; exact .inr ⟨by simp_all, _, rfl, Vrel.one.2 h⟩
    · cases e

theorem load_run {P : Program} {σ : Sg} {H : Im} {h : Heap} {w : World} (r : RelM σ H h w) {t : TypeId} {i : TI} (ht : TyOk P t i) {p : C} {v : Value} {cs : List C} {dv : DV}
    (e : loadC h p i.size = some cs) (em : mkVal i cs = some dv) (hp : Crel σ H p v) : ∃ rv, (Instr.loadAt t v).run P w = .ok rv w ∧ Vrel σ H dv rv := by
  obtain ⟨b, o, vals, rfl, hc, hr, hl⟩ := loadC_ok r e hp
  have hcs := run_loadCells_list (P := P) w ⟨b, o, none⟩ vals (fun j u hj => by rw [add_lit]; exact hc j u hj)
  rw [hl] at hcs
  rcases mkVal_rel em hr with ⟨ha, hv⟩ | ⟨ha, u, rfl, hv⟩
  · exact ⟨_, by simp [Instr.loadAt, Instr.sureAddr, loadVar, ht.isAgg, ha, ht.sizeOf, hcs], hv⟩
  · have hu := hc 0 u rfl
    rw [Nat.add_zero] at hu
    exact ⟨u, by simp [Instr.loadAt, Instr.sureAddr, loadVar, ht.isAgg, ha, hu], hv⟩
end Go.Idl
