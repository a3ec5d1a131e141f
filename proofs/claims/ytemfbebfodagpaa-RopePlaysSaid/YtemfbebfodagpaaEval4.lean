/- Part of a proof that the laws of this seat return true: a machine over plain data (Idl) that is sound for the given model, and its runs. Conditions: none. -/
import Derived.Test.YtemfbebfodagpaaEval3
set_option linter.all false
set_option linter.unusedSectionVars false
namespace Go.Idl
open Go

section
variable {P : Program} {T : Tab} (hT : TabTy P T) {σ : Sg} {H : Im} {h : Heap} {w : World} (r : RelM σ H h w) {ρ : Opnd} {ρr : Operand → Value} (hρ : Ops σ H ρ ρr)
include hT r hρ

theorem ev_store {t : TypeId} {p x : Operand} {ty : TypeId} {v : Option DV} {h' : Heap} (e : evalOp T ρ h (.store t p x) ty = some (v, h')) :
    OpOk P σ H h w (do Instr.storeAt t (ρr p) (ρr x); pure .skip) v h' := by
  simp only [evalOp] at e
  split at e
  · rename_i i c a cs hi hp hx
    split at e
    · rename_i hl
      split at e
      · rename_i h2 hs
        cases e
        obtain ⟨σ1, p1, h1⟩ := thaw_ok i.sls cs h σ _ r (hρ _ _ hx).cells
        obtain ⟨b, o, w', H', hv, hst, p2⟩ := storeC_ok (P := P) p1.rel hs (Crel.mono p1.ext p1.hle (Vrel.one.1 (hρ _ _ hp))) h1
        have hsz := f2_len (hρ _ _ hx).cells
        simp only [Array.length_toList] at hsz
        refine ⟨.skip, w', σ1, H', ?_, p1.trans p2, rfl⟩
        simp [Instr.storeAt, hv, Instr.sureAddr, storeVar, (hT.ty _ _ hi).sizeOf, ← hsz, hl, hst]
      · cases e
    · cases e
  · cases e

theorem ev_unOp {op : UnOp} {t : TypeId} {x : Operand} {ty : TypeId} {v : Option DV} {h' : Heap} (e : evalOp T ρ h (.unOp op t x) ty = some (v, h')) :
    OpOk P σ H h w (do pure (.value (← Op.unary op (ρr x)))) v h' := by
  simp only [evalOp] at e
  split at e
  · rename_i d hx
    split at e
    · rename_i d' hd
      cases e
      have hr := Vrel.one.1 (hρ _ _ hx)
      unfold unD at hd
      generalize ρr x = rv at hr
      cases hr <;> cases op <;> simp at hd <;> subst hd <;>
        exact .still (by simp [Op.unary, Op.intArith, Op.intBits] <;> rfl) r (Vrel.one.2 (by constructor))
    · cases e
  · cases e

theorem ev_nilCheck {x : Operand} {o : Oper} (ho : o.op = .nilCheck x) {ty : TypeId} {v : Option DV} {h' : Heap} (e : evalOp T ρ h (.nilCheck x) ty = some (v, h')) :
    OpOk P σ H h w (execOp ρr o) v h' := by
  simp only [evalOp] at e
  split at e <;> try (cases e; done)
  all_goals
    rename_i hx
    cases e
    have hv := hρ _ _ hx
    have hr := Vrel.one.1 hv
    unfold execOp
    simp only [ho]
    generalize ρr x = z at hv hr
  · cases hr with
    | ptr ds b o vals h1 h2 => exact .value' r hv
  · cases hr with
    | fn f => exact .value' r hv
  · obtain ⟨b, _, rfl⟩ := hr; exact .value' r hv
  · obtain ⟨b, l, c, _, rfl⟩ := hr; exact .value' r hv
  · obtain ⟨vs, rfl, _⟩ := hr; exact .value' r hv

theorem caps2_ok : ∀ (vs : List DV) (l : List (Nat × Nat)) (rs : List Value), evalOp.caps2 vs = some l → F2 (Vrel σ H) vs rs → Caps σ l rs := by
  intro vs
  induction vs with
  | nil => intro l rs e hr; cases hr; simp [evalOp.caps2] at e; subst e; exact .nil
  | cons x vs ih =>
    intro l rs e hr
    cases hr with
    | cons hx hr =>
      unfold evalOp.caps2 at e
      split at e
      · rename_i h2; cases h2
      · rename_i h2
        split at e
        · rename_i l' hl
          cases e
          cases h2
          exact .cons (Vrel.one.1 hx) (ih _ _ hl hr)
        · cases e
      · cases e
theorem evs_ok : ∀ (xs : List Operand) (vs : List DV), evs ρ xs = some vs → F2 (Vrel σ H) vs (xs.map ρr) := by
  intro xs
  induction xs with
  | nil => intro vs e; simp [evs] at e; subst e; exact .nil
  | cons x xs ih =>
    intro vs e
    simp only [evs] at e
    split at e
    · rename_i v vs' h1 h2
      cases e
      exact .cons (hρ _ _ h1) (ih _ h2)
    · cases e
theorem ev_makeFunc {fn : Fn} {first caps : Array Operand} {o : Oper} (ho : o.op = .makeFunc fn first caps) (hf : ∃ f, fn = .func f) {ty : TypeId} {v : Option DV} {h' : Heap}
    (e : evalOp T ρ h (.makeFunc fn first caps) ty = some (v, h')) : OpOk P σ H h w (execOp ρr o) v h' := by
  obtain ⟨f, rfl⟩ := hf
  simp only [evalOp] at e
  split at e
  · rename_i vs hfirst hvs
    split at e
    · rename_i l hl
      cases e
      have hfe : first = #[] := by cases first; simp at hfirst; subst hfirst; rfl
      subst hfe
      have := caps2_ok hT r hρ _ _ _ hl (evs_ok hT r hρ _ _ hvs)
      unfold execOp
      simp only [ho]
      exact .still (rv := .func (.func f) #[] (caps.map ρr)) (by simp [Instr.makeFunc]) r (Vrel.one.2 ⟨_, rfl, by simpa using this⟩)
    · cases e
  · cases e

theorem ev_fieldAddr {s : TypeId} {x : Operand} {f : Nat} {ty : TypeId} {v : Option DV} {h' : Heap} (e : evalOp T ρ h (.fieldAddr s x f) ty = some (v, h')) :
    OpOk P σ H h w (do pure (.value (← Instr.fieldAt s (ρr x) f))) v h' := by
  simp only [evalOp] at e
  split at e
  · rename_i is p hs hx
    split at e
    · rename_i fs hd
      split at e
      · rename_i fd hf
        split at e
        · rename_i it hit
          split at e
          · cases e
          · rename_i h0
            have hst := hT.ty _ _ hs
            have hund : (underlying s).run P w = .ok (.struct fs) w := by rw [hst.underlying, hd]
            have hrun : ∀ b o, ρr x = .pointer (some ⟨b, o, none⟩) → (Instr.fieldAt s (ρr x) f).run P w = .ok (.pointer (some ⟨b, o + fd.offset, none⟩)) w := by
              intro b o e
              rw [e]
              simp [Instr.fieldAt, hund, hf, Instr.sureAddr, fieldPlace, (hT.ty _ _ hit).sizeOf, h0, add_lit]
            have hp := Vrel.one.1 (hρ _ _ hx)
            split at e <;> try (cases e; done)
            · cases e
              obtain ⟨b, hσ, hv⟩ := hp
              exact .still (hrun _ _ hv) r (Vrel.one.2 ⟨b, hσ, rfl⟩)
            · cases e
              obtain ⟨b, l, c, hσ, hv⟩ := hp
              exact .still (hrun _ _ hv) r (Vrel.one.2 ⟨b, l, c, hσ, by rw [Nat.add_assoc]⟩)
            · rename_i ds
              cases e
              obtain ⟨z, hz⟩ : ∃ z, ρr x = z := ⟨_, rfl⟩
              rw [hz] at hp
              cases hp with
              | ptr ds b o vals h1 h2 =>
                exact .still (hrun _ _ hz) r (Vrel.one.2 (.ptr _ b (o + fd.offset) (fun j => vals (fd.offset + j))
                  (fun j d hj => by rw [List.getElem?_drop] at hj; rw [Nat.add_assoc]; exact h1 _ _ hj) (fun j d hj => by rw [List.getElem?_drop] at hj; exact h2 _ _ hj)))
        · cases e
      · cases e
    · cases e
  · cases e

theorem part_ok {t : TypeId} {i : TI} (ht : T.info t = some i) {cs : List C} {dv : DV} {a : Array Value} {off : Nat} (e : mkVal i ((cs.drop off).take i.size) = some dv) (hc : Crels σ H cs a.toList) :
    ∃ rv, (part t a off).run P w = .ok rv w ∧ Vrel σ H dv rv := by
  have ht' := hT.ty _ _ ht
  rcases mkVal_rel e (f2_take (f2_drop hc off) i.size) with ⟨ha, hv⟩ | ⟨ha, u, hu, hv⟩
  · refine ⟨_, by simp [part, ht'.isAgg, ha, ht'.sizeOf]; rfl, ?_⟩
    have : a.extract off (off + i.size) = (List.take i.size (List.drop off a.toList)).toArray := by
      apply Array.toList_inj.1
      rw [Array.toList_extract, List.extract_eq_take_drop]
      simp
    rw [this]; exact hv
  · have h0 : a[off]? = some u := by
      have h1 : (List.take i.size (List.drop off a.toList))[0]? = some u := by rw [hu]; rfl
      have hlt := ltl_of_some h1
      rw [List.getElem?_take_of_lt (by simp at hlt; omega), List.getElem?_drop] at h1
      simpa using h1
    exact ⟨u, by simp [part, ht'.isAgg, ha, h0], hv⟩
theorem ev_field {t : TypeId} {x : Operand} {f : Nat} {ty : TypeId} {v : Option DV} {h' : Heap} (e : evalOp T ρ h (.field t x f) ty = some (v, h')) :
    OpOk P σ H h w (do pure (.value (← Instr.field t (ρr x) f))) v h' := by
  simp only [evalOp] at e
  split at e
  · rename_i it cs hs hx
    split at e
    · rename_i fs hd
      split at e
      · rename_i fd hf
        split at e
        · rename_i i hi
          split at e
          · rename_i dv hm
            cases e
            obtain ⟨a, ha, hc⟩ := (hρ _ _ hx)
            obtain ⟨rv, hr, hv⟩ := part_ok hT r hρ hi hm hc
            have hund : (underlying t).run P w = .ok (.struct fs) w := by rw [(hT.ty _ _ hs).underlying, hd]
            exact .still (by simp [Instr.field, hund, hf, ha, asAgg, hr]) r hv
          · cases e
        · cases e
      · cases e
    · cases e
  · cases e

theorem ev_indexAddr {t : TypeId} {x i : Operand} {ty : TypeId} {v : Option DV} {h' : Heap} (e : evalOp T ρ h (.indexAddr t x i) ty = some (v, h')) :
    OpOk P σ H h w (do pure (.value (← Instr.indexAt t (ρr x) (ρr i)))) v h' := by
  simp only [evalOp] at e
  split at e
  · rename_i it n c ht hn hx
    obtain ⟨k, hk⟩ := intOf_rel hn (fun dv e => hρ _ _ e)
    have hp := Vrel.one.1 (hρ _ _ hx)
    have hund : (underlying t).run P w = .ok it.desc w := (hT.ty _ _ ht).underlying w
    split at e
    · rename_i len el hd
      rw [hd] at hund
      split at e
      · rename_i ie hie
        split at e
        · rename_i hb
          have hrun : ∀ b o, ρr x = .pointer (some ⟨b, o, none⟩) → (Instr.indexAt t (ρr x) (ρr i)).run P w = .ok (.pointer (some ⟨b, o + n.toNat * ie.size, none⟩)) w := by
            intro b o e
            rw [e, hk]
            simp [Instr.indexAt, hund, asIntOf, Instr.sureAddr, (hT.ty _ _ hie).sizeOf, hb, add_lit]
          split at e <;> try (cases e; done)
          · cases e
            obtain ⟨b, hσ, hv⟩ := hp
            exact .still (hrun _ _ hv) r (Vrel.one.2 ⟨b, hσ, rfl⟩)
          · cases e
            obtain ⟨b, l, c, hσ, hv⟩ := hp
            exact .still (hrun _ _ hv) r (Vrel.one.2 ⟨b, l, c, hσ, by rw [Nat.add_assoc]⟩)
          · rename_i ds
            cases e
            obtain ⟨z, hz⟩ : ∃ z, ρr x = z := ⟨_, rfl⟩
            rw [hz] at hp
            cases hp with
            | ptr ds b o vals h1 h2 =>
              exact .still (hrun _ _ hz) r (Vrel.one.2 (.ptr _ b (o + n.toNat * ie.size) (fun j => vals (n.toNat * ie.size + j))
                (fun j d hj => by rw [List.getElem?_drop] at hj; rw [Nat.add_assoc]; exact h1 _ _ hj) (fun j d hj => by rw [List.getElem?_drop] at hj; exact h2 _ _ hj)))
        · cases e
      · cases e
    · rename_i el hd
      rw [hd] at hund
      split at e
      · rename_i ie hie
        have hrun : ∀ b o l c, ρr x = .slice (some ⟨b, o, none⟩) l c → 0 ≤ n → n < l → (Instr.indexAt t (ρr x) (ρr i)).run P w = .ok (.pointer (some ⟨b, o + n.toNat * ie.size, none⟩)) w := by
          intro b o l c e h1 h2
          rw [e, hk]
          simp [Instr.indexAt, hund, asIntOf, (hT.ty _ _ hie).sizeOf, h1, h2, add_lit]
        split at e
        · rename_i s es
          split at e
          · rename_i hc
            obtain ⟨rfl, hn0⟩ := hc
            split at e
            · rename_i el' hel
              cases e
              obtain ⟨z, hz⟩ : ∃ z, ρr x = z := ⟨_, rfl⟩
              rw [hz] at hp
              cases hp with
              | slice sz es a cap b o vals hl ha hc h1 h2 =>
                have hlt := ltl_of_some hel
                have ha := ha (by intro e; rw [e] at hlt; simp at hlt)
                subst ha
                exact .still (hrun _ _ _ _ hz hn0 (by omega)) r (Vrel.one.2 (.ptr _ b (o + n.toNat * ie.size) (vals n.toNat) (fun j d hj => h1 _ _ hel j d hj) (fun j d hj => h2 _ _ hel j d hj)))
            · cases e
          · cases e
        · rename_i k'
          split at e
          · rename_i f st t' s es hk'
            split at e
            · rename_i hc
              obtain ⟨rfl, hn0, hnl⟩ := hc
              cases e
              obtain ⟨hσ, hsl⟩ := hp
              rcases r.obj _ _ _ hk' hσ with ⟨hv, rfl⟩ | ⟨b, cap, c, lo, hi, hv, _⟩
              · simp at hnl; omega
              · exact .still (hrun _ _ _ _ hv hn0 hnl) r (Vrel.one.2 ⟨b, _, _, by rw [hσ, hv], by simp⟩)
            · cases e
          · cases e
        · cases e
      · cases e
    · cases e
  · cases e

theorem ev_index {t : TypeId} {x i : Operand} {ty : TypeId} {v : Option DV} {h' : Heap} (e : evalOp T ρ h (.index t x i) ty = some (v, h')) :
    OpOk P σ H h w (do pure (.value (← Instr.index t (ρr x) (ρr i)))) v h' := by
  simp only [evalOp] at e
  split at e
  · rename_i it n dv ht hn hx
    obtain ⟨k, hk⟩ := intOf_rel hn (fun dv e => hρ _ _ e)
    have hund : P.underlying t = some it.desc := (hT.ty _ _ ht).und
    split at e
    · rename_i s hd
      rw [hd] at hund
      split at e
      · rename_i h0
        split at e
        · rename_i b hb
          cases e
          have hp := Vrel.one.1 (hρ _ _ hx)
          obtain ⟨z, hz⟩ : ∃ z, ρr x = z := ⟨_, rfl⟩
          rw [hz] at hp
          cases hp with
          | str bs hbs =>
            have hlt := ltl_of_some hb
            rw [bytes_len] at hlt
            have := run_index_string (P := P) w t bs k n hund
            rw [dif_pos (by omega)] at this
            refine .still (by rw [hk, hz]; exact this) r (Vrel.one.2 ?_)
            have hbb : Int.ofNat b = ((bs[n.toNat]).toNat : Int) := by
              unfold bytesOf at hb
              rw [List.getElem?_map] at hb
              have hd' : bs.data.toList[n.toNat]? = some bs[n.toNat] := by
                rw [Array.getElem?_toList, Array.getElem?_eq_getElem (show n.toNat < bs.data.size from hlt)]
                rfl
              rw [hd'] at hb
              simp at hb
              rw [← hb]; rfl
            rw [hbb]; exact .int _ _
        · cases e
      · cases e
    · rename_i len el cs hd
      rw [hd] at hund
      split at e
      · rename_i ie hie
        split at e
        · rename_i hb
          split at e
          · rename_i dv hm
            cases e
            obtain ⟨a, ha, hc⟩ := (hρ _ _ hx)
            obtain ⟨rv, hr, hv⟩ := part_ok hT r hρ hie hm hc
            have hu' : (underlying t).run P w = .ok (.array len el) w := by simp [Go.underlying, hund]
            exact .still (by simp [Instr.index, hu', ha, hk, asIntOf, hb, (hT.ty _ _ hie).sizeOf, hr]) r hv
          · cases e
        · cases e
      · cases e
    · cases e
  · cases e

theorem ev_extract {x : Operand} {i : Nat} {ty : TypeId} {v : Option DV} {h' : Heap} (e : evalOp T ρ h (.extract x i) ty = some (v, h')) :
    OpOk P σ H h w (do pure (.value (← Instr.extract (ρr x) i))) v h' := by
  simp only [evalOp] at e
  split at e
  · rename_i vs hx
    split at e
    · rename_i a cs hi
      cases e
      obtain ⟨l, hl, hf⟩ := hρ _ _ hx
      obtain ⟨u, hu, hr⟩ := f2_get hf i _ hi
      have hu' : l[i]? = some u := by simpa using hu
      exact .still (by simp [hl, Instr.extract, hu']) r hr
    · cases e
  · cases e
end
end Go.Idl
