/- Part of a proof that the laws of this seat return true: a machine over plain data (Idl) that is sound for the given model, and its runs. Conditions: none. -/
import Derived.Test.YtemfbebfodagpaaEval4
set_option linter.all false
set_option linter.unusedSectionVars false
namespace Go.Idl
open Go

section
variable {P : Program} {T : Tab} (hT : TabTy P T) {σ : Sg} {H : Im} {h : Heap} {w : World} (r : RelM σ H h w) {ρ : Opnd} {ρr : Operand → Value} (hρ : Ops σ H ρ ρr)
include hT r hρ

theorem byteSl_ok {src dst : TypeId} {is it : TI} (hs : T.info src = some is) (ht : T.info dst = some it) (e : byteSl T is.desc it.desc = true) :
    ∃ el, P.underlying src = some (.slice el) ∧ P.underlying el = some (.int .u8) ∧ P.underlying dst = some .string := by
  unfold byteSl at e
  split at e
  · rename_i el h1 h2
    split at e
    · rename_i ie hie
      split at e
      · rename_i h3
        refine ⟨el, by rw [(hT.ty _ _ hs).und, h1], by rw [(hT.ty _ _ hie).und, h3], by rw [(hT.ty _ _ ht).und, h2]⟩
      · cases e
    · cases e
  · cases e

theorem convBytes_ok {src dst : TypeId} {is it : TI} (hs : T.info src = some is) (ht : T.info dst = some it) (e : byteSl T is.desc it.desc = true) {es : List (List D)} {s : List Nat} {v : Value}
    (hsrc : Src P H w 1 es v) (hb : bytesOfEs es = some s) (hv : isSl v = true) (hl : es.length ≤ maxEls) :
    OpOk P σ H h w (do pure (.value (← convert src dst v))) (some (.dd (.str s))) h := by
  obtain ⟨el, h1, h2, h3⟩ := byteSl_ok hT r hρ hs ht e
  obtain ⟨b, hr, hd⟩ := bytesToString_ok hsrc hb hv hl
  cases v <;> simp [isSl] at hv
  exact .still (by rw [run_convert_bytes_string w src dst el _ _ _ h1 h2 h3]; exact hr) r (Vrel.one.2 hd)

theorem ev_convert (hext : ∀ (op : Op) (ty : TypeId) (v : Option DV) (h' : Heap) (o : Oper), o.op = op → T.ext ρ h op ty = some (v, h') → OpOk P σ H h w (execOp ρr o) v h')
    {s t : TypeId} {x : Operand} {ty : TypeId} {v : Option DV} {h' : Heap} {o : Oper} (ho : o.op = .convert s t x) (e : evalOp T ρ h (.convert s t x) ty = some (v, h')) :
    OpOk P σ H h w (execOp ρr o) v h' := by
  have hex : execOp ρr o = (do pure (.value (← convert s t (ρr x)))) := by unfold execOp; simp only [ho]
  simp only [evalOp] at e
  split at e
  · rename_i is it c hs ht hx
    have hp := Vrel.one.1 (hρ _ _ hx)
    have hus : (underlying s).run P w = .ok is.desc w := (hT.ty _ _ hs).underlying w
    have hut : (underlying t).run P w = .ok it.desc w := (hT.ty _ _ ht).underlying w
    obtain ⟨z, hz⟩ : ∃ z, ρr x = z := ⟨_, rfl⟩
    split at e
    · rename_i b
      rw [hex]
      rw [hz] at hp ⊢
      cases hp with
      | str bs hbs =>
        split at e
        · rename_i el hd
          split at e
          · rename_i ie hie
            split at e
            · rename_i hu8
              split at e
              · rename_i hl
                cases e
                have hrun := Lib.run_convert_string_bytes (P := P) w s t el bs (hT.ty _ _ hs).und (by rw [(hT.ty _ _ ht).und, hd]) (by rw [(hT.ty _ _ hie).und, hu8])
                have hnew := newArr_ok (w' := Lib.bytesWorld w el bs) r true el (sz := 1) (by omega) (es := bytesEs (bytesOf bs)) (c := Lib.bytesCells w el bs) (cap := grownCap w bs.size 0 el)
                  (lo := (Lib.bytesCells w el bs).size) (hi := (Lib.bytesCells w el bs).size + 1) ⟨rfl, rfl, rfl⟩ (by simp [Lib.bytesWorld_size]) (fun b hb => Lib.bytesWorld_at_old _ _ _ _ hb) (Lib.bytesWorld_at_new _ _ _)
                  (by have := grownCap_ge w bs.size 0 el; have h2 : bs.data.size = bs.size := rfl; simp [Lib.bytesCells]; omega)
                  (by have := grownCap_ge w bs.size 0 el; simp [bytesEs, bytes_len]; omega)
                  (by
                    intro u hu
                    simp only [Lib.bytesCells, Array.toList_append, Array.toList_map, Array.toList_replicate, List.mem_append, List.mem_map, List.mem_replicate] at hu
                    rcases hu with ⟨b, _, rfl⟩ | ⟨_, rfl⟩ <;> rfl)
                  (by
                    have hlen : (bytesEs (bytesOf bs)).length * 1 = bs.data.size := by simp [bytesEs, bytesOf]
                    have : (Lib.bytesCells w el bs).toList.take ((bytesEs (bytesOf bs)).length * 1) = bs.data.toList.map fun b => Value.int .u8 b.toNat := by
                      rw [hlen]
                      simp [Lib.bytesCells]
                    rw [this]
                    refine ⟨by simp [bytesEs], by simp [bytesEs, bytesOf], by simp [Value.oneCell'], ?_⟩
                    intro i e he j d hd
                    simp only [bytesEs, bytesOf, List.map_map, List.getElem?_map] at he
                    cases hb : bs.data.toList[i]? with
                    | none => rw [hb] at he; cases he
                    | some b =>
                      rw [hb] at he
                      simp at he
                      subst he
                      cases j with
                      | zero => simp at hd; subst hd; exact ⟨.int .u8 b.toNat, by simp at hb; simp [hb], .int _ _⟩
                      | succ j => simp at hd)
                  (.inr ⟨rfl, Nat.le_refl _⟩)
                have hlb : (bytesEs (bytesOf bs)).length = bs.size := by simp [bytesEs, bytes_len]
                rw [hlb] at hnew
                exact .value hrun hnew.1 hnew.2
              · cases e
            · cases e
          · cases e
        · rename_i hd
          cases e
          exact .still (rv := .string bs) (by simp [convert, hus, hut, hd]) r (Vrel.one.2 (.str _ hbs))
        · cases e
    · rename_i es
      split at e
      · rename_i hc
        simp only [Bool.and_eq_true, decide_eq_true_eq] at hc
        split at e
        · rename_i st hst
          cases e
          rw [hex]
          exact convBytes_ok hT r hρ hs ht hc.1 (slice_src r.imm hp) hst (by rw [hz] at hp ⊢; cases hp; rfl) hc.2
        · cases e
      · cases e
    · rename_i d _ _
      split at e
      · rename_i d' hd
        cases e
        rw [hex]
        rw [hz] at hp ⊢
        unfold convD at hd
        split at hd
        · cases hp
          split at hd
          · rename_i hdesc
            cases hd
            exact .still (by simp [convert, hus, hut, hdesc, Conv.intToInt]) r (Vrel.one.2 (.int _ _))
          · rename_i hdesc
            cases hd
            exact .still (by simp [convert, hus, hut, hdesc, Conv.intToFloat]) r (Vrel.one.2 (.flt _ _))
          · cases hd
        · cases hp
          split at hd
          · rename_i hdesc
            split at hd
            · rename_i n hn
              split at hd
              · rename_i hr
                cases hd
                exact .still (by simp [convert, hus, hut, hdesc, Conv.floatToInt, hn, hr]) r (Vrel.one.2 (.int _ _))
              · cases hd
            · cases hd
          · cases hd
        · rename_i hno _
          exact absurd rfl (hno _)
        · cases hd
      · cases e
    · rename_i k
      split at e
      · rename_i es hes
        split at e
        · rename_i hc
          simp only [Bool.and_eq_true, decide_eq_true_eq] at hc
          split at e
          · rename_i st hst
            cases e
            rw [hex]
            exact convBytes_ok hT r hρ hs ht hc.1 (elems_src r hes (Vrel.one.2 hp)) hst hp.2 hc.2
          · cases e
        · cases e
      · cases e
    · exact hext _ _ _ _ _ ho e
  · cases e
end
end Go.Idl
