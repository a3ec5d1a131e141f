/- Part of a proof that the laws of this seat return true: a machine over plain data (Idl) that is sound for the given model, and its runs. Conditions: none. -/
import Derived.Test.YtemfbebfodagpaaEval7
set_option linter.all false
set_option linter.unusedSectionVars false
namespace Go.Idl
open Go

/-- The operations that the table adds are sound. -/
def ExtOk (P : Program) (T : Tab) : Prop := ∀ (σ : Sg) (H : Im) (h : Heap) (w : World) (ρ : Opnd) (ρr : Operand → Value) (o : Oper) (ty : TypeId) (v : Option DV) (h' : Heap),
  RelM σ H h w → Ops σ H ρ ρr → T.ext ρ h o.op ty = some (v, h') → OpOk P σ H h w (execOp ρr o) v h'

structure TabOk (P : Program) (T : Tab) : Prop extends TabTy P T where
  eqs : ∀ t i, T.info t = some i → i.eqk ≠ [] → EqOk P t i.eqk
  ext : ExtOk P T

theorem evalOp_ok {P : Program} {T : Tab} (hT : TabOk P T) {σ : Sg} {H : Im} {h : Heap} {w : World} (r : RelM σ H h w) {ρ : Opnd} {ρr : Operand → Value} (hρ : Ops σ H ρ ρr)
    {o : Oper} {ty : TypeId} {v : Option DV} {h' : Heap} (e : evalOp T ρ h o.op ty = some (v, h')) : OpOk P σ H h w (execOp ρr o) v h' := by
  have hext : ∀ (op : Op) (ty : TypeId) (v : Option DV) (h' : Heap) (o : Oper), o.op = op → T.ext ρ h op ty = some (v, h') → OpOk P σ H h w (execOp ρr o) v h' := by
    intro op ty v h' o ho e; subst ho; exact hT.ext σ H h w ρ ρr o ty v h' r hρ e
  have hTy := hT.toTabTy
  cases hop : o.op with
  | move x =>
    rw [hop] at e
    have hex : execOp ρr o = pure (.value (ρr x)) := by unfold execOp; simp only [hop]
    rw [hex]
    simp only [evalOp] at e
    split at e
    · cases e; exact .value' r (hρ _ _ (by assumption))
    · cases e
  | assign x =>
    rw [hop] at e
    have hex : execOp ρr o = pure (.value (ρr x)) := by unfold execOp; simp only [hop]
    rw [hex]
    simp only [evalOp] at e
    split at e
    · rename_i a cs hx
      cases e
      have hv := hρ _ _ hx
      obtain ⟨σ', p, h1⟩ := thaw_ok (match T.info ty with | some i => i.sls | none => []) cs h σ _ r hv.cells
      refine ⟨.value (ρr x), w, σ', H, by simp, p, _, rfl, ?_⟩
      simp only [Vrel, Xrel] at hv ⊢
      cases a with
      | true => obtain ⟨vs, hvs, _⟩ := hv; rw [hvs] at h1 ⊢; exact ⟨vs, rfl, h1⟩
      | false =>
        obtain ⟨c, rfl, hc⟩ := hv
        rw [oneCell_cells hc.one] at h1
        simp only [Bool.false_eq_true, if_false]
        generalize (thaw h (match T.info ty with | some i => i.sls | none => []) [c]).1 = cs' at h1
        cases h1 with
        | cons h1 ht => cases ht; exact ⟨_, rfl, h1⟩
    · cases e
  | pick c a b =>
    rw [hop] at e
    have hex : execOp ρr o = (do pure (.value (if (← asBool (ρr c)) then ρr a else ρr b))) := by unfold execOp; simp only [hop]
    rw [hex]
    simp only [evalOp] at e
    split at e
    · rename_i hc
      split at e
      · rename_i v' ha
        cases e
        have hp := Vrel.one.1 (hρ _ _ hc)
        generalize ρr c = z at hp
        cases hp
        exact ⟨_, w, σ, H, by simp [asBool], .refl r, _, rfl, hρ _ _ ha⟩
      · cases e
    · rename_i hc
      split at e
      · rename_i v' ha
        cases e
        have hp := Vrel.one.1 (hρ _ _ hc)
        generalize ρr c = z at hp
        cases hp
        exact ⟨_, w, σ, H, by simp [asBool], .refl r, _, rfl, hρ _ _ ha⟩
      · cases e
    · cases e
  | alloc t =>
    rw [hop] at e
    have hex : execOp ρr o = (do pure (.value (← Instr.alloc t true (.tuple #[])))) := by unfold execOp; simp only [hop]
    rw [hex]
    simp only [evalOp] at e
    split at e
    · rename_i i hi
      split at e
      · rename_i z hz
        cases e
        obtain ⟨rv, w', σ', hr, p, hv⟩ := alloc_ok (P := P) r (hTy.ty _ _ hi) hz
        exact .value hr p hv
      · cases e
    · cases e
  | box t x =>
    rw [hop] at e
    have hex : execOp ρr o = (do pure (.value (← Instr.box t (ρr x)))) := by unfold execOp; simp only [hop]
    rw [hex]
    simp only [evalOp] at e
    split at e
    · rename_i a cs hx
      cases e
      obtain ⟨rv, w', σ', hr, p, hv⟩ := box_ok (P := P) r (t := t) (sls := match T.info t with | some i => i.sls | none => []) (hρ _ _ hx)
      exact .value hr p hv
    · cases e
  | build t parts =>
    rw [hop] at e
    have hex : execOp ρr o = (do pure (.value (← Instr.build t (parts.map fun x => (x.1, ρr x.2))))) := by unfold execOp; simp only [hop]
    rw [hex]
    simp only [evalOp] at e
    split at e
    · rename_i i hi
      split at e
      · rename_i z hz
        split at e
        · rename_i ps hps
          split at e
          · rename_i hagg
            cases e
            obtain ⟨rv, σ', hr, p, hv⟩ := build_ok hTy r hρ hi hz hps hagg
            exact .value hr p hv
          · cases e
        · cases e
      · cases e
    · cases e
  | buildSlice t n parts =>
    rw [hop] at e
    have hex : execOp ρr o = (do pure (.value (← Instr.buildSlice t n (parts.map fun x => (x.1, ρr x.2))))) := by unfold execOp; simp only [hop]
    rw [hex]
    simp only [evalOp] at e
    split at e
    · rename_i i hi
      split at e
      · rename_i el hd
        split at e
        · rename_i ie hie
          split at e
          · rename_i z hz
            split at e
            · rename_i hc
              split at e
              · rename_i es h2 hs
                cases e
                obtain ⟨rv, w', σ', H', hr, p, hv⟩ := buildSlice_ok hTy r hρ hi hd hie hz hc.1 hc.2.1 hc.2.2 hs
                exact .value hr p hv
              · cases e
            · cases e
          · cases e
        · cases e
      · cases e
    · cases e
  | load t p =>
    rw [hop] at e
    have hex : execOp ρr o = (do pure (.value (← Instr.loadAt t (ρr p)))) := by unfold execOp; simp only [hop]
    rw [hex]
    simp only [evalOp] at e
    split at e
    · rename_i i c hi hp
      split at e
      · rename_i cs hcs
        split at e
        · rename_i v' hv
          cases e
          obtain ⟨rv, hr, hv⟩ := load_run r (hTy.ty _ _ hi) hcs hv (Vrel.one.1 (hρ _ _ hp))
          exact .still hr r hv
        · cases e
      · cases e
    · cases e
  | store t p x =>
    rw [hop] at e
    have hex : execOp ρr o = (do Instr.storeAt t (ρr p) (ρr x); pure .skip) := by unfold execOp; simp only [hop]
    rw [hex]
    exact ev_store hTy r hρ e
  | nilCheck x => rw [hop] at e; exact ev_nilCheck hTy r hρ hop e
  | binOp op t x y yt =>
    rw [hop] at e
    have hex : execOp ρr o = (do pure (.value (← (do eqGuard op t x y (ρr x) (ρr y); binOp op t (ρr x) (ρr y) : Sem Value)))) := by unfold execOp; simp only [hop]
    rw [hex]
    simp only [evalOp] at e
    split at e
    · rename_i xv yv hx hy
      split at e
      · rename_i v' hv
        cases e
        obtain ⟨rv, hr, hv⟩ := binV_ok (P := P) (t := t) r (by
          intro hk
          cases hi : T.info t with
          | some i => rw [hi] at hk; exact hT.eqs _ _ hi hk
          | none => rw [hi] at hk; exact absurd rfl hk) hv (hρ _ _ hx) (hρ _ _ hy) x y
        exact .still hr r hv
      · cases e
    · cases e
  | unOp op t x =>
    rw [hop] at e
    have hex : execOp ρr o = (do pure (.value (← Op.unary op (ρr x)))) := by unfold execOp; simp only [hop]
    rw [hex]
    exact ev_unOp hTy r hρ e
  | convert s t x => rw [hop] at e; exact ev_convert hTy r hρ hext hop e
  | makeFunc fn first caps =>
    rw [hop] at e
    cases fn with
    | func f => exact ev_makeFunc hTy r hρ hop ⟨f, rfl⟩ e
    | _ => exact hext _ _ _ _ _ hop e
  | makeSlice t l c =>
    rw [hop] at e
    have hex : execOp ρr o = (do pure (.value (← Instr.makeSlice t (ρr l) (ρr c)))) := by unfold execOp; simp only [hop]
    rw [hex]
    simp only [evalOp] at e
    split at e
    · rename_i i hi
      split at e
      · rename_i el hd
        split at e
        · rename_i ie hie
          split at e
          · rename_i z n m hz hn hm
            split at e
            · rename_i hc
              obtain ⟨h0, rfl, h1, h2, h3, h4⟩ := hc
              cases e
              obtain ⟨k1, hk1⟩ := intOf_rel hn (fun dv e => hρ _ _ e)
              obtain ⟨k2, hk2⟩ := intOf_rel hm (fun dv e => hρ _ _ e)
              obtain ⟨rv, w', σ', hr, p, hv⟩ := makeSlice_ok hTy r hρ hi hd hie hz h0 h1 h2 h4 h3 k1 k2
              rw [hk1, hk2]
              exact .value hr p hv
            · cases e
          · cases e
        · cases e
      · cases e
    · cases e
  | slice t x lo hi mx =>
    rw [hop] at e
    cases mx with
    | none =>
      have hex : execOp ρr o = (do pure (.value (← Instr.sliceAt t (ρr x) (lo.map ρr) (hi.map ρr) none))) := by unfold execOp; simp only [hop]; rfl
      rw [hex]
      exact ev_slice hTy r hρ e
    | some m => exact hext _ _ _ _ _ hop e
  | fieldAddr s x f =>
    rw [hop] at e
    have hex : execOp ρr o = (do pure (.value (← Instr.fieldAt s (ρr x) f))) := by unfold execOp; simp only [hop]
    rw [hex]
    exact ev_fieldAddr hTy r hρ e
  | field t x f =>
    rw [hop] at e
    have hex : execOp ρr o = (do pure (.value (← Instr.field t (ρr x) f))) := by unfold execOp; simp only [hop]
    rw [hex]
    exact ev_field hTy r hρ e
  | indexAddr t x i =>
    rw [hop] at e
    have hex : execOp ρr o = (do pure (.value (← Instr.indexAt t (ρr x) (ρr i)))) := by unfold execOp; simp only [hop]
    rw [hex]
    exact ev_indexAddr hTy r hρ e
  | index t x i =>
    rw [hop] at e
    have hex : execOp ρr o = (do pure (.value (← Instr.index t (ρr x) (ρr i)))) := by unfold execOp; simp only [hop]
    rw [hex]
    exact ev_index hTy r hρ e
  | extract x i =>
    rw [hop] at e
    have hex : execOp ρr o = (do pure (.value (← Instr.extract (ρr x) i))) := by unfold execOp; simp only [hop]
    rw [hex]
    exact ev_extract hTy r hρ e
  | call c =>
    rw [hop] at e
    obtain ⟨callee, args, ts⟩ := c
    cases callee with
    | builtin b => exact ev_builtin hTy r hρ hext hop e
    | _ => exact hext _ _ _ _ _ hop e
  | _ => rw [hop] at e; exact hext _ _ _ _ _ hop e
end Go.Idl
