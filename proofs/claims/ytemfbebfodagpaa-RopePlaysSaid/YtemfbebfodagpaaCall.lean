/- Part of a proof that the laws of this seat return true: a machine over plain data (Idl) that is sound for the given model, and its runs. Conditions: none. -/
import Derived.Test.YtemfbebfodagpaaRen
import Derived.Calls
set_option linter.all false
set_option linter.unusedSectionVars false
namespace Go.Idl
open Go

/-- What an operation does: it yields a value, at once or by a call. -/
def Does (P : Program) (R : Value → World → Prop) : Result Next → Prop
  | .ok (.value v) w' => R v w'
  | .ok .skip w' => R undef w'
  | .ok (.enter f args) w' => Calls P f args w' fun e w'' => ∃ v, e = .returned v ∧ R v w''
  | _ => False
theorem Does.mono {P : Program} {R R' : Value → World → Prop} (hr : ∀ v w, R v w → R' v w) {x : Result Next} (h : Does P R x) : Does P R' x := by
  unfold Does at *
  split <;> simp_all
  · exact Calls.mono h fun e w' ⟨v, h1, h2⟩ => ⟨v, h1, hr _ _ h2⟩
theorem Does.upon {P : Program} {R : Value → World → Prop} {o : Oper} {a : Act} {next : Act → World → Prop} {Q : Exit → Act → World → Prop} {x : Result Next}
    (h : Does P R x) (hn : ∀ v w', R v w' → next (a.put o.dst v) w') : Oper.upon P o a next Q x := by
  unfold Does at h
  split at h
  · exact hn _ _ h
  · exact hn _ _ h
  · rw [Oper.upon_enter]
    refine Calls.mono h ?_
    rintro e w' ⟨v, rfl, hv⟩
    exact hn _ _ hv
  · exact h.elim

def Yld (σ : Sg) (H : Im) (h : Heap) (w : World) (r : DV) (h' : Heap) (rv : Value) (w' : World) : Prop := ∃ σ' H', Post σ H h w σ' H' h' w' ∧ Vrel σ' H' r rv
def CallOk (P : Program) (call : CallF) : Prop := ∀ (f : FuncId) (args : List DV) (h : Heap) (r : DV) (h' : Heap) (σ : Sg) (H : Im) (w : World) (rargs : List Value),
  call f args h = some (r, h') → RelM σ H h w → F2 (Vrel σ H) args rargs → Does P (Yld σ H h w r h') ((callFunc f rargs.toArray).run P w)
def PrimOk (P : Program) (T : Tab) (f : FuncId) : Prop := ∀ (ts : List TypeId) (args : List DV) (h : Heap) (r : DV) (h' : Heap) (σ : Sg) (H : Im) (w : World) (rargs : List Value),
  callI T (fun _ _ _ => none) f ts args h = some (r, h') → RelM σ H h w → F2 (Vrel σ H) args rargs → Does P (Yld σ H h w r h') ((callFunc f rargs.toArray).run P w)

theorem Post.after {σ σ1 : Sg} {H H1 : Im} {h h1 : Heap} {w w1 : World} (p : Post σ H h w σ1 H1 h1 w1) {r : DV} {h' : Heap} {rv : Value} {w' : World} (y : Yld σ1 H1 h1 w1 r h' rv w') : Yld σ H h w r h' rv w' :=
  let ⟨σ', H', q, hv⟩ := y; ⟨σ', H', p.trans q, hv⟩

/-! arguments -/
theorem passC_ok : ∀ (cs : List C) (ss : List (Nat × Nat)) (σ : Sg) (H : Im) (h : Heap) (w : World) (vs : List Value) (cs' : List C) (h' : Heap),
    passC h ss cs = some (cs', h') → RelM σ H h w → Crels σ H cs vs → ∃ H', Post σ H h w σ H' h' w ∧ Crels σ H' cs' vs := by
  intro cs
  induction cs with
  | nil => intro ss σ H h w vs cs' h' e r hc; cases hc; simp [passC] at e; obtain ⟨rfl, rfl⟩ := e; exact ⟨H, .refl r, .nil⟩
  | cons c cs ih =>
    intro ss σ H h w vs cs' h' e r hc
    cases hc with
    | cons hx hc =>
      rename_i v vs'
      simp only [passC] at e
      have fin : ∀ (c1 : C) (h1 : Heap) (H1 : Im), Post σ H h w σ H1 h1 w → Crel σ H1 c1 v →
          (match passC h1 ss.tail cs with | some (cs, h) => some (c1 :: cs, h) | none => none) = some (cs', h') → ∃ H', Post σ H h w σ H' h' w ∧ Crels σ H' cs' (v :: vs') := by
        intro c1 h1 H1 p h2 e
        split at e
        · rename_i cs2 h3 he
          cases e
          obtain ⟨H', q, hq⟩ := ih _ σ H1 h1 w vs' _ _ he p.rel (forall₂_imp (fun _ _ x => x.mono (.refl σ) p.hle) hc)
          exact ⟨H', p.trans q, .cons (h2.mono (.refl σ) q.hle) hq⟩
        · cases e
      split at e
      · rename_i c1 h1 hone
        cases hb : Nat.beq (ss.headD (0, 0)).2 0 with
        | true =>
          rw [hb] at hone
          simp only [cond_true, Option.some.injEq, Prod.mk.injEq] at hone
          obtain ⟨rfl, rfl⟩ := hone
          exact fin _ _ H (.refl r) hx e
        | false =>
          rw [hb] at hone
          simp only [cond_false] at hone
          split at hone
          · cases hone
            cases hx
            exact fin (.d (.slice (ss.headD (0, 0)).2 [])) _ H (.refl r) (Drel.slice _ [] none 0 0 0 (fun _ _ => .pointer none) (by simp) (by simp) (by simp) (by simp) (by simp)) e
          · rename_i k
            split at hone
            · rename_i d h2 hf
              cases hone
              obtain ⟨H1, p, hd, _⟩ := frz_ok 20 σ H h w _ v _ _ hf r hx
              exact fin (.d d) _ H1 p hd e
            · cases hone
          · cases hone; exact fin _ _ H (.refl r) hx e
      · cases e

theorem val_of_cells {σ : Sg} {H : Im} {σ' : Sg} {H' : Im} {a : Bool} {cs cs' : List C} {v : Value} (hx : Vrel σ H (.val a cs) v) (hp : Crels σ' H' cs' v.cells.toList) : Vrel σ' H' (.val a cs') v := by
  simp only [Vrel, Xrel] at hx ⊢
  cases a with
  | true => obtain ⟨l, rfl, _⟩ := hx; exact ⟨l, rfl, hp⟩
  | false =>
    obtain ⟨c, rfl, hc⟩ := hx
    rw [oneCell_cells hc.one] at hp
    simp only [Bool.false_eq_true, if_false]
    cases hp with
    | cons h1 ht => cases ht; exact ⟨_, rfl, h1⟩
theorem passArgs_ok {T : Tab} {byref : Bool} : ∀ (args : List DV) (ts : List TypeId) (σ : Sg) (H : Im) (h : Heap) (w : World) (vs : List Value) (args' : List DV) (h' : Heap),
    passArgs T byref h ts args = some (args', h') → RelM σ H h w → F2 (Vrel σ H) args vs → ∃ σ' H', Post σ H h w σ' H' h' w ∧ F2 (Vrel σ' H') args' vs := by
  intro args
  induction args with
  | nil => intro ts σ H h w vs args' h' e r hc; cases hc; simp [passArgs] at e; obtain ⟨rfl, rfl⟩ := e; exact ⟨σ, H, .refl r, .nil⟩
  | cons x args ih =>
    intro ts σ H h w vs args' h' e r hc
    cases hc with
    | cons hx hc =>
      rename_i v vs'
      cases x with
      | tup l => simp [passArgs] at e
      | val a cs =>
        simp only [passArgs] at e
        split at e
        · rename_i cs1 h1 he
          split at e
          · rename_i args2 h2 he2
            cases e
            have one : ∃ σ1 H1, Post σ H h w σ1 H1 h1 w ∧ Crels σ1 H1 cs1 v.cells.toList := by
              split at he
              · obtain ⟨σ1, p, hp⟩ := thaw_ok (match T.info (ts.headD 0) with | some i => i.sls | none => []) cs h σ _ r hx.cells
                have he := Option.some.inj he
                generalize thaw h (match T.info (ts.headD 0) with | some i => i.sls | none => []) cs = q at he p hp
                subst he
                exact ⟨σ1, H, p, hp⟩
              · obtain ⟨H1, p, hp⟩ := passC_ok _ _ σ H h w _ _ _ he r hx.cells
                exact ⟨σ, H1, p, hp⟩
            obtain ⟨σ1, H1, p, hp⟩ := one
            obtain ⟨σ2, H2, q, hq⟩ := ih _ σ1 H1 h1 w vs' _ _ he2 p.rel (forall₂_imp (fun _ _ y => y.mono p.ext p.hle) hc)
            exact ⟨σ2, H2, p.trans q, .cons (Vrel.mono q.ext q.hle (val_of_cells hx hp)) hq⟩
          · cases e
        · cases e

/-! a call that hands back no memory -/
def cellsOf (w : World) : Im := fun b i => w.cell? ⟨b, i, none⟩
theorem snapC_ok {σ : Sg} {H : Im} {h : Heap} {w : World} (r : RelM σ H h w) : ∀ (n : Nat) (c : C) (v : Value), Crel σ H c v → Drel (cellsOf w) (snapC n h c) v := by
  have hle : Hle H (cellsOf w) := r.imm
  have base : ∀ (n : Nat), (∀ m, n = m + 1 → ∀ (c : C) (v : Value), Crel σ H c v → Drel (cellsOf w) (snapC m h c) v) → ∀ (c : C) (v : Value), Crel σ H c v → Drel (cellsOf w) (snapC n h c) v := by
    intro n ih c v hc
    have hone := hc.one
    cases c with
    | d x => cases n <;> exact Drel.mono hle hc
    | arr k =>
      have key : Drel (cellsOf w) (match h[k]? with | some (.arr _ _ _ sz es) => .slice sz es | _ => .unk) v := by
        split
        · rename_i f st t sz es hk
          rcases r.obj _ _ _ hk hc.1 with ⟨rfl, rfl⟩ | ⟨b, cap, c', lo, hi, rfl, hb, h1, h2, h3, h4, h5, h6, h7⟩
          · exact .slice _ [] none 0 0 0 (fun _ _ => .pointer none) (by simp) (by simp) (by simp) (by simp) (by simp)
          · refine .slice sz es _ cap b 0 (fun i j => (c'[i * sz + j]?).getD default) h4 (fun _ => rfl) h2 ?_ ?_
            · intro i e he j d hd
              obtain ⟨u, hu, _⟩ := h6 i e he j d hd
              simp only [cellsOf]
              rw [cell_of hb, Nat.zero_add, hu]; rfl
            · intro i e he j d hd
              obtain ⟨u, hu, hr⟩ := h6 i e he j d hd
              simp only [hu, Option.getD_some]
              exact hr.mono hle
        · exact .unk _ hone
      cases n <;> exact key
    | ptr k off =>
      cases n with
      | zero => exact .unk _ hone
      | succ m =>
        simp only [snapC]
        split
        · rename_i f cs hk
          obtain ⟨b, hσ, rfl⟩ := hc
          obtain ⟨b', c', T, hv, hb, hcs⟩ := r.obj _ _ _ hk hσ
          cases hv
          have hget : ∀ j d, ((cs.map (snapC m h)).drop off)[j]? = some d → ∃ u, c'[off + j]? = some u ∧ Drel (cellsOf w) d u := by
            intro j d hd
            rw [List.getElem?_drop, List.getElem?_map] at hd
            cases hcj : cs[off + j]? with
            | none => rw [hcj] at hd; cases hd
            | some c1 =>
              rw [hcj] at hd
              cases hd
              obtain ⟨u, hu, hr⟩ := f2_get hcs _ _ hcj
              exact ⟨u, by simpa using hu, ih m rfl c1 u hr⟩
          refine .ptr _ b off (fun j => (c'[off + j]?).getD default) ?_ ?_
          · intro j d hd
            obtain ⟨u, hu, _⟩ := hget j d hd
            simp only [cellsOf]
            rw [cell_of hb, hu]; rfl
          · intro j d hd
            obtain ⟨u, hu, hr⟩ := hget j d hd
            simp only [hu, Option.getD_some]; exact hr
        · exact .unk _ hone
    | eptr k s i o => cases n <;> exact .unk _ hone
    | edata k => cases n <;> exact .unk _ hone
    | map k => cases n <;> exact .unk _ hone
    | clo f l => cases n <;> exact .unk _ hone
    | dead => cases n <;> exact .unk _ hone
  intro n
  induction n with
  | zero => exact base 0 (fun m h => by cases h)
  | succ n ih => exact base (n + 1) (fun m e => by cases e; exact ih)
theorem snapV_ok {σ : Sg} {H : Im} {h : Heap} {w : World} (r : RelM σ H h w) {x : DV} {v : Value} (hv : Vrel σ H x v) : Vrel (fun _ => none) (cellsOf w) (snapV h x) v := by
  have hX : ∀ (y : Bool × List C) (v : Value), Xrel σ H y v → Xrel (fun _ => none) (cellsOf w) (y.1, y.2.map fun c => .d (snapC 20 h c)) v := by
    intro y v hy
    unfold Xrel at *
    split
    · rename_i hx; simp only at hx; rw [if_pos hx] at hy; obtain ⟨vs, e, hy⟩ := hy; exact ⟨vs, e, f2_map (S := Crel (fun _ => none) (cellsOf w)) (g := fun c => C.d (snapC 20 h c)) (fun a b hab => snapC_ok r 20 a b hab) hy⟩
    · rename_i hx; simp only at hx; rw [if_neg hx] at hy; obtain ⟨c, e, hy⟩ := hy; exact ⟨.d (snapC 20 h c), by rw [e]; rfl, snapC_ok r 20 c v hy⟩
  cases x with
  | val a cs => exact hX (a, cs) v hv
  | tup vs => obtain ⟨l, e, hl⟩ := hv; exact ⟨l, e, f2_map (fun a b hab => hX a b hab) hl⟩
theorem scalarC_ok {σ σ' : Sg} {H H' : Im} {c : C} {v : Value} (hs : (match c with | .d x => scalarD x | _ => false) = true) (h : Crel σ' H' c v) : Crel σ H c v := by
  cases c with
  | d x => cases h <;> simp [scalarD] at hs <;> first | exact Drel.int _ _ | exact Drel.bool _ | exact Drel.flt _ _ | exact Drel.cpx _ _ _ | (rename_i hb; exact Drel.str _ hb)
  | _ => simp at hs
theorem scalarX_ok {σ σ' : Sg} {H H' : Im} {x : Bool × List C} {v : Value} (hs : (x.2.all fun | .d x => scalarD x | _ => false) = true) (h : Xrel σ' H' x v) : Xrel σ H x v := by
  have hall : ∀ {cs : List C} {vs : List Value}, (cs.all fun | .d x => scalarD x | _ => false) = true → Crels σ' H' cs vs → Crels σ H cs vs := by
    intro cs vs hs h
    induction h with
    | nil => exact .nil
    | cons a _ ih => simp only [List.all_cons, Bool.and_eq_true] at hs; exact .cons (scalarC_ok hs.1 a) (ih hs.2)
  unfold Xrel at *
  split
  · rename_i hx; rw [if_pos hx] at h; obtain ⟨vs, e, h⟩ := h; exact ⟨vs, e, hall hs h⟩
  · rename_i hx; rw [if_neg hx] at h; obtain ⟨c, e, h⟩ := h; rw [e] at hs; simp only [List.all_cons, List.all_nil, Bool.and_true] at hs; exact ⟨c, e, scalarC_ok hs h⟩
theorem scalarV_ok {σ σ' : Sg} {H H' : Im} {x : DV} {v : Value} (hs : scalarV x = true) (h : Vrel σ' H' x v) : Vrel σ H x v := by
  cases x with
  | val a cs => exact scalarX_ok (x := (a, cs)) hs h
  | tup vs =>
    obtain ⟨l, e, hl⟩ := h
    refine ⟨l, e, ?_⟩
    simp only [scalarV] at hs
    clear e
    generalize l.toList = m at hl
    induction hl with
    | nil => exact .nil
    | cons a _ ih => simp only [List.all_cons, Bool.and_eq_true] at hs; exact .cons (scalarX_ok hs.1 a) (ih hs.2)
end Go.Idl
