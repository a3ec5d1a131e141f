/- Part of a proof that the laws of this seat return true: a machine over plain data (Idl) that is sound for the given model, and its runs. Conditions: none. -/
import Derived.Test.YtemfbebfodagpaaEval6
set_option linter.all false
set_option linter.unusedSectionVars false
namespace Go.Idl
open Go

theorem exec_builtin {P : Program} {ρr : Operand → Value} {w : World} {o : Oper} {b : Builtin} {args : Array Operand} {ts : Array TypeId} (ho : o.op = .call ⟨.builtin b, args, ts⟩) :
    ∃ consts, (execOp ρr o).run P w = (builtin b ts o.type consts (args.map ρr)).run P w := by
  refine ⟨args.map (fun x => match x with | .const _ => true | _ => false), ?_⟩
  unfold execOp
  simp only [ho, resolve, Sem.run_bind, Sem.run_pure, Result.andThen_ok, invoke]
  rfl
theorem OpOk.congr {P : Program} {σ : Sg} {H : Im} {h : Heap} {w : World} {s s' : Sem Next} {v : Option DV} {h' : Heap} (e : s.run P w = s'.run P w) (h1 : OpOk P σ H h w s' v h') : OpOk P σ H h w s v h' := by
  obtain ⟨nx, w', σ', H', hs, hp, hv⟩ := h1
  exact ⟨nx, w', σ', H', e.trans hs, hp, hv⟩

section
variable {P : Program} {T : Tab} (hT : TabTy P T) {σ : Sg} {H : Im} {h : Heap} {w : World} (r : RelM σ H h w) {ρ : Opnd} {ρr : Operand → Value} (hρ : Ops σ H ρ ρr)
include hT r hρ

theorem lenV_ok {v : DV} {n : Nat} {rv : Value} (e : lenV h v = some n) (hv : Vrel σ H v rv) (hn : ∀ s, v ≠ .val false [.d (.str s)]) : ∃ a c, rv = .slice a n c := by
  unfold lenV at e
  split at e
  · cases e; have := Vrel.one.1 hv; cases this; exact ⟨_, _, rfl⟩
  · cases e; have := Vrel.one.1 hv; cases this; exact ⟨_, _, rfl⟩
  · rename_i s; exact absurd rfl (hn s)
  · split at e
    · rename_i hk
      cases e
      have hp := Vrel.one.1 hv
      rcases r.obj _ _ _ hk hp.1 with ⟨rfl, rfl⟩ | ⟨b, cap, c, lo, hi, rfl, _⟩
      · exact ⟨_, _, rfl⟩
      · exact ⟨_, _, rfl⟩
    · cases e
  · cases e

theorem fold_ok (mx : Bool) (f : Value → Value → Sem Value) (hf : ∀ k x k' y, f (.int k x) (.int k' y) = pure (.int k (if mx then (if y > x then y else x) else (if y < x then y else x)))) :
    ∀ (vs : List DV) (rs : List Value) (a d : D) (ra : Value), minD mx a vs = some d → F2 (Vrel σ H) vs rs → Drel H a ra →
      ∃ rv, (List.foldlM f ra rs).run P w = .ok rv w ∧ Drel H d rv := by
  intro vs
  induction vs with
  | nil => intro rs a d ra e hr ha; cases hr; simp [minD] at e; subst e; exact ⟨ra, by simp, ha⟩
  | cons v vs ih =>
    intro rs a d ra e hr ha
    cases hr with
    | cons hv hr =>
      unfold minD at e
      split at e
      · rename_i h2; cases h2
      · rename_i k' y _ h2
        cases h2
        split at e
        · cases ha
          have := Vrel.one.1 hv
          cases this
          rw [List.foldlM_cons, hf]
          simp only [Sem.run_bind, Sem.run_pure, Result.andThen_ok]
          exact ih _ _ _ _ e hr (.int _ _)
        · cases e
      · cases e

theorem ev_builtin (hext : ∀ (op : Op) (ty : TypeId) (v : Option DV) (h' : Heap) (o : Oper), o.op = op → T.ext ρ h op ty = some (v, h') → OpOk P σ H h w (execOp ρr o) v h')
    {b : Builtin} {args : Array Operand} {ts : Array TypeId} {ty : TypeId} {v : Option DV} {h' : Heap} {o : Oper} (ho : o.op = .call ⟨.builtin b, args, ts⟩) (e : evalOp T ρ h (.call ⟨.builtin b, args, ts⟩) ty = some (v, h')) :
    OpOk P σ H h w (execOp ρr o) v h' := by
  obtain ⟨consts, hex⟩ := exec_builtin (P := P) (ρr := ρr) (w := w) ho
  simp only [evalOp] at e
  split at e
  · -- len
    rename_i x t hx ht
    have hargs : args = #[x] := by cases args; simp at hx; subst hx; rfl
    have hts : ts = #[t] := by cases ts; simp at ht; subst ht; rfl
    subst hargs hts
    refine OpOk.congr hex ?_
    simp only [builtin]
    split at e
    · rename_i it hit
      have hund : (underlying t).run P w = .ok it.desc w := (hT.ty _ _ hit).underlying w
      split at e
      · rename_i n el hd
        cases e
        rw [hd] at hund
        exact .still (rv := .int .i64 n) (by simp [Builtin.len_, hund, goInt]) r (Vrel.one.2 (.int _ _))
      · rename_i hd
        rw [hd] at hund
        split at e
        · rename_i s hxv
          cases e
          have hp := Vrel.one.1 (hρ _ _ hxv)
          obtain ⟨z, hz⟩ : ∃ z, ρr x = z := ⟨_, rfl⟩
          rw [hz] at hp
          cases hp with
          | str bs hbs =>
            exact .still (rv := .int .i64 bs.size) (by simp [Builtin.len_, hund, goInt, hz]) r (Vrel.one.2 (by rw [bytes_len]; exact .int _ _))
        · cases e
      · rename_i el hd
        rw [hd] at hund
        split at e
        · cases e
        · rename_i v' hns hxv
          split at e
          · rename_i n hn
            cases e
            obtain ⟨a, c, hz⟩ := lenV_ok hT r hρ hn (hρ _ _ hxv) (fun s e => hns s e)
            exact .still (rv := .int .i64 n) (by simp [Builtin.len_, hund, goInt, hz]) r (Vrel.one.2 (.int _ _))
          · cases e
        · cases e
      · cases e
    · cases e
  · -- append
    rename_i s x t tx hx ht
    have hargs : args = #[s, x] := by cases args; simp at hx; subst hx; rfl
    have hts : ts = #[t, tx] := by cases ts; simp at ht; subst ht; rfl
    subst hargs hts
    refine OpOk.congr hex ?_
    simp only [builtin]
    split at e
    · rename_i it ix hit hix
      split at e
      · rename_i el hd
        split at e
        · rename_i hxd
          split at e
          · rename_i ie xv hie hxv
            split at e
            · rename_i ys z hys hz
              split at e
              · rename_i hc
                obtain ⟨hby, hs0, hzl⟩ := hc
                have hut : P.underlying t = some (.slice el) := by rw [(hT.ty _ _ hit).und, hd]
                have hux := (hT.ty _ _ hix).und
                have hux' : (∃ e, ix.desc = .slice e) ∨ ix.desc = .string := by
                  unfold slStr at hxd
                  split at hxd
                  · rename_i e h; exact .inl ⟨e, h⟩
                  · rename_i h; exact .inr h
                  · cases hxd
                split at e
                · rename_i k hsv
                  split at e
                  · rename_i f st t' sz es hk
                    split at e
                    · rename_i hc
                      obtain ⟨rfl, rfl, hmax⟩ := hc
                      cases e
                      obtain ⟨rv, w', σ', H', hr, hp, hv⟩ := append_arr (P := P) r (ty := o.type) hk (Vrel.one.1 (hρ _ _ hsv)).1 hut hux hux' (hT.ty _ _ hie) hz hzl rfl hs0 (elems_src r hys (hρ _ _ hxv)) hmax hby
                      exact .value (by simpa using hr) hp hv
                    · cases e
                  · cases e
                · rename_i hsv
                  split at e
                  · rename_i hmax
                    cases e
                    have hp := Vrel.one.1 (hρ _ _ hsv)
                    obtain ⟨zz, hzz⟩ : ∃ z, ρr s = z := ⟨_, rfl⟩
                    rw [hzz] at hp
                    cases hp
                    obtain ⟨σ1, p1, h1⟩ := thaw_ok [(el, ie.size)] [.d .nils] h σ [.slice none 0 0] r (.cons .nils .nil)
                    have hb0 : (Nat.blt 0 ie.size && isNils (.d .nils)) = true := by
                      have : Nat.blt 0 ie.size = true := by rw [Nat.blt_eq]; exact hs0
                      rw [this]; rfl
                    simp only [thaw, hb0, cond_true] at p1 h1
                    cases h1 with
                    | cons h1 _ =>
                      have hk : (h ++ [Ob.arr false false el ie.size []])[h.length]? = some (.arr false false el ie.size []) := by simp
                      obtain ⟨rv, w', σ', H', hr, hp, hv⟩ := append_arr (P := P) p1.rel (ty := o.type) hk h1.1 hut hux hux' (hT.ty _ _ hie) hz hzl rfl hs0
                        (elems_src p1.rel (x := xv) (v := ρr x) (sz := ie.size) (ys := ys) (by
                          revert hys
                          unfold elemsOf
                          split <;> try (intro h; exact h)
                          rename_i k
                          intro hh
                          split at hh
                          · rename_i hk'
                            rw [List.getElem?_append_left (ltl_of_some hk'), hk']
                            exact hh
                          · cases hh) ((hρ _ _ hxv).mono p1.ext p1.hle)) (by simpa using hmax) hby
                      refine .value (by rw [show (#[s, x] : Array Operand).map ρr = #[.slice none 0 0, ρr x] from by simp [hzz]]; exact hr) (p1.trans ?_) (by simpa using hv)
                      simpa using hp
                  · cases e
                · cases e
              · cases e
            · cases e
          · cases e
        · cases e
      · cases e
    · cases e
  · -- min
    rename_i x xs hx
    have hargs : (args.map ρr).toList = ρr x :: xs.map ρr := by rw [Array.toList_map, hx]; rfl
    refine OpOk.congr hex ?_
    simp only [builtin, Builtin.min_, hargs]
    split at e
    · rename_i a vs hxv hvs
      split at e
      · rename_i d hd
        cases e
        obtain ⟨rv, hr, hdd⟩ := fold_ok hT r hρ false Builtin.min2 (fun _ _ _ _ => rfl) vs _ a d _ hd (evs_ok hT r hρ _ _ hvs) (Vrel.one.1 (hρ _ _ hxv))
        exact .still hr r (Vrel.one.2 hdd)
      · cases e
    · cases e
  · -- max
    rename_i x xs hx
    have hargs : (args.map ρr).toList = ρr x :: xs.map ρr := by rw [Array.toList_map, hx]; rfl
    refine OpOk.congr hex ?_
    simp only [builtin, Builtin.max_, hargs]
    split at e
    · rename_i a vs hxv hvs
      split at e
      · rename_i d hd
        cases e
        obtain ⟨rv, hr, hdd⟩ := fold_ok hT r hρ true Builtin.max2 (fun _ _ _ _ => rfl) vs _ a d _ hd (evs_ok hT r hρ _ _ hvs) (Vrel.one.1 (hρ _ _ hxv))
        exact .still hr r (Vrel.one.2 hdd)
      · cases e
    · cases e
  · -- real
    rename_i x hx
    have hargs : args = #[x] := by cases args; simp at hx; subst hx; rfl
    subst hargs
    refine OpOk.congr hex ?_
    simp only [builtin]
    split at e
    · rename_i k re im hxv
      cases e
      have hp := Vrel.one.1 (hρ _ _ hxv)
      obtain ⟨z, hz⟩ : ∃ z, ρr x = z := ⟨_, rfl⟩
      rw [hz] at hp
      cases hp
      exact .still (rv := .float k re) (by rw [show (#[x] : Array Operand).map ρr = #[.complex k re im] from by simp [hz], show Builtin.real_ ts o.type #[.complex k re im] = pure (.float k re) from rfl]; simp) r (Vrel.one.2 (.flt _ _))
    · cases e
  · -- imag
    rename_i x hx
    have hargs : args = #[x] := by cases args; simp at hx; subst hx; rfl
    subst hargs
    refine OpOk.congr hex ?_
    simp only [builtin]
    split at e
    · rename_i k re im hxv
      cases e
      have hp := Vrel.one.1 (hρ _ _ hxv)
      obtain ⟨z, hz⟩ : ∃ z, ρr x = z := ⟨_, rfl⟩
      rw [hz] at hp
      cases hp
      exact .still (rv := .float k im) (by rw [show (#[x] : Array Operand).map ρr = #[.complex k re im] from by simp [hz], show Builtin.imag_ ts o.type #[.complex k re im] = pure (.float k im) from rfl]; simp) r (Vrel.one.2 (.flt _ _))
    · cases e
  · -- complex
    rename_i x y hx
    have hargs : args = #[x, y] := by cases args; simp at hx; subst hx; rfl
    subst hargs
    refine OpOk.congr hex ?_
    simp only [builtin]
    split at e
    · rename_i k a k' b hxv hyv
      split at e
      · rename_i hk
        cases e
        subst hk
        have hp := Vrel.one.1 (hρ _ _ hxv)
        have hq := Vrel.one.1 (hρ _ _ hyv)
        obtain ⟨z, hz⟩ : ∃ z, ρr x = z := ⟨_, rfl⟩
        obtain ⟨z', hz'⟩ : ∃ z, ρr y = z := ⟨_, rfl⟩
        rw [hz] at hp
        rw [hz'] at hq
        cases hp
        cases hq
        exact .still (rv := .complex k a b) (by rw [show (#[x, y] : Array Operand).map ρr = #[.float k a, .float k b] from by simp [hz, hz'], show Builtin.complex_ ts o.type #[.float k a, .float k b] = (if k = k then pure (.complex k a b) else stuck "complex: parts of different kinds") from rfl, if_pos rfl]; simp) r (Vrel.one.2 (.cpx _ _ _))
      · cases e
    · cases e
  · exact hext _ _ _ _ _ ho e

end
end Go.Idl
