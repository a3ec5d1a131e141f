/- Part of a proof that the laws of this seat return true: a machine over plain data (Idl) that is sound for the given model, and its runs. Conditions: none. -/
import Derived.Test.YtemfbebfodagpaaBin
import Derived.Laws.ShiftsVarLaws
set_option linter.all false
namespace Go.Idl
open Go

/-- The model's operands and ours. -/
def Ops (σ : Sg) (H : Im) (ρ : Opnd) (ρr : Operand → Value) : Prop := ∀ x dv, ρ x = some dv → Vrel σ H dv (ρr x)
theorem Ops.mono {σ σ' : Sg} {H H' : Im} {ρ : Opnd} {ρr : Operand → Value} (hs : Sle σ σ') (hh : Hle H H') (h : Ops σ H ρ ρr) : Ops σ' H' ρ ρr := fun x dv e => (h x dv e).mono hs hh
theorem intOf_rel {σ : Sg} {H : Im} {x : Option DV} {n : Int} {v : Value} (h : intOf? x = some n) (hv : ∀ dv, x = some dv → Vrel σ H dv v) : ∃ k, v = .int k n := by
  unfold intOf? at h
  split at h
  · rename_i k m
    cases h
    have := Vrel.one.1 (hv _ rfl)
    cases this
    exact ⟨_, rfl⟩
  · cases h

theorem foldl_set (off : Nat) : ∀ (l : List Value) (k : Nat) (cells : Array Value), off + k + l.length ≤ cells.size →
    ((l.zipIdx k).foldl (fun cs x => cs.setIfInBounds (off + x.2) x.1) cells).toList = setC cells.toList (off + k) l := by
  intro l
  induction l with
  | nil => intro k cells _; simp [setC]
  | cons v l ih =>
    intro k cells h
    simp only [List.length_cons] at h
    rw [List.zipIdx_cons, List.foldl_cons, ih (k + 1) _ (by simp; omega), Array.toList_setIfInBounds, show off + (k + 1) = off + k + 1 from by omega]
    exact setC_step _ _ _ _ (by simp; omega)
theorem fill_ok {σ : Sg} {H : Im} (place : Nat → Option (Nat × Nat)) (n : Nat) {parts : List (Nat × Value)} {ps : List (Nat × List C)}
    (h : F2 (fun (a : Nat × Value) (p : Nat × List C) => place a.1 = some (p.1, p.2.length) ∧ Crels σ H p.2 a.2.cells.toList ∧ p.1 + p.2.length ≤ n) parts ps) :
    ∀ (cells : Array Value) (cs : List C), cells.size = n → Crels σ H cs cells.toList → ∃ c', Instr.fill place cells parts = some c' ∧ Crels σ H (fillC cs ps) c'.toList ∧ c'.size = n := by
  induction h with
  | nil => intro cells cs hn hc; exact ⟨cells, rfl, hc, hn⟩
  | cons h _ ih =>
    rename_i a p parts ps _
    intro cells cs hn hc
    obtain ⟨h1, h2, h3⟩ := h
    obtain ⟨i, v⟩ := a
    have hl := f2_len h2
    simp only [Array.length_toList] at hl h1 h2
    have hset : (v.cells.zipIdx.foldl (fun cs x => cs.setIfInBounds (p.1 + x.2) x.1) cells).toList = setC cells.toList p.1 v.cells.toList := by
      rw [← Array.foldl_toList, Array.toList_zipIdx]
      exact foldl_set p.1 v.cells.toList 0 cells (by simp; omega)
    obtain ⟨c', hf, hr, hs⟩ := ih (v.cells.zipIdx.foldl (fun cs x => cs.setIfInBounds (p.1 + x.2) x.1) cells) (setC cs p.1 p.2)
      (by rw [← Array.length_toList, hset, length_setC _ _ _ (by simp; omega), Array.length_toList, hn]) (by rw [hset]; exact f2_setC hc _ h2)
    refine ⟨c', ?_, hr, hs⟩
    simp only [Instr.fill, h1]
    rw [if_neg (by simp; omega)]
    exact hf

theorem mapM_ok {α β : Type} {P : Program} {w : World} {f : α → Sem β} {g : α → β} : ∀ (l : List α), (∀ a ∈ l, (f a).run P w = .ok (g a) w) → (l.mapM f).run P w = .ok (l.map g) w := by
  intro l
  induction l with
  | nil => intro _; simp
  | cons a l ih =>
    intro h
    rw [List.mapM_cons]
    simp [h a (by simp), ih (fun b hb => h b (by simp [hb]))]
theorem amapM_ok {α β : Type} {P : Program} {w : World} {f : α → Sem β} {g : α → β} (l : Array α) (h : ∀ a ∈ l, (f a).run P w = .ok (g a) w) : (l.mapM f).run P w = .ok (l.map g) w := by
  obtain ⟨l⟩ := l
  have := mapM_ok (P := P) (w := w) (f := f) (g := g) l (fun a ha => h a (by simpa using ha))
  show (Array.mapM f l.toArray).run P w = _
  rw [List.mapM_toArray]
  simp [this]

theorem buildParts_ok {T : Tab} {desc : TypeDesc} {n : Nat} {ρ : Opnd} {ρr : Operand → Value} {σ : Sg} {H : Im} (hρ : Ops σ H ρ ρr) (place : Nat → Option (Nat × Nat))
    (hp : ∀ i off sz, placeOf T desc i = some (off, sz) → place i = some (off, sz)) :
    ∀ (l : List (Nat × Operand)) (ps : List (Nat × List C)), buildParts T desc n ρ l = some ps →
      F2 (fun (a : Nat × Value) (p : Nat × List C) => place a.1 = some (p.1, p.2.length) ∧ Crels σ H p.2 a.2.cells.toList ∧ p.1 + p.2.length ≤ n) (l.map fun x => (x.1, ρr x.2)) ps := by
  intro l
  induction l with
  | nil => intro ps e; simp [buildParts] at e; subst e; exact .nil
  | cons x l ih =>
    obtain ⟨i, x⟩ := x
    intro ps e
    simp only [buildParts] at e
    split at e
    · rename_i off sz a cs r h1 h2 h3
      split at e
      · rename_i hc
        cases e
        obtain ⟨rfl, hc⟩ := hc
        exact .cons ⟨hp i off _ h1, (hρ _ _ h2).cells, hc⟩ (ih r h3)
      · cases e
    · cases e

theorem sliceParts_ok {sz : Nat} {ρ : Opnd} {ρr : Operand → Value} {w : World} : ∀ (l : List (Nat × Operand)) (σ : Sg) (H : Im) (h : Heap) (es es' : List (List D)) (h' : Heap) (c : Array Value),
    RelM σ H h w → Ops σ H ρ ρr → sliceParts sz ρ es h l = some (es', h') → Rows H sz es c.toList →
    ∃ H' c', Post σ H h w σ H' h' w ∧ Instr.fill (fun i => some (i * sz, sz)) c (l.map fun x => (x.1, ρr x.2)) = some c' ∧ Rows H' sz es' c'.toList ∧ es'.length = es.length := by
  intro l
  induction l with
  | nil => intro σ H h es es' h' c r hρ e hc; simp [sliceParts] at e; obtain ⟨rfl, rfl⟩ := e; exact ⟨H, c, .refl r, rfl, hc, rfl⟩
  | cons x l ih =>
    obtain ⟨i, x⟩ := x
    intro σ H h es es' h' c r hρ e hc
    simp only [sliceParts] at e
    split at e
    · rename_i a cs hx
      split at e
      · rename_i ds h1 hf
        split at e
        · rename_i hcond
          obtain ⟨hl, hi⟩ := hcond
          obtain ⟨H1, p1, hd⟩ := frzL_ok hf r (hρ _ _ hx).cells
          have hdl := f2_len hd
          simp only [Array.length_toList] at hdl
          have hfit : i * sz + (ρr x).cells.toList.length ≤ c.toList.length := by
            have hs := hc.size
            have := mul_add_lt (sz := sz) (i := i) (n := es.length) (j := sz - 1)
            rcases Nat.eq_zero_or_pos sz with h0 | h0
            · subst h0; simp at hl hs ⊢; subst hl; simp at hdl; omega
            · have := this hi (by omega)
              simp at hs ⊢
              omega
          have hset : ((ρr x).cells.zipIdx.foldl (fun cs y => cs.setIfInBounds (i * sz + y.2) y.1) c).toList = setC c.toList (i * sz) (ρr x).cells.toList := by
            rw [← Array.foldl_toList, Array.toList_zipIdx]
            exact foldl_set (i * sz) (ρr x).cells.toList 0 c (by simpa using hfit)
          obtain ⟨H2, c', p2, hfill, hr, hlen⟩ := ih σ H1 h1 (es.set i ds) es' h' ((ρr x).cells.zipIdx.foldl (fun cs y => cs.setIfInBounds (i * sz + y.2) y.1) c) p1.rel (hρ.mono p1.ext p1.hle) e
            (by rw [hset]; exact (hc.mono p1.hle).set hi hd hl)
          refine ⟨H2, c', p1.trans p2, ?_, hr, by rw [hlen]; simp⟩
          simp only [List.map_cons, Instr.fill]
          rw [if_neg (by simp only [Array.length_toList] at hfit; simp; omega)]
          exact hfill
        · cases e
      · cases e
    · cases e

section
variable {P : Program} {T : Tab} (hT : TabTy P T) {σ : Sg} {H : Im} {h : Heap} {w : World} (r : RelM σ H h w) {ρ : Opnd} {ρr : Operand → Value} (hρ : Ops σ H ρ ρr)
include r

theorem alloc_ok {t : TypeId} {i : TI} (ht : TyOk P t i) {z : List D} (hz : i.zero = some z) :
    ∃ rv w' σ', (Instr.alloc t true (.tuple #[])).run P w = .ok rv w' ∧
      Post σ H h w σ' H ((thaw h i.sls (z.map .d)).2 ++ [.box false (thaw h i.sls (z.map .d)).1]) w' ∧ Vrel σ' H (.one (.ptr (thaw h i.sls (z.map .d)).2.length 0)) rv := by
  obtain ⟨v, hv, hc, _⟩ := ht.zeroValue hz w
  obtain ⟨σ1, p1, h1⟩ := thaw_ok i.sls (z.map .d) h σ v.cells.toList r (drels_of_const hc).crels
  obtain ⟨p2, h2⟩ := newBox_ok p1.rel t (vals := v.cells) (by simpa using h1)
  exact ⟨_, _, _, by simp [Instr.alloc, hv, newVar, newRow], p1.trans p2, h2⟩
theorem box_ok {t : TypeId} {sls : List (Nat × Nat)} {a : Bool} {cs : List C} {v : Value} (hv : Vrel σ H (.val a cs) v) :
    ∃ rv w' σ', (Instr.box t v).run P w = .ok rv w' ∧
      Post σ H h w σ' H ((thaw h sls cs).2 ++ [.box false (thaw h sls cs).1]) w' ∧ Vrel σ' H (.one (.ptr (thaw h sls cs).2.length 0)) rv := by
  obtain ⟨σ1, p1, h1⟩ := thaw_ok sls cs h σ v.cells.toList r hv.cells
  obtain ⟨p2, h2⟩ := newBox_ok p1.rel t (vals := v.cells) (by simpa using h1)
  exact ⟨_, _, _, by simp [Instr.box, newVar, newRow], p1.trans p2, h2⟩
end
end Go.Idl
