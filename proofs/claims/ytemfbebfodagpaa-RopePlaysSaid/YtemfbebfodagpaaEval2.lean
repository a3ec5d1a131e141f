/- Part of a proof that the laws of this seat return true: a machine over plain data (Idl) that is sound for the given model, and its runs. Conditions: none. -/
import Derived.Test.YtemfbebfodagpaaEval
import Derived.IntWalk
set_option linter.all false
namespace Go.Idl
open Go

section
variable {P : Program} {T : Tab} (hT : TabTy P T) {σ : Sg} {H : Im} {h : Heap} {w : World} (r : RelM σ H h w) {ρ : Opnd} {ρr : Operand → Value} (hρ : Ops σ H ρ ρr)
include hT r hρ

theorem build_ok {t : TypeId} {i : TI} (hi : T.info t = some i) {z : List D} (hz : i.zero = some z) {parts : Array (Nat × Operand)} {ps : List (Nat × List C)}
    (hp : buildParts T i.desc z.length ρ parts.toList = some ps) (hd : i.agg = true) :
    ∃ rv σ', (Instr.build t (parts.map fun x => (x.1, ρr x.2))).run P w = .ok rv w ∧
      Post σ H h w σ' H (thaw h i.sls (fillC (z.map .d) ps)).2 w ∧ Vrel σ' H (.val true (thaw h i.sls (fillC (z.map .d) ps)).1) rv := by
  have ht := hT.ty t i hi
  obtain ⟨zv, hzr, hzc, _⟩ := ht.zeroValue hz w
  have hzd := drels_of_const (H := H) hzc
  have hzl := f2_len hzd
  simp only [Array.length_toList] at hzl
  have fin : ∀ (place : Nat → Option (Nat × Nat)), (∀ i' off sz, placeOf T i.desc i' = some (off, sz) → place i' = some (off, sz)) →
      ∃ c σ', Instr.fill place zv.cells (parts.toList.map fun x => (x.1, ρr x.2)) = some c ∧ Post σ H h w σ' H (thaw h i.sls (fillC (z.map .d) ps)).2 w ∧ Vrel σ' H (.val true (thaw h i.sls (fillC (z.map .d) ps)).1) (.agg c) := by
    intro place hpl
    have hf := buildParts_ok (desc := i.desc) (n := z.length) hρ place hpl parts.toList ps hp
    obtain ⟨c, hc, hr, _⟩ := fill_ok (σ := σ) (H := H) place z.length hf zv.cells (z.map .d) hzl.symm hzd.crels
    obtain ⟨σ', p, hv⟩ := thaw_ok i.sls _ h σ c.toList r hr
    exact ⟨c, σ', hc, p, c, rfl, hv⟩
  cases hdesc : i.desc with
  | struct fs =>
    have hfs := ht.fields fs hdesc
    let g : Field → Nat × Nat := fun f => (f.offset, ((P.info? f.type).map (·.size)).getD 0)
    have hpl : ∀ i' off sz, placeOf T i.desc i' = some (off, sz) → (fs.map g)[i']? = some (off, sz) := by
      intro i' off sz e
      rw [hdesc] at e
      simp only [placeOf] at e
      split at e
      · rename_i f hf
        split at e
        · rename_i ti hti
          cases e
          obtain ⟨tt, h1, h2, _⟩ := (hT.ty _ _ hti).ti
          simp [hf, g, h1, h2]
        · cases e
      · cases e
    obtain ⟨c, σ', hc, p, hv⟩ := fin (fun i' => (fs.map g)[i']?) hpl
    refine ⟨_, σ', ?_, p, hv⟩
    have hmap : (fs.mapM fun f => (do pure (f.offset, ← sizeOf f.type) : Sem (Nat × Nat))).run P w = .ok (fs.map g) w := by
      refine amapM_ok (P := P) (w := w) (g := g) fs ?_
      intro f hf
      obtain ⟨ti, hti⟩ := hfs f hf
      simp [sizeOf, typeInfo, hti, g]
    have hund : (underlying t).run P w = .ok (.struct fs) w := by rw [ht.underlying, hdesc]
    simp only [Instr.build, Sem.run_bind, hzr, Result.andThen_ok, hund, hmap, Array.toList_map]
    rw [hc]
    simp
  | array n e =>
    cases hte : T.info e with
    | none =>
      -- no part can be laid
      have hps : ps = [] ∧ parts.toList = [] := by
        cases hl : parts.toList with
        | nil => rw [hl] at hp; simp [buildParts] at hp; exact ⟨hp, rfl⟩
        | cons x l => rw [hl, hdesc] at hp; simp [buildParts, placeOf, hte] at hp
      obtain ⟨c, σ', hc, p, hv⟩ := fin (fun i' => placeOf T i.desc i') (fun _ _ _ h => h)
      have he : ∃ ti, P.info? e = some ti := ht.arr n e hdesc
      obtain ⟨ti, hti⟩ := he
      refine ⟨.agg c, σ', ?_, p, hv⟩
      have hund : (underlying t).run P w = .ok (.array n e) w := by rw [ht.underlying, hdesc]
      have hsz : (sizeOf e).run P w = .ok ti.size w := by simp [sizeOf, typeInfo, hti]
      rw [hps.2] at hc
      simp only [List.map_nil, Instr.fill, Option.some.injEq] at hc
      subst hc
      simp only [Instr.build, Sem.run_bind, hzr, Result.andThen_ok, hund, hsz, Array.toList_map, hps.2, List.map_nil, Instr.fill]
      simp
    | some te =>
      have hpl : ∀ i' off sz, placeOf T i.desc i' = some (off, sz) → (fun i' => some (i' * te.size, te.size)) i' = some (off, sz) := by
        intro i' off sz e
        rw [hdesc] at e
        simp only [placeOf, hte] at e
        exact e
      obtain ⟨c, σ', hc, p, hv⟩ := fin _ hpl
      refine ⟨_, σ', ?_, p, hv⟩
      have hund : (underlying t).run P w = .ok (.array n e) w := by rw [ht.underlying, hdesc]
      simp only [Instr.build, Sem.run_bind, hzr, Result.andThen_ok, hund, (hT.ty e te hte).sizeOf, Array.toList_map]
      rw [hc]
      simp
  | _ => simp [TI.agg, hdesc] at hd

theorem buildSlice_ok {t e : TypeId} {i ie : TI} (hi : T.info t = some i) (hd : i.desc = .slice e) (he : T.info e = some ie) {z : List D} (hz : ie.zero = some z) {n : Nat} (hn : n * ie.size ≤ maxEls) (hs0 : 0 < ie.size) (hzl : z.length = ie.size)
    {parts : Array (Nat × Operand)} {es : List (List D)} {h' : Heap} (hp : sliceParts ie.size ρ (List.replicate n z) h parts.toList = some (es, h')) :
    ∃ rv w' σ' H', (Instr.buildSlice t n (parts.map fun x => (x.1, ρr x.2))).run P w = .ok rv w' ∧ Post σ H h w σ' H' (h' ++ [.arr false false e ie.size es]) w' ∧ Vrel σ' H' (.one (.arr h'.length)) rv := by
  have ht := hT.ty t i hi
  have hte := hT.ty e ie he
  obtain ⟨zv, hzr, hzc, _⟩ := hte.zeroValue hz w
  have hzd := drels_of_const (H := H) hzc
  have hzs : zv.cells.size = ie.size := by rw [Drels.const_size hzc, hzl]
  -- the zero rows
  have hzero : ∃ c0 : Array Value, (do (if n * ie.size = 0 then pure #[] else do pure (← zeroValue e).cells) : Sem (Array Value)).run P w = .ok (if n * ie.size = 0 then #[] else zv.cells) w ∧
      ((Array.range (n * ie.size)).map (fun x => (if n * ie.size = 0 then #[] else zv.cells)[x % (if n * ie.size = 0 then #[] else zv.cells).size]!)) = c0 ∧ Rows H ie.size (List.replicate n z) c0.toList := by
    refine ⟨_, ?_, rfl, ?_⟩
    · split <;> simp [hzr]
    · by_cases h0 : n = 0
      · subst h0
        simpa using Rows.nil H ie.size
      · rw [if_neg (by have := Nat.mul_pos (Nat.pos_of_ne_zero h0) hs0; omega), madeRows zv.cells hzs n]
        have := Rows.replicate hzd n
        rw [hzl] at this
        exact this
  obtain ⟨c0, _, hz2, hz3⟩ := hzero
  obtain ⟨H1, c, p1, hfill, hrows, hlen⟩ := sliceParts_ok (ρr := ρr) parts.toList σ H h (List.replicate n z) es h' c0 r hρ hp hz3
  have hel : es.length = n := by rw [hlen]; simp
  have hcs : c.size = n * ie.size := by have := hrows.size; rw [hel] at this; simpa using this
  have hr := newArr_ok (w' := w.alloc (.cells c e)) p1.rel false e hs0 (es := es) (c := c) (cap := n) (lo := 0) (hi := 0) ⟨rfl, rfl, rfl⟩ (by simp) (fun b hb => heap_push_old _ hb) (heap_push_new _ _) hcs (by omega) hrows.one
    (by rw [hel, ← hcs, ← Array.length_toList, List.take_length]; exact hrows) (.inl rfl)
  refine ⟨_, _, _, _, ?_, p1.trans hr.1, hr.2⟩
  have hund : (underlying t).run P w = .ok (.slice e) w := by rw [ht.underlying, hd]
  have hbig : ¬ (n * ie.size > 2 ^ 24) := by unfold maxEls at hn; omega
  by_cases hn0 : n * ie.size = 0
  · have hc0 : c0 = #[] := by
      rw [hn0] at hz2
      rw [← hz2]; simp
    rw [hc0] at hfill
    have hfill' : Instr.fill (fun i => some (i * ie.size, ie.size)) (Array.map (fun x => (#[] : Array Value)[x % (#[] : Array Value).size]!) (Array.range 0)) (List.map (fun x => (x.fst, ρr x.snd)) parts.toList) = some c := by
      have : Array.map (fun x => (#[] : Array Value)[x % (#[] : Array Value).size]!) (Array.range 0) = #[] := by simp
      rw [this]; exact hfill
    have h24 : ¬ (0 > 2 ^ 24) := by omega
    simp only [Instr.buildSlice, Sem.run_bind, hund, Result.andThen_ok, hte.sizeOf, hn0, h24, if_false, if_true, Sem.run_pure, Array.toList_map]
    rw [hfill']
    simp [newRow, hel]
  · simp only [hn0, if_false] at hz2 hfill
    simp only [Instr.buildSlice, Sem.run_bind, hund, Result.andThen_ok, hte.sizeOf, hbig, if_false, hn0, hzr, Sem.run_pure, Array.toList_map, hz2, hfill, hel]
    simp [newRow]

theorem makeSlice_ok {t e : TypeId} {i ie : TI} (hi : T.info t = some i) (hd : i.desc = .slice e) (he : T.info e = some ie) {z : List D} (hz : ie.zero = some z) {n : Int} (h0 : 0 ≤ n) (hn : n ≤ maxEls) (hby : ie.bytes ≤ 65536) (hs0 : 0 < ie.size) (hzl : z.length = ie.size)
    (kl kc : IntKind) :
    ∃ rv w' σ', (Instr.makeSlice t (.int kl n) (.int kc n)).run P w = .ok rv w' ∧ Post σ H h w σ' H (h ++ [.arr false false e ie.size (List.replicate n.toNat z)]) w' ∧ Vrel σ' H (.one (.arr h.length)) rv := by
  have ht := hT.ty t i hi
  have hte := hT.ty e ie he
  obtain ⟨ti, hti, htz, htb, hzz⟩ := hte.ti
  obtain ⟨zv, hzv, hzc, _⟩ := hzz z hz
  have hzr : (zeroValue e).run P w = .ok zv w := by simp [zeroValue, typeInfo, hti, hzv]
  have hzd := drels_of_const (H := H) hzc
  have hzs : zv.cells.size = ie.size := by rw [Drels.const_size hzc, hzl]
  let c0 : Array Value := (Array.range (n.toNat * ie.size)).map (fun x => (if n.toNat * ie.size = 0 then #[] else zv.cells)[x % (if n.toNat * ie.size = 0 then #[] else zv.cells).size]!)
  have hrows : Rows H ie.size (List.replicate n.toNat z) c0.toList := by
    by_cases h0 : n.toNat = 0
    · have : c0 = #[] := by simp [c0, h0]
      rw [this, h0]; exact Rows.nil H ie.size
    · have : c0 = (Array.range (n.toNat * ie.size)).map (fun x => zv.cells[x % zv.cells.size]!) := by
        simp only [c0]
        rw [if_neg (by have := Nat.mul_pos (Nat.pos_of_ne_zero h0) hs0; omega)]
      rw [this, madeRows zv.cells hzs n.toNat]
      have := Rows.replicate hzd n.toNat
      rw [hzl] at this
      exact this
  have hcs : c0.size = n.toNat * ie.size := by have := hrows.size; simpa using this
  have hr := newArr_ok (w' := w.alloc (.cells c0 e)) r false e hs0 (es := List.replicate n.toNat z) (c := c0) (cap := n.toNat) (lo := 0) (hi := 0) ⟨rfl, rfl, rfl⟩ (by simp) (fun b hb => heap_push_old _ hb) (heap_push_new _ _) hcs (by simp) hrows.one
    (by rw [List.length_replicate, ← hcs, ← Array.length_toList, List.take_length]; exact hrows) (.inl rfl)
  refine ⟨_, _, _, ?_, hr.1, hr.2⟩
  have hund : (underlying t).run P w = .ok (.slice e) w := by rw [ht.underlying, hd]
  have hwr : IntKind.i64.wrap n = n := IntWalk.i64_in n (by unfold maxEls at hn; omega)
  have hbytes : (ti.bytes : Int) * n ≤ 65536 * 1048576 := by
    have h1 : (ti.bytes : Int) ≤ 65536 := by omega
    unfold maxEls at hn
    have h2 : (ti.bytes : Int) * n ≤ 65536 * n := Int.mul_le_mul_of_nonneg_right h1 h0
    omega
  have hti' : (typeInfo e).run P w = .ok ti w := by simp [typeInfo, hti]
  have hb2 : ¬ (281474976710656 < (ti.bytes : Int) * n) := by omega
  have hn0 : ¬ (n < 0) := by omega
  by_cases hn1 : n.toNat * ie.size = 0
  · simp only [Instr.makeSlice, Sem.run_bind, hund, Result.andThen_ok, asInt, asIntOf, Sem.run_pure, hti', hwr]
    simp [hn0, hb2, hte.sizeOf, newRow, c0, hn1]
  · simp only [Instr.makeSlice, Sem.run_bind, hund, Result.andThen_ok, asInt, asIntOf, Sem.run_pure, hti', hwr]
    simp [hn0, hb2, hte.sizeOf, hzr, newRow, c0, hn1]
end
end Go.Idl
