/- Part of a proof that the laws of this seat return true: a machine over plain data (Idl) that is sound for the given model, and its runs. Conditions: none. -/
import Derived.Test.YtemfbebfodagpaaMem
set_option linter.all false
namespace Go.Idl
open Go

theorem drel_of_const {H : Im} {v : Value} {d : D} (h : constD v = some d) : Drel H d v := by
  unfold constD at h
  split at h <;> first | (cases h; constructor; done) | skip
  · split at h
    · cases h; exact .str _ (by assumption)
    · cases h
  · cases h
theorem drels_of_const {H : Im} : ∀ {vs : List Value} {ds : List D}, constDs vs = some ds → Drels H ds vs := by
  intro vs
  induction vs with
  | nil => intro ds h; simp [constDs] at h; subst h; exact .nil
  | cons v vs ih =>
    intro ds h
    simp only [constDs] at h
    split at h
    · rename_i d ds' h1 h2
      cases h
      exact .cons (drel_of_const h1) (ih h2)
    · cases h

/-- Nil slices become arrays of their own; memory doesn't turn. -/
theorem thaw_ok {H : Im} {w : World} : ∀ (ss : List (Nat × Nat)) (cs : List C) (h : Heap) (σ : Sg) (vs : List Value), RelM σ H h w → Crels σ H cs vs →
    ∃ σ', Post σ H h w σ' H (thaw h ss cs).2 w ∧ Crels σ' H (thaw h ss cs).1 vs := by
  intro ss
  induction ss with
  | nil =>
    intro cs h σ vs r hc
    cases cs with
    | nil => exact ⟨σ, .refl r, hc⟩
    | cons c cs => exact ⟨σ, .refl r, hc⟩
  | cons s ss ih =>
    intro cs h σ vs r hc
    cases cs with
    | nil => exact ⟨σ, .refl r, hc⟩
    | cons c cs =>
      cases hc with
      | cons hc hcs =>
        rename_i v vs
        cases hn : (Nat.blt 0 s.2 && isNils c) with
        | true =>
          have hc0 : c = .d .nils := by
            simp only [Bool.and_eq_true] at hn
            have h2 := hn.2
            unfold isNils at h2
            split at h2
            · rfl
            · cases h2
          subst hc0
          have et : thaw h (s :: ss) (.d .nils :: cs) = (.arr h.length :: (thaw (h ++ [.arr false false s.1 s.2 []]) ss cs).1, (thaw (h ++ [.arr false false s.1 s.2 []]) ss cs).2) := by simp only [thaw, hn, cond_true]
          rw [et]
          have hv : v = .slice none 0 0 := by cases hc; rfl
          subst hv
          have p1 := Post.push r (.arr false false s.1 s.2 []) (.slice none 0 0) (.refl w) (Nat.le_refl _) (fun _ _ => rfl) (.inl ⟨rfl, rfl⟩) (by simp [blk]) (by simp [blk])
          obtain ⟨σ', p2, h2⟩ := ih cs _ _ vs p1.rel (forall₂_imp (fun _ _ => Crel.mono p1.ext p1.hle) hcs)
          refine ⟨σ', p1.trans p2, .cons ?_ h2⟩
          exact ⟨p2.ext _ _ (Sg.set_self _ _ _), rfl⟩
        | false =>
          obtain ⟨σ', p2, h2⟩ := ih cs h σ vs r hcs
          have e : thaw h (s :: ss) (c :: cs) = (c :: (thaw h ss cs).1, (thaw h ss cs).2) := by simp only [thaw, hn, cond_false]
          rw [e]
          exact ⟨σ', p2, .cons (hc.mono p2.ext p2.hle) h2⟩

/-- So much of a block is there to stay. -/
def Im.ext (H : Im) (w : World) (b n : Nat) : Im := fun b' i => if b' = b ∧ i < n then (match H b i with | some u => some u | none => w.cell? ⟨b, i, none⟩) else H b' i
theorem Im.ext_le (H : Im) (w : World) (b n : Nat) : Hle H (H.ext w b n) := by
  intro b' i u h
  unfold Im.ext
  split
  · rename_i e; obtain ⟨rfl, _⟩ := e; rw [h]
  · exact h
theorem Im.ext_new {H : Im} {w : World} {b n b' i : Nat} {u : Value} (h : H.ext w b n b' i = some u) : H b' i = some u ∨ (b' = b ∧ i < n ∧ w.cell? ⟨b, i, none⟩ = some u) := by
  unfold Im.ext at h
  split at h
  · rename_i e; obtain ⟨rfl, hi⟩ := e
    split at h
    · rename_i x hx; cases h; exact .inl hx
    · exact .inr ⟨rfl, hi, h⟩
  · exact .inl h
theorem Im.ext_cell {H : Im} {w : World} {b n i : Nat} {u : Value} (him : ∀ i u, H b i = some u → w.cell? ⟨b, i, none⟩ = some u) (hi : i < n) (hc : w.cell? ⟨b, i, none⟩ = some u) : H.ext w b n b i = some u := by
  unfold Im.ext
  rw [if_pos ⟨rfl, hi⟩]
  cases h : H b i with
  | some x => simp only; rw [← hc, him i x h]
  | none => simpa using hc

theorem mul_add_lt {n sz i j : Nat} (hi : i < n) (hj : j < sz) : i * sz + j < n * sz := by
  have : (i + 1) * sz ≤ n * sz := Nat.mul_le_mul_right _ hi
  rw [Nat.add_mul, Nat.one_mul] at this
  omega

/-- An array's elements, frozen. -/
theorem arr_frz {σ : Sg} {H : Im} {h : Heap} {w : World} (r : RelM σ H h w) {k : Nat} {fz st : Bool} {t sz : Nat} {es : List (List D)} {v : Value}
    (hk : h[k]? = some (.arr fz st t sz es)) (hσ : σ k = some v) :
    ∃ H', Post σ H h w σ H' (h.set k (.arr true st t sz es)) w ∧ Drel H' (.slice sz es) v := by
  have ho := r.obj k _ v hk hσ
  rcases ho with ⟨rfl, rfl⟩ | ⟨b, cap, c, lo, hi, rfl, hb, h1, h2, h3, h4, h5, h6, h7⟩
  · refine ⟨H, Post.upd r k _ _ _ hk rfl hσ (.refl w) (Nat.le_refl _) (fun _ _ _ => rfl) (.refl H) (fun _ _ _ x => .inl x) (by simp [blk]) (.inl ⟨rfl, rfl⟩) (by simp [blk]), ?_⟩
    exact .slice sz [] none 0 0 0 (fun _ _ => .pointer none) (by simp) (by simp) (by simp) (by simp) (by simp)
  · have hcell := fun i => cell_of (w := w) hb i
    have himb : ∀ i u, H b i = some u → w.cell? ⟨b, i, none⟩ = some u := fun i u x => r.imm b i u x
    have hsz : es.length * sz ≤ c.size := by rw [h1]; exact Nat.mul_le_mul_right _ h2
    have hin : ∀ i, i < es.length * sz → ∃ u, w.cell? ⟨b, i, none⟩ = some u := fun i hi => ⟨c[i]'(by omega), by rw [hcell, Array.getElem?_eq_getElem]⟩
    have hheld := r.held k _ _ b hk rfl hσ rfl
    refine ⟨H.ext w b (es.length * sz), Post.upd r k _ _ _ hk rfl hσ (.refl w) (Nat.le_refl _) (fun _ _ _ => rfl) (H.ext_le w b _) ?_ ?_ ?_ ?_, ?_⟩
    · intro b' i u hu
      rcases Im.ext_new hu with hu | ⟨rfl, _, _⟩
      · exact .inl hu
      · exact .inr rfl
    · intro b' i u hb' hu
      rcases Im.ext_new hu with hu | ⟨rfl, _, hu⟩
      · exact r.imm _ _ _ hu
      · exact hu
    · refine .inr ⟨b, cap, c, lo, hi, rfl, hb, h1, h2, h3, h4, h5, fun i e he j d hd => ?_, ?_⟩
      · obtain ⟨u, hu, hd⟩ := h6 i e he j d hd; exact ⟨u, hu, hd.mono (H.ext_le w b _)⟩
      · rcases h7 with h7 | h7 | h7
        · exact .inl h7
        · exact .inr (.inl h7)
        · exact .inr (.inr ⟨rfl, h7.2⟩)
    · intro _ b' hb'
      simp [blk] at hb'; subst hb'
      refine ⟨fun i u hu => ?_, fun i hi => ?_⟩
      · rcases Im.ext_new hu with hu | ⟨_, hi, _⟩
        · cases fz with
          | false => rw [hheld i] at hu; cases hu
          | true => exact hheld.1 i u hu
        · exact hi
      · obtain ⟨u, hu⟩ := hin i hi
        exact ⟨u, hu, Im.ext_cell himb hi hu⟩
    · have hcv : ∀ i e, es[i]? = some e → ∀ j d, e[j]? = some d → ∃ u, w.cell? ⟨b, i * sz + j, none⟩ = some u ∧ H.ext w b (es.length * sz) b (i * sz + j) = some u ∧ Drel H d u := by
        intro i e he j d hd
        obtain ⟨u, hu, hd'⟩ := h6 i e he j d hd
        have hlen := h4 e (List.mem_of_getElem? he)
        have hlt := mul_add_lt (ltl_of_some he) (hlen ▸ ltl_of_some hd)
        exact ⟨u, by rw [hcell]; exact hu, Im.ext_cell himb hlt (by rw [hcell]; exact hu), hd'⟩
      refine .slice sz es (some ⟨b, 0, none⟩) cap b 0 (fun i j => (w.cell? ⟨b, i * sz + j, none⟩).getD default) h4 (fun _ => rfl) h2 ?_ ?_
      · intro i e he j d hd
        obtain ⟨u, hu, hx, _⟩ := hcv i e he j d hd
        rw [Nat.zero_add, hx, hu]; rfl
      · intro i e he j d hd
        obtain ⟨u, hu, hx, hd⟩ := hcv i e he j d hd
        rw [hu]; exact hd.mono (H.ext_le w b _)

def isBox : Ob → Bool
  | .box .. => true
  | _ => false
def Boxes (h h' : Heap) : Prop := ∀ (k : Nat) (o : Ob), h[k]? = some o → isBox o = true → ∃ o', h'[k]? = some o' ∧ isBox o' = true
theorem Boxes.refl (h : Heap) : Boxes h h := fun _ o x y => ⟨o, x, y⟩
theorem Boxes.trans {a b c : Heap} (p : Boxes a b) (q : Boxes b c) : Boxes a c := fun k o x y => let ⟨o1, x1, y1⟩ := p k o x y; q k o1 x1 y1
theorem Boxes.set {h : Heap} {k : Nat} {o o' : Ob} (hk : h[k]? = some o) (hb : isBox o = true → isBox o' = true) : Boxes h (h.set k o') := by
  intro j p x y
  by_cases e : j = k
  · subst e
    rw [hk] at x; cases x
    exact ⟨o', by rw [List.getElem?_set_self (ltl_of_some hk)], hb y⟩
  · exact ⟨p, by rw [List.getElem?_set_ne (fun x => e x.symm)]; exact x, y⟩

theorem box_frz {σ : Sg} {H : Im} {h : Heap} {w : World} (r : RelM σ H h w) {k off : Nat} {o : Ob} {b : Nat} {c : Array Value} {T : TypeId} {ds : List D}
    (hk : h[k]? = some o) (hbx : isBox o = true) (hσ : σ k = some (.pointer (some ⟨b, 0, none⟩))) (hb : w.heap[b]? = some (.cells c T (0, 0))) (hd : Drels H ds c.toList) :
    ∃ H', Post σ H h w σ H' (h.set k (.box true (ds.map .d))) w ∧ Drel H' (.ptr (ds.drop off)) (.pointer (some ⟨b, off, none⟩)) := by
  have hcell := fun i => cell_of (w := w) hb i
  have himb : ∀ i u, H b i = some u → w.cell? ⟨b, i, none⟩ = some u := fun i u x => r.imm b i u x
  have hlive : o.live = true := by cases o <;> simp_all [isBox, Ob.live]
  have hlen := f2_len hd
  refine ⟨H.ext w b ds.length, Post.upd r k _ _ _ hk hlive hσ (.refl w) (Nat.le_refl _) (fun _ _ _ => rfl) (H.ext_le w b _) ?_ ?_ ?_ ?_, ?_⟩
  · intro b' i u hu
    rcases Im.ext_new hu with hu | ⟨rfl, _, _⟩
    · exact .inl hu
    · exact .inr rfl
  · intro b' i u hb' hu
    rcases Im.ext_new hu with hu | ⟨rfl, _, hu⟩
    · exact r.imm _ _ _ hu
    · exact hu
  · exact ⟨b, c, T, rfl, hb, Drels.crels (forall₂_imp (fun _ _ => Drel.mono (H.ext_le w b _)) hd)⟩
  · intro _ b' hb'
    simp [blk] at hb'; subst hb'
    intro i hi
    simp at hi
    have hu : w.cell? ⟨b, i, none⟩ = some (c[i]'(by have : c.toList.length = c.size := by simp
                                                    omega)) := by rw [hcell, Array.getElem?_eq_getElem]
    exact ⟨_, hu, Im.ext_cell himb hi hu⟩
  · refine .ptr _ b off (fun j => (c[off + j]?).getD default) ?_ ?_
    · intro j d hj
      rw [List.getElem?_drop] at hj
      obtain ⟨u, hu, _⟩ := f2_get hd _ _ hj
      have hu' : c[off + j]? = some u := by simpa using hu
      rw [Im.ext_cell himb (ltl_of_some hj) (by rw [hcell]; exact hu'), hu']; rfl
    · intro j d hj
      rw [List.getElem?_drop] at hj
      obtain ⟨u, hu, hr⟩ := f2_get hd _ _ hj
      have hu' : c[off + j]? = some u := by simpa using hu
      rw [hu']; exact hr.mono (H.ext_le w b _)

def FrzOk (g : Heap → C → Option (D × Heap)) : Prop := ∀ (σ : Sg) (H : Im) (h : Heap) (w : World) (c : C) (v : Value) (d : D) (h' : Heap), g h c = some (d, h') → RelM σ H h w → Crel σ H c v →
  ∃ H', Post σ H h w σ H' h' w ∧ Drel H' d v ∧ Boxes h h'
theorem frzs_ok {g : Heap → C → Option (D × Heap)} (hg : FrzOk g) : ∀ (cs : List C) (σ : Sg) (H : Im) (h : Heap) (w : World) (vs : List Value) (ds : List D) (h' : Heap), frz.frzs g h cs = some (ds, h') → RelM σ H h w → Crels σ H cs vs →
    ∃ H', Post σ H h w σ H' h' w ∧ Drels H' ds vs ∧ Boxes h h' := by
  intro cs
  induction cs with
  | nil => intro σ H h w vs ds h' e r hc; cases hc; simp [frz.frzs] at e; obtain ⟨rfl, rfl⟩ := e; exact ⟨H, .refl r, .nil, .refl h⟩
  | cons c cs ih =>
    intro σ H h w vs ds h' e r hc
    cases hc with
    | cons hc hcs =>
      simp only [frz.frzs] at e
      split at e
      · rename_i d h1 e1
        split at e
        · rename_i ds1 h2 e2
          cases e
          obtain ⟨H1, p1, d1, b1⟩ := hg σ H h w c _ d h1 e1 r hc
          obtain ⟨H2, p2, d2, b2⟩ := ih σ H1 h1 w _ ds1 h' e2 p1.rel (forall₂_imp (fun _ _ => Crel.mono p1.ext p1.hle) hcs)
          exact ⟨H2, p1.trans p2, .cons (d1.mono p2.hle) d2, b1.trans b2⟩
        · cases e
      · cases e
theorem frz_data (n : Nat) (h : Heap) (x : D) : frz n h (.d x) = some (x, h) := by cases n <;> rfl
theorem frz_arr (n : Nat) (h : Heap) (k : Nat) : frz n h (.arr k) = match h[k]? with | some (.arr _ st t sz es) => some (.slice sz es, h.set k (.arr true st t sz es)) | _ => none := by cases n <;> rfl
theorem frz_ok : ∀ n, FrzOk (frz n) := by
  have base : ∀ n, (∀ m, n = m + 1 → FrzOk (frz m)) → FrzOk (frz n) := by
    intro n ihn σ H h w c v d h' e r hc
    cases c with
    | d x => rw [frz_data] at e; cases e; exact ⟨H, .refl r, hc, .refl h⟩
    | arr k =>
      rw [frz_arr] at e
      split at e
      · rename_i f st t sz es hk
        cases e
        obtain ⟨H', p, hd⟩ := arr_frz r hk hc.1
        exact ⟨H', p, hd, .set hk (by simp [isBox])⟩
      · cases e
    | ptr k off =>
      cases n with
      | zero => simp [frz] at e
      | succ n =>
        simp only [frz] at e
        split at e
        · rename_i f cs hk
          split at e
          · rename_i ds h1 e1
            cases e
            obtain ⟨b, hσ, rfl⟩ := hc
            obtain ⟨b', c, T, hv, hb, hcs⟩ := r.obj k _ _ hk hσ
            cases hv
            obtain ⟨H1, p1, d1, b1⟩ := frzs_ok (ihn n rfl) cs σ H h w c.toList ds h1 e1 r hcs
            obtain ⟨o1, hk1, hb1⟩ := b1 k _ hk rfl
            obtain ⟨H2, p2, d2⟩ := box_frz (off := off) p1.rel hk1 hb1 hσ hb d1
            exact ⟨H2, p1.trans p2, d2, b1.trans (.set hk1 fun _ => rfl)⟩
          · cases e
        · cases e
    | clo f l =>
      cases l with
      | nil =>
        have e' : frz n h (.clo f []) = some (.fn f, h) := by cases n <;> rfl
        rw [e'] at e; cases e
        obtain ⟨vs, rfl, hv⟩ := hc
        have : vs = #[] := by
          cases vs with | mk l => cases hv; rfl
        subst this
        exact ⟨H, .refl r, .fn f, .refl h⟩
      | cons x l => cases n <;> simp [frz] at e
    | _ => cases n <;> simp [frz] at e
  intro n
  induction n with
  | zero => exact base 0 (by simp)
  | succ n ih => exact base (n + 1) (fun m e => by cases e; exact ih)
theorem frzL_ok {n : Nat} {cs : List C} {σ : Sg} {H : Im} {h : Heap} {w : World} {vs : List Value} {ds : List D} {h' : Heap} (e : frzL n h cs = some (ds, h')) (r : RelM σ H h w) (hc : Crels σ H cs vs) :
    ∃ H', Post σ H h w σ H' h' w ∧ Drels H' ds vs := by
  obtain ⟨H', p, d, _⟩ := frzs_ok (frz_ok n) cs σ H h w vs ds h' e r hc
  exact ⟨H', p, d⟩
end Go.Idl
