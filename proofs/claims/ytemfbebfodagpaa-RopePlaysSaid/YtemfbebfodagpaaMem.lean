/- Part of a proof that the laws of this seat return true: a machine over plain data (Idl) that is sound for the given model, and its runs. Conditions: none. -/
import Derived.Test.YtemfbebfodagpaaRel
set_option linter.all false
namespace Go.Idl
open Go

def blk : Value → Option Nat
  | .pointer (some a) => some a.block
  | .slice (some a) _ _ => some a.block
  | .map (some b) => some b
  | _ => none

def DsVal (H : Im) (a : Bool) (ds : List D) (v : Value) : Prop := Xrel (fun _ => none) H (a, ds.map .d) v

def Ob.live : Ob → Bool
  | .dead => false
  | _ => true

/-- How an object lies in memory. -/
def Orel (σ : Sg) (H : Im) : Ob → Value → World → Prop
  | .dead, _, _ => True
  | .box _ cs, v, w => ∃ b c T, v = .pointer (some ⟨b, 0, none⟩) ∧ w.heap[b]? = some (.cells c T (0, 0)) ∧ Crels σ H cs c.toList
  | .arr fz st t sz es, v, w => (v = .slice none 0 0 ∧ es = []) ∨ ∃ b cap c lo hi, v = .slice (some ⟨b, 0, none⟩) es.length cap ∧
      w.heap[b]? = some (.cells c t (lo, hi)) ∧ c.size = cap * sz ∧ es.length ≤ cap ∧ 0 < sz ∧ (∀ e ∈ es, e.length = sz) ∧ (∀ u ∈ c.toList, u.oneCell' = true) ∧
      (∀ i e, es[i]? = some e → ∀ j d, e[j]? = some d → ∃ u, c[i * sz + j]? = some u ∧ Drel H d u) ∧
      (lo = hi ∨ (st = true ∧ c.size ≤ lo) ∨ (fz = true ∧ hi ≤ es.length * sz))
  | .map ka va es, v, w => ∃ b ents clock, v = .map (some b) ∧ w.heap[b]? = some (.map ents clock) ∧
      F2 (fun (x : List D × List D) (e : MapEntry) => DsVal H ka x.1 e.key ∧ DsVal H va x.2 e.val) es ents.toList

/-- What of an object's block stays for good. -/
def Held (H : Im) : Ob → Nat → World → Prop
  | .box true cs, b, w => ∀ i, i < cs.length → ∃ u, w.cell? ⟨b, i, none⟩ = some u ∧ H b i = some u
  | .arr true _ _ sz es, b, w => (∀ i u, H b i = some u → i < es.length * sz) ∧ (∀ i, i < es.length * sz → ∃ u, w.cell? ⟨b, i, none⟩ = some u ∧ H b i = some u)
  | .box false _, b, _ => ∀ i, H b i = none
  | .arr false .., b, _ => ∀ i, H b i = none
  | .map .., b, _ => ∀ i, H b i = none
  | .dead, _, _ => True

def Own (σ : Sg) (h : Heap) (b : Nat) : Prop := ∃ (k : Nat) (o : Ob) (v : Value), h[k]? = some o ∧ o.live = true ∧ σ k = some v ∧ blk v = some b

structure RelM (σ : Sg) (H : Im) (h : Heap) (w : World) : Prop where
  obj : ∀ (k : Nat) (o : Ob) (v : Value), h[k]? = some o → σ k = some v → Orel σ H o v w
  held : ∀ (k : Nat) (o : Ob) (v : Value) (b : Nat), h[k]? = some o → o.live = true → σ k = some v → blk v = some b → Held H o b w
  dom : ∀ (k : Nat), h.length ≤ k → σ k = none
  imm : ∀ (b i : Nat) (v : Value), H b i = some v → w.cell? ⟨b, i, none⟩ = some v
  sep : ∀ (k k' : Nat) (o o' : Ob) (v v' : Value) (b : Nat), h[k]? = some o → h[k']? = some o' → o.live = true → o'.live = true → σ k = some v → σ k' = some v' → blk v = some b → blk v' = some b → k = k'

structure Post (σ : Sg) (H : Im) (h : Heap) (w : World) (σ' : Sg) (H' : Im) (h' : Heap) (w' : World) : Prop where
  ext : Sle σ σ'
  old : ∀ k, k < h.length → σ' k = σ k
  hle : Hle H H'
  rel : RelM σ' H' h' w'
  len : h.length ≤ h'.length
  same : Same w w'
  size : w.heap.size ≤ w'.heap.size
  frame : ∀ b, b < w.heap.size → ¬ Own σ h b → w'.heap[b]? = w.heap[b]?
  fresh : ∀ b, Own σ' h' b → Own σ h b ∨ w.heap.size ≤ b
  grow : ∀ b i u, H' b i = some u → H b i = some u ∨ Own σ h b ∨ w.heap.size ≤ b

theorem Post.refl {σ : Sg} {H : Im} {h : Heap} {w : World} (r : RelM σ H h w) : Post σ H h w σ H h w :=
  ⟨.refl σ, fun _ _ => rfl, .refl H, r, Nat.le_refl _, .refl w, Nat.le_refl _, fun _ _ _ => rfl, fun _ h => .inl h, fun _ _ _ h => .inl h⟩
theorem Post.trans {σ σ1 σ2 : Sg} {H H1 H2 : Im} {h h1 h2 : Heap} {w w1 w2 : World} (p : Post σ H h w σ1 H1 h1 w1) (q : Post σ1 H1 h1 w1 σ2 H2 h2 w2) :
    Post σ H h w σ2 H2 h2 w2 where
  ext := p.ext.trans q.ext
  old := fun k hk => (q.old k (Nat.lt_of_lt_of_le hk p.len)).trans (p.old k hk)
  hle := p.hle.trans q.hle
  rel := q.rel
  len := Nat.le_trans p.len q.len
  same := p.same.trans q.same
  size := Nat.le_trans p.size q.size
  frame := fun b hb hn => by
    rw [q.frame b (Nat.lt_of_lt_of_le hb p.size) (fun ho => (p.fresh b ho).elim hn (fun hge => absurd hb (by omega))), p.frame b hb hn]
  fresh := fun b ho => by
    rcases q.fresh b ho with h | h
    · exact p.fresh b h
    · exact .inr (Nat.le_trans p.size h)
  grow := fun b i u hu => by
    rcases q.grow b i u hu with h | h | h
    · exact p.grow b i u h
    · exact .inr (p.fresh b h)
    · exact .inr (.inr (Nat.le_trans p.size h))

theorem Orel.mono {σ σ' : Sg} {H H' : Im} (hs : Sle σ σ') (hh : Hle H H') {o : Ob} {v : Value} {w : World} (h : Orel σ H o v w) : Orel σ' H' o v w := by
  cases o with
  | dead => trivial
  | box fz cs => obtain ⟨b, c, T, e, hb, hc⟩ := h; exact ⟨b, c, T, e, hb, forall₂_imp (fun _ _ => Crel.mono hs hh) hc⟩
  | arr fz st t sz es =>
    rcases h with h | ⟨b, cap, c, lo, hi, e, hb, h1, h2, h3, h4, h5, h6, h7⟩
    · exact .inl h
    · exact .inr ⟨b, cap, c, lo, hi, e, hb, h1, h2, h3, h4, h5, fun i e he j d hd => let ⟨u, hu, hd⟩ := h6 i e he j d hd; ⟨u, hu, hd.mono hh⟩, h7⟩
  | map ka va es => obtain ⟨b, ents, cl, e, hb, h⟩ := h; exact ⟨b, ents, cl, e, hb, forall₂_imp (fun _ _ ⟨x, y⟩ => ⟨x.mono (.refl _) hh, y.mono (.refl _) hh⟩) h⟩
theorem Orel.congr {σ : Sg} {H : Im} {o : Ob} {v : Value} {w w' : World} (hw : ∀ b, blk v = some b → w'.heap[b]? = w.heap[b]?) (h : Orel σ H o v w) : Orel σ H o v w' := by
  cases o with
  | dead => trivial
  | box fz cs => obtain ⟨b, c, T, rfl, hb, hc⟩ := h; exact ⟨b, c, T, rfl, by rw [hw b rfl]; exact hb, hc⟩
  | arr fz st t sz es =>
    rcases h with h | ⟨b, cap, c, lo, hi, rfl, hb, h1⟩
    · exact .inl h
    · exact .inr ⟨b, cap, c, lo, hi, rfl, by rw [hw b rfl]; exact hb, h1⟩
  | map ka va es => obtain ⟨b, ents, cl, rfl, hb, h⟩ := h; exact ⟨b, ents, cl, rfl, by rw [hw b rfl]; exact hb, h⟩
theorem Orel.lt {σ : Sg} {H : Im} {o : Ob} {v : Value} {w : World} {b : Nat} (h : Orel σ H o v w) (hl : o.live = true) (hb : blk v = some b) : b < w.heap.size := by
  cases o with
  | dead => simp [Ob.live] at hl
  | box fz cs => obtain ⟨b', c, T, rfl, hb', hc⟩ := h; simp [blk] at hb; subst hb; exact lt_of_some hb'
  | arr fz st t sz es =>
    rcases h with ⟨rfl, _⟩ | ⟨b', cap, c, lo, hi, rfl, hb', h1⟩
    · simp [blk] at hb
    · simp [blk] at hb; subst hb; exact lt_of_some hb'
  | map ka va es => obtain ⟨b', ents, cl, rfl, hb', h⟩ := h; simp [blk] at hb; subst hb; exact lt_of_some hb'
theorem cell_congr {w w' : World} {b i : Nat} (h : w'.heap[b]? = w.heap[b]?) : w'.cell? ⟨b, i, none⟩ = w.cell? ⟨b, i, none⟩ := by simp [World.cell?, h]
theorem Held.congr {H : Im} {o : Ob} {b : Nat} {w w' : World} (hw : w'.heap[b]? = w.heap[b]?) (h : Held H o b w) : Held H o b w' := by
  cases o with
  | dead => trivial
  | box fz cs =>
    cases fz with
    | false => exact h
    | true => intro i hi; obtain ⟨u, h1, h2⟩ := h i hi; exact ⟨u, by rw [cell_congr hw]; exact h1, h2⟩
  | arr fz st t sz es =>
    cases fz with
    | false => exact h
    | true => exact ⟨h.1, fun i hi => let ⟨u, h1, h2⟩ := h.2 i hi; ⟨u, by rw [cell_congr hw]; exact h1, h2⟩⟩
  | map ka va es => exact h
theorem Held.himm {H H' : Im} {o : Ob} {b : Nat} {w : World} (hH : ∀ i, H' b i = H b i) (h : Held H o b w) : Held H' o b w := by
  cases o with
  | dead => trivial
  | box fz cs =>
    cases fz with
    | false => intro i; rw [hH]; exact h i
    | true => intro i hi; obtain ⟨u, h1, h2⟩ := h i hi; exact ⟨u, h1, by rw [hH]; exact h2⟩
  | arr fz st t sz es =>
    cases fz with
    | false => intro i; rw [hH]; exact h i
    | true => exact ⟨fun i u hu => h.1 i u (by rw [← hH]; exact hu), fun i hi => let ⟨u, h1, h2⟩ := h.2 i hi; ⟨u, h1, by rw [hH]; exact h2⟩⟩
  | map ka va es => intro i; rw [hH]; exact h i
theorem RelM.own_lt {σ : Sg} {H : Im} {h : Heap} {w : World} (r : RelM σ H h w) {b : Nat} (ho : Own σ h b) : b < w.heap.size := by
  obtain ⟨k, o, v, h1, h2, h3, h4⟩ := ho
  exact (r.obj k o v h1 h3).lt h2 h4
theorem RelM.imm_lt {σ : Sg} {H : Im} {h : Heap} {w : World} (r : RelM σ H h w) {b i : Nat} {v : Value} (ho : H b i = some v) : b < w.heap.size :=
  World.block_lt_of_cell? (a := ⟨b, i, none⟩) w (r.imm b i v ho)

/-- Nothing that counts has turned: draws, or blocks that nobody owns. -/
theorem RelM.step {σ : Sg} {H : Im} {h : Heap} {w w' : World} (r : RelM σ H h w) (hw : ∀ b, b < w.heap.size → w'.heap[b]? = w.heap[b]?) : RelM σ H h w' where
  obj := fun k o v h1 h2 => by
    by_cases hl : o.live = true
    · exact (r.obj k o v h1 h2).congr (fun b hb => hw b ((r.obj k o v h1 h2).lt hl hb))
    · cases o <;> simp [Ob.live] at hl; trivial
  held := fun k o v b h1 h2 h3 h4 => (r.held k o v b h1 h2 h3 h4).congr (hw b ((r.obj k o v h1 h3).lt h2 h4))
  dom := r.dom
  imm := fun b i v hv => by rw [cell_congr (hw b (r.imm_lt hv))]; exact r.imm b i v hv
  sep := r.sep
theorem Post.step {σ : Sg} {H : Im} {h : Heap} {w w' : World} (r : RelM σ H h w) (hs : Same w w') (hz : w.heap.size ≤ w'.heap.size) (hw : ∀ b, b < w.heap.size → w'.heap[b]? = w.heap[b]?) :
    Post σ H h w σ H h w' :=
  ⟨.refl σ, fun _ _ => rfl, .refl H, r.step hw, Nat.le_refl _, hs, hz, fun b hb _ => hw b hb, fun _ h => .inl h, fun _ _ _ h => .inl h⟩

def Sg.set (σ : Sg) (k : Nat) (v : Value) : Sg := fun j => if j = k then some v else σ j
theorem Sg.sle_set {σ : Sg} {k : Nat} (h : σ k = none) (v : Value) : Sle σ (σ.set k v) := by
  intro j u hj
  unfold Sg.set
  split
  · rename_i e; subst e; rw [h] at hj; cases hj
  · exact hj
theorem Sg.set_self (σ : Sg) (k : Nat) (v : Value) : (σ.set k v) k = some v := by simp [Sg.set]

theorem getElem?_concat {α : Type} (l : List α) (x : α) (k : Nat) (y : α) (h : (l ++ [x])[k]? = some y) : (k < l.length ∧ l[k]? = some y) ∨ (k = l.length ∧ y = x) := by
  rw [List.getElem?_append] at h
  split at h
  · exact .inl ⟨by assumption, h⟩
  · rename_i hk
    have : k - l.length = 0 := by
      have := ltl_of_some h; simp at this; omega
    rw [this] at h; simp at h
    exact .inr ⟨by omega, h.symm⟩

/-- A new object, in a new block (or in none). -/
theorem Post.push {σ : Sg} {H : Im} {h : Heap} {w w' : World} (r : RelM σ H h w) (o : Ob) (v : Value)
    (hs : Same w w') (hz : w.heap.size ≤ w'.heap.size) (hw : ∀ b, b < w.heap.size → w'.heap[b]? = w.heap[b]?)
    (ho : Orel (σ.set h.length v) H o v w') (hb : ∀ b, blk v = some b → w.heap.size ≤ b)
    (hh : ∀ b, blk v = some b → (∀ i, H b i = none) → Held H o b w') :
    Post σ H h w (σ.set h.length v) H (h ++ [o]) w' := by
  have hn : σ h.length = none := r.dom _ (Nat.le_refl _)
  have hle := Sg.sle_set hn v
  have r' := r.step hw
  have back : ∀ (k : Nat) (u : Value), k < h.length → (σ.set h.length v) k = some u → σ k = some u := by
    intro k u hk hu
    unfold Sg.set at hu
    rw [if_neg (by omega)] at hu
    exact hu
  have immn : ∀ b, w.heap.size ≤ b → ∀ i, H b i = none := by
    intro b hb i
    cases hi : H b i with
    | none => rfl
    | some u => have := r.imm_lt hi; omega
  refine ⟨hle, fun k hk => by unfold Sg.set; rw [if_neg (by omega)], .refl H, ⟨?_, ?_, ?_, r'.imm, ?_⟩, by simp, hs, hz, fun b hb _ => hw b hb, ?_, fun _ _ _ h => .inl h⟩
  · intro k o' u h1 h2
    rcases getElem?_concat _ _ _ _ h1 with ⟨hk, h1⟩ | ⟨rfl, rfl⟩
    · exact (r'.obj k o' u h1 (back k u hk h2)).mono hle (.refl H)
    · rw [Sg.set_self] at h2; cases h2; exact ho
  · intro k o' u b h1 h2 h3 h4
    rcases getElem?_concat _ _ _ _ h1 with ⟨hk, h1⟩ | ⟨rfl, rfl⟩
    · exact r'.held k o' u b h1 h2 (back k u hk h3) h4
    · rw [Sg.set_self] at h3; cases h3; exact hh b h4 (immn b (hb b h4))
  · intro k hk
    simp at hk
    unfold Sg.set
    rw [if_neg (by omega)]
    exact r.dom k (by omega)
  · intro k k' o1 o2 u u' b h1 h2 l1 l2 s1 s2 b1 b2
    rcases getElem?_concat _ _ _ _ h1 with ⟨hk, g1⟩ | ⟨e1, _⟩ <;> rcases getElem?_concat _ _ _ _ h2 with ⟨hk', g2⟩ | ⟨e2, _⟩
    · exact r.sep k k' o1 o2 u u' b g1 g2 l1 l2 (back k u hk s1) (back k' u' hk' s2) b1 b2
    · exfalso
      rw [e2, Sg.set_self] at s2; cases s2
      have := hb b b2
      have := (r.obj k o1 u g1 (back k u hk s1)).lt l1 b1
      omega
    · exfalso
      rw [e1, Sg.set_self] at s1; cases s1
      have := hb b b1
      have := (r.obj k' o2 u' g2 (back k' u' hk' s2)).lt l2 b2
      omega
    · omega
  · intro b hb'
    obtain ⟨k, o', u, h1, h2, h3, h4⟩ := hb'
    rcases getElem?_concat _ _ _ _ h1 with ⟨hk, h1⟩ | ⟨rfl, rfl⟩
    · exact .inl ⟨k, o', u, h1, h2, back k u hk h3, h4⟩
    · rw [Sg.set_self] at h3; cases h3; exact .inr (hb b h4)

theorem getElem?_set_cases {α : Type} {l : List α} {k j : Nat} {x y : α} (h : (l.set k x)[j]? = some y) : (j = k ∧ y = x ∧ k < l.length) ∨ (j ≠ k ∧ l[j]? = some y) := by
  rw [List.getElem?_set] at h
  split at h
  · rename_i e; subst e
    split at h
    · cases h; exact .inl ⟨rfl, rfl, by assumption⟩
    · cases h
  · rename_i e; exact .inr ⟨fun x => e x.symm, h⟩

/-- An object's block turns, and the object with it; H may grow by cells of that block. -/
theorem Post.upd {σ : Sg} {H H' : Im} {h : Heap} {w w' : World} (r : RelM σ H h w) (k : Nat) (o o' : Ob) (v : Value)
    (hk : h[k]? = some o) (hl : o.live = true) (hσ : σ k = some v)
    (hs : Same w w') (hz : w.heap.size ≤ w'.heap.size) (hw : ∀ b, b < w.heap.size → blk v ≠ some b → w'.heap[b]? = w.heap[b]?)
    (hle : Hle H H') (hnew : ∀ b i u, H' b i = some u → H b i = some u ∨ blk v = some b)
    (him : ∀ b i u, blk v = some b → H' b i = some u → w'.cell? ⟨b, i, none⟩ = some u)
    (ho : Orel σ H' o' v w') (hh : o'.live = true → ∀ b, blk v = some b → Held H' o' b w') :
    Post σ H h w σ H' (h.set k o') w' := by
  have hklt := ltl_of_some hk
  have other : ∀ (j : Nat) (o1 : Ob) (u : Value) (b : Nat), j ≠ k → h[j]? = some o1 → o1.live = true → σ j = some u → blk u = some b → blk v ≠ some b := by
    intro j o1 u b hj h1 l1 s1 b1 b2
    exact hj (r.sep j k o1 o u v b h1 hk l1 hl s1 hσ b1 b2)
  have ownlt : ∀ (j : Nat) (o1 : Ob) (u : Value) (b : Nat), h[j]? = some o1 → o1.live = true → σ j = some u → blk u = some b → b < w.heap.size :=
    fun j o1 u b h1 l1 s1 b1 => (r.obj j o1 u h1 s1).lt l1 b1
  refine ⟨.refl σ, fun _ _ => rfl, hle, ⟨?_, ?_, ?_, ?_, ?_⟩, by simp, hs, hz, ?_, ?_, fun b i u hu => (hnew b i u hu).imp id fun e => .inl ⟨k, o, v, hk, hl, hσ, e⟩⟩
  · intro j o1 u h1 h2
    rcases getElem?_set_cases h1 with ⟨rfl, rfl, _⟩ | ⟨hj, h1⟩
    · rw [hσ] at h2; cases h2; exact ho
    · by_cases l1 : o1.live = true
      · refine ((r.obj j o1 u h1 h2).mono (.refl σ) hle).congr (fun b hb => hw b (ownlt j o1 u b h1 l1 h2 hb) (other j o1 u b hj h1 l1 h2 hb))
      · cases o1 <;> simp [Ob.live] at l1; trivial
  · intro j o1 u b h1 l1 h2 hb
    rcases getElem?_set_cases h1 with ⟨rfl, rfl, _⟩ | ⟨hj, h1⟩
    · rw [hσ] at h2; cases h2; exact hh l1 b hb
    · have hne := other j o1 u b hj h1 l1 h2 hb
      have hlt := ownlt j o1 u b h1 l1 h2 hb
      have hold := (r.held j o1 u b h1 l1 h2 hb).congr (hw b hlt hne)
      have hHb : ∀ i, H' b i = H b i := by
        intro i
        cases h' : H' b i with
        | some x => rcases hnew b i x h' with h'' | h''
                    · exact h''.symm
                    · exact absurd h'' hne
        | none => cases h'' : H b i with
                  | none => rfl
                  | some x => rw [hle b i x h''] at h'; cases h'
      exact hold.himm hHb
  · intro j hj; simp at hj; exact r.dom j hj
  · intro b i u hu
    rcases hnew b i u hu with h' | h'
    · by_cases hb : blk v = some b
      · exact him b i u hb hu
      · rw [cell_congr (hw b (r.imm_lt h') hb)]; exact r.imm b i u h'
    · exact him b i u h' hu
  · intro j j' o1 o2 u u' b h1 h2 l1 l2 s1 s2 b1 b2
    rcases getElem?_set_cases h1 with ⟨e1, _, _⟩ | ⟨hj, g1⟩ <;> rcases getElem?_set_cases h2 with ⟨e2, _, _⟩ | ⟨hj', g2⟩
    · omega
    · rw [e1] at s1 ⊢; exact r.sep _ _ o o2 u u' b hk g2 hl l2 s1 s2 b1 b2
    · rw [e2] at s2 ⊢; exact r.sep _ _ o1 o u u' b g1 hk l1 hl s1 s2 b1 b2
    · exact r.sep j j' o1 o2 u u' b g1 g2 l1 l2 s1 s2 b1 b2
  · intro b hb hn
    refine hw b hb (fun e => hn ⟨k, o, v, hk, hl, hσ, e⟩)
  · intro b hb
    obtain ⟨j, o1, u, h1, l1, s1, b1⟩ := hb
    rcases getElem?_set_cases h1 with ⟨rfl, rfl, _⟩ | ⟨hj, h1⟩
    · rw [hσ] at s1; cases s1; exact .inl ⟨_, o, v, hk, hl, hσ, b1⟩
    · exact .inl ⟨j, o1, u, h1, l1, s1, b1⟩
end Go.Idl
