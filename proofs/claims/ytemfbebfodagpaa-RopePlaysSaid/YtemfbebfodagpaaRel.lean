/- Part of a proof that the laws of this seat return true: a machine over plain data (Idl) that is sound for the given model, and its runs. Conditions: none. -/
import Derived.Test.YtemfbebfodagpaaIdl
import Derived.Laws.AppendOwn
set_option linter.all false
namespace Go.Idl
open Go

/-- Two lists, place by place. -/
inductive F2 {α β : Type} (R : α → β → Prop) : List α → List β → Prop where
  | nil : F2 R [] []
  | cons {a : α} {b : β} {l : List α} {m : List β} (h : R a b) (t : F2 R l m) : F2 R (a :: l) (b :: m)

abbrev Sg := Nat → Option Value
abbrev Im := Nat → Nat → Option Value

/-- Data, as memory that stays holds it. -/
inductive Drel (H : Im) : D → Value → Prop where
  | int (k : IntKind) (n : Int) : Drel H (.int k n) (.int k n)
  | bool (b : Bool) : Drel H (.bool b) (.bool b)
  | str (b : ByteArray) (h : b.size < maxStr) : Drel H (.str (bytesOf b)) (.string b)
  | flt (k : FloatKind) (b : Nat) : Drel H (.flt k b) (.float k b)
  | cpx (k : FloatKind) (a b : Nat) : Drel H (.cpx k a b) (.complex k a b)
  | nilp : Drel H .nilp (.pointer none)
  | nilf : Drel H .nilf .nilFunc
  | nilm : Drel H .nilm (.map none)
  | nili : Drel H .nili .nilIface
  | nils : Drel H .nils (.slice none 0 0)
  | fn (f : FuncId) : Drel H (.fn f) (.func (.func f) #[] #[])
  | slice (sz : Nat) (es : List (List D)) (a : Option Addr) (cap b o : Nat) (vals : Nat → Nat → Value)
      (hl : ∀ e ∈ es, e.length = sz) (ha : es ≠ [] → a = some ⟨b, o, none⟩) (hc : es.length ≤ cap)
      (h1 : ∀ i e, es[i]? = some e → ∀ j d, e[j]? = some d → H b (o + i * sz + j) = some (vals i j))
      (h2 : ∀ i e, es[i]? = some e → ∀ j d, e[j]? = some d → Drel H d (vals i j)) :
      Drel H (.slice sz es) (.slice a es.length cap)
  | ptr (ds : List D) (b o : Nat) (vals : Nat → Value)
      (h1 : ∀ j d, ds[j]? = some d → H b (o + j) = some (vals j))
      (h2 : ∀ j d, ds[j]? = some d → Drel H d (vals j)) :
      Drel H (.ptr ds) (.pointer (some ⟨b, o, none⟩))
  | unk (v : Value) (h : v.oneCell' = true) : Drel H .unk v

def Hle (H H' : Im) : Prop := ∀ b i v, H b i = some v → H' b i = some v
theorem Hle.refl (H : Im) : Hle H H := fun _ _ _ h => h
theorem Hle.trans {A B C : Im} (h : Hle A B) (k : Hle B C) : Hle A C := fun b i v x => k b i v (h b i v x)
theorem Drel.mono {H H' : Im} (hh : Hle H H') {d : D} {v : Value} (h : Drel H d v) : Drel H' d v := by
  induction h with
  | slice sz es a cap b o vals hl ha hc h1 _ ih => exact .slice sz es a cap b o vals hl ha hc (fun i e he j d hd => hh _ _ _ (h1 i e he j d hd)) ih
  | ptr ds b o vals h1 _ ih => exact .ptr ds b o vals (fun j d hd => hh _ _ _ (h1 j d hd)) ih
  | str b h => exact .str b h
  | unk v h => exact .unk v h
  | _ => constructor
theorem Drel.one {H : Im} {d : D} {v : Value} (h : Drel H d v) : v.oneCell' = true := by
  cases h <;> first | rfl | assumption

def isSl : Value → Bool
  | .slice .. => true
  | _ => false
def Caps (σ : Sg) : List (Nat × Nat) → List Value → Prop :=
  F2 fun x v => ∃ b, σ x.1 = some (.pointer (some ⟨b, 0, none⟩)) ∧ v = .pointer (some ⟨b, x.2, none⟩)
def Crel (σ : Sg) (H : Im) : C → Value → Prop
  | .d x, v => Drel H x v
  | .ptr k o, v => ∃ b, σ k = some (.pointer (some ⟨b, 0, none⟩)) ∧ v = .pointer (some ⟨b, o, none⟩)
  | .eptr k sz i o, v => ∃ b l c, σ k = some (.slice (some ⟨b, 0, none⟩) l c) ∧ v = .pointer (some ⟨b, i * sz + o, none⟩)
  | .edata k, v => ∃ s p, σ k = some s ∧ isSl s = true ∧ v = .pointer p ∧ ∀ a l c, s = .slice (some a) l c → 0 < c → p = some a
  | .arr k, v => σ k = some v ∧ isSl v = true
  | .map k, v => ∃ b, σ k = some (.map (some b)) ∧ v = .map (some b)
  | .clo f l, v => ∃ vs, v = .func (.func f) #[] vs ∧ Caps σ l vs.toList
  | .dead, v => v.oneCell' = true
def Sle (σ σ' : Sg) : Prop := ∀ k v, σ k = some v → σ' k = some v
theorem Sle.refl (σ : Sg) : Sle σ σ := fun _ _ h => h
theorem Sle.trans {a b c : Sg} (h : Sle a b) (k : Sle b c) : Sle a c := fun x v e => k x v (h x v e)
theorem forall₂_imp {α β : Type} {R S : α → β → Prop} (h : ∀ a b, R a b → S a b) {l : List α} {m : List β} (x : F2 R l m) : F2 S l m := by
  induction x with
  | nil => exact .nil
  | cons a _ ih => exact .cons (h _ _ a) ih
theorem Crel.mono {σ σ' : Sg} {H H' : Im} (hs : Sle σ σ') (hh : Hle H H') {c : C} {v : Value} (h : Crel σ H c v) : Crel σ' H' c v := by
  cases c with
  | d x => exact Drel.mono hh h
  | ptr k o => obtain ⟨b, e, h⟩ := h; exact ⟨b, hs _ _ e, h⟩
  | eptr k sz i o => obtain ⟨b, l, c, e, h⟩ := h; exact ⟨b, l, c, hs _ _ e, h⟩
  | edata k => obtain ⟨s, p, e, h⟩ := h; exact ⟨s, p, hs _ _ e, h⟩
  | arr k => exact ⟨hs _ _ h.1, h.2⟩
  | map k => obtain ⟨b, e, h⟩ := h; exact ⟨b, hs _ _ e, h⟩
  | clo f l => obtain ⟨vs, e, h⟩ := h; exact ⟨vs, e, forall₂_imp (fun _ _ ⟨b, x, y⟩ => ⟨b, hs _ _ x, y⟩) h⟩
  | dead => exact h
theorem Crel.one {σ : Sg} {H : Im} {c : C} {v : Value} (h : Crel σ H c v) : v.oneCell' = true := by
  cases c with
  | d x => exact Drel.one h
  | ptr k o => obtain ⟨b, e, rfl⟩ := h; rfl
  | eptr k sz i o => obtain ⟨b, l, c, e, rfl⟩ := h; rfl
  | edata k => obtain ⟨s, p, e, _, rfl, _⟩ := h; rfl
  | arr k => have := h.2; cases v <;> simp_all [isSl, Value.oneCell']
  | map k => obtain ⟨b, e, rfl⟩ := h; rfl
  | clo f l => obtain ⟨vs, rfl, h⟩ := h; rfl
  | dead => exact h

abbrev Crels (σ : Sg) (H : Im) : List C → List Value → Prop := F2 (Crel σ H)
abbrev Drels (H : Im) : List D → List Value → Prop := F2 (Drel H)
def Xrel (σ : Sg) (H : Im) (x : Bool × List C) (v : Value) : Prop :=
  if x.1 then ∃ vs, v = .agg vs ∧ Crels σ H x.2 vs.toList else ∃ c, x.2 = [c] ∧ Crel σ H c v
def Vrel (σ : Sg) (H : Im) : DV → Value → Prop
  | .val a cs, v => Xrel σ H (a, cs) v
  | .tup vs, v => ∃ l, v = .tuple l ∧ F2 (Xrel σ H) vs l.toList
theorem Xrel.mono {σ σ' : Sg} {H H' : Im} (hs : Sle σ σ') (hh : Hle H H') {x : Bool × List C} {v : Value} (h : Xrel σ H x v) : Xrel σ' H' x v := by
  unfold Xrel at *
  split
  · rename_i hx; rw [if_pos hx] at h; obtain ⟨vs, e, h⟩ := h; exact ⟨vs, e, forall₂_imp (fun _ _ => Crel.mono hs hh) h⟩
  · rename_i hx; rw [if_neg hx] at h; obtain ⟨c, e, h⟩ := h; exact ⟨c, e, h.mono hs hh⟩
theorem Vrel.mono {σ σ' : Sg} {H H' : Im} (hs : Sle σ σ') (hh : Hle H H') {x : DV} {v : Value} (h : Vrel σ H x v) : Vrel σ' H' x v := by
  cases x with
  | val a cs => exact Xrel.mono hs hh h
  | tup vs => obtain ⟨l, e, h⟩ := h; exact ⟨l, e, forall₂_imp (fun _ _ => Xrel.mono hs hh) h⟩
theorem Vrel.one {σ : Sg} {H : Im} {c : C} {v : Value} : Vrel σ H (.one c) v ↔ Crel σ H c v := by
  simp only [Vrel, Xrel]
  constructor
  · rintro ⟨c', h, hc⟩; cases h; exact hc
  · intro h; exact ⟨c, rfl, h⟩
theorem oneCell_cells {v : Value} (h : v.oneCell' = true) : v.cells = #[v] := by cases v <;> simp_all [Value.oneCell', Value.cells]
theorem Vrel.cells {σ : Sg} {H : Im} {a : Bool} {cs : List C} {v : Value} (h : Vrel σ H (.val a cs) v) : Crels σ H cs v.cells.toList := by
  simp only [Vrel, Xrel] at h
  cases a with
  | true => obtain ⟨vs, rfl, h⟩ := h; exact h
  | false =>
    obtain ⟨c, rfl, h⟩ := h
    rw [oneCell_cells h.one]
    exact .cons h .nil
theorem Crels.ones {σ : Sg} {H : Im} {cs : List C} {vs : List Value} (h : Crels σ H cs vs) : ∀ u ∈ vs, u.oneCell' = true := by
  induction h with
  | nil => simp
  | cons a _ ih => intro u hu; cases hu with | head => exact a.one | tail _ hu => exact ih u hu
theorem Drels.ones {H : Im} {cs : List D} {vs : List Value} (h : Drels H cs vs) : ∀ u ∈ vs, u.oneCell' = true := by
  induction h with
  | nil => simp
  | cons a _ ih => intro u hu; cases hu with | head => exact a.one | tail _ hu => exact ih u hu
theorem Drels.crels {σ : Sg} {H : Im} {ds : List D} {vs : List Value} (h : Drels H ds vs) : Crels σ H (ds.map .d) vs := by
  induction h with
  | nil => exact .nil
  | cons a _ ih => exact .cons a ih
theorem crels_map {σ : Sg} {H : Im} {ds : List D} : ∀ {vs : List Value}, Crels σ H (ds.map .d) vs → Drels H ds vs := by
  induction ds with
  | nil => intro vs h; cases h; exact .nil
  | cons d ds ih => intro vs h; cases h with | cons a h => exact .cons a (ih h)

/-! forall₂ and places -/
section
variable {α β : Type} {R : α → β → Prop}
theorem f2_len {l : List α} {m : List β} (h : F2 R l m) : l.length = m.length := by
  induction h with
  | nil => rfl
  | cons _ _ ih => simp [ih]
theorem f2_get {l : List α} {m : List β} (h : F2 R l m) : ∀ (i : Nat) (a : α), l[i]? = some a → ∃ b, m[i]? = some b ∧ R a b := by
  induction h with
  | nil => simp
  | cons hr _ ih =>
    intro i a ha
    cases i with
    | zero => simp at ha; subst ha; exact ⟨_, rfl, hr⟩
    | succ i => simp at ha; simpa using ih i a ha
theorem f2_get' {l : List α} {m : List β} (h : F2 R l m) : ∀ (i : Nat) (b : β), m[i]? = some b → ∃ a, l[i]? = some a ∧ R a b := by
  induction h with
  | nil => simp
  | cons hr _ ih =>
    intro i a ha
    cases i with
    | zero => simp at ha; subst ha; exact ⟨_, rfl, hr⟩
    | succ i => simp at ha; simpa using ih i a ha
theorem f2_of : ∀ {l : List α} {m : List β}, l.length = m.length → (∀ (i : Nat) (a : α) (b : β), l[i]? = some a → m[i]? = some b → R a b) → F2 R l m
  | [], [], _, _ => .nil
  | a :: l, b :: m, hl, h => .cons (h 0 a b rfl rfl) (f2_of (by simpa using hl) fun i a b x y => h (i + 1) a b (by simpa using x) (by simpa using y))
  | [], _ :: _, hl, _ => by simp at hl
  | _ :: _, [], hl, _ => by simp at hl
theorem f2_append {l l' : List α} {m m' : List β} (h : F2 R l m) (h' : F2 R l' m') : F2 R (l ++ l') (m ++ m') := by
  induction h with
  | nil => exact h'
  | cons a _ ih => exact .cons a ih
theorem f2_take {l : List α} {m : List β} (h : F2 R l m) : ∀ n, F2 R (l.take n) (m.take n) := by
  induction h with
  | nil => intro n; simp; exact .nil
  | cons a _ ih => intro n; cases n with | zero => simp; exact .nil | succ n => simpa using F2.cons a (ih n)
theorem f2_drop {l : List α} {m : List β} (h : F2 R l m) : ∀ n, F2 R (l.drop n) (m.drop n) := by
  induction h with
  | nil => intro n; simp; exact .nil
  | cons a h ih => intro n; cases n with | zero => exact .cons a h | succ n => simpa using ih n
end

/-! ### Memory -/
structure Same (w w' : World) : Prop where
  os : w'.os = w.os
  tape : w'.tape = w.tape
  output : w'.output = w.output
theorem Same.refl (w : World) : Same w w := ⟨rfl, rfl, rfl⟩
theorem Same.trans {a b c : World} (h : Same a b) (k : Same b c) : Same a c := ⟨k.os.trans h.os, k.tape.trans h.tape, k.output.trans h.output⟩

theorem cell_of {w : World} {b : Nat} {c : Array Value} {T : TypeId} {f : Nat × Nat} (h : w.heap[b]? = some (.cells c T f)) (i : Nat) : w.cell? ⟨b, i, none⟩ = c[i]? := by simp [World.cell?, h]
theorem frozen_of {w : World} {b : Nat} {c : Array Value} {T : TypeId} {lo hi : Nat} (h : w.heap[b]? = some (.cells c T (lo, hi))) (i : Nat) : w.frozen? ⟨b, i, none⟩ = (decide (lo ≤ i) && decide (i < hi)) := by simp [World.frozen?, h]
theorem add_lit (b o n : Nat) : (⟨b, o, none⟩ : Addr).add n = ⟨b, o + n, none⟩ := by unfold Addr.add; split <;> simp_all
theorem lt_of_some {α : Type} {a : Array α} {i : Nat} {x : α} (h : a[i]? = some x) : i < a.size := by
  rcases Nat.lt_or_ge i a.size with h' | h'
  · exact h'
  · simp [Array.getElem?_eq_none h'] at h
theorem ltl_of_some {α : Type} {a : List α} {i : Nat} {x : α} (h : a[i]? = some x) : i < a.length := by
  rcases Nat.lt_or_ge i a.length with h' | h'
  · exact h'
  · simp [List.getElem?_eq_none h'] at h

theorem heap_push_old {w : World} (o : Obj) {b : Nat} (h : b < w.heap.size) : (w.alloc o).heap[b]? = w.heap[b]? := by
  show (w.heap.push o)[b]? = _
  rw [Array.getElem?_push, if_neg (by omega)]
theorem heap_push_new (w : World) (o : Obj) : (w.alloc o).heap[w.heap.size]? = some o := by
  show (w.heap.push o)[w.heap.size]? = _
  rw [Array.getElem?_push, if_pos rfl]
theorem setCell_other (w : World) (a : Addr) (u : Value) (k : Nat) (h : k ≠ a.block) : (w.setCell a u).heap[k]? = w.heap[k]? := by
  simp only [World.setCell, Array.getElem?_modify]
  rw [if_neg (fun e => h e.symm)]
theorem setCell_same (w : World) (b i : Nat) (u : Value) {c : Array Value} {T : TypeId} {f : Nat × Nat} (h : w.heap[b]? = some (.cells c T f)) :
    (w.setCell ⟨b, i, none⟩ u).heap[b]? = some (.cells (c.setIfInBounds i u) T f) := by
  simp [World.setCell, Array.getElem?_modify, h]

theorem setC_step {α : Type} (l : List α) (n : Nat) (v : α) (vs : List α) (h : n < l.length) : setC (l.set n v) (n + 1) vs = setC l n (v :: vs) := by
  simp only [setC, List.length_cons]
  rw [List.take_set, List.drop_set_of_lt (by omega), List.take_succ_eq_append_getElem h, List.set_append]
  simp only [List.length_take, Nat.min_eq_left (Nat.le_of_lt h)]
  rw [if_neg (by omega)]
  simp only [Nat.sub_self, List.set_cons_zero, List.append_assoc, List.cons_append, List.nil_append]
  rw [show n + 1 + vs.length = n + (vs.length + 1) from by omega]

/-- Stores into one block. -/
theorem storeCells_run (P : Program) (b o : Nat) (vs : List Value) : ∀ (i : Nat) (w : World) (c : Array Value) (T : TypeId) (lo hi : Nat),
    w.heap[b]? = some (.cells c T (lo, hi)) → o + i + vs.length ≤ c.size → (∀ u ∈ vs, u.oneCell' = true) →
    (∀ j, o + i ≤ j → j < o + i + vs.length → ¬ (lo ≤ j ∧ j < hi)) →
    ∃ w', (Go.storeCells ⟨b, o, none⟩ vs i).run P w = .ok () w' ∧ Same w w' ∧ w'.heap.size = w.heap.size ∧
      (∀ k, k ≠ b → w'.heap[k]? = w.heap[k]?) ∧
      ∃ c', w'.heap[b]? = some (.cells c' T (lo, hi)) ∧ c'.toList = setC c.toList (o + i) vs := by
  induction vs with
  | nil =>
    intro i w c T lo hi hb _ _ _
    exact ⟨w, rfl, .refl w, rfl, fun _ _ => rfl, c, hb, by simp [setC]⟩
  | cons v vs ih =>
    intro i w c T lo hi hb hfit hone hfr
    simp only [List.length_cons] at hfit hfr
    have hv := hone v (by simp)
    have hc : w.cell? ⟨b, o + i, none⟩ = some (c[o + i]'(by omega)) := by rw [cell_of hb, Array.getElem?_eq_getElem (by omega)]
    have hf : w.frozen? ⟨b, o + i, none⟩ = false := by
      rw [frozen_of hb]
      have := hfr (o + i) (by omega) (by omega)
      by_cases h1 : lo ≤ o + i <;> by_cases h2 : o + i < hi <;> simp_all
    have hst := run_store P w ⟨b, o + i, none⟩ v .plain hv
    rw [hc, hf] at hst
    simp only [Bool.false_eq_true, if_false] at hst
    obtain ⟨w', hr, hs, hsz, hoth, c', hb', hcl⟩ := ih (i + 1) (w.setCell ⟨b, o + i, none⟩ v) (c.setIfInBounds (o + i) v) T lo hi (setCell_same w b (o + i) v hb)
      (by simp; omega) (fun u hu => hone u (by simp [hu])) (fun j h1 h2 => hfr j (by omega) (by omega))
    refine ⟨w', ?_, ⟨hs.os, hs.tape, hs.output⟩, by rw [hsz]; simp, fun k hk => by rw [hoth k hk, setCell_other _ _ _ _ hk], c', hb', ?_⟩
    · rw [Go.storeCells, add_lit]
      simp only [Sem.run_bind, hst, Result.andThen_ok, hr]
    · rw [hcl]
      have hlt : o + i < c.toList.length := by simp; omega
      rw [Array.toList_setIfInBounds, show o + (i + 1) = o + i + 1 from by omega]
      exact setC_step _ _ _ _ hlt
end Go.Idl
