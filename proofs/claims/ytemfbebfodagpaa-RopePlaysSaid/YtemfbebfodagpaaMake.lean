/- Part of a proof that the laws of this seat return true: a machine over plain data (Idl) that is sound for the given model, and its runs. Conditions: none. -/
import Derived.Test.YtemfbebfodagpaaStore
set_option linter.all false
namespace Go.Idl
open Go

/-- The table is of this program. -/
structure TabTy (P : Program) (T : Tab) : Prop where
  ty : ∀ t i, T.info t = some i → TyOk P t i

theorem newBox_ok {σ : Sg} {H : Im} {h : Heap} {w : World} (r : RelM σ H h w) (t : TypeId) {cs : List C} {vals : Array Value} (hc : Crels σ H cs vals.toList) :
    Post σ H h w (σ.set h.length (.pointer (some ⟨w.heap.size, 0, none⟩))) H (h ++ [.box false cs]) (w.alloc (.cells vals t)) ∧
    Vrel (σ.set h.length (.pointer (some ⟨w.heap.size, 0, none⟩))) H (.one (.ptr h.length 0)) (.pointer (some ⟨w.heap.size, 0, none⟩)) := by
  have hn := r.dom _ (Nat.le_refl h.length)
  refine ⟨Post.push r _ _ ⟨rfl, rfl, rfl⟩ (by simp) (fun b hb => heap_push_old _ hb) ?_ ?_ ?_, Vrel.one.2 ⟨w.heap.size, Sg.set_self _ _ _, rfl⟩⟩
  · exact ⟨w.heap.size, vals, t, rfl, heap_push_new _ _, forall₂_imp (fun _ _ => Crel.mono (Sg.sle_set hn _) (.refl H)) hc⟩
  · intro b hb; simp [blk] at hb; omega
  · intro b hb hH; exact hH

/-- Rows of cells, one behind the other. -/
structure Rows (H : Im) (sz : Nat) (es : List (List D)) (c : List Value) : Prop where
  len : ∀ e ∈ es, e.length = sz
  size : c.length = es.length * sz
  one : ∀ u ∈ c, u.oneCell' = true
  cell : ∀ i e, es[i]? = some e → ∀ j d, e[j]? = some d → ∃ u, c[i * sz + j]? = some u ∧ Drel H d u
theorem Rows.mono {H H' : Im} (hh : Hle H H') {sz : Nat} {es : List (List D)} {c : List Value} (r : Rows H sz es c) : Rows H' sz es c :=
  ⟨r.len, r.size, r.one, fun i e he j d hd => let ⟨u, hu, hr⟩ := r.cell i e he j d hd; ⟨u, hu, hr.mono hh⟩⟩
theorem Rows.nil (H : Im) (sz : Nat) : Rows H sz [] [] := ⟨by simp, by simp, by simp, by simp⟩
theorem Rows.append {H : Im} {sz : Nat} {es ys : List (List D)} {c d : List Value} (r : Rows H sz es c) (q : Rows H sz ys d) : Rows H sz (es ++ ys) (c ++ d) where
  len := fun e he => by rcases List.mem_append.1 he with he | he; exact r.len e he; exact q.len e he
  size := by simp [r.size, q.size, Nat.add_mul]
  one := fun e he => by rcases List.mem_append.1 he with he | he; exact r.one e he; exact q.one e he
  cell := fun i e he j d hd => by
    rw [List.getElem?_append] at he
    split at he
    · rename_i hi
      obtain ⟨u, hu, hr⟩ := r.cell i e he j d hd
      exact ⟨u, by rw [List.getElem?_append_left (ltl_of_some hu)]; exact hu, hr⟩
    · rename_i hi
      obtain ⟨u, hu, hr⟩ := q.cell _ e he j d hd
      refine ⟨u, ?_, hr⟩
      have : es.length * sz ≤ i * sz := Nat.mul_le_mul_right _ (by omega)
      rw [List.getElem?_append_right (by rw [r.size]; omega), ← hu]
      congr 1
      rw [r.size, Nat.sub_mul]
      omega
theorem Rows.set {H : Im} {sz : Nat} {es : List (List D)} {c : List Value} (r : Rows H sz es c) {i : Nat} (hi : i < es.length) {ds : List D} {vals : List Value} (hd : Drels H ds vals) (hl : ds.length = sz) :
    Rows H sz (es.set i ds) (setC c (i * sz) vals) := by
  have hdl := f2_len hd
  have hrow : i * sz + vals.length ≤ c.length := by
    rw [r.size, ← hdl, hl]
    have : (i + 1) * sz ≤ es.length * sz := Nat.mul_le_mul_right _ hi
    rw [Nat.add_mul, Nat.one_mul] at this
    exact this
  refine ⟨fun e he => ?_, by rw [length_setC _ _ _ hrow, r.size]; simp, fun u hu => ?_, fun i' e he j d hj => ?_⟩
  · rcases List.mem_or_eq_of_mem_set he with he | rfl
    · exact r.len e he
    · exact hl
  · unfold setC at hu
    simp only [List.mem_append] at hu
    rcases hu with (hu | hu) | hu
    · exact r.one u (List.mem_of_mem_take hu)
    · exact hd.ones u hu
    · exact r.one u (List.mem_of_mem_drop hu)
  · rw [getElem?_setC _ _ _ hrow]
    rcases getElem?_set_cases he with ⟨rfl, rfl, _⟩ | ⟨hne, he⟩
    · have := ltl_of_some hj
      rw [if_pos (by omega)]
      obtain ⟨u, hu, hr⟩ := f2_get hd _ _ hj
      exact ⟨u, by rw [← hu]; congr 1; omega, hr⟩
    · have hxl := r.len e (List.mem_of_getElem? he)
      have := apart_rows (off := 0) (n := vals.length) hne (hxl ▸ ltl_of_some hj) (by omega)
      rw [if_neg (by simpa using this)]
      exact r.cell i' e he j d hj

theorem Rows.replicate {H : Im} {z : List D} {vals : List Value} (hz : Drels H z vals) (n : Nat) : Rows H z.length (List.replicate n z) (List.replicate n vals).flatten := by
  induction n with
  | zero => simpa using Rows.nil H z.length
  | succ n ih =>
    rw [List.replicate_succ, List.replicate_succ, List.flatten_cons]
    refine Rows.append (es := [z]) ⟨by simp, by simp [f2_len hz], hz.ones, ?_⟩ ih
    intro i e he j d hd
    cases i with
    | zero =>
      simp at he; subst he
      obtain ⟨u, hu, hr⟩ := f2_get hz _ _ hd
      exact ⟨u, by simpa using hu, hr⟩
    | succ i => simp at he

theorem madeRows {sz : Nat} (z : Array Value) (h : z.size = sz) : ∀ n, ((Array.range (n * sz)).map (fun i => z[i % z.size]!)).toList = (List.replicate n z.toList).flatten := by
  intro n
  induction n with
  | zero => simp
  | succ n ih =>
    rw [List.replicate_succ', List.flatten_append, ← ih, Nat.add_mul, Nat.one_mul]
    simp only [Array.toList_map, Array.toList_range, List.range_add, List.map_append, List.flatten_cons, List.flatten_nil, List.append_nil, List.map_map]
    congr 1
    apply List.ext_getElem
    · simp [h]
    · intro i h1 h2
      simp at h1
      simp only [List.getElem_map, List.getElem_range, Function.comp]
      have : (n * sz + i) % z.size = i := by rw [h, Nat.mul_comm, Nat.mul_add_mod, Nat.mod_eq_of_lt h1]
      rw [this, getElem!_pos z i (by omega)]
      simp

/-- A new array in a new block. -/
theorem newArr_ok {σ : Sg} {H : Im} {h : Heap} {w : World} (r : RelM σ H h w) (st : Bool) (t : TypeId) {sz : Nat} (hsz : 0 < sz) {es : List (List D)} {c : Array Value} {cap lo hi : Nat} {w' : World}
    (hs : Same w w') (hz : w.heap.size ≤ w'.heap.size) (hw : ∀ b, b < w.heap.size → w'.heap[b]? = w.heap[b]?)
    (hb : w'.heap[w.heap.size]? = some (.cells c t (lo, hi))) (hcap : c.size = cap * sz) (hlen : es.length ≤ cap) (hone : ∀ u ∈ c.toList, u.oneCell' = true)
    (hr : Rows H sz es (c.toList.take (es.length * sz))) (hlo : lo = hi ∨ (st = true ∧ c.size ≤ lo)) :
    Post σ H h w (σ.set h.length (.slice (some ⟨w.heap.size, 0, none⟩) es.length cap)) H (h ++ [.arr false st t sz es]) w' ∧
    Vrel (σ.set h.length (.slice (some ⟨w.heap.size, 0, none⟩) es.length cap)) H (.one (.arr h.length)) (.slice (some ⟨w.heap.size, 0, none⟩) es.length cap) := by
  refine ⟨Post.push r _ _ hs hz hw ?_ ?_ ?_, Vrel.one.2 ⟨Sg.set_self _ _ _, rfl⟩⟩
  · refine .inr ⟨w.heap.size, cap, c, lo, hi, rfl, hb, hcap, hlen, hsz, hr.len, hone, ?_, ?_⟩
    · intro i e he j d hd
      obtain ⟨u, hu, hr⟩ := hr.cell i e he j d hd
      refine ⟨u, ?_, hr⟩
      have hlt := ltl_of_some hu
      simp at hlt
      rw [List.getElem?_take_of_lt (Nat.lt_of_lt_of_le hlt (Nat.min_le_left _ _))] at hu
      simpa using hu
    · rcases hlo with h | h
      · exact .inl h
      · exact .inr (.inl h)
  · intro b hb; simp [blk] at hb; omega
  · intro b hb hH; exact hH
end Go.Idl
