/- Part of a proof that the laws of this seat return true: a machine over plain data (Idl) that is sound for the given model, and its runs. Conditions: none. -/
import Derived.Test.YtemfbebfodagpaaMake
set_option linter.all false
namespace Go.Idl
open Go

/-- The cells of a slice's or a string's elements. -/
def Src (P : Program) (H : Im) (w : World) (sz : Nat) (ys : List (List D)) (x : Value) : Prop :=
  ∃ news : List Value, Rows H sz ys news ∧ (Builtin.lenOf x).run P w = .ok ys.length w ∧ ∀ w' : World, (∀ b, b < w.heap.size → w'.heap[b]? = w.heap[b]?) → (Builtin.firstCells sz ys.length x).run P w' = .ok news.toArray w'

theorem slice_src {P : Program} {H : Im} {w : World} (him : ∀ b i v, H b i = some v → w.cell? ⟨b, i, none⟩ = some v) {sz : Nat} {es : List (List D)} {v : Value} (h : Drel H (.slice sz es) v) :
    Src P H w sz es v := by
  cases h with
  | slice sz es a cap b o vals hl ha hc h1 h2 =>
    let news : List Value := (List.range (es.length * sz)).map fun x => vals (x / sz) (x % sz)
    have hidx : ∀ i j, j < sz → (i * sz + j) / sz = i ∧ (i * sz + j) % sz = j := by
      intro i j hj
      have h0 : 0 < sz := by omega
      constructor
      · rw [Nat.mul_comm, Nat.mul_add_div h0, Nat.div_eq_of_lt hj]; rfl
      · rw [Nat.mul_comm, Nat.mul_add_mod, Nat.mod_eq_of_lt hj]
    have hcov : ∀ x, x < es.length * sz → ∃ e d, es[x / sz]? = some e ∧ e[x % sz]? = some d ∧ sz * (x / sz) + x % sz = x := by
      intro x hx
      have h0 : 0 < sz := by rcases Nat.eq_zero_or_pos sz with h | h; simp [h] at hx; exact h
      have hq : x / sz < es.length := (Nat.div_lt_iff_lt_mul h0).2 hx
      have hm := Nat.mod_lt x h0
      have hel : (es[x / sz]).length = sz := hl _ (List.getElem_mem hq)
      exact ⟨es[x / sz], (es[x / sz])[x % sz]'(by omega), by simp [hq], by simp [hel, hm], Nat.div_add_mod x sz⟩
    have hrows : Rows H sz es news := by
      refine ⟨hl, by simp [news], ?_, ?_⟩
      · intro u hu
        simp only [news, List.mem_map, List.mem_range] at hu
        obtain ⟨x, hx, rfl⟩ := hu
        obtain ⟨e, d, he, hd, _⟩ := hcov x hx
        exact (h2 _ e he _ d hd).one
      · intro i e he j d hd
        have hj : j < sz := by have := ltl_of_some hd; rw [hl e (List.mem_of_getElem? he)] at this; exact this
        have hlt := mul_add_lt (ltl_of_some he) hj
        refine ⟨vals i j, ?_, h2 i e he j d hd⟩
        simp only [news, List.getElem?_map, List.getElem?_range hlt, Option.map_some]
        rw [(hidx i j hj).1, (hidx i j hj).2]
    refine ⟨news, hrows, rfl, ?_⟩
    intro w' hw
    by_cases hes : es = []
    · subst hes
      have : news = [] := by simp [news]
      rw [this]
      cases a with
      | none => rfl
      | some a => simp [Builtin.firstCells, loadCells, loadCellsFrom]
    · rw [ha hes]
      refine run_firstCells_some w' sz es.length ⟨b, o, none⟩ es.length cap news (by simp [news]) ?_
      intro x u hx
      have hxl : x < es.length * sz := by have := ltl_of_some hx; simpa [news] using this
      obtain ⟨e, d, he, hd, hxe⟩ := hcov x hxl
      have hu : vals (x / sz) (x % sz) = u := by simpa [news, hxl] using hx
      have hcell := him _ _ _ (h1 _ e he _ d hd)
      rw [add_lit]
      have : o + x / sz * sz + x % sz = o + x := by rw [Nat.mul_comm (x / sz)]; omega
      rw [this] at hcell
      rw [cell_congr (hw b (World.block_lt_of_cell? (a := ⟨b, o + x, none⟩) w hcell)), hcell, hu]
  
theorem str_src {P : Program} {H : Im} {w : World} {s : List Nat} {v : Value} (h : Drel H (.str s) v) : Src P H w 1 (bytesEs s) v := by
  cases h with
  | str b hb =>
    have hnews : ((b.extract 0 (bytesEs (bytesOf b)).length).data.map fun x => Value.int .u8 x.toNat).toList = b.data.toList.map fun x => Value.int .u8 x.toNat := by
      have : (bytesEs (bytesOf b)).length = b.size := by simp [bytesEs, bytesOf]
      rw [this, ByteArray.extract_zero_size]
      simp
    refine ⟨b.data.toList.map fun x => Value.int .u8 x.toNat, ⟨?_, ?_, ?_, ?_⟩, ?_, ?_⟩
    · intro e he; simp only [bytesEs, List.mem_map] at he; obtain ⟨x, _, rfl⟩ := he; rfl
    · simp [bytesEs, bytesOf]
    · intro u hu; simp only [List.mem_map] at hu; obtain ⟨x, _, rfl⟩ := hu; rfl
    · intro i e he j d hd
      simp only [bytesEs, bytesOf, List.getElem?_map, Option.map_eq_some_iff] at he
      obtain ⟨x, ⟨y, hy, rfl⟩, rfl⟩ := he
      cases j with
      | zero =>
        simp at hd; subst hd
        exact ⟨.int .u8 y.toNat, by simp [hy], .int _ _⟩
      | succ j => simp at hd
    · simp [Builtin.lenOf, bytesEs, bytesOf]
    · intro w' _
      simp only [Builtin.firstCells, Sem.run_pure]
      rw [← hnews]

/-- An array's cells. -/
theorem arr_src {P : Program} {σ : Sg} {H : Im} {h : Heap} {w : World} (r : RelM σ H h w) {k : Nat} {fz st : Bool} {t sz : Nat} {es : List (List D)} {v : Value}
    (hk : h[k]? = some (.arr fz st t sz es)) (hσ : σ k = some v) : Src P H w sz es v := by
  rcases r.obj k _ _ hk hσ with ⟨rfl, rfl⟩ | ⟨b, cap, c, lo, hi, rfl, hb, h1, h2, h3, h4, h5, h6, h7⟩
  · exact ⟨[], .nil H sz, rfl, fun _ _ => rfl⟩
  · have hcap : es.length * sz ≤ cap * sz := Nat.mul_le_mul_right _ h2
    refine ⟨c.toList.take (es.length * sz), ⟨h4, by simp; omega, fun u hu => h5 u (List.mem_of_mem_take hu), ?_⟩, rfl, ?_⟩
    · intro i e he j d hd
      obtain ⟨u, hu, hr⟩ := h6 i e he j d hd
      have hlt := mul_add_lt (ltl_of_some he) (h4 e (List.mem_of_getElem? he) ▸ ltl_of_some hd)
      exact ⟨u, by rw [List.getElem?_take_of_lt hlt]; simpa using hu, hr⟩
    · intro w' hw
      refine run_firstCells_some w' sz es.length ⟨b, 0, none⟩ es.length cap _ (by simp; omega) ?_
      intro x u hx
      have hxl : x < es.length * sz := by have := ltl_of_some hx; simp at this; omega
      rw [List.getElem?_take_of_lt hxl] at hx
      rw [add_lit, Nat.zero_add, cell_congr (hw b (lt_of_some hb)), cell_of hb]
      simpa using hx

theorem elems_src {P : Program} {σ : Sg} {H : Im} {h : Heap} {w : World} (r : RelM σ H h w) {sz : Nat} {x : DV} {ys : List (List D)} {v : Value} (e : elemsOf h sz x = some ys) (hv : Vrel σ H x v) :
    Src P H w sz ys v := by
  unfold elemsOf at e
  split at e
  · split at e
    · cases e; rename_i hs; subst hs; exact slice_src r.imm (Vrel.one.1 hv)
    · cases e
  · cases e
    have := Vrel.one.1 hv
    cases this
    exact ⟨[], .nil H sz, rfl, fun _ _ => rfl⟩
  · split at e
    · cases e; rename_i hs; subst hs; exact str_src (Vrel.one.1 hv)
    · cases e
  · rename_i k
    split at e
    · rename_i hk
      split at e
      · cases e; rename_i hs; subst hs; exact arr_src r hk (Vrel.one.1 hv).1
      · cases e
    · cases e
  · cases e
end Go.Idl
