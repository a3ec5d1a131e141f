/- Part of a proof that the laws of this seat return true: a machine over plain data (Idl) that is sound for the given model, and its runs. Conditions: none. -/
import Derived.Test.YtemfbebfodagpaaElems
set_option linter.all false
namespace Go.Idl
open Go

/-- An object ends; another goes on in its block, or in a new one. -/
theorem Post.move {σ : Sg} {H H' : Im} {h : Heap} {w w' : World} (r : RelM σ H h w) (k : Nat) (o o' : Ob) (v v' : Value)
    (hk : h[k]? = some o) (hl : o.live = true) (hσ : σ k = some v)
    (hs : Same w w') (hz : w.heap.size ≤ w'.heap.size) (hw : ∀ b, b < w.heap.size → blk v ≠ some b → w'.heap[b]? = w.heap[b]?)
    (hle : Hle H H') (hnew : ∀ b i u, H' b i = some u → H b i = some u ∨ blk v = some b ∨ w.heap.size ≤ b)
    (him : ∀ b i u, (blk v = some b ∨ w.heap.size ≤ b) → H' b i = some u → w'.cell? ⟨b, i, none⟩ = some u)
    (hb : ∀ b, blk v' = some b → blk v = some b ∨ w.heap.size ≤ b)
    (ho : Orel (σ.set h.length v') H' o' v' w') (hh : ∀ b, blk v' = some b → Held H' o' b w') :
    Post σ H h w (σ.set h.length v') H' (h.set k .dead ++ [o']) w' := by
  have hn : σ h.length = none := r.dom _ (Nat.le_refl _)
  have hsle := Sg.sle_set hn v'
  have hklt := ltl_of_some hk
  have back : ∀ (j : Nat) (u : Value), j < h.length → (σ.set h.length v') j = some u → σ j = some u := by
    intro j u hj hu
    unfold Sg.set at hu
    rw [if_neg (by omega)] at hu
    exact hu
  have old : ∀ (j : Nat) (p : Ob), (h.set k .dead ++ [o'])[j]? = some p → (j < h.length ∧ p = .dead) ∨ (j ≠ k ∧ j < h.length ∧ h[j]? = some p) ∨ (j = h.length ∧ p = o') := by
    intro j p hj
    rcases getElem?_concat _ _ _ _ hj with ⟨hlt, hj⟩ | ⟨e, e'⟩
    · simp at hlt
      rcases getElem?_set_cases hj with ⟨_, e, _⟩ | ⟨hne, hj⟩
      · exact .inl ⟨hlt, e⟩
      · exact .inr (.inl ⟨hne, hlt, hj⟩)
    · simp at e
      exact .inr (.inr ⟨e, e'⟩)
  have other : ∀ (j : Nat) (o1 : Ob) (u : Value) (b : Nat), j ≠ k → h[j]? = some o1 → o1.live = true → σ j = some u → blk u = some b → blk v ≠ some b := by
    intro j o1 u b hj h1 l1 s1 b1 b2
    exact hj (r.sep j k o1 o u v b h1 hk l1 hl s1 hσ b1 b2)
  have ownlt : ∀ (j : Nat) (o1 : Ob) (u : Value) (b : Nat), h[j]? = some o1 → o1.live = true → σ j = some u → blk u = some b → b < w.heap.size :=
    fun j o1 u b h1 l1 s1 b1 => (r.obj j o1 u h1 s1).lt l1 b1
  refine ⟨hsle, fun k hk => by unfold Sg.set; rw [if_neg (by omega)], hle, ⟨?_, ?_, ?_, ?_, ?_⟩, by simp, hs, hz, ?_, ?_, fun b i u hu => (hnew b i u hu).imp id fun e => e.imp (fun e => ⟨k, o, v, hk, hl, hσ, e⟩) id⟩
  · intro j o1 u h1 h2
    rcases old j o1 h1 with ⟨_, rfl⟩ | ⟨hj, hlt, h1⟩ | ⟨rfl, rfl⟩
    · trivial
    · have h2 := back j u hlt h2
      by_cases l1 : o1.live = true
      · exact ((r.obj j o1 u h1 h2).mono hsle hle).congr (fun b hb => hw b (ownlt j o1 u b h1 l1 h2 hb) (other j o1 u b hj h1 l1 h2 hb))
      · cases o1 <;> simp [Ob.live] at l1; trivial
    · rw [Sg.set_self] at h2; cases h2; exact ho
  · intro j o1 u b h1 l1 h2 hbu
    rcases old j o1 h1 with ⟨_, rfl⟩ | ⟨hj, hlt, h1⟩ | ⟨rfl, rfl⟩
    · trivial
    · have h2 := back j u hlt h2
      have hne := other j o1 u b hj h1 l1 h2 hbu
      have hlt' := ownlt j o1 u b h1 l1 h2 hbu
      refine ((r.held j o1 u b h1 l1 h2 hbu).congr (hw b hlt' hne)).himm ?_
      intro i
      cases h' : H' b i with
      | some x =>
        rcases hnew b i x h' with h'' | h'' | h''
        · exact h''.symm
        · exact absurd h'' hne
        · omega
      | none => cases h'' : H b i with
                | none => rfl
                | some x => rw [hle b i x h''] at h'; cases h'
    · rw [Sg.set_self] at h2; cases h2; exact hh b hbu
  · intro j hj
    simp at hj
    unfold Sg.set
    rw [if_neg (by omega)]
    exact r.dom j (by omega)
  · intro b i u hu
    by_cases hbv : blk v = some b ∨ w.heap.size ≤ b
    · exact him b i u hbv hu
    · rcases hnew b i u hu with h' | h' | h'
      · rw [cell_congr (hw b (r.imm_lt h') (fun x => hbv (.inl x)))]; exact r.imm b i u h'
      · exact absurd (.inl h') hbv
      · exact absurd (.inr h') hbv
  · intro j j' o1 o2 u u' b h1 h2 l1 l2 s1 s2 b1 b2
    rcases old j o1 h1 with ⟨_, e⟩ | ⟨hj, hlt, g1⟩ | ⟨e1, _⟩
    · rw [e] at l1; simp [Ob.live] at l1
    · rcases old j' o2 h2 with ⟨_, e⟩ | ⟨hj', hlt', g2⟩ | ⟨e2, _⟩
      · rw [e] at l2; simp [Ob.live] at l2
      · exact r.sep j j' o1 o2 u u' b g1 g2 l1 l2 (back j u hlt s1) (back j' u' hlt' s2) b1 b2
      · exfalso
        rw [e2, Sg.set_self] at s2; cases s2
        have hj1 := back j u hlt s1
        rcases hb b b2 with hb | hb
        · exact other j o1 u b hj g1 l1 hj1 b1 hb
        · have := ownlt j o1 u b g1 l1 hj1 b1; omega
    · rcases old j' o2 h2 with ⟨_, e⟩ | ⟨hj', hlt', g2⟩ | ⟨e2, _⟩
      · rw [e] at l2; simp [Ob.live] at l2
      · exfalso
        rw [e1, Sg.set_self] at s1; cases s1
        have hj1 := back j' u' hlt' s2
        rcases hb b b1 with hb | hb
        · exact other j' o2 u' b hj' g2 l2 hj1 b2 hb
        · have := ownlt j' o2 u' b g2 l2 hj1 b2; omega
      · omega
  · intro b hbl hn
    exact hw b hbl (fun e => hn ⟨k, o, v, hk, hl, hσ, e⟩)
  · intro b hbo
    obtain ⟨j, o1, u, h1, l1, s1, b1⟩ := hbo
    rcases old j o1 h1 with ⟨_, e⟩ | ⟨hj, hlt, g1⟩ | ⟨e1, _⟩
    · rw [e] at l1; simp [Ob.live] at l1
    · exact .inl ⟨j, o1, u, g1, l1, back j u hlt s1, b1⟩
    · rw [e1, Sg.set_self] at s1; cases s1
      rcases hb b b1 with hb | hb
      · exact .inl ⟨k, o, v, hk, hl, hσ, hb⟩
      · exact .inr hb

theorem zeroRows_size {z : Array Value} (n : Nat) : (Builtin.zeroCells z n).size = n * z.size := by simp [Builtin.zeroCells]
theorem zeroRows_one {z : Array Value} (h : ∀ u ∈ z.toList, u.oneCell' = true) (hz : 0 < z.size) (n : Nat) : ∀ u ∈ (Builtin.zeroCells z n).toList, u.oneCell' = true := by
  intro u hu
  simp only [Builtin.zeroCells, Array.toList_map, List.mem_map] at hu
  obtain ⟨i, _, rfl⟩ := hu
  rw [getElem!_pos z (i % z.size) (Nat.mod_lt _ hz)]
  exact h _ (by simp)

/-- 'append' in the model, in its three ways. -/
theorem append_room {P : Program} {w : World} {t ty e tx : TypeId} (ht : P.underlying t = some (.slice e)) {d : TypeDesc} (hx : P.underlying tx = some d) (hx' : (∃ e, d = .slice e) ∨ d = .string)
    {i : TI} (hi : TyOk P e i) {b sLen sCap : Nat} {c : Array Value} {T : TypeId} {lo hi' : Nat} {x : Value} {m : Nat} {news : List Value}
    (hb : w.heap[b]? = some (.cells c T (lo, hi'))) (hlen : (Builtin.lenOf x).run P w = .ok m w) (hnew : (Builtin.firstCells i.size m x).run P w = .ok news.toArray w)
    (hnl : news.length = m * i.size) (hone : ∀ u ∈ news, u.oneCell' = true) (hroom : sLen + m ≤ sCap) (hfit : sLen * i.size + news.length ≤ c.size)
    (hfr : ∀ j, sLen * i.size ≤ j → ¬ (lo ≤ j ∧ j < hi') ∨ c.size ≤ j) :
    ∃ w', (Builtin.append_ #[t, tx] ty #[.slice (some ⟨b, 0, none⟩) sLen sCap, x]).run P w = .ok (.slice (some ⟨b, 0, none⟩) (sLen + m) sCap) w' ∧ Same w w' ∧ w'.heap.size = w.heap.size ∧
      (∀ k, k ≠ b → w'.heap[k]? = w.heap[k]?) ∧ ∃ c', w'.heap[b]? = some (.cells c' T (lo, hi')) ∧ c'.toList = setC c.toList (sLen * i.size) news := by
  obtain ⟨w', hr, hs, hsz, hoth, c', hb', hcl⟩ := storeCells_run P b (sLen * i.size) news 0 w c T lo hi' hb (by simpa using hfit) hone (fun j h1 h2 => by
    rcases hfr j (by omega) with h | h
    · exact h
    · omega)
  refine ⟨w', ?_, hs, hsz, hoth, c', hb', by simpa using hcl⟩
  have hz : (underlying tx).run P w = .ok d w := by simp [Go.underlying, hx]
  have hst : (underlying t).run P w = .ok (.slice e) w := by simp [Go.underlying, ht]
  rcases hx' with ⟨e', rfl⟩ | rfl <;> simp [Builtin.append_, hst, hi.sizeOf, hz, hlen, hroom, hnew, add_lit, hr]
theorem append_grow {P : Program} {w : World} {t ty e tx : TypeId} (ht : P.underlying t = some (.slice e)) {d : TypeDesc} (hx : P.underlying tx = some d) (hx' : (∃ e, d = .slice e) ∨ d = .string)
    {i : TI} (hi : TyOk P e i) {z : List D} (hz : i.zero = some z) {base : Option Addr} {sLen sCap : Nat} {x : Value} {m : Nat} {olds news : List Value}
    (hlen : (Builtin.lenOf x).run P w = .ok m w) (hnew : (Builtin.firstCells i.size m x).run P w.drew = .ok news.toArray w.drew)
    (hold : (Builtin.firstCells i.size sLen (.slice base sLen sCap)).run P w.drew = .ok olds.toArray w.drew)
    (hroom : sCap < sLen + m) (hmax : sLen + m ≤ maxEls) (hby : i.bytes ≤ 65536) :
    ∃ v, (Go.zeroValue e).run P w = .ok v w ∧ constDs v.cells.toList = some z ∧
    (Builtin.append_ #[t, tx] ty #[.slice base sLen sCap, x]).run P w = .ok (.slice (some ⟨w.heap.size, 0, none⟩) (sLen + m) (grownCap w (sLen + m) sCap e))
      (w.drew.alloc (.cells (olds.toArray ++ news.toArray ++ Builtin.zeroCells v.cells (grownCap w (sLen + m) sCap e - (sLen + m))) e)) := by
  obtain ⟨ti, hti, hsz, hbt, hzz⟩ := hi.ti
  obtain ⟨v, hv, hvz, _⟩ := hzz z hz
  have hzv : ∀ w : World, (Go.zeroValue e).run P w = .ok v w := fun w => by simp [Go.zeroValue, typeInfo, hti, hv]
  refine ⟨v, hzv w, hvz, ?_⟩
  have hut : (underlying tx).run P w = .ok d w := by simp [Go.underlying, hx]
  have hst : (underlying t).run P w = .ok (.slice e) w := by simp [Go.underlying, ht]
  have hinfo : ∀ w : World, (typeInfo e).run P w = .ok ti w := fun w => by simp [typeInfo, hti]
  have h48 : ¬ (Builtin.nextslicecap (sLen + m) sCap * ti.bytes > 2 ^ 48) := by
    have := growslice_fits (need := sLen + m) (old := sCap) (bytes := ti.bytes) hroom (by
      have : (sLen + m) * ti.bytes ≤ maxEls * 65536 := Nat.mul_le_mul hmax (by omega)
      unfold maxEls at this; omega)
    omega
  have hnr : ¬ (sLen + m ≤ sCap) := by omega
  have hzd : (Go.zeroValue e).run P w.drew = .ok v w.drew := hzv _
  have hq : ∀ Z : Array Value, olds.toArray ++ (news.toArray ++ Z) = (olds ++ news).toArray ++ Z := fun Z => by rw [← Array.append_assoc]; simp
  have h63' : ¬ (9223372036854775807 < (sLen : Int) + (m : Int)) := by unfold maxEls at hmax; omega
  have h48' : ¬ (281474976710656 < Builtin.nextslicecap (sLen + m) sCap * ti.bytes) := by omega
  rcases hx' with ⟨e', rfl⟩ | rfl <;>
    (simp [Builtin.append_, hst, hi.sizeOf, hut, hlen, hnr, hinfo, h63', h48', Question.forced, hnew, hold, hzd, newRow, grownCap]
     exact congrArg (fun a => w.drew.alloc (.cells a e)) (hq _))

theorem Drels.const_size {v : Value} {z : List D} (h : constDs v.cells.toList = some z) : v.cells.size = z.length := by
  have := f2_len (drels_of_const (H := fun _ _ => none) h); simp at this; exact this.symm

/-- Onto an array. -/
theorem append_arr {P : Program} {σ : Sg} {H : Im} {h : Heap} {w : World} (r : RelM σ H h w) {k : Nat} {fz st : Bool} {t ty e tx sz : Nat} {es ys : List (List D)} {sv xv : Value}
    (hk : h[k]? = some (.arr fz st e sz es)) (hσ : σ k = some sv) (ht : P.underlying t = some (.slice e)) {d : TypeDesc} (hx : P.underlying tx = some d) (hx' : (∃ e, d = .slice e) ∨ d = .string)
    {i : TI} (hi : TyOk P e i) {z : List D} (hz : i.zero = some z) (hzl : z.length = i.size) (hsz : sz = i.size) (hs0 : 0 < sz) (hsrc : Src P H w sz ys xv)
    (hmax : es.length + ys.length ≤ maxEls) (hby : i.bytes ≤ 65536) :
    ∃ rv w' σ' H', (Builtin.append_ #[t, tx] ty #[sv, xv]).run P w = .ok rv w' ∧ Post σ H h w σ' H' (h.set k .dead ++ [.arr fz st e sz (es ++ ys)]) w' ∧ Vrel σ' H' (.one (.arr h.length)) rv := by
  subst hsz
  obtain ⟨news, hrows, hlen, hfirst⟩ := hsrc
  obtain ⟨olds, horows, holen, hofirst⟩ := arr_src (P := P) r hk hσ
  have hn0 := hfirst w (fun _ _ => rfl)
  -- a new block
  have grow : ∀ (base : Option Addr) (sCap : Nat), sv = .slice base es.length sCap → sCap < es.length + ys.length →
      ∃ rv w' σ' H', (Builtin.append_ #[t, tx] ty #[sv, xv]).run P w = .ok rv w' ∧ Post σ H h w σ' H' (h.set k .dead ++ [.arr fz st e i.size (es ++ ys)]) w' ∧ Vrel σ' H' (.one (.arr h.length)) rv := by
    intro base sCap hsv hroom
    subst hsv
    obtain ⟨zv, hzr, hzc, hrun⟩ := append_grow (P := P) (w := w) (ty := ty) ht hx hx' hi hz (base := base) (sLen := es.length) (sCap := sCap) hlen
      (hfirst w.drew (fun _ _ => rfl)) (hofirst w.drew (fun _ _ => rfl)) hroom hmax hby
    have hge := grownCap_ge w (es.length + ys.length) sCap e
    generalize hcap : grownCap w (es.length + ys.length) sCap e = cap at *
    have hzs : zv.cells.size = i.size := by rw [Drels.const_size hzc, hzl]
    let c : Array Value := olds.toArray ++ news.toArray ++ Builtin.zeroCells zv.cells (cap - (es.length + ys.length))
    have hcl : c.toList = (olds ++ news) ++ (Builtin.zeroCells zv.cells (cap - (es.length + ys.length))).toList := by simp [c]
    have hrr := horows.append hrows
    have hcs : c.size = cap * i.size := by
      have e2 : (Builtin.zeroCells zv.cells (cap - (es.length + ys.length))).toList.length = (cap - (es.length + ys.length)) * i.size := by rw [Array.length_toList, zeroRows_size, hzs]
      rw [← Array.length_toList, hcl, List.length_append, hrr.size, e2, ← Nat.add_mul]
      congr 1
      simp; omega
    have htake : c.toList.take ((es ++ ys).length * i.size) = olds ++ news := by rw [hcl, ← hrr.size]; exact List.take_left
    have hone : ∀ u ∈ c.toList, u.oneCell' = true := by
      intro u hu
      rw [hcl, List.mem_append] at hu
      rcases hu with hu | hu
      · exact hrr.one u hu
      · exact zeroRows_one (drels_of_const (H := fun _ _ => none) hzc).ones (by omega) _ u hu
    let w' := w.drew.alloc (.cells c e)
    have hw' : ∀ b, b < w.heap.size → w'.heap[b]? = w.heap[b]? := fun b hb => heap_push_old (w := w.drew) _ hb
    have hnewb : w'.heap[w.heap.size]? = some (.cells c e (0, 0)) := heap_push_new w.drew _
    have hcell : ∀ j, w'.cell? ⟨w.heap.size, j, none⟩ = c[j]? := fun j => cell_of hnewb j
    have hHnone : ∀ j, H w.heap.size j = none := by
      intro j
      cases hj : H w.heap.size j with
      | none => rfl
      | some u => have := r.imm_lt hj; omega
    let n := (es ++ ys).length * i.size
    have hnc : n ≤ c.size := by
      rw [hcs]; exact Nat.mul_le_mul_right _ (by simp; omega)
    let H' : Im := if fz then H.ext w' w.heap.size n else H
    have hH'le : Hle H H' := by
      show Hle H (if fz then H.ext w' w.heap.size n else H)
      split
      · exact Im.ext_le _ _ _ _
      · exact .refl H
    have hH'new : ∀ b i u, H' b i = some u → H b i = some u ∨ (b = w.heap.size ∧ i < n ∧ fz = true ∧ w'.cell? ⟨w.heap.size, i, none⟩ = some u) := by
      intro b j u hu
      have hu : (if fz then H.ext w' w.heap.size n else H) b j = some u := hu
      split at hu
      · rcases Im.ext_new hu with hu | ⟨h1, h2, h3⟩
        · exact .inl hu
        · exact .inr ⟨h1, h2, by assumption, h3⟩
      · exact .inl hu
    refine ⟨_, w', σ.set h.length (.slice (some ⟨w.heap.size, 0, none⟩) (es.length + ys.length) cap), H', hrun, ?_, Vrel.one.2 ⟨Sg.set_self _ _ _, rfl⟩⟩
    refine Post.move r k _ _ _ _ hk rfl hσ ⟨rfl, rfl, rfl⟩ (by simp [w']) (fun b hb _ => hw' b hb) hH'le ?_ ?_ ?_ ?_ ?_
    · intro b j u hu
      rcases hH'new b j u hu with hu | ⟨rfl, _⟩
      · exact .inl hu
      · exact .inr (.inr (Nat.le_refl _))
    · intro b j u hb hu
      rcases hH'new b j u hu with hu | ⟨rfl, _, _, hu⟩
      · rw [cell_congr (hw' b (r.imm_lt hu))]; exact r.imm b j u hu
      · exact hu
    · intro b hb; simp [blk] at hb; omega
    · refine .inr ⟨w.heap.size, cap, c, 0, 0, by simp, hnewb, hcs, by simpa using hge, hs0, hrr.len, hone, ?_, .inl rfl⟩
      intro i' x hx j d hd
      obtain ⟨u, hu, hr⟩ := (hrr.mono hH'le).cell i' x hx j d hd
      refine ⟨u, ?_, hr⟩
      rw [← htake] at hu
      have hlt := ltl_of_some hu
      simp only [List.length_take] at hlt
      rw [List.getElem?_take_of_lt (Nat.lt_of_lt_of_le hlt (Nat.min_le_left _ _))] at hu
      simpa using hu
    · intro b hb
      simp [blk] at hb; subst hb
      cases hfz : fz with
      | false =>
        intro j
        show (if fz then _ else H) _ _ = _
        rw [hfz]; exact hHnone j
      | true =>
        refine ⟨fun j u hu => ?_, fun j hj => ?_⟩
        · rcases hH'new _ j u hu with hu | ⟨_, h2, _⟩
          · rw [hHnone] at hu; cases hu
          · exact h2
        · have hjc : j < c.size := Nat.lt_of_lt_of_le hj hnc
          refine ⟨c[j], by rw [hcell, Array.getElem?_eq_getElem hjc], ?_⟩
          show (if fz then H.ext w' w.heap.size n else H) _ _ = _
          rw [hfz]
          exact Im.ext_cell (fun i u hu => by rw [hHnone] at hu; cases hu) hj (by rw [hcell, Array.getElem?_eq_getElem hjc])
  have ho := r.obj k _ _ hk hσ
  rcases ho with ⟨rfl, rfl⟩ | ⟨b, cap, c, lo, hi', rfl, hb, h1, h2, h3, h4, h5, h6, h7⟩
  · by_cases hys : ys = []
    · subst hys
      have hnews : news = [] := List.eq_nil_of_length_eq_zero (by simpa using hrows.size)
      subst hnews
      refine ⟨.slice none 0 0, w, σ.set h.length (.slice none 0 0), H, ?_, Post.move r k _ _ _ _ hk rfl hσ (.refl w) (Nat.le_refl _) (fun _ _ _ => rfl) (.refl H) (fun _ _ _ x => .inl x) (fun b i u hb hu => r.imm b i u hu) (by simp [blk]) (.inl ⟨rfl, rfl⟩) (by simp [blk]), Vrel.one.2 ⟨Sg.set_self _ _ _, rfl⟩⟩
      have hst : (underlying t).run P w = .ok (.slice e) w := by simp [Go.underlying, ht]
      have hut : (underlying tx).run P w = .ok d w := by simp [Go.underlying, hx]
      simp only [List.length_nil] at hlen hn0
      rcases hx' with ⟨e', rfl⟩ | rfl <;> simp [Builtin.append_, hst, hi.sizeOf, hut, hlen, hn0]
    · exact grow none 0 rfl (by have := List.length_pos_iff.2 hys; simp; omega)
  · by_cases hroom : es.length + ys.length ≤ cap
    · have hnl := hrows.size
      have hfit : es.length * i.size + news.length ≤ c.size := by rw [hnl, h1, ← Nat.add_mul]; exact Nat.mul_le_mul_right _ hroom
      obtain ⟨w', hrun, hs, hsize, hoth, c', hb', hcl⟩ := append_room (P := P) (w := w) (ty := ty) ht hx hx' hi (sLen := es.length) (sCap := cap) hb hlen hn0 hnl hrows.one hroom hfit
        (fun j hj => by
          rcases h7 with h7 | h7 | h7
          · left; omega
          · rcases Nat.lt_or_ge j c.size with hjc | hjc
            · left; have := h7.2; omega
            · exact .inr hjc
          · left; have := h7.2; omega)
      have hcls : c'.toList.length = c.toList.length := by rw [hcl]; exact length_setC _ _ _ (by simpa using hfit)
      have hget : ∀ j, c'[j]? = if es.length * i.size ≤ j ∧ j < es.length * i.size + news.length then news[j - es.length * i.size]? else c[j]? := by
        intro j
        have := getElem?_setC c.toList (es.length * i.size) news (by simpa using hfit) j
        rw [← hcl] at this
        simpa using this
      have hheld := r.held k _ _ b hk rfl hσ rfl
      have hcell : ∀ j, w'.cell? ⟨b, j, none⟩ = c'[j]? := fun j => cell_of hb' j
      have holdc : ∀ j, j < es.length * i.size → w'.cell? ⟨b, j, none⟩ = w.cell? ⟨b, j, none⟩ := by
        intro j hj
        rw [hcell, cell_of hb, hget, if_neg (by omega)]
      have himb : ∀ j u, H b j = some u → w'.cell? ⟨b, j, none⟩ = some u := by
        intro j u hu
        cases fz with
        | false => rw [hheld j] at hu; cases hu
        | true => rw [holdc j (hheld.1 j u hu)]; exact r.imm b j u hu
      let n := (es ++ ys).length * i.size
      have hn : n = es.length * i.size + news.length := by rw [hnl, ← Nat.add_mul]; simp [n]
      let H' : Im := if fz then H.ext w' b n else H
      have hH'le : Hle H H' := by
        show Hle H (if fz then H.ext w' b n else H)
        split
        · exact Im.ext_le _ _ _ _
        · exact .refl H
      have hH'new : ∀ b' j u, H' b' j = some u → H b' j = some u ∨ (b' = b ∧ j < n ∧ fz = true ∧ w'.cell? ⟨b, j, none⟩ = some u) := by
        intro b' j u hu
        have hu : (if fz then H.ext w' b n else H) b' j = some u := hu
        split at hu
        · rcases Im.ext_new hu with hu | ⟨h1, h2, h3⟩
          · exact .inl hu
          · exact .inr ⟨h1, h2, by assumption, h3⟩
        · exact .inl hu
      refine ⟨_, w', σ.set h.length (.slice (some ⟨b, 0, none⟩) (es.length + ys.length) cap), H', hrun, ?_, Vrel.one.2 ⟨Sg.set_self _ _ _, rfl⟩⟩
      refine Post.move r k _ _ _ _ hk rfl hσ hs (by omega) (fun b' _ hne => hoth b' (fun x => hne (by subst x; rfl))) hH'le ?_ ?_ ?_ ?_ ?_
      · intro b' j u hu
        rcases hH'new b' j u hu with hu | ⟨rfl, _⟩
        · exact .inl hu
        · exact .inr (.inl rfl)
      · intro b' j u hb'' hu
        rcases hH'new b' j u hu with hu | ⟨rfl, _, _, hu⟩
        · rcases hb'' with hb'' | hb''
          · simp [blk] at hb''; subst hb''; exact himb j u hu
          · have := r.imm_lt hu; omega
        · exact hu
      · intro b' hb''; exact .inl hb''
      · refine .inr ⟨b, cap, c', lo, hi', by simp, hb', ?_, by simpa using hroom, hs0, ?_, ?_, ?_, ?_⟩
        · rw [← Array.length_toList, hcls, Array.length_toList]; exact h1
        · intro x hx
          rcases List.mem_append.1 hx with hx | hx
          · exact h4 x hx
          · exact hrows.len x hx
        · intro u hu
          rw [hcl] at hu
          unfold setC at hu
          simp only [List.mem_append] at hu
          rcases hu with (hu | hu) | hu
          · exact h5 u (List.mem_of_mem_take hu)
          · exact hrows.one u hu
          · exact h5 u (List.mem_of_mem_drop hu)
        · intro i' x hx j d hd
          rw [List.getElem?_append] at hx
          split at hx
          · rename_i hlt
            obtain ⟨u, hu, hr⟩ := h6 i' x hx j d hd
            have hlt2 := mul_add_lt hlt (h4 x (List.mem_of_getElem? hx) ▸ ltl_of_some hd)
            exact ⟨u, by rw [hget, if_neg (by omega)]; exact hu, hr.mono hH'le⟩
          · rename_i hge
            obtain ⟨u, hu, hr⟩ := hrows.cell _ x hx j d hd
            have hlt := ltl_of_some hu
            have hmul : es.length * i.size ≤ i' * i.size := Nat.mul_le_mul_right _ (by omega)
            have hsub : (i' - es.length) * i.size = i' * i.size - es.length * i.size := Nat.sub_mul _ _ _
            refine ⟨u, ?_, hr.mono hH'le⟩
            rw [hget, if_pos (by omega), ← hu]
            congr 1
            omega
        · have : c'.size = c.size := by rw [← Array.length_toList, hcls, Array.length_toList]
          rw [this]
          rcases h7 with h7 | h7 | h7
          · exact .inl h7
          · exact .inr (.inl h7)
          · refine .inr (.inr ⟨h7.1, Nat.le_trans h7.2 ?_⟩)
            exact Nat.mul_le_mul_right _ (by simp)
      · intro b' hb''
        simp [blk] at hb''; subst hb''
        cases hfz : fz with
        | false =>
          intro j
          subst hfz
          exact hheld j
        | true =>
          subst hfz
          refine ⟨fun j u hu => ?_, fun j hj => ?_⟩
          · rcases hH'new _ j u hu with hu | ⟨_, h2, _⟩
            · have := hheld.1 j u hu
              show j < n
              omega
            · exact h2
          · have hj : j < n := hj
            have hjc : j < c'.size := by
              have : c'.size = c.size := by rw [← Array.length_toList, hcls, Array.length_toList]
              omega
            exact ⟨c'[j], by rw [hcell, Array.getElem?_eq_getElem hjc], Im.ext_cell himb hj (by rw [hcell, Array.getElem?_eq_getElem hjc])⟩
    · exact grow (some ⟨b, 0, none⟩) cap rfl (by omega)
end Go.Idl
