/- Part of a proof that the laws of this seat return true: a machine over plain data (Idl) that is sound for the given model, and its runs. Conditions: none. -/
import Derived.Test.YtemfbebfodagpaaKSimp
import Derived.ChangeArms
import Derived.Carry
set_option linter.all false
set_option linter.all false
namespace Go.Idl
open Go
/-! Arguments of plain types, read. -/
def laidFs (P : Program) : Nat → List Field → Option Nat
  | off, [] => some off
  | off, f :: fs => cond (Nat.beq f.offset off) (laidFs P (off + P.cellsOf f.type) fs) none
def plainT (P : Program) : Nat → TypeId → Bool
  | 0, _ => false
  | n + 1, t => match P.underlying t with
    | some .bool => true
    | some (.int _) => true
    | some (.slice e) => Nat.blt 0 (P.cellsOf e) && plainT P n e
    | some (.struct fs) => (match laidFs P 0 fs.toList with | some m => Nat.beq m (P.cellsOf t) | none => false) && fs.toList.all fun f => plainT P n f.type
    | _ => false
def Typed (P : Program) : Nat → TypeId → List D → Prop
  | 0, _, _ => False
  | n + 1, t, ds => match P.underlying t with
    | some .bool => ∃ b, ds = [.bool b]
    | some (.int k) => ∃ x, ds = [.int k x]
    | some (.slice e) => ∃ es, ds = [.slice (P.cellsOf e) es] ∧ ∀ x ∈ es, Typed P n e x
    | some (.struct fs) => ∃ parts : List (List D), ds = parts.flatten ∧ F2 (fun (f : Field) p => Typed P n f.type p) fs.toList parts
    | _ => False
theorem exists_list {α : Type} {p : Nat → α → Prop} : ∀ (n : Nat), (∀ i, i < n → ∃ x, p i x) → ∃ l : List α, l.length = n ∧ ∀ i x, l[i]? = some x → p i x := by
  intro n
  induction n with
  | zero => intro _; exact ⟨[], rfl, by intro i x h; simp at h⟩
  | succ n ih =>
    intro h
    obtain ⟨l, hl, hp⟩ := ih (fun i hi => h i (by omega))
    obtain ⟨x, hx⟩ := h n (by omega)
    refine ⟨l ++ [x], by simp [hl], ?_⟩
    intro i y hy
    rcases Nat.lt_or_ge i l.length with hi | hi
    · rw [List.getElem?_append_left hi] at hy; exact hp i y hy
    · rw [List.getElem?_append_right hi] at hy
      have hi0 : i - l.length = 0 := by
        have := (List.getElem?_eq_some_iff.1 hy).1
        simp at this
        omega
      rw [hi0] at hy
      cases hy
      have : i = n := by omega
      subst this
      exact hx
theorem parts_of {P : Program} {H : Im} {n : Nat} {cs : List Value} {tot : Nat} : ∀ (fs : List Field) (off : Nat), laidFs P off fs = some tot → cs.length = tot →
    (∀ f ∈ fs, ∃ ds, Drels H ds ((cs.drop f.offset).take (P.cellsOf f.type)) ∧ Typed P n f.type ds) → ∃ parts : List (List D), F2 (fun (f : Field) p => Typed P n f.type p) fs parts ∧ Drels H parts.flatten (cs.drop off) := by
  intro fs
  induction fs with
  | nil =>
    intro off h hl _
    simp only [laidFs, Option.some.injEq] at h
    refine ⟨[], .nil, ?_⟩
    rw [List.drop_eq_nil_of_le (by omega)]
    exact .nil
  | cons f fs ih =>
    intro off h hl hall
    simp only [laidFs] at h
    obtain ⟨ho, h⟩ := cond_some h
    have ho := Nat.eq_of_beq_eq_true ho
    obtain ⟨ds, h1, h2⟩ := hall f (by simp)
    obtain ⟨parts, h3, h4⟩ := ih _ h hl (fun g hg => hall g (by simp [hg]))
    refine ⟨ds :: parts, .cons h2 h3, ?_⟩
    rw [List.flatten_cons, ← List.take_append_drop (P.cellsOf f.type) (cs.drop off), List.drop_drop]
    rw [ho] at h1
    exact f2_append h1 h4
theorem addr_add {b o i j : Nat} : ((⟨b, o, none⟩ : Addr).add i).add j = ⟨b, o + i + j, none⟩ := by
  unfold Addr.add
  split
  · subst_vars
    split
    · subst_vars; simp
    · simp
  · split
    · subst_vars; simp
    · simp
theorem trod_plain {HH : Type} {enc : TypeId × Value → HH} {P : Program} {w : World} {base : Nat} {spare : Nat → Bool} {held : Bool} : ∀ (fuel : Nat) (m : Nat) (t : TypeId) (cs : List Value) (x : DataW HH × List MemPlace), plainT P m t = true → DataW.trod enc P w base spare held fuel t cs = some x →
    ∃ ds, Drels (cellsOf w) ds cs ∧ Typed P fuel t ds ∧ cs.length = ds.length := by
  intro fuel
  induction fuel with
  | zero => intro m t cs x _ h; simp [DataW.trod] at h
  | succ fuel ih =>
    intro m t cs x hp h
    cases m with
    | zero => simp [plainT] at hp
    | succ m =>
      simp only [plainT] at hp
      split at hp
      · rename_i hu
        obtain ⟨b, rfl, _⟩ := DataW.trod_bool hu h
        refine ⟨[.bool b], .cons (.bool b) .nil, ?_, rfl⟩
        simp only [Typed, hu]
        exact ⟨b, rfl⟩
      · rename_i k hu
        obtain ⟨n, rfl, _, _⟩ := DataW.trod_int hu h
        refine ⟨[.int k n], .cons (.int k n) .nil, ?_, rfl⟩
        simp only [Typed, hu]
        exact ⟨n, rfl⟩
      · rename_i e hu
        simp only [Bool.and_eq_true] at hp
        have hpos : 0 < P.cellsOf e := by have := hp.1; rwa [Nat.blt_eq] at this
        rcases DataW.trod_slice hu h with ⟨rfl, _⟩ | ⟨a, len, cap, elems, rest, n, hn, rfl, _, hb, hl, hm, hlen, hel, _, _⟩
        · refine ⟨[.slice (P.cellsOf e) []], .cons (Drel.slice _ [] none 0 0 0 (fun _ _ => .pointer none) (by simp) (by simp) (by simp) (by simp) (by simp)) .nil, ?_, rfl⟩
          simp only [Typed, hu]
          exact ⟨[], rfl, by simp⟩
        · cases hn
          have each : ∀ i, i < len → ∃ ds : List D × List Value, w.cells? base (a.add (i * P.cellsOf e)) (P.cellsOf e) = some ds.2 ∧ Drels (cellsOf w) ds.1 ds.2 ∧ Typed P fuel e ds.1 ∧ ds.2.length = ds.1.length := by
            intro i hi
            have h1 := hel i hi
            have h2 : ∃ y, elems[i]? = some y := ⟨elems[i]'(by omega), by simp⟩
            obtain ⟨y, hy⟩ := h2
            rw [hy] at h1
            cases hc : w.cells? base (a.add (i * P.cellsOf e)) (P.cellsOf e) with
            | none => rw [hc] at h1; cases h1
            | some cs' =>
              rw [hc] at h1
              obtain ⟨ds, g1, g2, g3⟩ := ih m e cs' y hp.2 h1
              exact ⟨(ds, cs'), rfl, g1, g2, g3⟩
          obtain ⟨l, hll, hl2⟩ := exists_list len each
          have clen : ∀ i p, l[i]? = some p → p.2.length = P.cellsOf e ∧ ∀ j u, p.2[j]? = some u → w.cell? ((a.add (i * P.cellsOf e)).add j) = some u := by
            intro i p hi
            obtain ⟨g1, _⟩ := hl2 i p hi
            unfold World.cells? at g1
            split at g1
            · have glen := mapM_some_length g1
              refine ⟨by simpa using glen, ?_⟩
              intro j u hj
              have hjl := (List.getElem?_eq_some_iff.1 hj).1
              have hr : (List.range (P.cellsOf e))[j]? = some j := by
                rw [glen, List.length_range] at hjl
                rw [List.getElem?_range hjl]
              have := mapM_some_get g1 j j hr
              rw [this, hj]
            · cases g1
          have hspot : l ≠ [] → a = ⟨a.block, a.off, none⟩ := by
            intro hne
            obtain ⟨p, l', rfl⟩ := List.exists_cons_of_ne_nil hne
            obtain ⟨g1, g2⟩ := clen 0 p rfl
            obtain ⟨u, hu2⟩ : ∃ u, p.2[0]? = some u := ⟨p.2[0]'(by omega), by simp⟩
            have := g2 0 u hu2
            have ha0 : (a.add (0 * P.cellsOf e)).add 0 = a := by simp [Addr.add]
            rw [ha0] at this
            unfold World.cell? at this
            split at this
            · split at this
              · cases this
              · rename_i hs
                cases a with
                | mk b o s =>
                  cases s with
                  | none => rfl
                  | some z => simp at hs
            · cases this
          refine ⟨[.slice (P.cellsOf e) (l.map (·.1))], .cons ?_ .nil, ?_, rfl⟩
          · have hlen' : len = (l.map (·.1)).length := by simp [hll]
            rw [hlen']
            have hget : ∀ (i : Nat) (ee : List D), (l.map (·.1))[i]? = some ee → ∃ p : List D × List Value, l[(i : Nat)]? = some p ∧ p.1 = ee := by
              intro i ee hee
              rw [List.getElem?_map] at hee
              cases hp2 : l[i]? with
              | none => rw [hp2] at hee; cases hee
              | some p => rw [hp2] at hee; cases hee; exact ⟨p, rfl, rfl⟩
            refine Drel.slice _ _ (some a) cap a.block a.off (fun i j => ((l[i]?).bind fun p => p.2[j]?).getD default) ?_ ?_ (by simp; omega) ?_ ?_
            · intro ee hee
              obtain ⟨i, hi⟩ := List.getElem?_of_mem hee
              obtain ⟨p, hp1, rfl⟩ := hget i ee hi
              have := (hl2 i p hp1).2.2.2
              have := (clen i p hp1).1
              omega
            · intro hne
              exact congrArg some (hspot (by intro h; rw [h] at hne; exact hne rfl))
            · intro i ee hee j d hd
              obtain ⟨p, hp1, rfl⟩ := hget i ee hee
              obtain ⟨u, hu1, _⟩ := f2_get (hl2 i p hp1).2.1 j d hd
              have hne : l ≠ [] := by rintro rfl; simp at hp1
              have ha := hspot hne
              have := (clen i p hp1).2 j u hu1
              rw [ha, addr_add] at this
              simp only [cellsOf, hp1, Option.bind_some, hu1, Option.getD_some]
              exact this
            · intro i ee hee j d hd
              obtain ⟨p, hp1, rfl⟩ := hget i ee hee
              obtain ⟨u, hu1, hr⟩ := f2_get (hl2 i p hp1).2.1 j d hd
              simp only [hp1, Option.bind_some, hu1, Option.getD_some]
              exact hr
          · simp only [Typed, hu]
            refine ⟨_, rfl, ?_⟩
            intro y hy
            obtain ⟨i, hi⟩ := List.getElem?_of_mem hy
            rw [List.getElem?_map] at hi
            cases hp2 : l[i]? with
            | none => rw [hp2] at hi; cases hi
            | some p => rw [hp2] at hi; cases hi; exact (hl2 i p hp2).2.2.1
      · rename_i fs hu
        simp only [Bool.and_eq_true] at hp
        obtain ⟨xs, n, hn, _, hl, hxl, hall⟩ := DataW.trod_struct hu h
        cases hn
        have hlaid : laidFs P 0 fs.toList = some (P.cellsOf t) := by
          have := hp.1
          split at this
          · rename_i m' hm'; rw [hm', Nat.eq_of_beq_eq_true this]
          · cases this
        obtain ⟨parts, h3, h4⟩ := parts_of (P := P) (H := cellsOf w) (n := fuel) (cs := cs) fs.toList 0 hlaid hl (by
          intro f hf
          obtain ⟨i, hi⟩ := List.getElem?_of_mem hf
          have hi' : fs[i]? = some f := by simpa using hi
          have h5 := hall i f hi'
          have hlt := (Array.getElem?_eq_some_iff.1 hi').1
          obtain ⟨y, hy⟩ : ∃ y, xs[i]? = some y := ⟨xs[i]'(by omega), by simp⟩
          rw [hy] at h5
          have hpf := List.all_eq_true.1 hp.2 f hf
          obtain ⟨ds, g1, g2, _⟩ := ih m f.type _ y hpf h5
          exact ⟨ds, g1, g2⟩)
        rw [List.drop_zero] at h4
        refine ⟨parts.flatten, h4, ?_, (f2_len h4).symm⟩
        simp only [Typed, hu]
        exact ⟨parts, rfl, h3⟩
      · cases hp
open Go.RowKit in
theorem walkω2 {P : Program} {T : Tab} (hT : RunOk P T) (hR : ReadOk T) (hF : FunOk P T) (hmix : P.follows Departure.mixedOrders = true) {f : FuncId} {fn : Func} (hf : T.func f = some fn) (hb : fn.body = some (bodyOf fn))
    {args : List DV} {b : Bool} (e : callω T f args [] = some (.dd (.bool b), [])) (w : World) {rargs : List Value} (ha : F2 (Vrel (fun _ => none) (cellsOf w)) args rargs) :
    Calls P f rargs.toArray w fun e w' => e = .returned (.bool b) ∧ Below w.heap.size w w' := by
  obtain ⟨n, hn⟩ := callω_iff.1 e
  exact walk_bool hT hR hF hmix hf hb hn (cellsOf w) w (fun _ _ _ h => h) ha
end Go.Idl
