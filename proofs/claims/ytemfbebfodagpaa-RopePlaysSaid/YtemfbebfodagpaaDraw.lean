/- Part of a proof that the laws of this seat return true: a machine over plain data (Idl) that is sound for the given model, and its runs. Conditions: none. -/
import Derived.Test.YtemfbebfodagpaaSt
set_option linter.all false
set_option linter.unusedSectionVars false
namespace Go.Idl
open Go

/-! what comes before what -/
theorem inner_ok (acc : Array Nat) (j : Nat) : ∀ (l : List Edge) (s0 : Nat), (l.foldl (fun s e => if Region.binds .any e = true then s ||| 2 ^ e.on ||| acc.getD e.on 0 else s) s0).testBit j = true →
    s0.testBit j = true ∨ ∃ e ∈ l, Region.binds .any e = true ∧ (e.on = j ∨ (acc.getD e.on 0).testBit j = true) := by
  intro l
  induction l with
  | nil => intro s0 h; exact .inl h
  | cons e l ih =>
    intro s0 h
    rw [List.foldl_cons] at h
    rcases ih _ h with h | ⟨e', h1, h2, h3⟩
    · split at h
      · rename_i hb
        simp only [Nat.testBit_or, Bool.or_eq_true] at h
        rcases h with (h | h) | h
        · exact .inl h
        · rw [Nat.testBit_two_pow] at h
          exact .inr ⟨e, List.mem_cons_self, hb, .inl (by simpa using h)⟩
        · exact .inr ⟨e, List.mem_cons_self, hb, .inr h⟩
      · exact .inl h
    · exact .inr ⟨e', List.mem_cons_of_mem _ h1, h2, h3⟩

def befStep (acc : Array Nat) (o : Oper) : Array Nat := acc.push (o.after.foldl (fun s e => if Region.binds .any e = true then s ||| 2 ^ e.on ||| acc.getD e.on 0 else s) 0)
theorem before_eq (ops : Array Oper) : Region.before ops = ops.toList.foldl befStep #[] := by
  unfold Region.before
  rw [← Array.foldl_toList]
  rfl
theorem befFold : ∀ (l : List Oper) (acc : Array Nat), (l.foldl befStep acc).size = acc.size + l.length ∧ (∀ i, i < acc.size → (l.foldl befStep acc).getD i 0 = acc.getD i 0) ∧
    ∀ i o j, l[i]? = some o → ((l.foldl befStep acc).getD (acc.size + i) 0).testBit j = true →
      ∃ e ∈ o.after, Region.binds .any e = true ∧ (e.on = j ∨ ((l.foldl befStep acc).getD e.on 0).testBit j = true) := by
  intro l
  induction l with
  | nil => intro acc; exact ⟨by simp, fun i _ => rfl, fun i o j h => by simp at h⟩
  | cons o l ih =>
    intro acc
    have hs : (befStep acc o).size = acc.size + 1 := by simp [befStep]
    obtain ⟨h1, h2, h3⟩ := ih (befStep acc o)
    rw [List.foldl_cons]
    have hold : ∀ i, i < acc.size → (befStep acc o).getD i 0 = acc.getD i 0 := by
      intro i hi
      simp only [befStep, Array.getD_eq_getD_getElem?]
      rw [Array.getElem?_push_lt hi, Array.getElem?_eq_getElem hi]
    refine ⟨by rw [h1, hs, List.length_cons]; omega, fun i hi => by rw [h2 i (by omega), hold i hi], ?_⟩
    intro i o' j hi hj
    cases i with
    | zero =>
      simp only [List.getElem?_cons_zero, Option.some.injEq] at hi
      subst hi
      rw [Nat.add_zero, h2 _ (by omega)] at hj
      have : (befStep acc o).getD acc.size 0 = o.after.toList.foldl (fun s e => if Region.binds .any e = true then s ||| 2 ^ e.on ||| acc.getD e.on 0 else s) 0 := by
        simp [befStep, Array.getD_eq_getD_getElem?, ← Array.foldl_toList]
      rw [this] at hj
      rcases inner_ok acc j _ _ hj with h | ⟨e, he, hb, h⟩
      · simp at h
      · refine ⟨e, by simpa using he, hb, h.imp id fun h => ?_⟩
        have hlt : e.on < acc.size := by
          rcases Nat.lt_or_ge e.on acc.size with h' | h'
          · exact h'
          · rw [Array.getD_eq_getD_getElem?, Array.getElem?_eq_none h'] at h; simp at h
        rw [h2 _ (by omega), hold _ hlt]; exact h
    | succ i =>
      simp only [List.getElem?_cons_succ] at hi
      exact h3 i o' j hi (by rw [hs, show acc.size + 1 + i = acc.size + (i + 1) from by omega]; exact hj)
abbrev bef (ops : Array Oper) (i : Nat) : Nat := (Region.before ops).toList.getD i 0
theorem bef_ok {ops : Array Oper} {i j : Nat} {o : Oper} (hi : ops[i]? = some o) (hj : (bef ops i).testBit j = true) : ∃ e ∈ o.after, Region.binds .any e = true ∧ (e.on = j ∨ (bef ops e.on).testBit j = true) := by
  have h := (befFold ops.toList #[]).2.2 i o j (by simpa using hi)
  have hb : ∀ i, bef ops i = (ops.toList.foldl befStep #[]).getD i 0 := by
    intro i
    simp only [bef, before_eq, List.getD_eq_getElem?_getD, Array.getElem?_toList, Array.getD_eq_getD_getElem?]
  rw [hb] at hj
  obtain ⟨e, he, h1, h2⟩ := h (by simpa using hj)
  exact ⟨e, he, h1, h2.imp id fun h => by rw [hb]; exact h⟩

/-! the run in the order of the text, step by step -/
structure Rec where
  s : St
  run : Bool
  t : Touch
  v : Option DV
  hm : Heap
  s' : St

def StepR (T : Tab) (call : CallF) (mv : Bool) (nt : Nat) (ops : Array Oper) (o : Oper) (r : Rec) : Prop :=
  dstOk nt o.dst = true ∧ wantedI ops r.s.env o = some r.run ∧
  (r.run = true → r.t = touch T (opnd1 T r.s.env r.s.heap.length o) r.s.heap o ∧ runOp T call mv (opnd1 T r.s.env r.s.heap.length o) (maskFrom r.t.keys 0 r.s.heap) o = some (r.v, r.hm) ∧
    r.s.heap.length ≤ r.hm.length ∧ wfKeys r.s.heap r.t.keys = true ∧ r.s' = ⟨putO r.s.env o.dst r.v, match r.t with | .reads _ => r.s.heap | t => mergeFrom t.keys 0 r.s.heap r.hm⟩) ∧
  (r.run = false → r.s' = ⟨putO r.s.env o.dst none, r.s.heap⟩)

def Apart (b : Nat) (t : Touch) (p : Past) : Prop := b.testBit p.i = true ∨ (t.clash p.touch = false ∧ ∀ k ∈ t.keys, k < p.lo ∨ p.hi ≤ k)
theorem apart_ok {b : Nat} {t : Touch} : ∀ {past : List Past}, apart b t past = true → ∀ p ∈ past, Apart b t p := by
  intro past
  induction past with
  | nil => intro _ p hp; simp at hp
  | cons q past ih =>
    intro h p hp
    simp only [apart, Bool.and_eq_true, Bool.or_eq_true, Bool.not_eq_true', List.all_eq_true, decide_eq_true_eq] at h
    rcases List.mem_cons.1 hp with rfl | hp
    · exact h.1
    · exact ih h.2 p hp

def TraceOk (T : Tab) (call : CallF) (mv : Bool) (nt : Nat) (ops : Array Oper) (rest : List Oper) (i : Nat) (past : List Past) (B : List Nat) (s s' : St) : Prop :=
    ∃ recs : List Rec, recs.length = rest.length ∧ (∀ (j : Nat) (o : Oper) (r : Rec), rest[j]? = some o → recs[j]? = some r → StepR T call mv nt ops o r) ∧ (∀ (r : Rec), recs[0]? = some r → r.s = s) ∧
      (∀ (j : Nat) (r r' : Rec), recs[j]? = some r → recs[j + 1]? = some r' → r'.s = r.s') ∧ (∀ (r : Rec), recs.getLast? = some r → r.s' = s') ∧ (recs = [] → s' = s) ∧
      (∀ (j : Nat) (r : Rec), recs[j]? = some r → r.run = true → ∀ p ∈ past, Apart (B.getD j 0) r.t p) ∧
      (∀ (j k : Nat) (r q : Rec), j < k → recs[j]? = some r → recs[k]? = some q → r.run = true → q.run = true → Apart (B.getD k 0) q.t ⟨i + j, r.t, r.s.heap.length, r.s'.heap.length⟩)

theorem trace {T : Tab} {call : CallF} {mv : Bool} {nt : Nat} {ops : Array Oper} : ∀ (rest : List Oper) (i : Nat) (past : List Past) (B : List Nat) (s s' : St), runDraw T call mv nt ops B i rest past s = some s' →
    TraceOk T call mv nt ops rest i past B s s' := by
  intro rest
  induction rest with
  | nil =>
    intro i past B s s' e
    simp [runDraw] at e
    exact ⟨[], rfl, by simp, by simp, by simp, by simp, fun _ => e.symm, by simp, by simp⟩
  | cons o rest ih =>
    intro i past B s s' e
    have hB : ∀ j, B.tail.getD j 0 = B.getD (j + 1) 0 := by intro j; cases B <;> simp
    have hB0 : B.headD 0 = B.getD 0 0 := by cases B <;> simp
    have build : ∀ (r : Rec) (past' : List Past), r.s = s → StepR T call mv nt ops o r → runDraw T call mv nt ops B.tail (i + 1) rest past' r.s' = some s' →
        (∀ p ∈ past, p ∈ past') → (r.run = true → ⟨i, r.t, r.s.heap.length, r.s'.heap.length⟩ ∈ past') → (r.run = true → ∀ p ∈ past, Apart (B.getD 0 0) r.t p) → TraceOk T call mv nt ops (o :: rest) i past B s s' := by
      intro r past' hrs hstep hrun hsub hmem hap
      obtain ⟨recs, h1, h2, h3, h4, h5, h6, h7, h8⟩ := ih (i + 1) past' B.tail r.s' s' hrun
      refine ⟨r :: recs, by simp [h1], ?_, by simp [hrs], ?_, ?_, by simp, ?_, ?_⟩
      · intro j o' r' ho hr
        cases j with
        | zero => simp at ho hr; subst ho hr; exact hstep
        | succ j => simp at ho hr; exact h2 j o' r' ho hr
      · intro j r1 r2 hr1 hr2
        cases j with
        | zero => simp at hr1 hr2; subst hr1; exact h3 r2 (by simpa using hr2)
        | succ j => simp at hr1 hr2; exact h4 j r1 r2 hr1 hr2
      · intro r1 hr1
        cases recs with
        | nil => simp at hr1; subst hr1; exact (h6 rfl).symm
        | cons x l => rw [List.getLast?_cons_cons] at hr1; exact h5 r1 hr1
      · intro j r1 hr1 hrun1 p hp
        cases j with
        | zero => simp at hr1; subst hr1; exact hap hrun1 p hp
        | succ j => simp at hr1; rw [← hB]; exact h7 j r1 hr1 hrun1 p (hsub p hp)
      · intro j k r1 q hjk hr1 hq hrun1 hrunq
        cases k with
        | zero => omega
        | succ k =>
          simp at hq
          rw [← hB]
          cases j with
          | zero => simp at hr1; subst hr1; exact h7 k q hq hrunq _ (by simpa using hmem hrun1)
          | succ j =>
            simp at hr1
            have := h8 j k r1 q (by omega) hr1 hq hrun1 hrunq
            rw [show i + (j + 1) = i + 1 + j from by omega]
            exact this
    simp only [runDraw] at e
    split at e
    · rename_i hdst
      split at e
      · rename_i hw
        split at e
        · rename_i hap
          simp only [Bool.and_eq_true] at hap
          split at e
          · cases e
          · rename_i v hm hop
            split at e
            · rename_i hble
              exact build ⟨s, true, _, v, hm, _⟩ _ rfl ⟨hdst, hw, fun _ => ⟨rfl, hop, Nat.le_of_ble_eq_true hble, hap.2, rfl⟩, fun h => by cases h⟩ e (fun p hp => List.mem_cons_of_mem _ hp) (fun _ => List.mem_cons_self)
                (fun _ => by rw [← hB0]; exact apart_ok hap.1)
            · cases e
        · cases e
      · rename_i hw
        exact build ⟨s, false, .none, none, [], _⟩ past rfl ⟨hdst, hw, fun h => (by cases h), fun _ => rfl⟩ e (fun p hp => hp) (fun h => by cases h) (fun h => by cases h)
      · cases e
    · cases e

/-! masks -/
theorem mask_get (ks : List Nat) : ∀ (h : Heap) (i k : Nat), (maskFrom ks i h)[k]? = (h[k]?).map fun o => if memN ks (i + k) then o else .dead := by
  intro h
  induction h with
  | nil => intro i k; simp [maskFrom]
  | cons o h ih =>
    intro i k
    cases k with
    | zero => simp [maskFrom]
    | succ k => simp only [maskFrom, List.getElem?_cons_succ]; rw [ih, show i + 1 + k = i + (k + 1) from by omega]
theorem mask_len (ks : List Nat) : ∀ (h : Heap) (i : Nat), (maskFrom ks i h).length = h.length := by
  intro h
  induction h with
  | nil => intro i; rfl
  | cons o h ih => intro i; simp [maskFrom, ih]
theorem merge_get (ks : List Nat) : ∀ (h hm : Heap) (i k : Nat), h.length ≤ hm.length → (mergeFrom ks i h hm)[k]? = if k < h.length ∧ memN ks (i + k) = false then h[k]? else hm[k]? := by
  intro h
  induction h with
  | nil => intro hm i k _; simp [mergeFrom]
  | cons o h ih =>
    intro hm i k hl
    cases hm with
    | nil => simp at hl
    | cons o' hm =>
      simp only [List.length_cons, Nat.add_le_add_iff_right] at hl
      cases k with
      | zero =>
        simp only [mergeFrom, List.getElem?_cons_zero, List.length_cons, Nat.add_zero]
        cases memN ks i <;> simp
      | succ k =>
        simp only [mergeFrom, List.getElem?_cons_succ, List.length_cons, Nat.add_lt_add_iff_right]
        rw [ih hm (i + 1) k hl, show i + 1 + k = i + (k + 1) from by omega]
theorem merge_len (ks : List Nat) : ∀ (h hm : Heap) (i : Nat), h.length ≤ hm.length → (mergeFrom ks i h hm).length = hm.length := by
  intro h
  induction h with
  | nil => intro hm i _; simp [mergeFrom]
  | cons o h ih =>
    intro hm i hl
    cases hm with
    | nil => simp at hl
    | cons o' hm => simp only [mergeFrom, List.length_cons]; rw [ih hm (i + 1) (by simpa using hl)]

/-! what reads leaves memory as it is -/
structure ReadOk (T : Tab) : Prop where
  snap : ∀ f, T.snap f = true → T.prim f = none
  ext : ∀ ρ h b args ts ty v h', (b = .len ∨ b = .unsafeSliceData) → T.ext ρ h (.call ⟨.builtin b, args, ts⟩) ty = some (v, h') → h' = h

theorem len_same {T : Tab} (hR : ReadOk T) {ρ : Opnd} {h1 : Heap} {args : Array Operand} {ts : Array TypeId} {ty : TypeId} {v : Option DV} {hm : Heap}
    (e : evalOp T ρ h1 (.call ⟨.builtin .len, args, ts⟩) ty = some (v, hm)) : hm = h1 := by
  simp only [evalOp] at e
  have hext : T.ext ρ h1 (.call ⟨.builtin .len, args, ts⟩) ty = some (v, hm) → hm = h1 := hR.ext _ _ _ _ _ _ _ _ (.inl rfl)
  cases hA : args.toList with
  | nil => rw [hA] at e; exact hext e
  | cons x l =>
    cases l with
    | cons y l => rw [hA] at e; exact hext e
    | nil =>
      cases hB : ts.toList with
      | nil => rw [hA, hB] at e; exact hext e
      | cons t l =>
        cases l with
        | cons y l => rw [hA, hB] at e; exact hext e
        | nil =>
          rw [hA, hB] at e
          simp only at e
          repeat' (first | (cases e; done) | (cases e; rfl) | split at e)
theorem data_same {T : Tab} (hR : ReadOk T) {ρ : Opnd} {h1 : Heap} {args : Array Operand} {ts : Array TypeId} {ty : TypeId} {v : Option DV} {hm : Heap}
    (e : evalOp T ρ h1 (.call ⟨.builtin .unsafeSliceData, args, ts⟩) ty = some (v, hm)) : hm = h1 := by
  simp only [evalOp] at e
  exact hR.ext _ _ _ _ _ _ _ _ (.inr rfl) e

theorem reads_same {T : Tab} (hR : ReadOk T) {call : CallF} {mv : Bool} {ρ : Opnd} {h h1 : Heap} {o : Oper} {ks : List Nat} {v : Option DV} {hm : Heap}
    (ht : touch T ρ h o = .reads ks) (e : runOp T call mv ρ h1 o = some (v, hm)) : hm = h1 := by
  have hall : ∀ l : List Nat, (match reach 1000 h [] l with | [] => Touch.none | ks => .writes ks) ≠ .reads ks := by
    intro l; split <;> simp
  unfold touch at ht
  simp only at ht
  split at ht
  all_goals try (simp at ht; done)
  all_goals try exact absurd ht (hall _)
  · rename_i t p hop
    simp only [runOp, hop, evalOp] at e
    split at e
    · split at e
      · split at e
        · cases e; rfl
        · cases e
      · cases e
    · cases e
  · rename_i t x i hop
    simp only [runOp, hop, evalOp] at e
    repeat' (first | (cases e; done) | (cases e; rfl) | split at e)
  · rename_i args ts hop
    simp only [runOp, hop] at e
    exact len_same hR e
  · rename_i args ts hop
    simp only [runOp, hop] at e
    exact data_same hR e
  · rename_i c args ts hop
    split at ht
    · rename_i f hf
      split at ht
      · rename_i hs
        simp only [runOp, hop, hf] at e
        split at e
        · rename_i f' vs heq hvs
          cases heq
          split at e
          · rename_i r1 h2 hcall
            cases e
            unfold callI at hcall
            rw [hR.snap f hs] at hcall
            simp only [hs, if_true] at hcall
            split at hcall
            · split at hcall
              · cases hcall; rfl
              · cases hcall
            · cases hcall
          · cases e
        · rename_i heq _; cases heq
        · cases e
      · exact absurd ht (hall _)
    · exact absurd ht (hall _)
  · rename_i t p x hop
    split at ht
    · simp at ht
    · exact absurd ht (hall _)
end Go.Idl
