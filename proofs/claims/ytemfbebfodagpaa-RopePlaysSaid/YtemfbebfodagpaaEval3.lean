/- Part of a proof that the laws of this seat return true: a machine over plain data (Idl) that is sound for the given model, and its runs. Conditions: none. -/
import Derived.Test.YtemfbebfodagpaaEval2
import Derived.Lib.ConvBytes
import Derived.Laws.BytesArg
import Derived.Laws.Strings
set_option linter.all false
namespace Go.Idl
open Go

theorem bytesOfEs_eq : ∀ (es : List (List D)) (s : List Nat), bytesOfEs es = some s → es = bytesEs s ∧ ∀ x ∈ s, x < 256 := by
  intro es
  induction es with
  | nil => intro s e; simp [bytesOfEs] at e; subst e; simp [bytesEs]
  | cons x es ih =>
    intro s e
    simp only [bytesOfEs] at e
    split at e
    · rename_i b bs h1 h2
      cases e
      obtain ⟨rfl, h⟩ := ih bs h2
      unfold byteOfD at h1
      split at h1
      · rename_i n
        split at h1
        · rename_i hn
          cases h1
          refine ⟨?_, ?_⟩
          · simp only [bytesEs, List.map_cons]
            congr 3
            simp
            omega
          · intro y hy
            cases hy with
            | head => omega
            | tail _ hy => exact h y hy
        · cases h1
      · cases h1
    · cases e
theorem rows_bytes {H : Im} {s : List Nat} {news : List Value} (h : Rows H 1 (bytesEs s) news) : news = (s.map Int.ofNat).map (Value.int .u8) := by
  have hl : news.length = s.length := by have := h.size; simpa [bytesEs] using this
  refine List.ext_getElem? fun i => ?_
  by_cases hi : i < s.length
  · obtain ⟨u, hu, hd⟩ := h.cell i [.int .u8 (Int.ofNat s[i])] (by simp [bytesEs, hi]) 0 _ rfl
    cases hd
    simp only [Nat.mul_one, Nat.add_zero] at hu
    rw [hu]
    simp [hi]
  · simp [List.getElem?_eq_none (show news.length ≤ i by omega), hi]
theorem str_of_bytes {H : Im} {s : List Nat} (hs : ∀ x ∈ s, x < 256) (hl : s.length ≤ maxEls) :
    Drel H (.str s) (.string (List.foldl (fun r n => r.push (UInt8.ofNat n.toNat)) ByteArray.empty (s.map Int.ofNat))) := by
  rw [foldl_push_bytes]
  have hb : s = bytesOf ⟨ByteArray.empty.data ++ ((s.map Int.ofNat).map fun n => UInt8.ofNat n.toNat).toArray⟩ := by
    simp only [bytesOf]
    rw [show (ByteArray.empty.data ++ ((s.map Int.ofNat).map fun n => UInt8.ofNat n.toNat).toArray).toList = (s.map Int.ofNat).map fun n => UInt8.ofNat n.toNat from by rw [show ByteArray.empty.data = #[] from rfl]; simp]
    simp only [List.map_map]
    refine (List.map_id s).symm.trans (List.map_congr_left fun x hx => ?_)
    have := hs x hx
    simp
    omega
  conv => arg 2; rw [hb]
  refine .str _ ?_
  have : ByteArray.size ⟨ByteArray.empty.data ++ ((s.map Int.ofNat).map fun n => UInt8.ofNat n.toNat).toArray⟩ = s.length := by rw [show ByteArray.empty.data = #[] from rfl]; simp [ByteArray.size]
  rw [this]
  unfold maxStr; unfold maxEls at hl; omega
theorem bytesToString_ok {P : Program} {H : Im} {w : World} {es : List (List D)} {s : List Nat} {v : Value} (hs : Src P H w 1 es v) (hb : bytesOfEs es = some s) (hv : isSl v = true) (hl : es.length ≤ maxEls) :
    ∃ b, (Conv.bytesToString v).run P w = .ok (.string b) w ∧ Drel H (.str s) (.string b) := by
  obtain ⟨rfl, h256⟩ := bytesOfEs_eq es s hb
  obtain ⟨news, hr, hlen, hf⟩ := hs
  have hn := rows_bytes hr
  have hsl : s.length ≤ maxEls := by simpa [bytesEs] using hl
  have hel : (bytesEs s).length = s.length := by simp [bytesEs]
  have hd := str_of_bytes (H := H) h256 hsl
  cases v <;> simp [isSl] at hv
  rename_i a l c
  have hl' : l = s.length := by simp [Builtin.lenOf] at hlen; omega
  subst hl'
  cases a with
  | none =>
    have := hf w (fun _ _ => rfl)
    simp only [Builtin.firstCells, Sem.run_pure, Result.ok.injEq, and_true] at this
    have hn0 : s = [] := by
      have h1 : news = [] := by
        have := congrArg Array.toList this
        simpa using this.symm
      rw [h1] at hn
      cases s with
      | nil => rfl
      | cons x s => simp at hn
    subst hn0
    exact ⟨_, rfl, hd⟩
  | some a =>
    have hload := hf w (fun _ _ => rfl)
    simp only [Builtin.firstCells, hel, Nat.mul_one] at hload
    rw [hn] at hload
    exact ⟨_, run_bytesToString w a s.length c _ hload, hd⟩
end Go.Idl
