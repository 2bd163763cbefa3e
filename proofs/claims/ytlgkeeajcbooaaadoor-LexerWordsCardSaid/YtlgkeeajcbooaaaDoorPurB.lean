/- The words of tokens are read by the program's next as they were written. Condition: what follows a word begins with white space. -/
import Derived.Test.YtlgkeeajcbooaaaDoorPLx8
import Derived.Test.YtlgkeeajcbooaaaDoorPLx11
import Derived.Test.YtlgkeeajcbooaaaDoorPurA
set_option linter.unusedVariables false
set_option linter.unusedSimpArgs false
namespace Go.Proofs.YtlgkeeajcbooaaaDoor.PurB
open Go.RowKit Go.Proofs.YtlgkeeajcbooaaaDoor.PL Go.Proofs.YtlgkeeajcbooaaaDoor.PurA Go.Proofs.YtlgkeeajcbooaaaDoorW.PrintWords Go.Proofs.YtlgkeeajcbooaaaDoorW.PrintLast

def letB (c : UInt8) : Bool := (97 ≤ c.toNat && c.toNat ≤ 122) || (65 ≤ c.toNat && c.toNat ≤ 90) || c.toNat == 95
def decB (c : UInt8) : Bool := 48 ≤ c.toNat && c.toNat ≤ 57
def contB (c : UInt8) : Bool := letB c || decB c
def wsB (c : UInt8) : Bool := c.toNat == 32 || c.toNat == 9 || c.toNat == 13 || c.toNat == 10
theorem all256 {P : UInt8 → Prop} (h : ∀ n : Fin 256, P (UInt8.ofNat n.val)) (c : UInt8) : P c := by
  have := h ⟨c.toNat, c.toNat_lt⟩
  simpa using this
theorem begins_tells : ∀ c : UInt8, lexer_begins.f (c.toNat : Int) = some (letB c) := all256 (by decide +kernel)
theorem decimal_tells : ∀ c : UInt8, lexer_decimal.f (c.toNat : Int) = some (decB c) := all256 (by decide +kernel)
theorem space_tells : ∀ c : UInt8, lexer_space.f (c.toNat : Int) = some (wsB c) := all256 (by decide +kernel)
theorem pcont : lexer_prefix_continues.p = contB := funext (all256 (by decide +kernel))
theorem pdec : lexer_prefix_decimal.p = decB := funext (all256 (by decide +kernel))
theorem pws : lexer_prefix_space.p = wsB := funext (all256 (by decide +kernel))
theorem letB_iff (c : UInt8) : letB c = true ↔ isLetter c := by unfold letB isLetter; simp; omega
theorem contB_iff (c : UInt8) : contB c = true ↔ isCont c := by unfold contB isCont; rw [Bool.or_eq_true, letB_iff]; unfold decB; simp
theorem takeW (p : UInt8 → Bool) (w r : List UInt8) (hw : ∀ c ∈ w, p c = true) (hr : ∀ c ∈ r.head?, p c = false) : (w ++ r).takeWhile p = w := by
  induction w with
  | nil =>
    cases r with
    | nil => rfl
    | cons c r => simp [hr c (by simp)]
  | cons c w ih => rw [List.cons_append, List.takeWhile_cons_of_pos (hw c (by simp)), ih (fun x hx => hw x (by simp [hx]))]

/-! ### Numerals -/
def val (l : List UInt8) : Nat := l.foldl (fun a c => 10 * a + (c.toNat - 48)) 0
theorem val_snoc (l : List UInt8) (c : UInt8) : val (l ++ [c]) = 10 * val l + (c.toNat - 48) := by simp [val]
theorem val_le (a : List UInt8) : ∀ (b : List UInt8), val a ≤ val (a ++ b) := by
  intro b
  induction b generalizing a with
  | nil => simp
  | cons c b ih =>
    have := ih (a ++ [c])
    rw [val_snoc, List.append_assoc] at this
    simp only [List.singleton_append] at this
    omega
theorem dd (u : Nat) : (∀ c ∈ Lib.decDigits u, decB c = true) ∧ Lib.decDigits u ≠ [] ∧ (1 < (Lib.decDigits u).length → (Lib.decDigits u).head? ≠ some 48) ∧ val (Lib.decDigits u) = u ∧ (1 ≤ u → (Lib.decDigits u).head? ≠ some 48) ∧ (∀ k, 1 ≤ k → u < 10 ^ k → (Lib.decDigits u).length ≤ k) := by
  induction u using Nat.strongRecOn with
  | _ u ih =>
    have dig : ∀ n, n < 10 → decB (UInt8.ofNat (48 + n)) = true ∧ (UInt8.ofNat (48 + n)).toNat = 48 + n := by
      intro n hn
      have e : (UInt8.ofNat (48 + n)).toNat = 48 + n := by simp; omega
      exact ⟨by unfold decB; rw [e]; simp; omega, e⟩
    by_cases h : u < 10
    · rw [Lib.decDigits_one h]
      refine ⟨?_, by simp, by simp, ?_, ?_, ?_⟩
      · intro c hc; rw [List.mem_singleton.1 hc]; exact (dig u h).1
      · show 10 * 0 + ((UInt8.ofNat (48 + u)).toNat - 48) = u
        rw [(dig u h).2]; omega
      · intro h1 h2
        have : UInt8.ofNat (48 + u) = 48 := by simpa using h2
        have := congrArg UInt8.toNat this
        rw [(dig u h).2] at this
        have e : (48 : UInt8).toNat = 48 := rfl
        omega
      · intro k hk _; simp; omega
    · obtain ⟨h1, h2, h3, h4, h5, h6⟩ := ih (u / 10) (by omega)
      have e : Lib.decDigits u = Lib.decDigits (u / 10) ++ [UInt8.ofNat (48 + u % 10)] := by rw [Lib.decDigits, dif_neg h]
      have hd : (Lib.decDigits u).head? ≠ some 48 := by
        rw [e]
        cases hq : Lib.decDigits (u / 10) with
        | nil => exact absurd hq h2
        | cons a b => have := h5 (by omega); rw [hq] at this; simpa using this
      refine ⟨?_, by rw [e]; simp, fun _ => hd, ?_, fun _ => hd, ?_⟩
      · intro c hc
        rw [e] at hc
        rcases List.mem_append.1 hc with hc | hc
        · exact h1 c hc
        · rw [List.mem_singleton.1 hc]; exact (dig _ (by omega)).1
      · rw [e, val_snoc, h4, (dig _ (by omega)).2]; omega
      · intro k hk hu
        rw [e, List.length_append]
        obtain ⟨k, rfl⟩ : ∃ m, k = m + 1 := ⟨k - 1, by omega⟩
        have : 1 ≤ k := by
          rcases Nat.eq_zero_or_pos k with rfl | h0
          · simp at hu; omega
          · exact h0
        have := h6 k this (by rw [Nat.pow_succ] at hu; omega)
        simp; omega

theorem num_l0 (l : List UInt8) (hne : l ≠ []) (hd : ∀ c ∈ l, decB c = true) (hl : l.length ≤ 65536) (hv : val l ≤ 9223372036854775807) : ∀ (b a : List UInt8), l = a ++ b → ∀ k, b.length + 1 ≤ k →
    lexer_number.l0 k ⟨l.toArray⟩ (val a : Int) (l.length : Int) (a.length : Int) = some ((val l : Int), true) := by
  intro b
  induction b with
  | nil =>
    intro a e k hk
    obtain ⟨k, rfl⟩ : ∃ m, k = m + 1 := ⟨k - 1, by omega⟩
    rw [List.append_nil] at e
    subst e
    simp only [lexer_number.l0]
    have hto : (⟨l.toArray⟩ : ByteArray).toList = l := by simp
    rw [if_neg (by omega), hto]
    simp [hne]
  | cons c b ih =>
    intro a e k hk
    obtain ⟨k, rfl⟩ : ∃ m, k = m + 1 := ⟨k - 1, by simp at hk; omega⟩
    have hlen : l.length = a.length + (b.length + 1) := by rw [e]; simp
    have hb : bt ⟨l.toArray⟩ (a.length : Int) = (c.toNat : Int) := by rw [bt_list, Int.toNat_natCast, e]; simp
    have hc := hd c (by rw [e]; simp)
    have hc2 : 48 ≤ c.toNat ∧ c.toNat ≤ 57 := by unfold decB at hc; simpa using hc
    simp only [lexer_number.l0, sz]
    rw [if_pos (by omega), if_pos (by omega), if_pos (by omega), hb]
    have hval := val_le (a ++ [c]) b
    rw [val_snoc, List.append_assoc, List.singleton_append, ← e] at hval
    have e2 : ((c.toNat : Int) - 48) % 256 = ((c.toNat - 48 : Nat) : Int) := by omega
    rw [e2, if_neg (by omega), w64 (x := 10 * (val a : Int)) (by omega) (by omega), w64 (x := 10 * (val a : Int) + ((c.toNat - 48 : Nat) : Int)) (by omega) (by omega), w64 (x := (a.length : Int) + 1) (by omega) (by omega)]
    have := ih (a ++ [c]) (by rw [e]; simp) k (by simp at hk; omega)
    rw [val_snoc] at this
    simp only [List.length_append, List.length_singleton] at this
    have e3 : (10 * (val a : Int) + ((c.toNat - 48 : Nat) : Int)) = ((10 * val a + (c.toNat - 48) : Nat) : Int) := by omega
    have e4 : (a.length : Int) + 1 = ((a.length + 1 : Nat) : Int) := by omega
    rw [e3, e4]
    exact this
theorem number_tells (u : Nat) (hu : u ≤ 9223372036854775807) (k : Nat) (hk : 25 ≤ k) : lexer_number.f k ⟨(Lib.decDigits u).toArray⟩ = some ((u : Int), true) := by
  obtain ⟨h1, h2, h3, h4, h5, h6⟩ := dd u
  have hl := h6 19 (by omega) (by omega)
  obtain ⟨k, rfl⟩ : ∃ m, k = m + 1 := ⟨k - 1, by omega⟩
  have base : lexer_number.j0 (k + 1) ⟨(Lib.decDigits u).toArray⟩ false = some ((u : Int), true) := by
    simp only [lexer_number.j0, Bool.false_eq_true, if_false, sz]
    have := num_l0 (Lib.decDigits u) h2 h1 (by omega) (by rw [h4]; exact hu) (Lib.decDigits u) [] rfl k (by omega)
    rw [h4] at this
    exact this
  unfold lexer_number.f
  rw [sz]
  by_cases hg : ((Lib.decDigits u).length : Int) > 1
  · rw [if_pos hg, if_pos (by omega)]
    have hh := h3 (by omega)
    cases hq : Lib.decDigits u with
    | nil => exact absurd hq h2
    | cons a b =>
      rw [hq] at hh base
      have e0 : bt ⟨(a :: b).toArray⟩ 0 = (a.toNat : Int) := bt_list _ _
      have ne : ((a.toNat : Int) == 48) = false := beq_eq_false_iff_ne.mpr (fun h => hh (by have := (toNat_eq (d := a) 48).1 h; simp [this]))
      rw [e0, ne]; exact base
  · rw [if_neg hg]; exact base
end Go.Proofs.YtlgkeeajcbooaaaDoor.PurB
