/- Plain functions on lists of bytes: what string literals of the lexer mean, and how strings are quoted. No condition. -/
import Derived.Lib.Bytealg
namespace Go.Proofs.YtlgkeeajcbooaaaDoor.Lx
abbrev Bs := List UInt8

/-- The value of a digit of an escape. -/
def hexv (c : UInt8) : Option Nat := if 48 ≤ c.toNat ∧ c.toNat ≤ 57 then some (c.toNat - 48) else if 97 ≤ c.toNat ∧ c.toNat ≤ 102 then some (c.toNat - 87) else none
/-- What follows a backslash: the byte meant, and how many bytes were read. -/
def esc : Bs → Option (UInt8 × Nat)
  | [] => none
  | d :: r =>
    if d = 34 then some (34, 1) else if d = 92 then some (92, 1) else if d = 110 then some (10, 1) else if d = 120 then
      match r with
      | a :: b :: _ => match hexv a, hexv b with
        | some x, some y => some (UInt8.ofNat (16 * x + y), 3)
        | _, _ => none
      | _ => none
    else none
theorem esc_pos {l : Bs} {x : UInt8} {n : Nat} (h : esc l = some (x, n)) : 1 ≤ n ∧ n ≤ l.length := by
  unfold esc at h
  repeat' split at h
  all_goals simp at h
  all_goals (obtain ⟨_, rfl⟩ := h; simp)
/-- A literal behind its first quote: what it means, and how many bytes it has, the second quote among them. -/
def lit (l : Bs) : Option (Bs × Nat) :=
  match l with
  | [] => none
  | c :: r =>
    if c = 34 then some ([], 1)
    else if c.toNat < 32 ∨ 126 < c.toNat then none
    else if c = 92 then
      match h : esc r with
      | none => none
      | some (x, n) => (lit (r.drop n)).map fun p => (x :: p.1, p.2 + n + 1)
    else (lit r).map fun p => (c :: p.1, p.2 + 1)
  termination_by l.length
  decreasing_by
    all_goals simp_wf
    · have := esc_pos h; omega
theorem lit_nil : lit [] = none := by unfold lit; rfl
theorem lit_quote (r : Bs) : lit (34 :: r) = some ([], 1) := by unfold lit; rfl
theorem lit_bad (c : UInt8) (r : Bs) (h : c.toNat < 32 ∨ 126 < c.toNat) : lit (c :: r) = none := by
  unfold lit
  have : c ≠ 34 := by rintro rfl; simp at h
  simp [this, h]
theorem lit_esc_none (r : Bs) (h : esc r = none) : lit (92 :: r) = none := by
  unfold lit
  simp
  split
  · rfl
  · rename_i h2; rw [h] at h2; cases h2
theorem lit_esc (r : Bs) (x : UInt8) (n : Nat) (h : esc r = some (x, n)) : lit (92 :: r) = (lit (r.drop n)).map fun p => (x :: p.1, p.2 + n + 1) := by
  conv => lhs; unfold lit
  simp
  split
  · rename_i h2; rw [h] at h2; cases h2
  · rename_i h2; rw [h] at h2; injection h2 with h2; injection h2 with h3 h4; subst h3; subst h4; rfl
theorem lit_plain (c : UInt8) (r : Bs) (h1 : c ≠ 34) (h2 : ¬ (c.toNat < 32 ∨ 126 < c.toNat)) (h3 : c ≠ 92) : lit (c :: r) = (lit r).map fun p => (c :: p.1, p.2 + 1) := by
  conv => lhs; unfold lit
  simp [h1, h2, h3]
theorem lit_len : ∀ (k : Nat) (l : Bs) (x : Bs) (n : Nat), l.length ≤ k → lit l = some (x, n) → x.length + 1 ≤ n ∧ n ≤ l.length := by
  intro k
  induction k with
  | zero => intro l x n hk h; rw [List.eq_nil_of_length_eq_zero (by omega : l.length = 0), lit_nil] at h; cases h
  | succ k ih =>
    intro l x n hk h
    match l, hk, h with
    | [], _, h => rw [lit_nil] at h; cases h
    | c :: r, hk, h =>
      by_cases h1 : c = 34
      · subst h1; rw [lit_quote] at h; injection h with h; injection h with h2 h3; subst h2; subst h3; simp
      · by_cases h2 : c.toNat < 32 ∨ 126 < c.toNat
        · rw [lit_bad _ _ h2] at h; cases h
        · by_cases h3 : c = 92
          · subst h3
            cases he : esc r with
            | none => rw [lit_esc_none _ he] at h; cases h
            | some p =>
              obtain ⟨y, m⟩ := p
              rw [lit_esc _ _ _ he] at h
              have hp := esc_pos he
              cases hl : lit (r.drop m) with
              | none => rw [hl] at h; cases h
              | some q =>
                rw [hl] at h
                simp only [Option.map_some, Option.some.injEq, Prod.mk.injEq] at h
                obtain ⟨rfl, rfl⟩ := h
                have := ih (r.drop m) q.1 q.2 (by simp at hk ⊢; omega) hl
                simp at this ⊢
                omega
          · rw [lit_plain _ _ h1 h2 h3] at h
            cases hl : lit r with
            | none => rw [hl] at h; cases h
            | some q =>
              rw [hl] at h
              simp only [Option.map_some, Option.some.injEq, Prod.mk.injEq] at h
              obtain ⟨rfl, rfl⟩ := h
              have := ih r q.1 q.2 (by simp at hk; omega) hl
              simp at this ⊢
              omega
def literalL : Bs → Bs × Nat
  | [] => ([], 0)
  | c :: r => if c = 34 then (match lit r with
    | some (x, n) => (x, n + 1)
    | none => ([], 0)) else ([], 0)
def literal (a : ByteArray) : ByteArray × Int := (⟨(literalL a.data.toList).1.toArray⟩, ((literalL a.data.toList).2 : Int))

/-! Quoting -/
def hexd (n : Nat) : UInt8 := UInt8.ofNat (if n < 10 then 48 + n else 87 + n)
def q1 (c : UInt8) : Bs :=
  if c = 34 ∨ c = 92 then [92, c] else if c = 10 then [92, 110] else if c.toNat < 32 ∨ 126 < c.toNat then [92, 120, hexd (c.toNat / 16), hexd (c.toNat % 16)] else [c]
def quoteL (l : Bs) : Bs := 34 :: (l.flatMap q1 ++ [34])
def quote (a : ByteArray) : ByteArray := ⟨(quoteL a.data.toList).toArray⟩
theorem q1_len (c : UInt8) : 1 ≤ (q1 c).length ∧ (q1 c).length ≤ 4 := by
  unfold q1
  constructor <;> (repeat' split) <;> simp
theorem flat_len (l : Bs) : (l.flatMap q1).length ≤ 4 * l.length := by
  induction l with
  | nil => simp
  | cons c l ih => have := q1_len c; simp at ih ⊢; omega
end Go.Proofs.YtlgkeeajcbooaaaDoor.Lx
