/- The reference's Tokens answers every text of at most 65536 bytes, and each token that it returns is one of the four kinds, no longer than the text. -/
import Derived.Test.YtlgkeeajcbooaaaDoorPLx6
set_option linter.unusedVariables false
set_option linter.unusedSimpArgs false
namespace Go.Proofs.YtlgkeeajcbooaaaDoor.PurA
open Go.RowKit Go.Proofs.YtlgkeeajcbooaaaDoor.PL Go.Proofs.YtlgkeeajcbooaaaDoorW.PrintWords Go.Proofs.YtlgkeeajcbooaaaDoorW.PrintLast

theorem w64 {x : Int} (h0 : -9223372036854775808 ≤ x) (h1 : x ≤ 9223372036854775807) : wrap64 x = x := by unfold wrap64; omega
theorem sz (l : List UInt8) : ((⟨l.toArray⟩ : ByteArray).size : Int) = (l.length : Int) := rfl
theorem bt_lt (l : List UInt8) (i : Int) : 0 ≤ bt ⟨l.toArray⟩ i ∧ bt ⟨l.toArray⟩ i ≤ 255 := bt_range _ _
theorem extl (l : List UInt8) (i : Nat) : (⟨l.toArray⟩ : ByteArray).extract i (⟨l.toArray⟩ : ByteArray).size = ⟨(l.drop i).toArray⟩ := by
  apply ByteArray.ext
  apply Array.toList_inj.1
  simp [ByteArray.data_extract]
  exact List.take_of_length_le (by rw [List.length_drop]; exact Nat.le_refl _)

theorem digit_tells (c : Int) : sederuntref06_digit.f c = some (decide (48 ≤ c ∧ c ≤ 57)) := by
  unfold sederuntref06_digit.f
  by_cases h : 48 ≤ c
  · rw [if_pos h]; simp [h]
  · rw [if_neg h]; simp [h]
theorem letter_tells (c : Int) : sederuntref06_letter.f c = some (decide ((97 ≤ c ∧ c ≤ 122) ∨ (65 ≤ c ∧ c ≤ 90) ∨ c = 95)) := by
  unfold sederuntref06_letter.f
  repeat' split
  all_goals (congr 1; rw [Bool.eq_iff_iff]; simp; try omega)
theorem white_tells (c : Int) : sederuntref06_white.f c = some (decide (c = 32 ∨ c = 9 ∨ c = 13 ∨ c = 10)) := by
  unfold sederuntref06_white.f
  repeat' split
  all_goals (congr 1; rw [Bool.eq_iff_iff]; simp; try omega)

theorem int_l0 (l : List UInt8) (hl : l.length ≤ 65536) : ∀ (d k : Nat) (v i : Int), 0 ≤ i → i + d = l.length → 2 * d + 2 ≤ k → 0 ≤ v → v ≤ 9223372036854775807 →
    ∃ v' n, sederuntref06_integer.l0 k ⟨l.toArray⟩ v i = some (v', n) ∧ 0 ≤ v' ∧ v' ≤ 9223372036854775807 ∧ 0 ≤ n ∧ n ≤ l.length := by
  intro d
  induction d with
  | zero =>
    intro k v i h0 hd hk hv0 hv1
    obtain ⟨k, rfl⟩ : ∃ m, k = m + 2 := ⟨k - 2, by omega⟩
    refine ⟨v, i, ?_, hv0, hv1, h0, by omega⟩
    simp only [sederuntref06_integer.l0, sz]
    rw [if_neg (by omega)]
    simp [sederuntref06_integer.j1]
  | succ d ih =>
    intro k v i h0 hd hk hv0 hv1
    obtain ⟨k, rfl⟩ : ∃ m, k = m + 2 := ⟨k - 2, by omega⟩
    simp only [sederuntref06_integer.l0, sz]
    rw [if_pos (by omega), if_pos h0, digit_tells]
    simp only [Option.bind_some]
    have hb := bt_lt l i
    by_cases hdg : 48 ≤ bt ⟨l.toArray⟩ i ∧ bt ⟨l.toArray⟩ i ≤ 57
    · rw [decide_eq_true hdg]
      simp only [sederuntref06_integer.j1, sz, if_true]
      rw [if_pos h0, if_pos (by omega)]
      generalize bt ⟨l.toArray⟩ i = c at hb hdg ⊢
      have e : (c - 48) % 256 = c - 48 := by omega
      rw [e]
      have key : ∃ v' n, (if v > (9223372036854775807 - (c - 48)) / 10 then some (0, 0) else sederuntref06_integer.l0 k ⟨l.toArray⟩ (wrap64 (wrap64 (v * 10) + (c - 48))) (wrap64 (i + 1))) = some (v', n) ∧ 0 ≤ v' ∧ v' ≤ 9223372036854775807 ∧ 0 ≤ n ∧ n ≤ (l.length : Int) := by
        by_cases ho : v > (9223372036854775807 - (c - 48)) / 10
        · exact ⟨0, 0, by rw [if_pos ho], by omega, by omega, by omega, by omega⟩
        · rw [if_neg ho, w64 (x := v * 10) (by omega) (by omega), w64 (x := v * 10 + (c - 48)) (by omega) (by omega), w64 (x := i + 1) (by omega) (by omega)]
          exact ih k _ _ (by omega) (by omega) (by omega) (by omega) (by omega)
      by_cases hi : i > 0
      · rw [if_pos hi, if_pos (by omega)]
        by_cases h48 : bt ⟨l.toArray⟩ 0 = 48
        · rw [if_pos h48]; exact ⟨0, 0, rfl, by omega, by omega, by omega, by omega⟩
        · rw [if_neg h48]; exact key
      · rw [if_neg hi]; exact key
    · rw [decide_eq_false hdg]
      exact ⟨v, i, by simp [sederuntref06_integer.j1], hv0, hv1, h0, by omega⟩
theorem int_tells (l : List UInt8) (hl : l.length ≤ 65536) (k : Nat) (hk : 2 * l.length + 2 ≤ k) :
    ∃ v n, sederuntref06_integer.f k ⟨l.toArray⟩ = some (v, n) ∧ 0 ≤ v ∧ v ≤ 9223372036854775807 ∧ 0 ≤ n ∧ n ≤ l.length := int_l0 l hl l.length k 0 0 (by omega) (by omega) hk (by omega) (by omega)

theorem hex_l0 (c : Int) : ∀ (d k : Nat) (i : Int), 0 ≤ i → i + d = 16 → d + 1 ≤ k → ∃ r, sederuntref06_hex.l0 k c i = some r ∧ -1 ≤ r ∧ r < 16 := by
  intro d
  induction d with
  | zero =>
    intro k i h0 hd hk
    obtain ⟨k, rfl⟩ : ∃ m, k = m + 1 := ⟨k - 1, by omega⟩
    exact ⟨-1, by simp only [sederuntref06_hex.l0]; rw [if_neg (by omega)], by omega, by omega⟩
  | succ d ih =>
    intro k i h0 hd hk
    obtain ⟨k, rfl⟩ : ∃ m, k = m + 1 := ⟨k - 1, by omega⟩
    simp only [sederuntref06_hex.l0]
    rw [if_pos (by omega), if_pos h0]
    split
    · exact ⟨i, rfl, by omega, by omega⟩
    · rw [w64 (by omega) (by omega)]
      exact ih k (i + 1) (by omega) (by omega) (by omega)
theorem hex_tells (c : Int) (k : Nat) (hk : 17 ≤ k) : ∃ r, sederuntref06_hex.f k c = some r ∧ -1 ≤ r ∧ r < 16 := hex_l0 c 16 k 0 (by omega) (by omega) hk

theorem char_tells (l : List UInt8) (k : Nat) (hk : 25 ≤ k) : ∃ c n, sederuntref06_char.f k ⟨l.toArray⟩ = some (c, n) ∧ 0 ≤ c ∧ c ≤ 255 ∧ 0 ≤ n ∧ n ≤ l.length := by
  obtain ⟨k, rfl⟩ : ∃ m, k = m + 3 := ⟨k - 3, by omega⟩
  unfold sederuntref06_char.f
  have hto : (⟨l.toArray⟩ : ByteArray).toList = l := by simp
  rw [hto, sz]
  have z : ∃ c n : Int, some ((0 : Int), (0 : Int)) = some (c, n) ∧ 0 ≤ c ∧ c ≤ 255 ∧ 0 ≤ n ∧ n ≤ (l.length : Int) := ⟨0, 0, rfl, by omega, by omega, by omega, by omega⟩
  have j0t : ∃ c n, sederuntref06_char.j0 (k + 3) ⟨l.toArray⟩ true = some (c, n) ∧ 0 ≤ c ∧ c ≤ 255 ∧ 0 ≤ n ∧ n ≤ (l.length : Int) := by simpa [sederuntref06_char.j0] using z
  by_cases hn : l = []
  · rw [if_pos hn]; exact j0t
  · rw [if_neg hn]
    have hp : 0 < (l.length : Int) := by cases l with | nil => exact absurd rfl hn | cons a b => simp
    rw [if_pos hp]
    split
    · exact j0t
    · split
      · exact j0t
      · generalize (bt ⟨l.toArray⟩ 0 == 34) = b
        cases b with
        | true => exact j0t
        | false =>
          simp only [sederuntref06_char.j0, Bool.false_eq_true, if_false, sz]
          rw [if_pos hp]
          have b0 := bt_lt l 0
          have b1 := bt_lt l 1
          split
          · split
            · exact z
            · rename_i h2
              rw [if_pos (by omega)]
              have j1a : ∀ q, ∃ c n, sederuntref06_char.j1 (k + 2) ⟨l.toArray⟩ (bt ⟨l.toArray⟩ 1) q = some (c, n) ∧ 0 ≤ c ∧ c ≤ 255 ∧ 0 ≤ n ∧ n ≤ (l.length : Int) := by
                intro q
                have j2a : ∀ q, 4 ≤ l.length ∨ q = false → ∃ c n, sederuntref06_char.j2 (k + 1) ⟨l.toArray⟩ q = some (c, n) ∧ 0 ≤ c ∧ c ≤ 255 ∧ 0 ≤ n ∧ n ≤ (l.length : Int) := by
                  intro q hq
                  simp only [sederuntref06_char.j2, sz]
                  cases q with
                  | false => simpa using z
                  | true =>
                    have h4 : 4 ≤ l.length := by simpa using hq
                    rw [if_pos rfl, if_pos (by omega)]
                    obtain ⟨r1, e1, _, _⟩ := hex_tells (bt ⟨l.toArray⟩ 2) k (by omega)
                    obtain ⟨r2, e2, _, _⟩ := hex_tells (bt ⟨l.toArray⟩ 3) k (by omega)
                    rw [e1]; simp only [Option.bind_some]
                    rw [if_pos (by omega), e2]; simp only [Option.bind_some]
                    exact ⟨_, 4, rfl, by omega, by omega, by omega, by omega⟩
                simp only [sederuntref06_char.j1, sz]
                cases q with
                | true => rw [if_pos rfl, if_pos (by omega)]; exact ⟨_, 2, rfl, b1.1, b1.2, by omega, by omega⟩
                | false =>
                  rw [if_neg (by simp)]
                  split
                  · exact ⟨10, 2, rfl, by omega, by omega, by omega, by omega⟩
                  · split
                    · split
                      · rename_i h4
                        rw [if_pos (by omega)]
                        obtain ⟨r1, e1, _, _⟩ := hex_tells (bt ⟨l.toArray⟩ 2) (k + 1) (by omega)
                        obtain ⟨r2, e2, _, _⟩ := hex_tells (bt ⟨l.toArray⟩ 3) (k + 1) (by omega)
                        rw [e1]; simp only [Option.bind_some]
                        split
                        · rw [if_pos (by omega), e2]; simp only [Option.bind_some]
                          exact j2a _ (.inl (by omega))
                        · exact j2a _ (.inr rfl)
                      · exact j2a _ (.inr rfl)
                    · exact z
              split <;> exact j1a _
          · exact ⟨_, 1, rfl, b0.1, b0.2, by omega, by omega⟩

theorem str_l0 (l : List UInt8) (hl : l.length ≤ 65536) : ∀ (d k : Nat) (x : ByteArray) (i : Int), 1 ≤ i → i + d = l.length → 2 * d + 30 ≤ k → (x.size : Int) + 1 ≤ i →
    ∃ y n, sederuntref06_str.l0 k ⟨l.toArray⟩ x i = some (y, n) ∧ 0 ≤ n ∧ n ≤ l.length ∧ (n ≠ 0 → (y.size : Int) + 1 ≤ n) := by
  intro d
  induction d using Nat.strongRecOn with
  | _ d ih =>
    intro k x i h0 hd hk hx
    obtain ⟨k, rfl⟩ : ∃ m, k = m + 2 := ⟨k - 2, by omega⟩
    have jf : ∃ y n, sederuntref06_str.j2 (k + 1) ⟨l.toArray⟩ x i false = some (y, n) ∧ 0 ≤ n ∧ n ≤ (l.length : Int) ∧ (n ≠ 0 → (y.size : Int) + 1 ≤ n) := by
      simp only [sederuntref06_str.j2, sz, Bool.false_eq_true, if_false]
      split
      · exact ⟨_, 0, rfl, by omega, by omega, fun h => absurd rfl h⟩
      · rw [w64 (by omega) (by omega)]
        exact ⟨x, i + 1, rfl, by omega, by omega, fun _ => by omega⟩
    simp only [sederuntref06_str.l0, sz]
    split
    · rename_i hlt
      rw [if_pos (by omega)]
      generalize (bt ⟨l.toArray⟩ i != 34) = b
      cases b with
      | false => exact jf
      | true =>
        simp only [sederuntref06_str.j2, sz, if_true]
        rw [if_pos (by omega), if_pos (by omega), extl]
        obtain ⟨c, n, hc, _, _, hn0, hn1⟩ := char_tells (l.drop i.toNat) k (by omega)
        rw [hc]
        simp only [Option.bind_some]
        split
        · exact ⟨_, 0, rfl, by omega, by omega, fun h => absurd rfl h⟩
        · rename_i hnz
          have hs1 : (strOfNums [c]).size = 1 := rfl
          have hdl : (l.drop i.toNat).length = l.length - i.toNat := List.length_drop ..
          rw [if_pos (by rw [hs1]; omega), w64 (by omega) (by omega)]
          refine ih (d - n.toNat) (by omega) k _ (i + n) (by omega) (by omega) (by omega) ?_
          rw [ByteArray.size_append, hs1]
          omega
    · exact jf
theorem str_tells (l : List UInt8) (hl : l.length ≤ 65536) (k : Nat) (hk : 2 * l.length + 35 ≤ k) :
    ∃ y n, sederuntref06_str.f k ⟨l.toArray⟩ = some (y, n) ∧ 0 ≤ n ∧ n ≤ l.length ∧ (n ≠ 0 → (y.size : Int) + 1 ≤ n) := by
  obtain ⟨k, rfl⟩ : ∃ m, k = m + 1 := ⟨k - 1, by omega⟩
  unfold sederuntref06_str.f
  have hto : (⟨l.toArray⟩ : ByteArray).toList = l := by simp
  rw [hto, sz]
  have z : ∃ y n, sederuntref06_str.j0 (k + 1) ⟨l.toArray⟩ true = some (y, n) ∧ 0 ≤ n ∧ n ≤ (l.length : Int) ∧ (n ≠ 0 → (y.size : Int) + 1 ≤ n) := by
    simp only [sederuntref06_str.j0, if_true]
    exact ⟨_, 0, rfl, by omega, by omega, fun h => absurd rfl h⟩
  by_cases hn : l = []
  · rw [if_pos hn]; exact z
  · rw [if_neg hn]
    have hp : 0 < (l.length : Int) := by cases l with | nil => exact absurd rfl hn | cons a b => simp
    rw [if_pos hp]
    generalize (bt ⟨l.toArray⟩ 0 != 34) = b
    cases b with
    | true => exact z
    | false =>
      simp only [sederuntref06_str.j0, Bool.false_eq_true, if_false]
      exact str_l0 l hl (l.length - 1) k _ 1 (by omega) (by omega) (by omega) (by show (0 : Int) + 1 ≤ 1; omega)

/-- A byte that a name may begin with; that it may go on with; a symbol. -/
def isLetter (c : UInt8) : Prop := (97 ≤ c.toNat ∧ c.toNat ≤ 122) ∨ (65 ≤ c.toNat ∧ c.toNat ≤ 90) ∨ c.toNat = 95
def isCont (c : UInt8) : Prop := isLetter c ∨ (48 ≤ c.toNat ∧ c.toNat ≤ 57)
def syms : List UInt8 := [123, 125, 40, 41, 91, 93, 44, 59, 58, 61, 47, 43, 45, 60, 62, 124, 38, 42]
/-- A token of which the text had n bytes. -/
inductive Good (n : Int) : S28 → Prop
  | name (b : List UInt8) (ln : Int) (h0 : ∃ c r, b = c :: r ∧ isLetter c) (h1 : ∀ c ∈ b, isCont c) (h2 : b.length ≤ 24) (h3 : (b.length : Int) ≤ n) : Good n ⟨1, ⟨b.toArray⟩, 0, ⟨#[]⟩, ln⟩
  | int (v ln : Int) (h0 : 0 ≤ v) (h1 : v ≤ 9223372036854775807) : Good n ⟨2, ⟨#[]⟩, v, ⟨#[]⟩, ln⟩
  | str (x : ByteArray) (ln : Int) (h : (x.size : Int) + 1 ≤ n) : Good n ⟨3, ⟨#[]⟩, 0, x, ln⟩
  | sym (c : UInt8) (ln : Int) (h : c ∈ syms) : Good n ⟨4, ⟨#[c]⟩, 0, ⟨#[]⟩, ln⟩
def TokOk (l : List UInt8) (r : Option (Int × ByteArray × Int × ByteArray × Int × Int)) : Prop :=
  ∃ a b c d e n, r = some (a, b, c, d, e, n) ∧ 0 ≤ n ∧ n ≤ (l.length : Int) ∧ (n ≠ 0 → ∀ ln, Good n ⟨a, b, c, d, ln⟩)
theorem TokOk.none_ (l : List UInt8) : TokOk l (some (0, (⟨#[]⟩ : ByteArray), 0, (⟨#[]⟩ : ByteArray), 0, 0)) := ⟨_, _, _, _, _, 0, rfl, by omega, by omega, fun h => absurd rfl h⟩
theorem extp (l : List UInt8) (i : Nat) : (⟨l.toArray⟩ : ByteArray).extract 0 i = ⟨(l.take i).toArray⟩ := by
  apply ByteArray.ext
  apply Array.toList_inj.1
  simp [ByteArray.data_extract]
theorem tok_name (l : List UInt8) (hl : l.length ≤ 65536) (hc : ∃ c r, l = c :: r ∧ isLetter c) : ∀ (d k i : Nat), i + d = l.length → d + 1 ≤ k → (∀ j, ∀ h : j < i, ∀ h' : j < l.length, isCont l[j]) → (i = 0 → 0 < d) →
    TokOk l (sederuntref06_token.l0 k ⟨l.toArray⟩ i) := by
  intro d
  induction d with
  | zero =>
    intro k i hd hk hall _
    obtain ⟨k, rfl⟩ : ∃ m, k = m + 1 := ⟨k - 1, by omega⟩
    simp only [sederuntref06_token.l0, sz]
    rw [if_neg (by omega)]
    split
    · exact TokOk.none_ l
    · rw [if_pos (by omega), if_pos (by omega), extp, Int.toNat_natCast]
      refine ⟨_, _, _, _, _, (i : Int), rfl, by omega, by omega, fun h ln => ?_⟩
      obtain ⟨c, r, rfl, hcl⟩ := hc
      refine Good.name _ ln ⟨c, r.take (i - 1), ?_, hcl⟩ ?_ ?_ ?_
      · obtain ⟨j, rfl⟩ : ∃ j, i = j + 1 := ⟨i - 1, by omega⟩
        simp
      · intro x hx
        obtain ⟨j, hj, rfl⟩ := List.mem_iff_getElem.1 hx
        rw [List.length_take] at hj
        rw [List.getElem_take]
        exact hall j (by omega) (by omega)
      · rw [List.length_take]; omega
      · rw [List.length_take]; omega
  | succ d ih =>
    intro k i hd hk hall _
    obtain ⟨k, rfl⟩ : ∃ m, k = m + 1 := ⟨k - 1, by omega⟩
    simp only [sederuntref06_token.l0, sz]
    have hi : i < l.length := by omega
    rw [if_pos (by omega), if_pos (by omega), letter_tells]
    simp only [Option.bind_some]
    have hb : bt ⟨l.toArray⟩ (i : Int) = (l[i].toNat : Int) := by rw [bt_list, Int.toNat_natCast]; simp [List.getD, List.getElem?_eq_getElem hi]
    have next : isCont l[i] → TokOk l (sederuntref06_token.l0 k ⟨l.toArray⟩ (wrap64 ((i : Int) + 1))) := fun hcc => by
      rw [w64 (by omega) (by omega), show (i : Int) + 1 = ((i + 1 : Nat) : Int) by omega]
      refine ih k (i + 1) (by omega) (by omega) (fun j h h' => ?_) (fun h => by omega)
      by_cases e : j = i
      · subst e; exact hcc
      · exact hall j (by omega) h'
    have stop : TokOk l (if (i : Int) > 24 then some (0, (⟨#[]⟩ : ByteArray), 0, (⟨#[]⟩ : ByteArray), 0, 0) else if (i : Int) ≤ (l.length : Int) then some (1, (⟨l.toArray⟩ : ByteArray).extract 0 (i : Int).toNat, 0, (⟨#[]⟩ : ByteArray), 0, (i : Int)) else none) := by
      split
      · exact TokOk.none_ l
      · rw [if_pos (by omega), extp, Int.toNat_natCast]
        refine ⟨_, _, _, _, _, (i : Int), rfl, by omega, by omega, fun h ln => ?_⟩
        obtain ⟨c, r, rfl, hcl⟩ := hc
        refine Good.name _ ln ⟨c, r.take (i - 1), ?_, hcl⟩ ?_ ?_ ?_
        · obtain ⟨j, rfl⟩ : ∃ j, i = j + 1 := ⟨i - 1, by omega⟩
          simp
        · intro x hx
          obtain ⟨j, hj, rfl⟩ := List.mem_iff_getElem.1 hx
          rw [List.length_take] at hj
          rw [List.getElem_take]
          exact hall j (by omega) (by omega)
        · rw [List.length_take]; omega
        · rw [List.length_take]; omega
    split
    · rename_i h; rw [hb] at h
      exact next (.inl (by have := of_decide_eq_true h; unfold isLetter; omega))
    · rw [digit_tells]
      simp only [Option.bind_some]
      split
      · rename_i h; rw [hb] at h
        exact next (.inr (by have := of_decide_eq_true h; omega))
      · exact stop
theorem tok_sym (l : List UInt8) (hn : 0 < l.length) : ∀ (d k i : Nat), i + d = 18 → d + 1 ≤ k → TokOk l (sederuntref06_token.l1 k ⟨l.toArray⟩ i) := by
  intro d
  induction d with
  | zero =>
    intro k i hd hk
    obtain ⟨k, rfl⟩ : ∃ m, k = m + 1 := ⟨k - 1, by omega⟩
    simp only [sederuntref06_token.l1]
    rw [if_neg (by omega)]
    exact TokOk.none_ l
  | succ d ih =>
    intro k i hd hk
    obtain ⟨k, rfl⟩ : ∃ m, k = m + 1 := ⟨k - 1, by omega⟩
    simp only [sederuntref06_token.l1, sz]
    rw [if_pos (by omega), if_pos (by omega), if_pos (by omega)]
    split
    · rename_i h
      rw [if_pos (by omega), if_pos (by omega), extp]
      refine ⟨_, _, _, _, _, 1, rfl, by omega, by omega, fun _ ln => ?_⟩
      match l, hn, h with
      | c :: r, _, h =>
        have e0 : bt ⟨(c :: r).toArray⟩ 0 = (c.toNat : Int) := bt_list _ _
        have e1 : bt (⟨#[123, 125, 40, 41, 91, 93, 44, 59, 58, 61, 47, 43, 45, 60, 62, 124, 38, 42]⟩ : ByteArray) (i : Int) = ((syms.getD i 0).toNat : Int) := by rw [show (⟨#[123, 125, 40, 41, 91, 93, 44, 59, 58, 61, 47, 43, 45, 60, 62, 124, 38, 42]⟩ : ByteArray) = ⟨syms.toArray⟩ from rfl, bt_list, Int.toNat_natCast]
        rw [e0, e1] at h
        have hc : syms.getD i 0 = c := UInt8.toNat_inj.1 (by omega)
        have hi : i < syms.length := by show i < 18; omega
        refine Good.sym c ln ?_
        rw [← hc, List.getD_eq_getElem?_getD, List.getElem?_eq_getElem hi]
        exact List.getElem_mem hi
    · rw [w64 (by omega) (by omega), show (i : Int) + 1 = ((i + 1 : Nat) : Int) by omega]
      exact ih k (i + 1) (by omega) (by omega)
theorem tok_tells (l : List UInt8) (hl : l.length ≤ 65536) (hn : 0 < l.length) (k : Nat) (hk : 2 * l.length + 40 ≤ k) : TokOk l (sederuntref06_token.f k ⟨l.toArray⟩) := by
  unfold sederuntref06_token.f
  rw [sz, if_pos (by omega), letter_tells]
  simp only [Option.bind_some]
  match l, hn, hl, hk with
  | c :: r, hn, hl, hk =>
    have e0 : bt ⟨(c :: r).toArray⟩ 0 = (c.toNat : Int) := bt_list _ _
    split
    · rename_i h; rw [e0] at h
      exact tok_name (c :: r) hl ⟨c, r, rfl, by have := of_decide_eq_true h; unfold isLetter; omega⟩ (c :: r).length k 0 (by omega) (by omega) (fun j h => by omega) (fun _ => hn)
    · rw [digit_tells]
      simp only [Option.bind_some]
      split
      · obtain ⟨v, n, e, h1, h2, h3, h4⟩ := int_tells (c :: r) hl k (by omega)
        rw [e]
        exact ⟨_, _, _, _, _, n, rfl, h3, h4, fun _ ln => Good.int v ln h1 h2⟩
      · split
        · obtain ⟨y, n, e, h1, h2, h3⟩ := str_tells (c :: r) hl k (by omega)
          rw [e]
          exact ⟨_, _, _, _, _, n, rfl, h1, h2, fun h ln => Good.str y ln (h3 h)⟩
        · exact tok_sym (c :: r) hn 18 k 0 (by omega) (by omega)

/-- All tokens so far are good, and their lengths are at most so many bytes. -/
inductive Goods : Int → List S28 → Prop
  | nil (n : Int) (h : 0 ≤ n) : Goods n []
  | snoc (m n : Int) (ts : List S28) (t : S28) (h : Goods m ts) (ht : Good n t) (hn : 1 ≤ n) : Goods (m + n) (ts ++ [t])
theorem Goods.mono {m n : Int} {ts : List S28} (h : Goods m ts) (hmn : m ≤ n) : Goods n ts := by
  cases h with
  | nil _ h0 => exact Goods.nil n (by omega)
  | snoc m' n' ts t h ht hn =>
    have : n = m' + (n - m') := by omega
    rw [this]
    refine Goods.snoc m' (n - m') ts t h ?_ (by omega)
    cases ht with
    | name b ln h0 h1 h2 h3 => exact Good.name b ln h0 h1 h2 (by omega)
    | int v ln h0 h1 => exact Good.int v ln h0 h1
    | str x ln h => exact Good.str x ln (by omega)
    | sym c ln h => exact Good.sym c ln h
theorem Goods.len {m : Int} {ts : List S28} (h : Goods m ts) : (ts.length : Int) ≤ m := by
  induction h with
  | nil n h => simpa using h
  | snoc m n ts t h ht hn ih => simp; omega
def ToksOk (l : List UInt8) (r : Option (List S28 × Int × Int)) : Prop :=
  ∃ ts line e, r = some (ts, line, e) ∧ (e = 0 → Goods (l.length : Int) ts)
theorem toks_l0 (l : List UInt8) (hl : l.length ≤ 65536) : ∀ (d k : Nat) (ts : List S28) (line : Int) (i : Nat), i + d = l.length → 4 * d + 200000 ≤ k → Goods (i : Int) ts →
    ToksOk l (sederuntref06_Tokens.l0 k ⟨l.toArray⟩ ts line i) := by
  intro d
  induction d using Nat.strongRecOn with
  | _ d ih =>
    intro k ts line i hd hk hg
    obtain ⟨k1, rfl⟩ : ∃ m, k = m + 1 := ⟨k - 1, by omega⟩
    obtain ⟨k, hk1⟩ : ∃ m, k1 = m + 1 := ⟨k1 - 1, by omega⟩
    simp only [sederuntref06_Tokens.l0, sz]
    split
    case isFalse => exact ⟨ts, 0, 0, rfl, fun _ => hg.mono (by omega)⟩
    rename_i hlt
    rw [if_pos (by omega), white_tells]
    simp only [Option.bind_some]
    have step1 : ∀ line', ToksOk l (sederuntref06_Tokens.l0 k1 ⟨l.toArray⟩ ts line' (wrap64 ((i : Int) + 1))) := fun line' => by
      rw [w64 (by omega) (by omega), show (i : Int) + 1 = ((i + 1 : Nat) : Int) by omega]
      exact ih (d - 1) (by omega) _ ts line' (i + 1) (by omega) (by omega) (hg.mono (by omega))
    split
    · split <;> exact step1 _
    · have tok : ToksOk l (sederuntref06_Tokens.j1 k1 ⟨l.toArray⟩ ts line i false) := by
        rw [hk1]
        simp only [sederuntref06_Tokens.j1, sz, Bool.false_eq_true, if_false]
        rw [if_pos (by omega), if_pos (by omega), extl, Int.toNat_natCast]
        have hdl : (l.drop i).length = l.length - i := List.length_drop ..
        obtain ⟨a, b, c, dd, e, n, he, h0, h1, h2⟩ := tok_tells (l.drop i) (by omega) (by omega) k (by omega)
        rw [he]
        simp only [Option.bind_some]
        split
        · exact ⟨_, line, 2, rfl, fun h => absurd h (by decide)⟩
        · rename_i hnz
          have hlen := hg.len
          rw [if_pos (by omega), w64 (by omega) (by omega), show (i : Int) + n = ((i + n.toNat : Nat) : Int) by omega]
          refine ih (d - n.toNat) (by omega) _ _ line (i + n.toNat) (by omega) (by omega) ?_
          rw [show ((i + n.toNat : Nat) : Int) = (i : Int) + n by omega]
          exact Goods.snoc _ n ts _ hg (h2 hnz line) (by omega)
      have skip : ∀ (d' k' i' : Nat), i + 1 ≤ i' → i' + d' = l.length → 4 * d' + 200001 ≤ k' → ToksOk l (sederuntref06_Tokens.l1 k' ⟨l.toArray⟩ ts line i') := by
        intro d'
        induction d' with
        | zero =>
          intro k' i' hi' hd' hk'
          obtain ⟨k', rfl⟩ : ∃ m, k' = m + 1 := ⟨k' - 1, by omega⟩
          simp only [sederuntref06_Tokens.l1, sz]
          rw [if_neg (by omega)]
          obtain ⟨k', rfl⟩ : ∃ m, k' = m + 1 := ⟨k' - 1, by omega⟩
          simp only [sederuntref06_Tokens.l0, sz]
          rw [if_neg (by omega)]
          exact ⟨ts, 0, 0, rfl, fun _ => hg.mono (by omega)⟩
        | succ d' ih' =>
          intro k' i' hi' hd' hk'
          obtain ⟨k', rfl⟩ : ∃ m, k' = m + 1 := ⟨k' - 1, by omega⟩
          simp only [sederuntref06_Tokens.l1, sz]
          rw [if_pos (by omega), if_pos (by omega)]
          split
          · exact ih (d' + 1) (by omega) k' ts line i' (by omega) (by omega) (hg.mono (by omega))
          · rw [w64 (by omega) (by omega), show (i' : Int) + 1 = ((i' + 1 : Nat) : Int) by omega]
            exact ih' k' (i' + 1) (by omega) (by omega) (by omega)
      have com : ∀ q, (q = true → bt ⟨l.toArray⟩ (i : Int) = 47) → ToksOk l (sederuntref06_Tokens.j1 k1 ⟨l.toArray⟩ ts line i q) := by
        intro q hq
        rw [hk1]
        cases q with
        | false => rw [← hk1]; exact tok
        | true =>
          simp only [sederuntref06_Tokens.j1, if_true]
          obtain ⟨k2, rfl⟩ : ∃ m, k = m + 1 := ⟨k - 1, by omega⟩
          simp only [sederuntref06_Tokens.l1, sz]
          rw [if_pos (by omega), if_pos (by omega), hq rfl, if_neg (by decide), w64 (by omega) (by omega), show (i : Int) + 1 = ((i + 1 : Nat) : Int) by omega]
          exact skip (d - 1) k2 (i + 1) (by omega) (by omega) (by omega)
      split
      · rename_i h47
        split
        · rename_i hlt2
          rw [w64 (by omega) (by omega)] at hlt2
          rw [if_pos (by rw [w64 (by omega) (by omega)]; omega), if_pos (by rw [w64 (by omega) (by omega)]; omega)]
          exact com _ (fun _ => h47)
        · exact tok
      · exact tok
theorem toks_tells (s : ByteArray) : ∃ k, ∃ ts line e, sederuntref06_Tokens.f k s = some (ts, line, e) ∧ (e = 0 → s.size ≤ 1000 → Goods 1000 ts) := by
  obtain ⟨⟨l⟩⟩ := s
  unfold sederuntref06_Tokens.f
  by_cases h : ((⟨⟨l⟩⟩ : ByteArray).size : Int) > 65536
  · exact ⟨0, [], 0, 3, by rw [if_pos h], fun h => absurd h (by decide)⟩
  · have h' : ¬ ((⟨l.toArray⟩ : ByteArray).size : Int) > 65536 := h
    rw [sz] at h'
    obtain ⟨ts, line, e, he, hg⟩ := toks_l0 l (by omega) l.length (4 * l.length + 200000) [] 1 0 (by omega) (Nat.le_refl _) (Goods.nil _ (by omega))
    refine ⟨4 * l.length + 200000, ts, line, e, by rw [if_neg h]; exact he, fun h0 hs => (hg h0).mono ?_⟩
    have this : l.length ≤ 1000 := hs
    omega
end Go.Proofs.YtlgkeeajcbooaaaDoor.PurA
