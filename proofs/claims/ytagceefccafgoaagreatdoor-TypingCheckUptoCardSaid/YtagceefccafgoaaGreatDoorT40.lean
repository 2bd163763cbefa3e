/- The natives of the reader's program are the program's functions: Itoa. No condition. The natives of the reader's program are the program's functions: Join. No condition. -/
import Derived.Lib.AppendIntMem
import Derived.Test.YtagceefccafgoaaGreatDoorT38
import Derived.Test.YtagceefccafgoaaGreatDoorT39
set_option linter.all false
namespace Go.Ev.Ty
open Go.Ev Go.Proofs Go.RowKit
set_option linter.unusedVariables false
variable [Consts]
theorem funcOk_of {P : Program} {f : FuncId} {fn : Func} (h1 : P.funcs[f]? = some fn) (h2 : fn.body.isSome = true) (h3 : (fn.name == "runtime.NumGoroutine") = false) : FuncOk P f :=
  ⟨fn, h1, h2, by simpa using h3⟩
theorem ofNat_digit (n : Nat) : UInt8.ofNat (48 + n) = 48 + UInt8.ofNat n := by rw [UInt8.ofNat_add]; rfl
theorem digitsB_eq : ∀ (k n : Nat) (acc : List UInt8), n < 10 ^ k → 0 < k → digitsB k n acc = Lib.decDigits n ++ acc
  | 0, n, acc, h, hk => absurd hk (Nat.lt_irrefl _)
  | k + 1, n, acc, h, hk => by
    unfold digitsB
    rw [Lib.decDigits]
    by_cases hn : n < 10
    · simp [hn, ofNat_digit]
    · have hk0 : 0 < k := by
        rcases Nat.eq_zero_or_pos k with e | e
        · subst e; simp at h; omega
        · exact e
      have hd : n / 10 < 10 ^ k := by
        rw [Nat.pow_succ] at h
        exact Nat.div_lt_of_lt_mul (by omega)
      rw [if_neg hn, dif_neg hn, digitsB_eq k (n / 10) _ hd hk0, ofNat_digit]
      simp
theorem nat_itoa (hom : ∀ w, Consts.om w → Lib.TabIs Tryz.prog w "internal/strconv.uint64pow10" .u64 Lib.pow10Tab) : CfAt Tryz.prog 120 natItoa := by
  intro us r hg w S vals hw hn0 hS hr
  unfold natItoa at hg
  split at hg
  · rename_i n
    split at hg
    · rename_i hn
      cases hg
      simp only [Reps, Rep] at hr
      obtain ⟨_, _, rfl, rfl, rfl⟩ := hr
      refine .inl ⟨funcOk_of Tryz.func120 (by kernel_rfl) (by kernel_rfl), (Tryz.strconv_Itoa n (by omega) hn.2 w (hom w hw)).mono fun e w' ⟨he, k, os, hw'⟩ => ⟨_, he, S, ?_, fun _ _ h => h, fun _ _ h => .inl h, ?_, ?_⟩⟩
      · rw [hw']; exact Lib.below_grow _ w (Nat.le_refl _) k os
      · intro r o h
        have hb : Below w.heap.size w w' := by rw [hw']; exact Lib.below_grow _ w (Nat.le_refl _) k os
        exact Nat.lt_of_lt_of_le (hS r o h) hb.size
      · have e1 : ¬ n < 0 := by omega
        simp only [ExpRep, mkStr, Rep, Lib.itoa, if_neg e1]
        rw [digitsB_eq 20 n.toNat [] (by omega) (by omega)]
        simp
    · cases hg
  · cases hg
end Go.Ev.Ty
namespace Go.Ev.Ty
open Go.Ev Go.Proofs Go.RowKit
set_option linter.unusedVariables false
variable [Consts]
theorem join_eq (sep : List UInt8) : ∀ l : List (List UInt8), joinB sep l = Lib.join l sep
  | [] => rfl
  | [x] => by simp [joinB, Lib.join_one]
  | x :: y :: l => by
    have ih := join_eq sep (y :: l)
    simp only [joinB, ih]
    simp [Lib.join, List.intercalate, List.intersperse]
/-- The texts of a list's rows lie one behind the other. -/
theorem rows_texts {w : World} {S : SSet} {L : LMap} {r sz : Nat} : ∀ {xs : List (List V)} {l : List (List UInt8)} {o : Nat}, strs xs = some l → RowsAt w S L r sz o xs →
    ∃ ts : List ByteArray, l = ts.map (·.data.toList) ∧ ts.length = xs.length ∧ (ts ≠ [] → sz = 1 ∧ S r o) ∧ ∀ (j : Nat) x, ts[j]? = some x → w.cell? ⟨r, o + j, none⟩ = some (.string x)
  | [], l, o, h, _ => by
    simp only [strs, Option.some.injEq] at h
    subst h
    exact ⟨[], rfl, rfl, fun h => absurd rfl h, fun j x h => by simp at h⟩
  | c :: xs, l, o, h, hr => by
    unfold strs at h
    split at h
    · rename_i he; cases he
    · rename_i s rest he
      cases he
      simp only [RowsAt, List.length_cons, List.length_nil, CellsAt] at hr
      obtain ⟨⟨hsz, ⟨_, hS, y, hy, hry⟩, _⟩, hrest⟩ := hr
      simp only [Rep] at hry
      subst hry
      cases hs : strs xs with
      | none => rw [hs] at h; cases h
      | some l' =>
        rw [hs] at h
        simp only [Option.map_some, Option.some.injEq] at h
        obtain ⟨ts, rfl, h1, h2, h3⟩ := rows_texts hs hrest
        refine ⟨s :: ts, by rw [← h]; rfl, by simp [h1], fun _ => ⟨by omega, hS⟩, fun j x hj => ?_⟩
        cases j with
        | zero => simp at hj; subst hj; exact hy
        | succ j =>
          have := h3 j x (by simpa using hj)
          rw [show o + (j + 1) = o + sz + j from by omega]
          exact this
    · cases h
theorem nat_join : CfAt Tryz.prog 89 natJoin := by
  intro us r hg w S vals hw hn0 hS hr
  unfold natJoin at hg
  split at hg
  · rename_i xs sep
    split at hg
    · rename_i l hl
      split at hg
      · rename_i hb
        cases hg
        simp only [Reps, Rep] at hr
        obtain ⟨_, _, rfl, ⟨oa, c, rfl, hc, hrows⟩, _, _, rfl, rfl, rfl⟩ := hr
        rcases hrows with rfl | ⟨g, o, sz, rfl, hrows⟩
        · simp only [strs, Option.some.injEq] at hl
          subst hl
          refine .inl ⟨funcOk_of Tryz.func89 (by kernel_rfl) (by kernel_rfl), (Tryz.strings_Join_none oa c sep w).mono fun e w' ⟨he, hw'⟩ => ⟨_, he, S, hw' ▸ Below.refl _ _, fun _ _ h => h, fun _ _ h => .inl h, hw' ▸ hS, ?_⟩⟩
          simp only [ExpRep, mkStr, Rep, joinB]
        · obtain ⟨ts, rfl, hlen, hsz, hcells⟩ := rows_texts hl hrows
          by_cases hne : ts = []
          · subst hne
            have hx0 : xs.length = 0 := hlen.symm
            rw [hx0]
            refine .inl ⟨funcOk_of Tryz.func89 (by kernel_rfl) (by kernel_rfl), (Tryz.strings_Join_none _ c sep w).mono fun e w' ⟨he, hw'⟩ => ⟨_, he, S, hw' ▸ Below.refl _ _, fun _ _ h => h, fun _ _ h => .inl h, hw' ▸ hS, ?_⟩⟩
            simp only [ExpRep, mkStr, Rep, List.map_nil, joinB]
          · have hg : g < w.heap.size := hS _ _ (hsz hne).2
            refine .inl ⟨funcOk_of Tryz.func89 (by kernel_rfl) (by kernel_rfl), ?_⟩
            have hcall := Tryz.strings_Join g o c ts sep w hcells hg (by simpa using hb.1) (by rw [hlen]; exact hc) (by rw [← join_eq]; exact hb.2)
            rw [hlen] at hcall
            refine hcall.mono fun e w' ⟨he, hb'⟩ => ⟨_, he, S, hb', fun _ _ h => h, fun _ _ h => .inl h, fun r o h => Nat.lt_of_lt_of_le (hS r o h) hb'.size, ?_⟩
            simp only [ExpRep, mkStr, Rep, join_eq]
      · cases hg
    · cases hg
  · cases hg
    simp only [Reps, Rep] at hr
    obtain ⟨_, _, rfl, ⟨oa, rfl⟩, _, _, rfl, rfl, rfl⟩ := hr
    rename_i sep
    refine .inl ⟨funcOk_of Tryz.func89 (by kernel_rfl) (by kernel_rfl), (Tryz.strings_Join_none oa 0 sep w).mono fun e w' ⟨he, hw'⟩ => ⟨_, he, S, hw' ▸ Below.refl _ _, fun _ _ h => h, fun _ _ h => .inl h, hw' ▸ hS, ?_⟩⟩
    simp only [ExpRep, mkStr, Rep]
  · cases hg
end Go.Ev.Ty
