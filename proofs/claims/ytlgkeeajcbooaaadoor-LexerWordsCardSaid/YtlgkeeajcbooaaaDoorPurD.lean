/- The pure statement of LexerWords: for every text and every choice of the separator, the law's function comes to true. -/
import Derived.Test.YtlgkeeajcbooaaaDoorPurC
set_option linter.unusedVariables false
set_option linter.unusedSimpArgs false
namespace Go.Proofs.YtlgkeeajcbooaaaDoor.PurD
open Go.RowKit Go.Proofs.YtlgkeeajcbooaaaDoor.PL Go.Proofs.YtlgkeeajcbooaaaDoor.PurA Go.Proofs.YtlgkeeajcbooaaaDoor.PurB Go.Proofs.YtlgkeeajcbooaaaDoor.PurC Go.Proofs.YtlgkeeajcbooaaaDoorW.PrintWords Go.Proofs.YtlgkeeajcbooaaaDoorW.PrintLast

theorem up {α : Type} {F : Nat → Option α} (h : ∀ k, LeO (F k) (F (k + 1))) {k : Nat} {r : α} (hr : F k = some r) : ∀ m, k ≤ m → F m = some r := by
  intro m hm
  induction m with
  | zero => obtain rfl : k = 0 := (by omega); exact hr
  | succ m ih =>
    by_cases e : k = m + 1
    · subst e; exact hr
    · exact h m r (ih (by omega))
theorem awake_one : sederuntlaw06_awake.f 60 = some true := by kernel_rfl
theorem awake_up (m : Nat) (hm : 60 ≤ m) : sederuntlaw06_awake.f m = some true := up sederuntlaw06_awake.mono awake_one m hm

theorem good_len {n : Int} {t : S28} (h : PurA.Good n t) (hn : 1 ≤ n) : ((wordL t).length : Int) ≤ 24 + 4 * n ∧ (t.f3.size : Int) ≤ n := by
  cases h with
  | name b ln h0 h1 h2 h3 =>
    have hw : wordL ⟨1, ⟨b.toArray⟩, 0, ⟨#[]⟩, ln⟩ = b := by simp [wordL]
    rw [hw]
    exact ⟨by omega, by show ((0 : Nat) : Int) ≤ n; omega⟩
  | int v ln h0 h1 =>
    obtain ⟨u, rfl⟩ := Int.eq_ofNat_of_zero_le h0
    have hw : wordL ⟨2, ⟨#[]⟩, (u : Int), ⟨#[]⟩, ln⟩ = Lib.decDigits u := by simp [wordL, Lib.itoa]
    rw [hw]
    have := (dd u).2.2.2.2.2 19 (by omega) (by omega)
    exact ⟨by omega, by show ((0 : Nat) : Int) ≤ n; omega⟩
  | str x ln h =>
    have hw : wordL ⟨3, ⟨#[]⟩, 0, x, ln⟩ = Lx.quoteL x.data.toList := by simp [wordL]
    rw [hw]
    have := Lx.flat_len x.data.toList
    have e : x.data.toList.length = x.size := by simp
    refine ⟨?_, by show (x.size : Int) ≤ n; omega⟩
    simp only [Lx.quoteL, List.length_cons, List.length_append, List.length_nil]
    omega
  | sym c ln h =>
    have hw : wordL ⟨4, ⟨#[c]⟩, 0, ⟨#[]⟩, ln⟩ = [c] := by simp [wordL]
    rw [hw]
    exact ⟨by simp; omega, by show ((0 : Nat) : Int) ≤ n; omega⟩
theorem allGood_snoc {ts : List S28} (h : AllGood ts) {n : Int} {t : S28} (ht : PurA.Good n t) (hs : t.f3.size ≤ 1000000) : AllGood (ts ++ [t]) := by
  induction h with
  | nil => exact AllGood.cons n t [] ht hs AllGood.nil
  | cons m u us hu hs' hr ih => exact AllGood.cons m u _ hu hs' ih
theorem goods_all (sp : List UInt8) (hsp : sp.length ≤ 6) {m : Int} {ts : List S28} (h : Goods m ts) : m ≤ 1000 → AllGood ts ∧ ((textL sp ts).length : Int) ≤ 30 * ts.length + 4 * m ∧ (ts.length : Int) ≤ m ∧ ∀ t ∈ ts, (t.f3.size : Int) ≤ m ∧ (0 ≤ t.f2 ∧ t.f2 ≤ 9223372036854775807) ∧ (t.f0 = 1 ∨ t.f0 = 2 ∨ t.f0 = 3 ∨ t.f0 = 4) := by
  induction h with
  | nil n h => intro _; exact ⟨AllGood.nil, by simp [textL]; omega, by simpa using h, fun t ht => by cases ht⟩
  | snoc m n ts t h ht hn ih =>
    intro hm
    obtain ⟨h1, h2, h3, h4⟩ := ih (by omega)
    have hl := good_len ht hn
    have h0 : 0 ≤ m := by have := h.len; omega
    refine ⟨allGood_snoc h1 ht (by omega), ?_, by simp; omega, ?_⟩
    · have e : textL sp (ts ++ [t]) = textL sp ts ++ (wordL t ++ sp) := by simp [textL]
      rw [e, List.length_append, List.length_append, List.length_append, List.length_singleton]
      omega
    · intro u hu
      rcases List.mem_append.1 hu with hu | hu
      · have := h4 u hu; exact ⟨by omega, this.2⟩
      · rw [List.mem_singleton.1 hu]
        refine ⟨by omega, ?_⟩
        cases ht <;> simp <;> omega
theorem word_tells (t : S28) (hs : t.f3.size ≤ 1000) (h2 : 0 ≤ t.f2 ∧ t.f2 ≤ 9223372036854775807) (hk4 : t.f0 = 1 ∨ t.f0 = 2 ∨ t.f0 = 3 ∨ t.f0 = 4) (k : Nat) : lexer_Word.f (k + 1) t.f0 t.f1 t.f2 t.f3 t.f4 = some ⟨(wordL t).toArray⟩ := by
  unfold lexer_Word.f wordL
  have e1 : (⟨t.f1.data.toList.toArray⟩ : ByteArray) = t.f1 := by simp
  rcases hk4 with h | h | h | h
  · simp [h, lexer_Word.j0]
  · simp only [h, lexer_Word.j0]
    simp [strconv_FormatInt_15.f]
    omega
  · simp only [h, lexer_Word.j0]
    simp [lexer_Quote.f, Lx.quote]
    omega
  · simp [h, lexer_Word.j0]
theorem same_tells (xs ys : List S28) (hl : xs.length = ys.length) (hlen : xs.length ≤ 100000) (hs : ∀ i, ∀ h : i < ys.length, ∀ h' : i < xs.length, SameBut ys[i] xs[i]) : ∀ (d k i : Nat), i + d = xs.length → d + 1 ≤ k →
    sederuntref06_Same.l0 k xs ys false i = some true := by
  intro d
  induction d with
  | zero =>
    intro k i hd hk
    obtain ⟨k, rfl⟩ : ∃ m, k = m + 1 := ⟨k - 1, by omega⟩
    simp only [sederuntref06_Same.l0]
    rw [if_neg (by omega)]
  | succ d ih =>
    intro k i hd hk
    obtain ⟨k, rfl⟩ : ∃ m, k = m + 1 := ⟨k - 1, by omega⟩
    simp only [sederuntref06_Same.l0]
    have hx : i < xs.length := by omega
    have hy : i < ys.length := by omega
    have ex : rd_T28 xs (i : Int) = xs[i] := by unfold rd_T28; rw [Int.toNat_natCast]; simp [List.getD, List.getElem?_eq_getElem hx]
    have ey : rd_T28 ys (i : Int) = ys[i] := by unfold rd_T28; rw [Int.toNat_natCast]; simp [List.getD, List.getElem?_eq_getElem hy]
    obtain ⟨s0, s1, s2, s3⟩ := hs i hy hx
    rw [if_pos (by omega), if_pos (by omega), if_pos (by omega), if_neg (by simp), ex, ey, s0, s1, s2, s3]
    simp only [beq_self_eq_true, Bool.not_true, Bool.or_self, Bool.false_eq_true, if_false]
    rw [w64 (by omega) (by omega), show (i : Int) + 1 = ((i + 1 : Nat) : Int) by omega]
    exact ih k (i + 1) (by omega) (by omega)

def sepsB : List ByteArray := [(⟨#[32]⟩ : ByteArray), (⟨#[10]⟩ : ByteArray), (⟨#[9, 13]⟩ : ByteArray), (⟨#[32, 47, 47, 32, 34, 10]⟩ : ByteArray), (⟨#[32, 47, 47, 10]⟩ : ByteArray)]
theorem sep_of (x : Int) (h0 : 0 ≤ x) : ∃ sp ∈ seps, rdOf ByteArray.empty sepsB (Int.tmod x 5) = ⟨sp.toArray⟩ ∧ sp.length ≤ 6 ∧ 0 ≤ Int.tmod x 5 ∧ Int.tmod x 5 < 5 := by
  have e : Int.tmod x 5 = x % 5 := by rw [Int.tmod_eq_emod_of_nonneg h0]
  rw [e]
  have h1 : 0 ≤ x % 5 := by omega
  have h2 : x % 5 < 5 := by omega
  obtain ⟨j, hj⟩ := Int.eq_ofNat_of_zero_le h1
  rw [hj] at h2 ⊢
  have hj5 : j < 5 := by omega
  match j, hj5 with
  | 0, _ => exact ⟨[32], by simp [seps], rfl, by simp, by omega, by omega⟩
  | 1, _ => exact ⟨[10], by simp [seps], rfl, by simp, by omega, by omega⟩
  | 2, _ => exact ⟨[9, 13], by simp [seps], rfl, by simp, by omega, by omega⟩
  | 3, _ => exact ⟨[32, 47, 47, 32, 34, 10], by simp [seps], rfl, by simp, by omega, by omega⟩
  | 4, _ => exact ⟨[32, 47, 47, 10], by simp [seps], rfl, by simp, by omega, by omega⟩
theorem cat_list (a b : List UInt8) : (⟨a.toArray⟩ : ByteArray) ++ (⟨b.toArray⟩ : ByteArray) = ⟨(a ++ b).toArray⟩ := by
  apply ByteArray.ext
  apply Array.toList_inj.1
  simp
theorem text_take (sp : List UInt8) (ts : List S28) (i : Nat) (h : i < ts.length) : textL sp (ts.take (i + 1)) = textL sp (ts.take i) ++ (wordL ts[i] ++ sp) := by
  unfold textL; rw [List.take_succ_eq_append_getElem h, List.flatMap_append]; simp
theorem text_le (sp : List UInt8) (ts : List S28) (i : Nat) : (textL sp (ts.take i)).length ≤ (textL sp ts).length := by
  have e : textL sp ts = textL sp (ts.take i) ++ textL sp (ts.drop i) := by unfold textL; rw [← List.flatMap_append, List.take_append_drop]
  rw [e, List.length_append]; omega
theorem law_l0 (a1 : Int) (h1 : 0 ≤ a1) (sp : List UInt8) (hsp : sp ∈ seps) (hsel : rdOf ByteArray.empty sepsB (Int.tmod a1 5) = ⟨sp.toArray⟩) (hm0 : 0 ≤ Int.tmod a1 5) (hm5 : Int.tmod a1 5 < 5) (ts : List S28) (hlen : ts.length ≤ 1000) (hg : AllGood ts) (htl : (textL sp ts).length ≤ 60000)
    (hall : ∀ t ∈ ts, (t.f3.size : Int) ≤ 1000 ∧ (0 ≤ t.f2 ∧ t.f2 ≤ 9223372036854775807) ∧ (t.f0 = 1 ∨ t.f0 = 2 ∨ t.f0 = 3 ∨ t.f0 = 4)) :
    ∀ (d k i : Nat), i + d = ts.length → d + 5000 ≤ k → sederuntlaw06_LexerWords.l0 k a1 ts ⟨(textL sp (ts.take i)).toArray⟩ ts (ts.length : Int) (i : Int) = some true := by
  intro d
  induction d with
  | zero =>
    intro k i hd hk
    obtain ⟨k, rfl⟩ : ∃ m, k = m + 1 := ⟨k - 1, by omega⟩
    simp only [sederuntlaw06_LexerWords.l0]
    rw [if_neg (by omega), List.take_of_length_le (by omega)]
    obtain ⟨us, e, hl, hs⟩ := toks_text sp hsp ts hg htl (fun t ht => by have := (hall t ht).1; omega) k [] 1 (by omega) (by simp; omega)
    have et : lexer_Tokens.f k ⟨(textL sp ts).toArray⟩ = some (us, 0, 0) := by
      unfold lexer_Tokens.f
      rw [sz, if_neg (by omega)]
      simpa using e
    rw [et]
    simp only [Option.bind_some, if_true]
    have es : sederuntref06_Same.f k ts us false = some true := by
      unfold sederuntref06_Same.f
      rw [if_pos (by omega)]
      exact same_tells ts us hl.symm (by omega) hs ts.length k 0 (by omega) (by omega)
    rw [es]
    rfl
  | succ d ih =>
    intro k i hd hk
    obtain ⟨k, rfl⟩ : ∃ m, k = m + 1 := ⟨k - 1, by omega⟩
    have hi : i < ts.length := by omega
    have hmem : ts[i] ∈ ts := List.getElem_mem hi
    obtain ⟨g1, g2, g3⟩ := hall _ hmem
    have er : rd_T28 ts (i : Int) = ts[i] := by unfold rd_T28; rw [Int.toNat_natCast]; simp [List.getD, List.getElem?_eq_getElem hi]
    obtain ⟨k2, rfl⟩ : ∃ m, k = m + 1 := ⟨k - 1, by omega⟩
    have hw := word_tells ts[i] (by omega) g2 g3 k2
    have hstep : sederuntlaw06_LexerWords.l0 (k2 + 1) a1 ts ⟨(textL sp (ts.take (i + 1))).toArray⟩ ts (ts.length : Int) ((i + 1 : Nat) : Int) = some true := ih (k2 + 1) (i + 1) (by omega) (by omega)
    have hle := text_le sp ts (i + 1)
    rw [text_take sp ts i hi] at hle hstep
    rw [List.length_append, List.length_append] at hle
    unfold sederuntlaw06_LexerWords.l0
    rw [if_pos (by omega), if_pos (by omega), if_pos (by omega), er, hw]
    simp only [Option.bind_some]
    rw [if_pos hm0, if_pos (by show Int.tmod a1 5 < ((5 : Nat) : Int); omega)]
    have hsel' : rdOf ByteArray.empty [(⟨#[32]⟩ : ByteArray), (⟨#[10]⟩ : ByteArray), (⟨#[9, 13]⟩ : ByteArray), (⟨#[32, 47, 47, 32, 34, 10]⟩ : ByteArray), (⟨#[32, 47, 47, 10]⟩ : ByteArray)] (Int.tmod a1 5) = ⟨sp.toArray⟩ := hsel
    rw [hsel', cat_list, cat_list, szl, szl, szl, if_pos (by omega), szl, if_pos (by rw [List.length_append]; omega), w64 (by omega) (by omega), show (i : Int) + 1 = ((i + 1 : Nat) : Int) by omega]
    exact hstep
theorem LexerWords : sederuntlaw06_LexerWords.Pure := by
  intro a0 a1 _ hw
  have h0 : 0 ≤ a1 := by
    have h := (Bool.and_eq_true_iff.1 hw).1
    have h2 := of_decide_eq_true h
    exact h2
  obtain ⟨k1, ts, line, e, hr, hgood⟩ := toks_tells a0
  refine ⟨k1 + 10000, ?_⟩
  unfold sederuntlaw06_LexerWords.f
  rw [up (sederuntref06_Tokens.mono a0) hr (k1 + 10000) (by omega)]
  simp only [Option.bind_some]
  rw [awake_up (k1 + 10000) (by omega)]
  simp only [Option.bind_some, if_true]
  have quiet : sederuntlaw06_LexerWords.j0 (k1 + 10000) a1 ts true = some true := by
    obtain ⟨k, hk⟩ : ∃ m, k1 + 10000 = m + 1 := ⟨k1 + 9999, rfl⟩
    rw [hk]
    show (if true = true then ((sederuntlaw06_awake.f k).bind fun t => some t) else sederuntlaw06_LexerWords.l0 k a1 ts ⟨#[]⟩ ts (ts.length : Int) 0) = some true
    rw [if_pos rfl, awake_up k (by omega)]
    rfl
  split
  · exact quiet
  · rename_i hsz
    by_cases he : e = 0
    · subst he
      have hgs := hgood rfl (by omega)
      obtain ⟨sp, hsp, hsel, hsl, hm0, hm5⟩ := sep_of a1 h0
      obtain ⟨g1, g2, g3, g4⟩ := goods_all sp hsl hgs (by omega)
      have : ((0 : Int) != 0) = false := by decide
      rw [this]
      obtain ⟨k, hk⟩ : ∃ m, k1 + 10000 = m + 1 := ⟨k1 + 9999, rfl⟩
      rw [hk]
      show (if false = true then ((sederuntlaw06_awake.f k).bind fun t => some t) else sederuntlaw06_LexerWords.l0 k a1 ts ⟨#[]⟩ ts (ts.length : Int) 0) = some true
      rw [if_neg (by simp)]
      exact law_l0 a1 h0 sp hsp hsel hm0 hm5 ts (by omega) g1 (by omega) g4 ts.length k 0 (by omega) (by omega)
    · have : (e != 0) = true := by rw [bne_iff_ne]; exact he
      rw [this]
      exact quiet
end Go.Proofs.YtlgkeeajcbooaaaDoor.PurD
