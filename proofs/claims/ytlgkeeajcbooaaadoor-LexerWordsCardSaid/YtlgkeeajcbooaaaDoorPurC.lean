/- A text of words of good tokens, each followed by one of the five separators, is read by the program's Tokens as these tokens, apart from their lines. -/
import Derived.Test.YtlgkeeajcbooaaaDoorPurB
set_option linter.unusedVariables false
set_option linter.unusedSimpArgs false
namespace Go.Proofs.YtlgkeeajcbooaaaDoor.PurC
open Go.RowKit Go.Proofs.YtlgkeeajcbooaaaDoor.PL Go.Proofs.YtlgkeeajcbooaaaDoor.PurA Go.Proofs.YtlgkeeajcbooaaaDoor.PurB Go.Proofs.YtlgkeeajcbooaaaDoorW.PrintWords Go.Proofs.YtlgkeeajcbooaaaDoorW.PrintLast

/-! ### Literals -/
theorem hexv_hexd : ∀ n : Fin 16, Lx.hexv (Lx.hexd n.val) = some n.val := by decide +kernel
theorem lit_q1 (c : UInt8) (r : List UInt8) : Lx.lit (Lx.q1 c ++ r) = (Lx.lit r).map fun p => (c :: p.1, p.2 + (Lx.q1 c).length) := by
  unfold Lx.q1
  split
  · rename_i h
    have he : Lx.esc (c :: r) = some (c, 1) := by
      rcases h with rfl | rfl <;> simp [Lx.esc]
    simp only [List.cons_append, List.nil_append]
    rw [Lx.lit_esc _ _ _ he]; rfl
  · rename_i h
    split
    · rename_i h10
      subst h10
      have he : Lx.esc (110 :: r) = some (10, 1) := by simp [Lx.esc]
      simp only [List.cons_append, List.nil_append]
      rw [Lx.lit_esc _ _ _ he]; rfl
    · rename_i h10
      split
      · rename_i hb
        have hlt := c.toNat_lt
        have e1 := hexv_hexd ⟨c.toNat / 16, by omega⟩
        have e2 := hexv_hexd ⟨c.toNat % 16, by omega⟩
        simp only at e1 e2
        have he : Lx.esc (120 :: Lx.hexd (c.toNat / 16) :: Lx.hexd (c.toNat % 16) :: r) = some (c, 3) := by
          simp only [Lx.esc]
          rw [e1, e2]
          have : 16 * (c.toNat / 16) + c.toNat % 16 = c.toNat := by omega
          simp [this]
        simp only [List.cons_append, List.nil_append]
        rw [Lx.lit_esc _ _ _ he]; rfl
      · rename_i hb
        simp only [List.cons_append, List.nil_append]
        rw [Lx.lit_plain _ _ (fun e => h (.inl e)) hb (fun e => h (.inr e))]
        rfl
theorem lit_flat (x r : List UInt8) : Lx.lit (x.flatMap Lx.q1 ++ 34 :: r) = some (x, (x.flatMap Lx.q1).length + 1) := by
  induction x with
  | nil => simp [Lx.lit_quote]
  | cons c x ih =>
    rw [List.flatMap_cons, List.append_assoc, lit_q1, ih]
    simp; omega

/-! ### Words, separators, next -/
/-- What a good token's word is. -/
def wordL (t : S28) : List UInt8 :=
  if t.f0 = 1 ∨ t.f0 = 4 then t.f1.data.toList else if t.f0 = 2 then Lib.itoa t.f2 else Lx.quoteL t.f3.data.toList
def seps : List (List UInt8) := [[32], [10], [9, 13], [32, 47, 47, 32, 34, 10], [32, 47, 47, 10]]
/-- A text that begins with white space. -/
def WsHead (r : List UInt8) : Prop := ∃ c q, r = c :: q ∧ wsB c = true
theorem ws_not {c : UInt8} (h : wsB c = true) : contB c = false ∧ decB c = false := by
  unfold wsB at h
  unfold contB letB decB
  simp at h ⊢
  omega
theorem ws_head {r : List UInt8} (h : WsHead r) (p : UInt8 → Bool) (hp : ∀ c, wsB c = true → p c = false) : ∀ c ∈ r.head?, p c = false := by
  obtain ⟨c, q, rfl, hc⟩ := h
  intro x hx
  obtain rfl : c = x := by simpa using hx
  exact hp c hc
theorem szl (l : List UInt8) : (⟨l.toArray⟩ : ByteArray).size = l.length := rfl
theorem pre_take (w r : List UInt8) : (⟨(w ++ r).toArray⟩ : ByteArray).extract 0 w.length = ⟨w.toArray⟩ := by rw [extp]; simp
theorem next_word (n : Int) (t : S28) (ht : PurA.Good n t) (r : List UInt8) (hr : WsHead r) (hl : (wordL t ++ r).length ≤ 65536) (hs : t.f3.size ≤ 1000000) (k : Nat) (hk : 30 ≤ k) :
    (∃ c q, wordL t = c :: q ∧ wsB c = false ∧ (c = 47 → q = [])) ∧ lexer_next.f k ⟨(wordL t ++ r).toArray⟩ = some (t.f0, t.f1, t.f2, t.f3, 0, ((wordL t).length : Int)) := by
  have hcont : ∀ c, wsB c = true → contB c = false := fun c h => (ws_not h).1
  have hdec : ∀ c, wsB c = true → decB c = false := fun c h => (ws_not h).2
  cases ht with
  | name b ln h0 h1 h2 h3 =>
    have hw : wordL ⟨1, ⟨b.toArray⟩, 0, ⟨#[]⟩, ln⟩ = b := by simp [wordL]
    rw [hw] at hl ⊢
    obtain ⟨c, q, rfl, hc⟩ := h0
    have hlet := (letB_iff c).2 hc
    refine ⟨⟨c, q, rfl, ?_, ?_⟩, ?_⟩
    · unfold isLetter at hc; unfold wsB; simp; omega
    · rintro rfl; unfold isLetter at hc; simp at hc
    · unfold lexer_next.f
      have e0 : bt ⟨((c :: q) ++ r).toArray⟩ 0 = (c.toNat : Int) := bt_list _ _
      rw [sz, if_pos (by simp; omega), e0, begins_tells, hlet]
      simp only [Option.bind_some, if_true]
      have hp : lexer_prefix_continues.f ⟨((c :: q) ++ r).toArray⟩ = some (((c :: q).length : Nat) : Int) := by
        unfold lexer_prefix_continues.f
        rw [if_pos (by rw [szl]; omega), pcont]
        congr 2
        exact congrArg List.length (takeW contB (c :: q) r (fun x hx => (contB_iff x).2 (h1 x hx)) (ws_head hr contB hcont))
      rw [hp]
      simp only [Option.bind_some]
      rw [if_neg (by omega), if_pos (by omega), if_pos (by rw [List.length_append]; omega), Int.toNat_natCast, pre_take]
  | int v ln h0 h1 =>
    obtain ⟨u, rfl⟩ := Int.eq_ofNat_of_zero_le h0
    have hw : wordL ⟨2, ⟨#[]⟩, (u : Int), ⟨#[]⟩, ln⟩ = Lib.decDigits u := by simp [wordL, Lib.itoa]
    rw [hw] at hl ⊢
    obtain ⟨d1, d2, d3, d4, d5, d6⟩ := dd u
    have hnum := number_tells u (by omega) k (by omega)
    cases hq : Lib.decDigits u with
    | nil => exact absurd hq d2
    | cons c q =>
      rw [hq] at hl d1 hnum
      have hc := d1 c (by simp)
      have hc2 : 48 ≤ c.toNat ∧ c.toNat ≤ 57 := by unfold decB at hc; simpa using hc
      refine ⟨⟨c, q, rfl, ?_, ?_⟩, ?_⟩
      · unfold wsB; simp; omega
      · rintro rfl; simp at hc2
      · unfold lexer_next.f
        have e0 : bt ⟨((c :: q) ++ r).toArray⟩ 0 = (c.toNat : Int) := bt_list _ _
        have hlet : letB c = false := by unfold letB; simp; omega
        rw [sz, if_pos (by simp; omega), e0, begins_tells, hlet]
        simp only [Option.bind_some, Bool.false_eq_true, if_false]
        rw [decimal_tells, hc]
        simp only [Option.bind_some, if_true]
        have hp : lexer_prefix_decimal.f ⟨((c :: q) ++ r).toArray⟩ = some (((c :: q).length : Nat) : Int) := by
          unfold lexer_prefix_decimal.f
          rw [if_pos (by rw [szl]; omega), pdec]
          congr 2
          exact congrArg List.length (takeW decB (c :: q) r d1 (ws_head hr decB hdec))
        rw [hp]
        simp only [Option.bind_some]
        rw [if_pos (by omega), if_pos (by rw [List.length_append]; omega), Int.toNat_natCast, pre_take, hnum]
        simp
  | str x ln h =>
    have hw : wordL ⟨3, ⟨#[]⟩, 0, x, ln⟩ = Lx.quoteL x.data.toList := by simp [wordL]
    rw [hw] at hl ⊢
    refine ⟨⟨34, _, rfl, by decide, fun e => absurd e (by decide)⟩, ?_⟩
    unfold lexer_next.f
    have e0 : bt ⟨(Lx.quoteL x.data.toList ++ r).toArray⟩ 0 = ((34 : UInt8).toNat : Int) := bt_list _ _
    rw [sz, if_pos (by simp only [Lx.quoteL, List.cons_append, List.length_cons]; omega), e0, begins_tells]
    have b34 : letB 34 = false := by decide
    have d34 : decB 34 = false := by decide
    rw [b34]
    simp only [Option.bind_some, Bool.false_eq_true, if_false]
    rw [decimal_tells, d34]
    simp only [Option.bind_some, Bool.false_eq_true, if_false]
    rw [if_pos (by decide)]
    have hlit : lexer_literal.f ⟨(Lx.quoteL x.data.toList ++ r).toArray⟩ = some (x, ((Lx.quoteL x.data.toList).length : Int)) := by
      unfold lexer_literal.f
      rw [if_pos (by rw [szl]; omega)]
      congr 1
      have e1 : Lx.quoteL x.data.toList ++ r = 34 :: (x.data.toList.flatMap Lx.q1 ++ 34 :: r) := by simp [Lx.quoteL]
      rw [literal_of (by simp [Lx.quoteL])]
      have e2 : ((⟨(Lx.quoteL x.data.toList ++ r).toArray⟩ : ByteArray).data.toList).drop 1 = x.data.toList.flatMap Lx.q1 ++ 34 :: r := by
        show (Lx.quoteL x.data.toList ++ r).drop 1 = _
        rw [e1]; rfl
      rw [e2, lit_flat]
      simp [Lx.quoteL]
    rw [hlit]
    rfl
  | sym c ln h =>
    have hw : wordL ⟨4, ⟨#[c]⟩, 0, ⟨#[]⟩, ln⟩ = [c] := by simp [wordL]
    rw [hw] at hl ⊢
    have hc : letB c = false ∧ decB c = false ∧ c ≠ 34 ∧ wsB c = false ∧ 0 ≤ Lib.indexByte syms c := by
      unfold syms at h ⊢
      simp only [List.mem_cons, List.not_mem_nil, or_false] at h
      rcases h with rfl | rfl | rfl | rfl | rfl | rfl | rfl | rfl | rfl | rfl | rfl | rfl | rfl | rfl | rfl | rfl | rfl | rfl <;> decide
    refine ⟨⟨c, [], rfl, hc.2.2.2.1, fun _ => rfl⟩, ?_⟩
    unfold lexer_next.f
    have e0 : bt ⟨([c] ++ r).toArray⟩ 0 = (c.toNat : Int) := bt_list _ _
    rw [sz, if_pos (by simp), e0, begins_tells, hc.1]
    simp only [Option.bind_some, Bool.false_eq_true, if_false]
    rw [decimal_tells, hc.2.1]
    simp only [Option.bind_some, Bool.false_eq_true, if_false]
    rw [if_neg (show ¬ ((c.toNat : Int) = 34) from fun e => hc.2.2.1 ((toNat_eq 34).1 e))]
    have hi : strings_IndexByte.f (⟨#[123, 125, 40, 41, 91, 93, 44, 59, 58, 61, 47, 43, 45, 60, 62, 124, 38, 42]⟩ : ByteArray) (c.toNat : Int) = some (Lib.indexByte syms c) := by
      unfold strings_IndexByte.f
      congr 2
      simp
    rw [hi]
    simp only [Option.bind_some]
    rw [if_pos (by have := hc.2.2.2.2; omega), if_pos (by omega), if_pos (by simp; omega)]
    have := pre_take [c] r
    simp only [List.length_singleton] at this ⊢
    rw [this]
    rfl

/-! ### White space and comments -/
theorem tk_white (w r : List UInt8) (hw : ∀ c ∈ w, wsB c = true) (hne : w ≠ []) (hr : ∀ c ∈ r.head?, wsB c = false) (hl : (w ++ r).length ≤ 65536) (k : Nat) (ts : List S28) (line : Int) :
    ∃ line', lexer_Tokens.l0 (k + 1) ⟨(w ++ r).toArray⟩ ts line = lexer_Tokens.l0 k ⟨r.toArray⟩ ts line' := by
  match w, hne, hw, hl with
  | c :: w, _, hw, hl =>
    have hto : (⟨((c :: w) ++ r).toArray⟩ : ByteArray).toList = (c :: w) ++ r := by simp
    have e0 : bt ⟨((c :: w) ++ r).toArray⟩ 0 = (c.toNat : Int) := bt_list _ _
    have hp : lexer_prefix_space.f ⟨((c :: w) ++ r).toArray⟩ = some (((c :: w).length : Nat) : Int) := by
      unfold lexer_prefix_space.f
      rw [if_pos (by rw [szl]; omega), pws]
      congr 2
      exact congrArg List.length (takeW wsB (c :: w) r hw hr)
    refine ⟨wrap64 (line + ((Lib.countByte (c :: w) 10 : Nat) : Int)), ?_⟩
    conv => lhs; unfold lexer_Tokens.l0
    rw [hto, if_neg (by simp), sz, if_pos (by simp; omega), e0, space_tells, hw c (by simp)]
    simp only [Option.bind_some, if_true]
    rw [hp]
    simp only [Option.bind_some]
    rw [if_pos (by omega), if_pos (by rw [List.length_append]; omega), Int.toNat_natCast, pre_take]
    have hcn : strings_Count.f ⟨(c :: w).toArray⟩ ⟨#[10]⟩ = some ((Lib.countByte (c :: w) 10 : Nat) : Int) := by
      unfold strings_Count.f; simp
    rw [hcn]
    simp only [Option.bind_some]
    rw [extl, List.drop_left]
theorem tk_comment (b r : List UInt8) (hb : ∀ c ∈ b, c ≠ 10) (hl : (47 :: 47 :: b ++ 10 :: r).length ≤ 65536) (k : Nat) (ts : List S28) (line : Int) :
    lexer_Tokens.l0 (k + 1) ⟨(47 :: 47 :: b ++ 10 :: r).toArray⟩ ts line = lexer_Tokens.l0 k ⟨(10 :: r).toArray⟩ ts line := by
  have hto : (⟨(47 :: 47 :: b ++ 10 :: r).toArray⟩ : ByteArray).toList = 47 :: 47 :: b ++ 10 :: r := by simp
  have e0 : bt ⟨(47 :: 47 :: b ++ 10 :: r).toArray⟩ 0 = ((47 : UInt8).toNat : Int) := bt_list _ _
  have hpre : strings_HasPrefix.f ⟨(47 :: 47 :: b ++ 10 :: r).toArray⟩ ⟨#[47, 47]⟩ = some true := by
    unfold strings_HasPrefix.f stringslite_HasPrefix.f
    rw [sz, show (((⟨#[47, 47]⟩ : ByteArray).size : Nat) : Int) = 2 from rfl, if_pos (by simp; omega), if_pos (by omega), if_pos (by simp; omega)]
    simp only [Option.bind_some]
    have : (⟨(47 :: 47 :: b ++ 10 :: r).toArray⟩ : ByteArray).extract 0 (2 : Int).toNat = ⟨#[47, 47]⟩ := extp _ 2
    rw [this]
    simp
  have hix : ∀ (b : List UInt8), (∀ c ∈ b, c ≠ 10) → Lib.indexByte (b ++ 10 :: r) 10 = (b.length : Int) := by
    intro b
    induction b with
    | nil => intro _; simp [Lib.indexByte]
    | cons c b ih =>
      intro h
      have h1 := ih (fun x hx => h x (by simp [hx]))
      have h2 : (c == 10) = false := by simpa using h c (by simp)
      rw [List.cons_append, Lib.indexByte, h2, h1]
      simp
  have hidx : strings_IndexByte.f ⟨(47 :: 47 :: b ++ 10 :: r).toArray⟩ 10 = some (((47 :: 47 :: b).length : Nat) : Int) := by
    unfold strings_IndexByte.f
    congr 1
    exact hix (47 :: 47 :: b) (by intro c hc; simp only [List.mem_cons] at hc; rcases hc with rfl | rfl | hc <;> first | decide | exact hb c hc)
  conv => lhs; unfold lexer_Tokens.l0
  rw [hto, if_neg (by simp), sz, if_pos (by simp; omega), e0, space_tells, show wsB 47 = false by decide]
  simp only [Option.bind_some, Bool.false_eq_true, if_false]
  rw [hpre]
  simp only [Option.bind_some, if_true]
  rw [hidx]
  simp only [Option.bind_some]
  rw [if_neg (by omega), if_pos (by omega), if_pos (by rw [List.length_append]; omega), Int.toNat_natCast, extl, List.drop_left]
theorem sep_skip (sp : List UInt8) (hsp : sp ∈ seps) (r : List UInt8) (hr : ∀ c ∈ r.head?, wsB c = false) (hl : (sp ++ r).length ≤ 65536) (k : Nat) (ts : List S28) (line : Int) :
    ∃ line' k', k ≤ k' ∧ lexer_Tokens.l0 (k + 3) ⟨(sp ++ r).toArray⟩ ts line = lexer_Tokens.l0 k' ⟨r.toArray⟩ ts line' := by
  have one : ∀ w : List UInt8, (∀ c ∈ w, wsB c = true) → w ≠ [] → (w ++ r).length ≤ 65536 → ∃ line' k', k ≤ k' ∧ lexer_Tokens.l0 (k + 3) ⟨(w ++ r).toArray⟩ ts line = lexer_Tokens.l0 k' ⟨r.toArray⟩ ts line' := by
    intro w h1 h2 h3
    obtain ⟨line', h⟩ := tk_white w r h1 h2 hr h3 (k + 2) ts line
    exact ⟨line', k + 2, by omega, h⟩
  have three : ∀ b : List UInt8, (∀ c ∈ b, c ≠ 10) → ([32] ++ (47 :: 47 :: b ++ 10 :: r)).length ≤ 65536 → ∃ line' k', k ≤ k' ∧ lexer_Tokens.l0 (k + 3) ⟨([32] ++ (47 :: 47 :: b ++ 10 :: r)).toArray⟩ ts line = lexer_Tokens.l0 k' ⟨r.toArray⟩ ts line' := by
    intro b h1 h2
    obtain ⟨l1, e1⟩ := tk_white [32] (47 :: 47 :: b ++ 10 :: r) (by intro c hc; rw [List.mem_singleton.1 hc]; decide) (by simp) (by intro c hc; obtain rfl : 47 = c := (by simpa using hc); decide) h2 (k + 2) ts line
    have e2 := tk_comment b r h1 (by simp at h2 ⊢; omega) (k + 1) ts l1
    obtain ⟨l3, e3⟩ := tk_white [10] r (by intro c hc; rw [List.mem_singleton.1 hc]; decide) (by simp) hr (by simp at h2 ⊢; omega) k ts l1
    exact ⟨l3, k, Nat.le_refl _, e1.trans (e2.trans e3)⟩
  unfold seps at hsp
  simp only [List.mem_cons, List.not_mem_nil, or_false] at hsp
  rcases hsp with rfl | rfl | rfl | rfl | rfl
  · exact one [32] (by intro c hc; rw [List.mem_singleton.1 hc]; decide) (by simp) hl
  · exact one [10] (by intro c hc; rw [List.mem_singleton.1 hc]; decide) (by simp) hl
  · exact one [9, 13] (by intro c hc; simp only [List.mem_cons, List.not_mem_nil, or_false] at hc; rcases hc with rfl | rfl <;> decide) (by simp) hl
  · exact three [32, 34] (by intro c hc; simp only [List.mem_cons, List.not_mem_nil, or_false] at hc; rcases hc with rfl | rfl <;> decide) hl
  · exact three [] (by simp) hl
theorem sep_head {sp : List UInt8} (hsp : sp ∈ seps) (r : List UInt8) : WsHead (sp ++ r) := by
  unfold seps at hsp
  simp only [List.mem_cons, List.not_mem_nil, or_false] at hsp
  rcases hsp with rfl | rfl | rfl | rfl | rfl <;> exact ⟨_, _, rfl, by decide⟩

/-! ### The whole text -/
def textL (sp : List UInt8) (ts : List S28) : List UInt8 := ts.flatMap fun t => wordL t ++ sp
def SameBut (x y : S28) : Prop := x.f0 = y.f0 ∧ x.f1 = y.f1 ∧ x.f2 = y.f2 ∧ x.f3 = y.f3
theorem tk_word (n : Int) (t : S28) (ht : PurA.Good n t) (r : List UInt8) (hr : WsHead r) (hl : (wordL t ++ r).length ≤ 65536) (hs : t.f3.size ≤ 1000000) (k : Nat) (hk : 30 ≤ k) (ts : List S28) (hts : ts.length ≤ 100000) (line : Int) :
    lexer_Tokens.l0 (k + 1) ⟨(wordL t ++ r).toArray⟩ ts line = lexer_Tokens.l0 k ⟨r.toArray⟩ (ts ++ [⟨t.f0, t.f1, t.f2, t.f3, line⟩]) line := by
  obtain ⟨⟨c, q, hw, hws, h47⟩, hn⟩ := next_word n t ht r hr hl hs k hk
  have hto : (⟨(wordL t ++ r).toArray⟩ : ByteArray).toList = wordL t ++ r := by simp
  have hlen : 1 ≤ (wordL t).length := by rw [hw]; simp
  have e0 : bt ⟨(wordL t ++ r).toArray⟩ 0 = (c.toNat : Int) := by rw [bt_list, hw]; rfl
  have hpre : strings_HasPrefix.f ⟨(wordL t ++ r).toArray⟩ ⟨#[47, 47]⟩ = some false := by
    unfold strings_HasPrefix.f stringslite_HasPrefix.f
    rw [sz, show (((⟨#[47, 47]⟩ : ByteArray).size : Nat) : Int) = 2 from rfl]
    split
    · rename_i hge
      show some (((⟨(wordL t ++ r).toArray⟩ : ByteArray).extract 0 (2 : Int).toNat).toList == (⟨#[47, 47]⟩ : ByteArray).toList) = some false
      have e : (⟨(wordL t ++ r).toArray⟩ : ByteArray).extract 0 (2 : Int).toNat = ⟨((wordL t ++ r).take 2).toArray⟩ := extp _ 2
      rw [e]
      congr 1
      have e2 : (⟨((wordL t ++ r).take 2).toArray⟩ : ByteArray).toList = (wordL t ++ r).take 2 := by simp
      have e3 : (⟨#[47, 47]⟩ : ByteArray).toList = [47, 47] := by simp
      rw [e2, e3, beq_eq_false_iff_ne]
      intro h
      rw [hw] at h
      by_cases hc : c = 47
      · have := h47 hc
        subst this
        obtain ⟨d, p, rfl, hd⟩ := hr
        simp at h
        rw [h.2] at hd
        exact absurd hd (by decide)
      · simp at h
        exact hc h.1
    · rfl
  conv => lhs; unfold lexer_Tokens.l0
  rw [hto, if_neg (by rw [hw]; simp), sz, if_pos (by rw [List.length_append]; omega), e0, space_tells, hws]
  simp only [Option.bind_some, Bool.false_eq_true, if_false]
  rw [hpre]
  simp only [Option.bind_some, Bool.false_eq_true, if_false]
  rw [hn]
  simp only [Option.bind_some]
  rw [if_neg (by omega), if_pos (by omega), if_pos (by omega), if_pos (by rw [List.length_append]; omega), Int.toNat_natCast, extl, List.drop_left]
inductive AllGood : List S28 → Prop
  | nil : AllGood []
  | cons (n : Int) (t : S28) (ts : List S28) (h : PurA.Good n t) (hs : t.f3.size ≤ 1000000) (hr : AllGood ts) : AllGood (t :: ts)
theorem word_head (n : Int) (t : S28) (ht : PurA.Good n t) (hs : t.f3.size ≤ 10000) (hw : (wordL t).length ≤ 60000) : ∃ c q, wordL t = c :: q ∧ wsB c = false := by
  obtain ⟨⟨c, q, h, h2, _⟩, _⟩ := next_word n t ht [32] ⟨32, [], rfl, by decide⟩ (by simp; omega) (by omega) 30 (Nat.le_refl _)
  exact ⟨c, q, h, h2⟩
theorem text_head (sp : List UInt8) (hsp : sp ∈ seps) : ∀ ts : List S28, AllGood ts → (textL sp ts).length ≤ 60000 → (∀ t ∈ ts, t.f3.size ≤ 10000) → ∀ c ∈ (textL sp ts).head?, wsB c = false := by
  intro ts hg hl hs c hc
  cases hg with
  | nil => simp [textL] at hc
  | cons n t ts h hs0 hr =>
    have e : textL sp (t :: ts) = wordL t ++ (sp ++ textL sp ts) := by simp [textL]
    rw [e] at hc hl
    rw [List.length_append] at hl
    obtain ⟨d, q, hw, hws⟩ := word_head n t h (hs t (by simp)) (by omega)
    rw [hw] at hc
    obtain rfl : d = c := by simpa using hc
    exact hws
theorem toks_text (sp : List UInt8) (hsp : sp ∈ seps) : ∀ (ts : List S28), AllGood ts → (textL sp ts).length ≤ 60000 → (∀ t ∈ ts, t.f3.size ≤ 10000) → ∀ (k : Nat) (out : List S28) (line : Int), 4 * ts.length + 40 ≤ k → out.length + ts.length ≤ 100000 →
    ∃ us, lexer_Tokens.l0 k ⟨(textL sp ts).toArray⟩ out line = some (out ++ us, 0, 0) ∧ us.length = ts.length ∧ ∀ i, ∀ h : i < us.length, ∀ h' : i < ts.length, SameBut us[i] ts[i] := by
  intro ts
  induction ts with
  | nil =>
    intro _ _ _ k out line hk _
    obtain ⟨k, rfl⟩ : ∃ m, k = m + 1 := ⟨k - 1, by omega⟩
    refine ⟨[], ?_, rfl, fun i h => absurd h (by simp)⟩
    have hto : (⟨(textL sp []).toArray⟩ : ByteArray).toList = [] := by simp [textL]
    unfold lexer_Tokens.l0
    rw [hto]; simp
  | cons t ts ih =>
    intro hg hl hs k out line hk ho
    cases hg with
    | cons n _ _ h hs0 hr =>
      have e : textL sp (t :: ts) = wordL t ++ (sp ++ textL sp ts) := by simp [textL]
      rw [e] at hl ⊢
      rw [List.length_append, List.length_append] at hl
      obtain ⟨k, rfl⟩ : ∃ m, k = m + 4 := ⟨k - 4, by simp at hk; omega⟩
      rw [tk_word n t h (sp ++ textL sp ts) (sep_head hsp _) (by rw [List.length_append, List.length_append]; omega) hs0 (k + 3) (by simp at hk; omega) out (by omega) line]
      obtain ⟨line', k', hk', e2⟩ := sep_skip sp hsp (textL sp ts) (text_head sp hsp ts hr (by omega) (fun x hx => hs x (by simp [hx]))) (by rw [List.length_append]; omega) k (out ++ [⟨t.f0, t.f1, t.f2, t.f3, line⟩]) line
      rw [e2]
      obtain ⟨us, e3, hlen, hsame⟩ := ih hr (by omega) (fun x hx => hs x (by simp [hx])) k' (out ++ [⟨t.f0, t.f1, t.f2, t.f3, line⟩]) line' (by simp at hk; omega) (by simp at ho ⊢; omega)
      refine ⟨⟨t.f0, t.f1, t.f2, t.f3, line⟩ :: us, by rw [e3]; simp, by simp [hlen], ?_⟩
      intro i h1 h2
      cases i with
      | zero => exact ⟨rfl, rfl, rfl, rfl⟩
      | succ i => exact hsame i (by simpa using h1) (by simpa using h2)
end Go.Proofs.YtlgkeeajcbooaaaDoor.PurC
