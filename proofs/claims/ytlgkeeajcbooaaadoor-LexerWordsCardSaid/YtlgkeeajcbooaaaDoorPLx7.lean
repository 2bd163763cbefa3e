/- Printed by a program of this session: what functions of the program come to, as Lean functions, with their contracts. -/
import Derived.Test.YtlgkeeajcbooaaaDoorPLx0
import Derived.Test.YtlgkeeajcbooaaaDoorPLx6
namespace Go.Proofs.YtlgkeeajcbooaaaDoor.PL
open Go.RowKit Go.Proofs.YtlgkeeajcbooaaaDoorW.PrintWords Go.Proofs.YtlgkeeajcbooaaaDoorW.PrintLast Go.Proofs.YtlgkeeajcbooaaaDoorW.PrintMore
attribute [local go_sem] max2_int min2_int max_two min_two max_three min_three max_four min_four   -- for this text's walks alone
set_option linter.unusedVariables false
set_option linter.unusedSimpArgs false

/-! ### lexer_literal: function 26 -/
theorem hex_index_all : ∀ n : Fin 256, Lib.indexByte [48, 49, 50, 51, 52, 53, 54, 55, 56, 57, 97, 98, 99, 100, 101, 102] (UInt8.ofNat n.val) = (match Lx.hexv (UInt8.ofNat n.val) with | some n => (n : Int) | none => -1) := by decide +kernel
theorem hex_index (c : UInt8) : Lib.indexByte [48, 49, 50, 51, 52, 53, 54, 55, 56, 57, 97, 98, 99, 100, 101, 102] c = (match Lx.hexv c with | some n => (n : Int) | none => -1) := by
  have h := hex_index_all ⟨c.toNat, c.toNat_lt⟩
  have e : UInt8.ofNat c.toNat = c := by simp
  simpa only [e] using h
theorem hex_join_all : ∀ x y : Fin 16, (Go.bits .or .i64 (wrap64 ((x.val : Int) * 16)) (y.val : Int)) % 256 = ((UInt8.ofNat (16 * x.val + y.val)).toNat : Int) := by decide +kernel
theorem hexv_lt {c : UInt8} {n : Nat} (h : Lx.hexv c = some n) : n < 16 := by
  unfold Lx.hexv at h
  split at h
  · injection h with h; omega
  · split at h
    · injection h with h; omega
    · cases h
def escI : Option (UInt8 × Nat) → Int × Int
  | some (x, n) => ((x.toNat : Int), (n : Int))
  | none => (0, 0)
theorem escape_tells (l : List UInt8) (hl : l.length ≤ 140737488351232) : lexer_escape.f 1 ⟨l.toArray⟩ = some (escI (Lx.esc l)) := by
  unfold lexer_escape.f
  have hsz : ((⟨l.toArray⟩ : ByteArray).size : Int) = (l.length : Int) := rfl
  have hto : (⟨l.toArray⟩ : ByteArray).toList = l := by simp
  rw [hto, hsz]
  match l with
  | [] => simp [Lx.esc, escI]
  | d :: r =>
    have hb0 : bt ⟨(d :: r).toArray⟩ 0 = (d.toNat : Int) := bt_list _ _
    have hp : 0 < ((⟨(d :: r).toArray⟩ : ByteArray).size : Int) := by rw [hsz]; simp
    rw [if_neg (by simp), if_pos (by simp), hb0]
    simp only [lexer_escape.j0, hb0, bt_list]
    by_cases h1 : d = 34
    · subst h1; simp [Lx.esc, escI]; exact fun e => by rw [e] at hp; simp at hp
    · by_cases h2 : d = 92
      · subst h2; simp [Lx.esc, escI]; exact fun e => by rw [e] at hp; simp at hp
      · have e1 : ¬ ((d.toNat : Int) = 34) := fun h => h1 ((toNat_eq 34).1 h)
        have e2 : ¬ ((d.toNat : Int) = 92) := fun h => h2 ((toNat_eq 92).1 h)
        by_cases h3 : d = 110
        · subst h3; simp [Lx.esc, escI]
        · have e3 : ¬ ((d.toNat : Int) = 110) := fun h => h3 ((toNat_eq 110).1 h)
          by_cases h4 : d = 120
          · subst h4
            match r with
            | [] => simp [Lx.esc, escI, hsz]
            | [a] => simp [Lx.esc, escI, hsz]
            | a :: b :: r2 =>
              have hs2 : ((⟨((120 : UInt8) :: a :: b :: r2).toArray⟩ : ByteArray).size : Int) = (r2.length : Int) + 3 := by
                show (((120 : UInt8) :: a :: b :: r2).length : Int) = _
                simp; omega
              have hx := hex_index a
              have hy := hex_index b
              simp [Lx.esc, strings_IndexByte.f, hs2]
              rw [if_neg (by omega), if_pos (by omega)]
              rw [if_pos (by omega)]
              rw [hx, hy]
              cases ha : Lx.hexv a with
              | none => simp [escI]
              | some x =>
                cases hb : Lx.hexv b with
                | none => simp [escI]
                | some y =>
                  have := hex_join_all ⟨x, hexv_lt ha⟩ ⟨y, hexv_lt hb⟩
                  simp only at this
                  simp [escI, this]
          · have e4 : ¬ ((d.toNat : Int) = 120) := fun h => h4 ((toNat_eq 120).1 h)
            simp [Lx.esc, escI, h1, h2, h3, h4, e1, e2, e3, e4]
def lexer_literal.f (a0 : ByteArray) : Option (ByteArray × Int) := if a0.size ≤ 140737488351232 then some (Lx.literal a0) else none
theorem ext_drop (a : ByteArray) (i : Nat) : a.extract i a.size = ⟨(a.data.toList.drop i).toArray⟩ := by
  apply ByteArray.ext
  apply Array.toList_inj.1
  simp [ByteArray.data_extract]
  rw [List.take_of_length_le (by simp)]
theorem lit_drop {s : List UInt8} {i : Nat} (hi : i < s.length) : s.drop i = s[i] :: s.drop (i + 1) := (List.getElem_cons_drop hi).symm
/-- What holds at the head of a round of literal's loop. -/
structure LitRel (s : List UInt8) (i : Nat) (acc : List UInt8) : Prop where
  lo : 1 ≤ i
  hi : i ≤ s.length
  len : acc.length ≤ i
  eq : Lx.lit (s.drop 1) = (Lx.lit (s.drop i)).map fun p => (acc ++ p.1, p.2 + (i - 1))
theorem LitRel.start (s : List UInt8) (h : 1 ≤ s.length) : LitRel s 1 [] := ⟨Nat.le_refl _, h, by simp, by cases Lx.lit (s.drop 1) <;> simp⟩
theorem LitRel.step {s : List UInt8} {i : Nat} {acc : List UInt8} (h : LitRel s i acc) (x : UInt8) (m : Nat) (hm : 1 ≤ m) (hi : i + m ≤ s.length)
    (e : Lx.lit (s.drop i) = (Lx.lit (s.drop (i + m))).map fun p => (x :: p.1, p.2 + m)) : LitRel s (i + m) (acc ++ [x]) :=
  ⟨by have := h.lo; omega, hi, by have := h.len; simp; omega, by
    have := h.lo
    rw [h.eq, e]
    cases Lx.lit (s.drop (i + m)) with
    | none => rfl
    | some p => simp; omega⟩
theorem LitRel.none {s : List UInt8} {i : Nat} {acc : List UInt8} (h : LitRel s i acc) (e : Lx.lit (s.drop i) = Option.none) : Lx.lit (s.drop 1) = Option.none := by rw [h.eq, e]; rfl
theorem LitRel.some {s : List UInt8} {i : Nat} {acc : List UInt8} (h : LitRel s i acc) (e : Lx.lit (s.drop i) = Option.some ([], 1)) : Lx.lit (s.drop 1) = Option.some (acc, i) := by
  have := h.lo
  rw [h.eq, e]
  simp; omega
theorem literal_of {a0 : ByteArray} (h : a0.data.toList.head? = Option.some 34) : Lx.literal a0 = (match Lx.lit (a0.data.toList.drop 1) with
    | Option.some (x, n) => (⟨x.toArray⟩, ((n + 1 : Nat) : Int))
    | Option.none => (⟨#[]⟩, 0)) := by
  unfold Lx.literal Lx.literalL
  cases hl : a0.data.toList with
  | nil => rw [hl] at h; cases h
  | cons c r =>
    rw [hl] at h
    obtain rfl : c = 34 := by simpa using h
    simp only [if_true, List.drop_one, List.tail_cons]
    cases Lx.lit r with
    | none => rfl
    | some p => rfl
theorem ret_lit {a b : ByteArray} {x y : Int} (h1 : a = b) (h2 : x = y) : Ending.returned (.tuple #[.string a, .int .i64 x]) = Ending.returned (.tuple #[.string b, .int .i64 y]) := by rw [h1, h2]
set_option maxHeartbeats 2000000 in
set_option maxRecDepth 100000 in
theorem lexer_literal.calls (a0 : ByteArray) (r1 : ByteArray) (r2 : Int) (w : World) (h : lexer_literal.f a0 = some (r1, r2)) :
    Calls Tryd.prog 26 #[.string a0] w fun e w' => e = .returned (.tuple #[.string r1, .int .i64 r2]) ∧ Below w.heap.size w w' := by
  unfold lexer_literal.f at h
  split at h
  case isFalse => exact absurd h (by simp)
  rename_i hs
  have hlit := Aside0.mk (Option.some.inj h)
  clear h
  by_cases hp : a0.data.toList.head? = some 34
  · have hpre : Lib.hasPrefix a0.data.toList [34] = true := by
      cases hl : a0.data.toList with
      | nil => rw [hl] at hp; cases hp
      | cons c r =>
        rw [hl] at hp
        obtain rfl : c = 34 := by simpa using hp
        simp [Lib.hasPrefix]
    have hlen : 1 ≤ a0.data.toList.length := by
      cases hl : a0.data.toList with
      | nil => rw [hl] at hp; cases hp
      | cons c r => simp
    have hspec := Aside0.mk (literal_of hp)
    have hst := Aside0.mk (LitRel.start _ hlen)
    have hln : a0.data.toList.length = a0.size := by simp
    have HLN := Aside0.mk hln
    clear hp hlen hln
    go_enter Tryd.func26, Tryd.ntmps26
    go_wp2_with (go_at_call 19; (with_reducible refine (Tryd.strings_HasPrefix _ _ _).mono ?_); rintro e w1 ⟨rfl, hw⟩; obtain rfl : w = w1 := hw.symm; rw [hpre])
    clear hpre
    go_loopw [5] (fun v5 wr => ∃ (i : Nat) (acc : List UInt8), v5 = .int .i64 i ∧ i ≤ a0.size ∧ Aside0 (LitRel a0.data.toList i acc) ∧ Aside0 (Lib.IsBuilder 53 5 w.heap.size w.heap.size (Lib.byteCells acc) wr) ∧ Aside0 (Below w.heap.size w wr)) (fun v5 _ => a0.size - (intOf v5).toNat)
    case atStart => exact ⟨1, [], rfl, by have := hst.out.hi; have := HLN.out; omega, hst, ⟨Lib.fresh_isBuilder 53 5 w⟩, ⟨below_alloc (Below.refl _ _) _⟩⟩
    case round =>
      obtain ⟨i, acc, rfl, hi, HR, HBd, HB⟩ := hrel
      have HSZ := Aside0.mk HB.out.size
      by_cases hlt : i < a0.size
      · have hlt' := Aside0.mk (show i < a0.data.toList.length by have := HLN.out; omega)
        obtain ⟨c, hc⟩ : ∃ c, (∀ h : i < a0.size, a0[i]'h = c) := ⟨a0[i]'hlt, fun _ => rfl⟩
        have hcd := Aside0.mk (show a0.data.toList.drop i = c :: a0.data.toList.drop (i + 1) by rw [lit_drop hlt'.out]; congr 1; rw [Array.getElem_toList]; exact hc hlt)
        by_cases h34 : c = 34
        · subst h34
          go_wp2_with (go_at_call 29; (with_reducible refine (Tryd.Builder_String_any w.heap.size w.heap.size acc _ HBd.out HSZ.out).mono ?_); rintro e w2 ⟨rfl, hb2⟩)
          have hfin := HR.out.some (by rw [hcd.out, Lx.lit_quote])
          have H := hspec.out
          rw [hfin] at H
          rw [hlit.out] at H
          obtain ⟨rfl, rfl⟩ := Prod.mk.inj H
          go_ret2
          exact ⟨ret_lit rfl (by first | rfl | omega | (unfold wrap64; omega)), HB.out.trans hb2⟩
        · have q34 : ((c.toNat : Int) == 34) = false := beq_eq_false_iff_ne.mpr (fun h => h34 ((toNat_eq 34).1 h))
          by_cases hbad : c.toNat < 32 ∨ 126 < c.toNat
          · have hfin := HR.out.none (by rw [hcd.out, Lx.lit_bad _ _ hbad])
            have H := hspec.out
            rw [hfin] at H
            rw [hlit.out] at H
            obtain ⟨rfl, rfl⟩ := Prod.mk.inj H
            clear H hfin
            rcases hbad with hb | hb
            · have q32 : decide ((c.toNat : Int) < 32) = true := decide_eq_true (by omega)
              go_wp2
              go_ret2
              exact ⟨rfl, HB.out⟩
            · have q32 : decide ((c.toNat : Int) < 32) = false := decide_eq_false (by omega)
              have q126 : decide (126 < (c.toNat : Int)) = true := decide_eq_true (by omega)
              go_wp2
              go_ret2
              exact ⟨rfl, HB.out⟩
          · have q32 : decide ((c.toNat : Int) < 32) = false := decide_eq_false (by omega)
            have q126 : decide (126 < (c.toNat : Int)) = false := decide_eq_false (by omega)
            by_cases h92 : c = 92
            · subst h92
              have hes := escape_tells (a0.data.toList.drop (i + 1)) (by have := HLN.out; simp; omega)
              have hext : a0.extract (i + 1) a0.size = ⟨(a0.data.toList.drop (i + 1)).toArray⟩ := ext_drop a0 (i + 1)
              cases he : Lx.esc (a0.data.toList.drop (i + 1)) with
              | none =>
                rw [he] at hes
                have A := Aside0.mk hes
                have hfin := HR.out.none (by rw [hcd.out, Lx.lit_esc_none _ he])
                have H := hspec.out
                rw [hfin] at H
                rw [hlit.out] at H
                obtain ⟨rfl, rfl⟩ := Prod.mk.inj H
                clear H hfin hes he
                go_wp2_with (go_at_call 42; (with_reducible refine (lexer_escape.calls 1 _ 0 0 _ A.out).mono ?_); rintro e w2 ⟨rfl, ⟨nd, rfl⟩⟩)
                go_ret2
                exact ⟨rfl, pw_below_drewN HB.out _⟩
              | some p =>
                obtain ⟨x, n⟩ := p
                rw [he] at hes
                have A := Aside0.mk hes
                have hpos := Lx.esc_pos he
                have hdl : (a0.data.toList.drop (i + 1)).length = a0.size - (i + 1) := by simp
                have hn1 : 1 ≤ n := hpos.1
                have hn2 : i + 1 + n ≤ a0.size := by omega
                have hn := Aside0.mk (HR.out.step x (n + 1) (by omega) (by have := HLN.out; omega) (by rw [hcd.out, Lx.lit_esc _ _ _ he, List.drop_drop, show i + 1 + n = i + (n + 1) by omega]; rfl))
                have hlen := Aside0.mk (show (Lib.byteCells acc).length + 1 ≤ 140737488355328 by rw [Lib.byteCells_length]; have := HR.out.len; omega)
                have qn : ((n : Int) == 0) = false := beq_eq_false_iff_ne.mpr (by omega)
                clear hes he hpos hdl
                go_wp2_with (go_at_call 42; (with_reducible refine (lexer_escape.calls 1 _ (x.toNat : Int) (n : Int) _ A.out).mono ?_); rintro e w2 ⟨rfl, ⟨nd, rfl⟩⟩; have HBd2 := Aside0.mk (isBuilder_drewN HBd.out nd); have HSZ2 := Aside0.mk (show w.heap.size ≤ (wr.drewN nd).heap.size from HSZ.out))
                refine (Bd.writeByte w.heap.size w.heap.size (Lib.byteCells acc) _ _ HBd2.out hlen.out HSZ2.out).mono ?_
                rintro e w2 ⟨rfl, hb2, hb3⟩
                go_wp2
                go_roundw
                case rel => exact ⟨i + (n + 1), acc ++ [x], by go_num, by omega, hn, ⟨.inr (by simpa [Lib.byteCells] using hb2)⟩, ⟨(pw_below_drewN HB.out _).trans hb3⟩⟩
                case measure => simp [intOf]; omega
            · have q92 : ((c.toNat : Int) == 92) = false := beq_eq_false_iff_ne.mpr (fun h => h92 ((toNat_eq 92).1 h))
              have hcdn := HR.out.step c 1 (Nat.le_refl _) (by have := hlt'.out; omega) (by rw [hcd.out, Lx.lit_plain _ _ h34 hbad h92])
              have hn := Aside0.mk hcdn
              have hlen := Aside0.mk (show (Lib.byteCells acc).length + 1 ≤ 140737488355328 by rw [Lib.byteCells_length]; have := HR.out.len; omega)
              clear hcdn
              go_wp2_with (go_at_call 27; (with_reducible refine (Bd.writeByte w.heap.size w.heap.size (Lib.byteCells acc) _ _ HBd.out hlen.out HSZ.out).mono ?_); rintro e w2 ⟨rfl, hb2, hb3⟩)
              go_roundw
              case rel => exact ⟨i + 1, acc ++ [c], by go_num, by omega, hn, ⟨.inr (by simpa [Lib.byteCells] using hb2)⟩, ⟨HB.out.trans hb3⟩⟩
              case measure => simp [intOf]; omega
      · have hfin := HR.out.none (by rw [List.drop_eq_nil_of_le (by have := HLN.out; omega), Lx.lit_nil])
        have H := hspec.out
        rw [hfin] at H
        rw [hlit.out] at H
        obtain ⟨rfl, rfl⟩ := Prod.mk.inj H
        clear H hfin
        go_wp2
        go_ret2
        exact ⟨rfl, HB.out⟩
  · have hpre : Lib.hasPrefix a0.data.toList [34] = false := by
      cases hl : a0.data.toList with
      | nil => rfl
      | cons c r =>
        rw [hl] at hp
        have h34 : c ≠ 34 := by simpa using hp
        simp [Lib.hasPrefix, List.isPrefixOf, h34.symm]
    have hres : Lx.literal a0 = (⟨#[]⟩, 0) := by
      unfold Lx.literal Lx.literalL
      cases hl : a0.data.toList with
      | nil => rfl
      | cons c r =>
        rw [hl] at hp
        have : c ≠ 34 := by simpa using hp
        simp [this]
    have H := hlit.out
    rw [hres] at H
    obtain ⟨rfl, rfl⟩ := Prod.mk.inj H
    clear H hres hp
    go_enter Tryd.func26, Tryd.ntmps26
    go_wp2_with (go_at_call 19; (with_reducible refine (Tryd.strings_HasPrefix _ _ _).mono ?_); rintro e w' ⟨rfl, rfl⟩; rw [hpre])
    go_ret2
    exact ⟨rfl, Below.refl _ _⟩

/-! ### lexer_begins: function 37 -/
def lexer_begins.f (a0 : Int) : Option (Bool) := if a0 = 95 then (some true) else (if a0 ≥ 65 then (if a0 ≤ 90 then (some true) else (if a0 ≥ 97 then (some (decide (a0 ≤ 122))) else (some false))) else (if a0 ≥ 97 then (some (decide (a0 ≤ 122))) else (some false)))
set_option maxHeartbeats 8000000 in
set_option maxRecDepth 100000 in
theorem lexer_begins.calls (a0 : Int) (r : Bool) (w : World) (h : lexer_begins.f a0 = some r) :
    Calls Tryd.prog 37 #[.int .u8 a0] w fun e w' => e = .returned (.bool r) ∧ Drawn0 w w' := by
  have H : (if a0 = 95 then (some true) else (if a0 ≥ 65 then (if a0 ≤ 90 then (some true) else (if a0 ≥ 97 then (some (decide (a0 ≤ 122))) else (some false))) else (if a0 ≥ 97 then (some (decide (a0 ≤ 122))) else (some false)))) = some r := h
  clear h
  by_cases c2 : a0 = 95
  · rw [if_pos c2] at H
    have c2b0 : (a0 == 95) = true := beq_iff_eq.mpr c2
    have c2b1 : (a0 != 95) = false := bne_eq_false_iff_eq.mpr c2
    clear c2
    obtain rfl := Option.some.inj H
    go_enter Tryd.func37, Tryd.ntmps37
    go_wp2
    go_ret
    exact ⟨by first | rfl | (simp; done) | (simp [*]; done) | (simp only [gw_u8, i64_w, ne_nil_bool] <;> rfl), by repeat (first | exact Drawn0.refl _ | apply Drawn0.step)⟩
  · rw [if_neg c2] at H
    have c2b0 : (a0 == 95) = false := beq_eq_false_iff_ne.mpr c2
    have c2b1 : (a0 != 95) = true := bne_iff_ne.mpr c2
    by_cases c3 : a0 ≥ 65
    · rw [if_pos c3] at H
      have c3b0 : decide (65 ≤ a0) = true := decide_eq_true c3
      clear c3
      by_cases c4 : a0 ≤ 90
      · rw [if_pos c4] at H
        have c4b0 : decide (a0 ≤ 90) = true := decide_eq_true c4
        clear c4
        obtain rfl := Option.some.inj H
        go_enter Tryd.func37, Tryd.ntmps37
        go_wp2
        go_ret
        exact ⟨by first | rfl | (simp; done) | (simp [*]; done) | (simp only [gw_u8, i64_w, ne_nil_bool] <;> rfl), by repeat (first | exact Drawn0.refl _ | apply Drawn0.step)⟩
      · rw [if_neg c4] at H
        have c4b0 : decide (a0 ≤ 90) = false := decide_eq_false c4
        clear c4
        by_cases c5 : a0 ≥ 97
        · rw [if_pos c5] at H
          have c5b0 : decide (97 ≤ a0) = true := decide_eq_true c5
          clear c5
          obtain rfl := Option.some.inj H
          go_enter Tryd.func37, Tryd.ntmps37
          go_wp2
          go_ret
          exact ⟨by first | rfl | (simp; done) | (simp [*]; done) | (simp only [gw_u8, i64_w, ne_nil_bool] <;> rfl), by repeat (first | exact Drawn0.refl _ | apply Drawn0.step)⟩
        · rw [if_neg c5] at H
          have c5b0 : decide (97 ≤ a0) = false := decide_eq_false c5
          clear c5
          obtain rfl := Option.some.inj H
          go_enter Tryd.func37, Tryd.ntmps37
          go_wp2
          go_ret
          exact ⟨by first | rfl | (simp; done) | (simp [*]; done) | (simp only [gw_u8, i64_w, ne_nil_bool] <;> rfl), by repeat (first | exact Drawn0.refl _ | apply Drawn0.step)⟩
    · rw [if_neg c3] at H
      have c3b0 : decide (65 ≤ a0) = false := decide_eq_false c3
      clear c3
      by_cases c6 : a0 ≥ 97
      · rw [if_pos c6] at H
        have c6b0 : decide (97 ≤ a0) = true := decide_eq_true c6
        clear c6
        obtain rfl := Option.some.inj H
        go_enter Tryd.func37, Tryd.ntmps37
        go_wp2
        go_ret
        exact ⟨by first | rfl | (simp; done) | (simp [*]; done) | (simp only [gw_u8, i64_w, ne_nil_bool] <;> rfl), by repeat (first | exact Drawn0.refl _ | apply Drawn0.step)⟩
      · rw [if_neg c6] at H
        have c6b0 : decide (97 ≤ a0) = false := decide_eq_false c6
        clear c6
        obtain rfl := Option.some.inj H
        go_enter Tryd.func37, Tryd.ntmps37
        go_wp2
        go_ret
        exact ⟨by first | rfl | (simp; done) | (simp [*]; done) | (simp only [gw_u8, i64_w, ne_nil_bool] <;> rfl), by repeat (first | exact Drawn0.refl _ | apply Drawn0.step)⟩

/-! ### lexer_decimal: function 39 -/
def lexer_decimal.f (a0 : Int) : Option (Bool) := if a0 ≥ 48 then (some (decide (a0 ≤ 57))) else (some false)
set_option maxHeartbeats 8000000 in
set_option maxRecDepth 100000 in
theorem lexer_decimal.calls (a0 : Int) (r : Bool) (w : World) (h : lexer_decimal.f a0 = some r) :
    Calls Tryd.prog 39 #[.int .u8 a0] w fun e w' => e = .returned (.bool r) ∧ Drawn0 w w' := by
  have H : (if a0 ≥ 48 then (some (decide (a0 ≤ 57))) else (some false)) = some r := h
  clear h
  by_cases c2 : a0 ≥ 48
  · rw [if_pos c2] at H
    have c2b0 : decide (48 ≤ a0) = true := decide_eq_true c2
    clear c2
    obtain rfl := Option.some.inj H
    go_enter Tryd.func39, Tryd.ntmps39
    go_wp2
    go_ret
    exact ⟨by first | rfl | (simp; done) | (simp [*]; done) | (simp only [gw_u8, i64_w, ne_nil_bool] <;> rfl), by repeat (first | exact Drawn0.refl _ | apply Drawn0.step)⟩
  · rw [if_neg c2] at H
    have c2b0 : decide (48 ≤ a0) = false := decide_eq_false c2
    clear c2
    obtain rfl := Option.some.inj H
    go_enter Tryd.func39, Tryd.ntmps39
    go_wp2
    go_ret
    exact ⟨by first | rfl | (simp; done) | (simp [*]; done) | (simp only [gw_u8, i64_w, ne_nil_bool] <;> rfl), by repeat (first | exact Drawn0.refl _ | apply Drawn0.step)⟩

/-! ### lexer_continues: function 38 -/
def lexer_continues.f (a0 : Int) : Option (Bool) := (lexer_begins.f a0).bind fun t135 => (if t135 = true then (some true) else ((lexer_decimal.f a0).bind fun t136 => (some t136)))
set_option maxHeartbeats 8000000 in
set_option maxRecDepth 100000 in
theorem lexer_continues.calls (a0 : Int) (r : Bool) (w : World) (h : lexer_continues.f a0 = some r) :
    Calls Tryd.prog 38 #[.int .u8 a0] w fun e w' => e = .returned (.bool r) ∧ Drawn0 w w' := by
  have H : ((lexer_begins.f a0).bind fun t135 => (if t135 = true then (some true) else ((lexer_decimal.f a0).bind fun t136 => (some t136)))) = some r := h
  clear h
  replace H := Option.bind_eq_some_iff.mp H
  obtain ⟨t135, A20, H⟩ := H
  replace H : (if t135 = true then (some true) else ((lexer_decimal.f a0).bind fun t136 => (some t136))) = some r := H
  have A2 := Aside0.mk A20
  clear A20
  by_cases c3 : t135 = true
  · subst c3
    have H1 : (some true) = some r := by rw [if_pos rfl] at H; exact H
    clear H
    have H := H1
    clear H1
    obtain rfl := Option.some.inj H
    go_enter Tryd.func38, Tryd.ntmps38
    go_wp2_with (first | ((with_reducible refine gate_callee (f := 37) rfl ?_); refine goesL_ (some 4) rfl rfl Tryd.func37 (by kernel_rfl) rfl #[.int .u8 a0] rfl (by (try simp only [List.map_toArray, List.map_cons, List.map_nil]); first | done | rfl | (simp only [List.length_drop, List.length_take]; rfl)) ?_; (with_reducible refine (lexer_begins.calls a0 true _ A2.out).mono ?_); rintro e w' ⟨rfl, ⟨nd, rfl⟩⟩; refine ⟨_, rfl, ?_⟩))
    go_ret
    exact ⟨by first | rfl | (simp; done) | (simp [*]; done) | (simp only [gw_u8, i64_w, ne_nil_bool] <;> rfl), by repeat (first | exact Drawn0.refl _ | apply Drawn0.step)⟩
  · replace c3 := Bool.eq_false_iff.mpr c3
    subst c3
    have H1 : ((lexer_decimal.f a0).bind fun t136 => (some t136)) = some r := by rw [if_neg (show ¬ (false = true) by decide)] at H; exact H
    clear H
    have H := H1
    clear H1
    replace H := Option.bind_eq_some_iff.mp H
    obtain ⟨t136, A40, H⟩ := H
    replace H : (some t136) = some r := H
    have A4 := Aside0.mk A40
    clear A40
    obtain rfl := Option.some.inj H
    go_enter Tryd.func38, Tryd.ntmps38
    go_wp2_with (first | ((with_reducible refine gate_callee (f := 37) rfl ?_); refine goesL_ (some 4) rfl rfl Tryd.func37 (by kernel_rfl) rfl #[.int .u8 a0] rfl (by (try simp only [List.map_toArray, List.map_cons, List.map_nil]); first | done | rfl | (simp only [List.length_drop, List.length_take]; rfl)) ?_; (with_reducible refine (lexer_begins.calls a0 false _ A2.out).mono ?_); rintro e w' ⟨rfl, ⟨nd, rfl⟩⟩; refine ⟨_, rfl, ?_⟩) | (go_at_call 39; (with_reducible refine (lexer_decimal.calls a0 t136 _ A4.out).mono ?_); rintro e w' ⟨rfl, ⟨nd, rfl⟩⟩))
    go_ret
    exact ⟨by first | rfl | (simp; done) | (simp [*]; done) | (simp only [gw_u8, i64_w, ne_nil_bool] <;> rfl), by repeat (first | exact Drawn0.refl _ | apply Drawn0.step)⟩

/-! ### lexer_number: function 40 -/
mutual
def lexer_number.j0 : Nat → ByteArray → Bool → Option (Int × Bool)
  | 0, _, _ => none
  | k + 1, x0, x14 => if x14 = true then (some (0, false)) else (lexer_number.l0 k x0 0 (x0.size : Int) 0)
def lexer_number.l0 : Nat → ByteArray → Int → Int → Int → Option (Int × Bool)
  | 0, _, _, _, _ => none
  | k + 1, x0, x4, x16, x17 => if x17 < x16 then (if 0 ≤ x17 then (if x17 < (x0.size : Int) then (if x4 > ((9223372036854775807 - (((bt x0 x17) - 48) % 256)) / 10) then (some (0, false)) else (lexer_number.l0 k x0 (wrap64 ((wrap64 (10 * x4)) + (((bt x0 x17) - 48) % 256))) x16 (wrap64 (x17 + 1)))) else (none)) else (none)) else (some (x4, (x0.toList != ([] : List UInt8))))
end
def lexer_number.f (k : Nat) (a0 : ByteArray) : Option (Int × Bool) := if (a0.size : Int) > 1 then (if 0 < (a0.size : Int) then (lexer_number.j0 k a0 ((bt a0 0) == 48)) else (none)) else (lexer_number.j0 k a0 false)
theorem lexer_number.mono_l : ∀ k, (∀ y0 y1, LeO (lexer_number.j0 k y0 y1) (lexer_number.j0 (k + 1) y0 y1)) ∧ (∀ y0 y1 y2 y3, LeO (lexer_number.l0 k y0 y1 y2 y3) (lexer_number.l0 (k + 1) y0 y1 y2 y3))
  | 0 => ⟨fun _ _ r h => by simp [lexer_number.j0] at h, fun _ _ _ _ r h => by simp [lexer_number.l0] at h⟩
  | k + 1 => by
    obtain ⟨ih0, ih1⟩ := lexer_number.mono_l k
    refine ⟨?_, ?_⟩
    · intro y0 y1
      unfold lexer_number.j0
      repeat' first
      | (with_reducible exact ih0 _ _)
      | (with_reducible exact ih1 _ _ _ _)
      | (with_reducible exact LeO.refl _)
      | (with_reducible exact LeO.none _)
      | (with_reducible refine LeO.ite ?_ ?_)
      | (with_reducible refine LeO.bind ?_ (fun _ => ?_))
      | exact ih0 _ _
      | exact ih1 _ _ _ _
      | exact LeO.none _
      | refine LeO.ite ?_ ?_
      | refine LeO.bind ?_ (fun _ => ?_)
    · intro y0 y1 y2 y3
      unfold lexer_number.l0
      repeat' first
      | (with_reducible exact ih0 _ _)
      | (with_reducible exact ih1 _ _ _ _)
      | (with_reducible exact LeO.refl _)
      | (with_reducible exact LeO.none _)
      | (with_reducible refine LeO.ite ?_ ?_)
      | (with_reducible refine LeO.bind ?_ (fun _ => ?_))
      | exact ih0 _ _
      | exact ih1 _ _ _ _
      | exact LeO.none _
      | refine LeO.ite ?_ ?_
      | refine LeO.bind ?_ (fun _ => ?_)
theorem lexer_number.mono : ∀ a0 k, LeO (lexer_number.f k a0) (lexer_number.f (k + 1) a0) := by
  intro a0 k
  obtain ⟨ih0, ih1⟩ := lexer_number.mono_l k
  unfold lexer_number.f
  repeat' first
      | (with_reducible exact ih0 _ _)
      | (with_reducible exact ih1 _ _ _ _)
      | (with_reducible exact LeO.refl _)
      | (with_reducible exact LeO.none _)
      | (with_reducible refine LeO.ite ?_ ?_)
      | (with_reducible refine LeO.bind ?_ (fun _ => ?_))
      | exact ih0 _ _
      | exact ih1 _ _ _ _
      | exact LeO.none _
      | refine LeO.ite ?_ ?_
      | refine LeO.bind ?_ (fun _ => ?_)
set_option maxHeartbeats 8000000 in
set_option maxRecDepth 100000 in
theorem lexer_number.calls (k : Nat) (a0 : ByteArray) (r1 : Int) (r2 : Bool) (w : World) (h : lexer_number.f k a0 = some (r1, r2)) :
    Calls Tryd.prog 40 #[.string a0] w fun e w' => e = .returned (.tuple #[.int .i64 r1, .bool r2]) ∧ Drawn0 w w' := by
  have H : (if (a0.size : Int) > 1 then (if 0 < (a0.size : Int) then (lexer_number.j0 k a0 ((bt a0 0) == 48)) else (none)) else (lexer_number.j0 k a0 false)) = some (r1, r2) := h
  clear h
  have HC2 := Aside0.mk H
  clear H
  go_enter Tryd.func40, Tryd.ntmps40
  go_upto_region 1 with (fail)
  go_cut [14] (fun v14 wc => ∃ (kq : Nat) (x14_1 : Bool), v14 = .bool x14_1 ∧ Aside0 (lexer_number.j0 kq a0 x14_1 = some (r1, r2)) ∧ Aside0 (kq ≤ k) ∧ Drawn0 w wc)
  case first =>
    have H := HC2.out
    clear HC2
    by_cases c3 : (a0.size : Int) > 1
    · rw [if_pos c3] at H
      have c3b0 : decide (1 < (a0.size : Int)) = true := decide_eq_true c3
      have c3b1 : decide (1 < a0.size) = true := decide_eq_true (by omega)
      clear c3
      (first | rw [c3b0] | (simp only [i64_w, i32_w]; rw [c3b0]) | skip)
      by_cases c4 : 0 < (a0.size : Int)
      · rw [if_pos c4] at H
        have c4b0 : decide (0 < (a0.size : Int)) = true := decide_eq_true c4
        have c4b1 : decide (0 < a0.size) = true := decide_eq_true (by omega)
        clear c4
        have H' := Aside0.mk H
        clear H
        have p5 : 0 ≤ (0 : Int) := (by omega)
        have q5 : 0 < a0.size := (by have : (0 : Int) < (a0.size : Int) := of_decide_eq_true (by first | (with_reducible assumption) | assumption); omega)
        have hx5 : ∀ h : 0 < a0.size, ((a0[0]'h).toNat : Int) = bt a0 0 := bt_at a0 0
        clear p5
        have qi5 : (0 < (a0.size : Int)) = True := eq_true (of_decide_eq_true (by first | (with_reducible assumption) | assumption))
        replace q5 := eq_true q5
        go_wp2
        go_meet
        case rel => exact ⟨_, (((bt a0 0) == 48)), (by first | rfl | (simp; done) | (simp [*]; done) | (simp only [gw_u8, i64_w, ne_nil_bool] <;> rfl)), H', ⟨by first | omega | exact Nat.le_refl _⟩, by repeat (first | exact Drawn0.refl _ | apply Drawn0.step)⟩
      · rw [if_neg c4] at H
        exact absurd H (by simp)
    · rw [if_neg c3] at H
      have c3b0 : decide (1 < (a0.size : Int)) = false := decide_eq_false c3
      have c3b1 : decide (1 < a0.size) = false := decide_eq_false (by omega)
      clear c3
      (first | rw [c3b0] | (simp only [i64_w, i32_w]; rw [c3b0]) | skip)
      have H' := Aside0.mk H
      clear H
      go_wp2
      go_meet
      case rel => exact ⟨_, (false), (by first | rfl | (simp; done) | (simp [*]; done) | (simp only [gw_u8, i64_w, ne_nil_bool] <;> rfl)), H', ⟨by first | omega | exact Nat.le_refl _⟩, by repeat (first | exact Drawn0.refl _ | apply Drawn0.step)⟩
  case rest =>
    clear HC2
    try clear p2
    try clear c3
    try clear c3b0
    try clear c3b1
    try clear c4
    try clear c4b0
    try clear c4b1
    try clear p5
    try clear q5
    try clear hx5
    try clear qi5
    try clear p5
    try clear q5
    obtain ⟨kq, x14_1, rfl, HA, HJ1, ⟨mc1, rfl⟩⟩ := hcut
    cases kq with
    | zero => exact absurd HA.out (by simp [lexer_number.j0])
    | succ kj1 =>
      have H := HA.out
      clear HA
      simp only [lexer_number.j0] at H
      by_cases c6 : x14_1 = true
      · subst c6
        have H1 : (some (0, false)) = some (r1, r2) := by rw [if_pos rfl] at H; exact H
        clear H
        have H := H1
        clear H1
        simp only [Option.some.injEq, Prod.mk.injEq] at H
        obtain ⟨rfl, rfl⟩ := H
        go_wp2
        go_ret2
        exact ⟨by first | rfl | (simp; done) | (simp [*]; done) | (simp only [gw_u8, i64_w, ne_nil_bool] <;> rfl), by repeat (first | exact Drawn0.refl _ | apply Drawn0.step)⟩
      · replace c6 := Bool.eq_false_iff.mpr c6
        subst c6
        have H1 : (lexer_number.l0 kj1 a0 0 (a0.size : Int) 0) = some (r1, r2) := by rw [if_neg (show ¬ (false = true) by decide)] at H; exact H
        clear H
        have H := H1
        clear H1
        have H' := Aside0.mk H
        clear H
        go_wp2
        go_loopg [4, 17] kj1 (fun kq v4 v17 w' => ∃ (x4_2 : Int) (x17_2 : Int), v4 = .int .i64 x4_2 ∧ v17 = .int .i64 x17_2 ∧ Aside0 (lexer_number.l0 kq a0 x4_2 (a0.size : Int) x17_2 = some (r1, r2)) ∧ Aside0 (kq ≤ kj1) ∧ Drawn0 w w')
        case atStart => exact ⟨(0), (0), (by first | rfl | (simp; done) | (simp [*]; done) | (simp only [gw_u8, i64_w, ne_nil_bool] <;> rfl)), (by first | rfl | (simp; done) | (simp [*]; done) | (simp only [gw_u8, i64_w, ne_nil_bool] <;> rfl)), H', ⟨Nat.le_refl _⟩, by repeat (first | exact Drawn0.refl _ | apply Drawn0.step)⟩
        case round =>
          clear H'
          try clear c1
          try clear p2
          try clear c3
          try clear c3b0
          try clear c3b1
          try clear c4
          try clear c4b0
          try clear c4b1
          try clear p5
          try clear q5
          try clear hx5
          try clear qi5
          try clear c6
          try clear p2
          try clear p5
          try clear q5
          obtain ⟨x4_2, x17_2, rfl, rfl, HA, HK2, ⟨m2, rfl⟩⟩ := hrel
          cases gk with
          | zero => exact absurd HA.out (by simp [lexer_number.l0])
          | succ k2 =>
            have H := HA.out
            clear HA
            simp only [lexer_number.l0] at H
            by_cases c7 : x17_2 < (a0.size : Int)
            · rw [if_pos c7] at H
              have c7b0 : decide (x17_2 < (a0.size : Int)) = true := decide_eq_true c7
              clear c7
              by_cases c8 : 0 ≤ x17_2
              · rw [if_pos c8] at H
                have c8b0 : decide (0 ≤ x17_2) = true := decide_eq_true c8
                clear c8
                by_cases c9 : x17_2 < (a0.size : Int)
                · rw [if_pos c9] at H
                  have c9b0 : decide (x17_2 < (a0.size : Int)) = true := decide_eq_true c9
                  clear c9
                  by_cases c11 : x4_2 > ((9223372036854775807 - (((bt a0 x17_2) - 48) % 256)) / 10)
                  · rw [if_pos c11] at H
                    have c11b0 : decide (((9223372036854775807 - (((bt a0 x17_2) - 48) % 256)) / 10) < x4_2) = true := decide_eq_true c11
                    clear c11
                    simp only [Option.some.injEq, Prod.mk.injEq] at H
                    obtain ⟨rfl, rfl⟩ := H
                    have p10 : 0 ≤ (x17_2 : Int) := of_decide_eq_true (by first | (with_reducible assumption) | assumption)
                    have q10 : x17_2 < (a0.size : Int) := of_decide_eq_true (by first | (with_reducible assumption) | assumption)
                    have hx10 := bt_at a0 x17_2
                    replace p10 := eq_true p10
                    replace q10 := eq_true q10
                    go_wp2
                    go_ret2
                    exact ⟨by first | rfl | (simp; done) | (simp [*]; done) | (simp only [gw_u8, i64_w, ne_nil_bool] <;> rfl), by repeat (first | exact Drawn0.refl _ | apply Drawn0.step)⟩
                  · rw [if_neg c11] at H
                    have c11b0 : decide (((9223372036854775807 - (((bt a0 x17_2) - 48) % 256)) / 10) < x4_2) = false := decide_eq_false c11
                    clear c11
                    have H' := Aside0.mk H
                    clear H
                    have p10 : 0 ≤ (x17_2 : Int) := of_decide_eq_true (by first | (with_reducible assumption) | assumption)
                    have q10 : x17_2 < (a0.size : Int) := of_decide_eq_true (by first | (with_reducible assumption) | assumption)
                    have hx10 := bt_at a0 x17_2
                    replace p10 := eq_true p10
                    replace q10 := eq_true q10
                    go_wp2
                    go_roundg k2
                    case measure => have := HJ1.out; have := HK2.out; omega
                    case rel => exact ⟨(wrap64 ((wrap64 (10 * x4_2)) + (((bt a0 x17_2) - 48) % 256))), (wrap64 (x17_2 + 1)), (by first | rfl | (simp; done) | (simp [*]; done) | (simp only [gw_u8, i64_w, ne_nil_bool] <;> rfl)), (by first | rfl | (simp; done) | (simp [*]; done) | (simp only [gw_u8, i64_w, ne_nil_bool] <;> rfl)), H', ⟨by have := HJ1.out; have := HK2.out; omega⟩, by repeat (first | exact Drawn0.refl _ | apply Drawn0.step)⟩
                · rw [if_neg c9] at H
                  exact absurd H (by simp)
              · rw [if_neg c8] at H
                exact absurd H (by simp)
            · rw [if_neg c7] at H
              have c7b0 : decide (x17_2 < (a0.size : Int)) = false := decide_eq_false c7
              clear c7
              simp only [Option.some.injEq, Prod.mk.injEq] at H
              obtain ⟨rfl, rfl⟩ := H
              go_wp2
              go_ret2
              exact ⟨by first | rfl | (simp; done) | (simp [*]; done) | (simp only [gw_u8, i64_w, ne_nil_bool] <;> rfl), by repeat (first | exact Drawn0.refl _ | apply Drawn0.step)⟩

/-! ### lexer_prefix at continues: function 17 -/
def lexer_prefix_continues.p (c : UInt8) : Bool := (lexer_continues.f (c.toNat : Int)).getD false
def lexer_prefix_continues.f (a0 : ByteArray) : Option Int := if a0.size ≤ 140737488355328 then some ((a0.data.toList.takeWhile lexer_prefix_continues.p).length : Int) else none
theorem lexer_prefix_continues.tells (x : Int) : ∃ b, lexer_continues.f x = some b := by
  unfold lexer_continues.f lexer_begins.f lexer_decimal.f
  repeat' (first | exact ⟨_, rfl⟩ | split | simp only [Option.bind_some])
set_option maxHeartbeats 8000000 in
set_option maxRecDepth 100000 in
theorem lexer_prefix_continues.calls (a0 : ByteArray) (r : Int) (w : World) (h : lexer_prefix_continues.f a0 = some r) :
    Calls Tryd.prog 17 #[.string a0, .func (.func 38) #[] #[]] w fun e w' => e = .returned (.int .i64 r) ∧ Drawn0 w w' := by
  unfold lexer_prefix_continues.f at h
  split at h
  case isFalse => exact absurd h (by simp)
  rename_i hs
  have hr := Aside0.mk (Option.some.inj h)
  clear h
  have hsome : ∀ c : UInt8, ∃ b, lexer_continues.f (c.toNat : Int) = some b ∧ lexer_prefix_continues.p c = b := fun c => by
    unfold lexer_prefix_continues.p
    obtain ⟨b, hb⟩ := lexer_prefix_continues.tells (c.toNat : Int)
    exact ⟨b, hb, by rw [hb]; rfl⟩
  have HS := Aside0.mk hsome
  clear hsome
  go_enter Tryd.func17, Tryd.ntmps17
  go_wp2
  go_loopw [5] (fun v5 w' => ∃ k : Nat, k ≤ a0.size ∧ v5 = .int .i64 k ∧ Aside0 (∀ c ∈ a0.data.toList.take k, lexer_prefix_continues.p c = true) ∧ Drawn0 w w') (fun v5 _ => a0.size - (intOf v5).toNat)
  case atStart => exact ⟨0, Nat.zero_le _, rfl, ⟨by simp⟩, Drawn0.refl _⟩
  case round =>
    obtain ⟨k, hk, rfl, HT, ⟨m, rfl⟩⟩ := hrel
    by_cases hlt : k < a0.size
    · have hb := bt_at a0 k
      obtain ⟨b, hb1, hb2⟩ := HS.out (a0[k]'hlt)
      cases b with
      | true =>
        have A := Aside0.mk hb1
        have A2 := Aside0.mk hb2
        clear hb1 hb2
        go_wp2_with (go_at_call 38; (with_reducible refine (lexer_continues.calls _ true _ A.out).mono ?_); rintro e w' ⟨rfl, ⟨nd, rfl⟩⟩)
        go_roundw
        case rel => exact ⟨k + 1, by omega, by go_num, ⟨span_step _ k (by simpa using hlt) HT.out A2.out⟩, ⟨_, rfl⟩⟩
        case measure => simp [intOf]; omega
      | false =>
        have A := Aside0.mk hb1
        have A2 := Aside0.mk hb2
        clear hb1 hb2
        go_wp2_with (go_at_call 38; (with_reducible refine (lexer_continues.calls _ false _ A.out).mono ?_); rintro e w' ⟨rfl, ⟨nd, rfl⟩⟩)
        go_ret
        exact ⟨by rw [← hr.out, span_end _ k (by simpa using hlt) HT.out A2.out]; rfl, ⟨_, rfl⟩⟩
    · go_wp2
      go_ret
      have e : a0.data.toList.length = k := by simp; omega
      exact ⟨by rw [← hr.out, span_all _ k (by omega) HT.out, e]; rfl, ⟨_, rfl⟩⟩

/-! ### lexer_prefix at decimal: function 17 -/
def lexer_prefix_decimal.p (c : UInt8) : Bool := (lexer_decimal.f (c.toNat : Int)).getD false
def lexer_prefix_decimal.f (a0 : ByteArray) : Option Int := if a0.size ≤ 140737488355328 then some ((a0.data.toList.takeWhile lexer_prefix_decimal.p).length : Int) else none
theorem lexer_prefix_decimal.tells (x : Int) : ∃ b, lexer_decimal.f x = some b := by
  unfold lexer_decimal.f
  repeat' (first | exact ⟨_, rfl⟩ | split | simp only [Option.bind_some])
set_option maxHeartbeats 8000000 in
set_option maxRecDepth 100000 in
theorem lexer_prefix_decimal.calls (a0 : ByteArray) (r : Int) (w : World) (h : lexer_prefix_decimal.f a0 = some r) :
    Calls Tryd.prog 17 #[.string a0, .func (.func 39) #[] #[]] w fun e w' => e = .returned (.int .i64 r) ∧ Drawn0 w w' := by
  unfold lexer_prefix_decimal.f at h
  split at h
  case isFalse => exact absurd h (by simp)
  rename_i hs
  have hr := Aside0.mk (Option.some.inj h)
  clear h
  have hsome : ∀ c : UInt8, ∃ b, lexer_decimal.f (c.toNat : Int) = some b ∧ lexer_prefix_decimal.p c = b := fun c => by
    unfold lexer_prefix_decimal.p
    obtain ⟨b, hb⟩ := lexer_prefix_decimal.tells (c.toNat : Int)
    exact ⟨b, hb, by rw [hb]; rfl⟩
  have HS := Aside0.mk hsome
  clear hsome
  go_enter Tryd.func17, Tryd.ntmps17
  go_wp2
  go_loopw [5] (fun v5 w' => ∃ k : Nat, k ≤ a0.size ∧ v5 = .int .i64 k ∧ Aside0 (∀ c ∈ a0.data.toList.take k, lexer_prefix_decimal.p c = true) ∧ Drawn0 w w') (fun v5 _ => a0.size - (intOf v5).toNat)
  case atStart => exact ⟨0, Nat.zero_le _, rfl, ⟨by simp⟩, Drawn0.refl _⟩
  case round =>
    obtain ⟨k, hk, rfl, HT, ⟨m, rfl⟩⟩ := hrel
    by_cases hlt : k < a0.size
    · have hb := bt_at a0 k
      obtain ⟨b, hb1, hb2⟩ := HS.out (a0[k]'hlt)
      cases b with
      | true =>
        have A := Aside0.mk hb1
        have A2 := Aside0.mk hb2
        clear hb1 hb2
        go_wp2_with (go_at_call 39; (with_reducible refine (lexer_decimal.calls _ true _ A.out).mono ?_); rintro e w' ⟨rfl, ⟨nd, rfl⟩⟩)
        go_roundw
        case rel => exact ⟨k + 1, by omega, by go_num, ⟨span_step _ k (by simpa using hlt) HT.out A2.out⟩, ⟨_, rfl⟩⟩
        case measure => simp [intOf]; omega
      | false =>
        have A := Aside0.mk hb1
        have A2 := Aside0.mk hb2
        clear hb1 hb2
        go_wp2_with (go_at_call 39; (with_reducible refine (lexer_decimal.calls _ false _ A.out).mono ?_); rintro e w' ⟨rfl, ⟨nd, rfl⟩⟩)
        go_ret
        exact ⟨by rw [← hr.out, span_end _ k (by simpa using hlt) HT.out A2.out]; rfl, ⟨_, rfl⟩⟩
    · go_wp2
      go_ret
      have e : a0.data.toList.length = k := by simp; omega
      exact ⟨by rw [← hr.out, span_all _ k (by omega) HT.out, e]; rfl, ⟨_, rfl⟩⟩

end Go.Proofs.YtlgkeeajcbooaaaDoor.PL
