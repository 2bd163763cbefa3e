/- Reading tokens: the program's lexer. No condition. What the program's own checks answer: names, lists. No condition. What the program's own checks answer: terms. No condition. -/
import Derived.Test.YtagceefccafgoaaGreatDoorT27
import Derived.Test.YtagceefccafgoaaGreatDoorT29
set_option linter.all false
namespace Go.Ev.Ty
open Go.Ev
variable [GF]
set_option maxRecDepth 100000
set_option linter.unusedSimpArgs false
set_option linter.unusedVariables false
theorem s144 (n : Int) : CallP pg 144 [bV n] (.bool (digit n)) := by
  refine CallP.go rfl (show _ = some m144 from rfl) ?_
  unfold m144 digit
  by_cases a : 48 ≤ n <;> by_cases b : n ≤ 57 <;> simp [a, b]
theorem s130 (n : Int) : CallP pg 130 [bV n] (.bool (letter n)) := by
  refine CallP.go rfl (show _ = some m130 from rfl) ?_
  unfold m130 letter
  by_cases e : n = 95
  · simp [e]
  by_cases a : 97 ≤ n <;> by_cases b : n ≤ 122 <;> by_cases c : 65 ≤ n <;> by_cases d : n ≤ 90 <;> simp [a, b, c, d, e]
theorem s132 (n : Int) : CallP pg 132 [bV n] (.bool (ldB n)) := by
  refine CallP.go rfl (show _ = some m132 from rfl) ?_
  have c1 := s130 n
  have c2 := s144 n
  unfold m132 ldB
  by_cases a : letter n = true <;> by_cases b : digit n = true <;> simp [callK_eq c1, callK_eq c2, a, b]
theorem s141 (l : List UInt8) (c : Int) (hc : c.toNat < 256) : CallP pg 141 [.str (mkS l), bV c] (iV (indexB c.toNat l 0)) := by
  have c159 : CallP pg 159 [.str (mkS l), bV c] (iV (indexB c.toNat l 0)) := CallP.nat (g := natIndex) rfl (if_pos hc)
  have c151 : CallP pg 151 [.str (mkS l), bV c] (iV (indexB c.toNat l 0)) := by
    refine CallP.go rfl (show _ = some m151 from rfl) ?_
    unfold m151
    simp [callK_eq c159]
  refine CallP.go rfl (show _ = some m141 from rfl) ?_
  unfold m141
  simp [callK_eq c151]
theorem s138 (b : UInt8) : CallP pg 138 [bV b.toNat] (.bool (isWhite b.toNat)) := by
  refine CallP.go rfl (show _ = some m138 from rfl) ?_
  have c := s141 [32, 9, 13, 10] (b.toNat : Int) b.toNat_lt
  have key : ∀ n : Nat, decide (0 ≤ indexB n [32, 9, 13, 10] 0) = isWhite n := by
    intro n
    by_cases a : n = 32
    · subst a; rfl
    by_cases b : n = 9
    · subst b; rfl
    by_cases c : n = 13
    · subst c; rfl
    by_cases d : n = 10
    · subst d; rfl
    have a1 : ¬ 32 = n := fun e => a e.symm
    have b1 : ¬ 9 = n := fun e => b e.symm
    have c1 : ¬ 13 = n := fun e => c e.symm
    have d1 : ¬ 10 = n := fun e => d e.symm
    have a2 : ¬ (n : Int) = 32 := by omega
    have b2 : ¬ (n : Int) = 9 := by omega
    have c2 : ¬ (n : Int) = 13 := by omega
    have d2 : ¬ (n : Int) = 10 := by omega
    simp [indexB, isWhite, a1, b1, c1, d1, a2, b2, c2, d2]
  have e := key b.toNat
  rw [← e]
  unfold m138
  simp [callK_eq c]
/-- prefix. -/
theorem s131 (f : FuncId) (p : Int → Bool) (hf : ∀ b : UInt8, CallP pg f [bV b.toNat] (.bool (p b.toNat))) (l : List UInt8) (hl : l.length < 4611686018427387904) :
    CallP pg 131 [.str (mkS l), .fn f [] []] (iV (run p l)) := by
  refine CallP.go rfl (show _ = some m131 from rfl) ?_
  generalize hA : run p l = A
  have loop := loop_meas (M := pg) m131_l0.eq_def (fun m e σ => ∃ i : Nat, e = [(0, .str (mkS l)), (1, .fn f [] []), (5, iV i)] ∧ σ = [] ∧ m = l.length - i ∧ i ≤ l.length ∧ i + run p (l.drop i) = A)
    (fun y e σ => y = .exit 0 ∧ e.look 5 = some (iV A) ∧ σ = [])
    (by
      rintro m e σ ⟨i, rfl, rfl, rfl, hi, h⟩
      cases hd : l.drop i with
      | nil =>
        have hil : i = l.length := drop_nil hd hi
        rw [hd] at h
        simp only [run] at h
        have : i = A := by omega
        subst this
        simp [hil]
      | cons c r =>
        obtain ⟨hx, hd', hlt⟩ := drop_cons hd
        have hgi : ∀ h : i < l.length, l[i]'h = c := fun h => (List.getElem?_eq_some_iff.1 hx).2
        have cf := hf c
        have hwi := wrap_int (z := (i : Int) + 1) (by omega) (by omega)
        rw [hd] at h
        simp only [run] at h
        by_cases a : p c.toNat = true
        · simp [a] at h
          simp [hlt, hgi, callK_eq cf, a, hwi]
          clear hwi
          exact ⟨l.length - (i + 1), by omega, i + 1, by simp, rfl, by omega, by rw [hd']; omega⟩
        · simp [a] at h
          subst h
          simp [hlt, hgi, callK_eq cf, a])
    l.length [(0, .str (mkS l)), (1, .fn f [] []), (5, iV 0)] [] ⟨0, rfl, rfl, by omega, by omega, by simpa using hA⟩
  unfold m131
  simp
  refine loopK_of loop ?_
  rintro y e σ ⟨rfl, h5, rfl⟩
  simp [h5]
theorem s139 (l : List UInt8) : CallP pg 139 [.str (mkS l), .str ⟨#[10]⟩] (iV (countB 10 l)) := by
  have c148 : CallP pg 148 [.str (mkS l), bV 10] (iV (countB 10 l)) := CallP.nat (g := natCount) rfl rfl
  refine CallP.go rfl (show _ = some m139 from rfl) ?_
  unfold m139
  simp [callK_eq c148]
/-- No comment begins with another byte. -/
theorem s140 (c : UInt8) (l : List UInt8) (hc : c ≠ 47) : CallP pg 140 [.str (mkS (c :: l)), .str ⟨#[47, 47]⟩] (.bool false) := by
  have c150 : CallP pg 150 [.str (mkS (c :: l)), .str ⟨#[47, 47]⟩] (.bool false) := by
    refine CallP.go rfl (show _ = some m150 from rfl) ?_
    unfold m150
    by_cases h : 1 ≤ l.length
    · have hz : (2 : Int) ≤ (l.length : Int) + 1 := by omega
      simp [hz]
      intro e; exact absurd e hc
    · have hz : ¬ (2 : Int) ≤ (l.length : Int) + 1 := by omega
      simp [hz]
  refine CallP.go rfl (show _ = some m140 from rfl) ?_
  unfold m140
  simp [callK_eq c150]
/- Numbers. -/
def goN (v : Int) : List UInt8 → Option Int
  | [] => some v
  | c :: l => if v > (9223372036854775807 - ((c.toNat : Int) - 48)).tdiv 10 then none else goN (v * 10 + ((c.toNat : Int) - 48)) l
theorem intL_false : ∀ (l : List UInt8) (v : Int) (i : Nat), intL false v i l = match goN v (l.take (run digit l)) with
    | some w => (w, ((i + run digit l : Nat) : Int))
    | none => (0, 0)
  | [], v, i => by simp [intL, run, goN]
  | c :: l, v, i => by
    by_cases d : digit (c.toNat : Int) = true
    · simp only [intL, run, d, if_true, List.take_succ_cons, goN, Bool.false_eq_true, and_false, false_or]
      by_cases h : v > (9223372036854775807 - ((c.toNat : Int) - 48)).tdiv 10
      · simp only [h, if_true]
      · simp only [h, if_false, intL_false l]
        rw [show i + 1 + run digit l = i + (run digit l + 1) by omega]
    · simp [intL, run, d, goN]
theorem intL_true (l : List UInt8) (v : Int) (i : Nat) (hi : 0 < i) : intL true v i l = if run digit l = 0 then (v, (i : Int)) else (0, 0) := by
  cases l with
  | nil => simp [intL, run]
  | cons c l =>
    by_cases d : digit (c.toNat : Int) = true
    · simp [intL, run, d, hi]
    · simp [intL, run, d]
theorem numOf_eq (c : UInt8) (l : List UInt8) (hd : digit (c.toNat : Int) = true) : numOf (c :: l) = if 1 < run digit (c :: l) ∧ c = 48 then none else match goN 0 ((c :: l).take (run digit (c :: l))) with
    | some w => some (w, run digit (c :: l))
    | none => none := by
  have hh : (c :: l).head? = some c := rfl
  have hdd := (digit_iff _).1 hd
  have hv0 : ¬ (0 : Int) > (9223372036854775807 - ((c.toNat : Int) - 48)).tdiv 10 := by rw [tdiv10 _ (by omega)]; split <;> omega
  have hrun : run digit (c :: l) = run digit l + 1 := by simp [run, hd]
  unfold numOf
  simp only [hh, Option.some.injEq]
  by_cases h48 : c = 48
  · have e1 : intL (decide (c = 48)) 0 0 (c :: l) = intL true (0 * 10 + ((c.toNat : Int) - 48)) (0 + 1) l := by
      simp only [h48, decide_true]
      rw [h48] at hd hv0
      simp only [intL, hd, if_true, Nat.lt_irrefl, false_and, false_or, hv0, if_false]
    rw [e1, intL_true _ _ _ (by omega), hrun]
    by_cases h0 : run digit l = 0
    · simp [h0, goN, hv0]
    · have h1 : 1 < run digit l + 1 := by omega
      simp [h0, h48]
  · have e1 : intL (decide (c = 48)) 0 0 (c :: l) = intL false 0 0 (c :: l) := by simp [h48]
    rw [e1, intL_false]
    have hn : ¬ (1 < run digit (c :: l) ∧ c = 48) := fun h => h48 h.2
    rw [if_neg hn]
    cases goN 0 ((c :: l).take (run digit (c :: l))) with
    | none => simp
    | some w =>
      simp only [Nat.zero_add]
      rw [if_neg (by rw [hrun]; omega)]
      simp
theorem s152 (ds : List UInt8) (c : UInt8) (r : List UInt8) (hds : ds = c :: r) (hall : ∀ b, b ∈ ds → digit (b.toNat : Int) = true) (hl : ds.length < 4611686018427387904) :
    CallP pg 152 [.str (mkS ds)] (match (if 1 < ds.length ∧ c = 48 then none else goN 0 ds) with | some v => .tup [iV v, .bool true] | none => .tup [iV 0, .bool false]) := by
  refine CallP.go rfl (show _ = some m152 from rfl) ?_
  have hl0 : 0 < ds.length := by rw [hds]; simp
  have hg0 : ∀ h : 0 < ds.length, ds[0]'h = c := fun h => by simp [hds]
  have hne : ¬ ds = [] := by rw [hds]; simp
  have hcz : ((c.toNat : Int) = 48) ↔ c = 48 := by
    constructor
    · intro e; exact UInt8.toNat_inj.1 (by show c.toNat = 48; omega)
    · intro e; rw [e]; rfl
  have first : ¬ (1 < ds.length ∧ c = 48) ∨ (1 < ds.length ∧ c = 48) := by by_cases h : 1 < ds.length ∧ c = 48; exact .inr h; exact .inl h
  rcases first with hn | ⟨h1, h48⟩
  case inr =>
    have h1z : (1 : Int) < (ds.length : Int) := by omega
    rw [if_pos ⟨h1, h48⟩]
    unfold m152
    simp [h1, h1z, hl0, hg0, hcz, h48]
  rw [if_neg hn]
  generalize hA : goN 0 ds = A
  have loop := loop_go (M := pg) m152_l0.eq_def ds hl (fun i e σ => ∃ v : Int, e = [(0, .str (mkS ds)), (4, iV v), (16, iV ds.length), (17, iV i)] ∧ σ = [] ∧ 0 ≤ v ∧ goN v (ds.drop i) = A)
    (fun y e σ => (y = .exit 0 ∧ σ = [] ∧ ∃ w, A = some w ∧ e = [(0, .str (mkS ds)), (4, iV w), (16, iV ds.length), (17, iV ds.length), (18, .bool false)]) ∨ (y = .ret ∧ A = none ∧ e = [(2, iV 0), (3, .bool false)]))
    (by rintro e σ ⟨v, rfl, rfl, hv, h⟩; rw [List.drop_length] at h; simp only [goN] at h; simp [← h])
    (by
      rintro i c r e σ ⟨v, rfl, rfl, hv, h⟩ hd hlt hx' hd' hw
      rw [hd] at h
      simp only [goN] at h
      have hgi : ∀ h : i < ds.length, ds[i]'h = c := fun h => hx'
      have hdd := (digit_iff _).1 (hall c (by rw [← hx']; exact List.getElem_mem hlt))
      have hu8 := u8_sub c.toNat (by clear hw; omega)
      have hcv : IntKind.i64.wrap ((c.toNat : Int) - 48) = (c.toNat : Int) - 48 := wrap_int (by clear hw; omega) (by clear hw; omega)
      have hsub : IntKind.i64.wrap (9223372036854775807 - ((c.toNat : Int) - 48)) = 9223372036854775807 - ((c.toNat : Int) - 48) := wrap_int (by clear hw; omega) (by clear hw; omega)
      have ht := tdiv10 ((c.toNat : Int) - 48) (by clear hw; omega)
      have hq : IntKind.i64.wrap ((9223372036854775807 - ((c.toNat : Int) - 48)).tdiv 10) = (9223372036854775807 - ((c.toNat : Int) - 48)).tdiv 10 := wrap_int (by rw [ht]; split <;> omega) (by rw [ht]; split <;> omega)
      have hqv : ∀ q, (9223372036854775807 - ((c.toNat : Int) - 48)).tdiv 10 = q → v ≤ q → v * 10 + ((c.toNat : Int) - 48) ≤ 9223372036854775807 := fun q e hv => by
        rw [ht] at e; subst e; clear hw hu8 hcv hsub hq; split at hv <;> omega
      generalize hqq : (9223372036854775807 - ((c.toNat : Int) - 48)).tdiv 10 = q at *
      replace hqv := hqv q rfl
      clear ht
      by_cases hvq : v > q
      · rw [if_pos hvq] at h
        subst h
        simp [hlt, hgi, hu8, hcv, hsub, hqq, hq, hvq]
      · rw [if_neg hvq] at h
        have hv2 := hqv (by clear hw hu8 hcv hsub hq; omega)
        have hcomm : 10 * v = v * 10 := by clear hw hu8 hcv hsub hq; omega
        have hm1 := wrap_int (z := v * 10) (by clear hw hu8 hcv hsub hq; omega) (by clear hw hu8 hcv hsub hq; omega)
        have hm2 := wrap_int (z := v * 10 + ((c.toNat : Int) - 48)) (by clear hw hu8 hcv hsub hq hm1; omega) (by clear hw hu8 hcv hsub hq hm1; omega)
        simp [hlt, hgi, hu8, hcv, hsub, hqq, hq, hvq, hcomm, hm1, hm2, hw]
        clear hw hu8 hcv hsub hq hm1 hm2 hqq
        exact ⟨by omega, by rw [hd']; exact h⟩)
    (e := [(0, .str (mkS ds)), (4, iV 0), (16, iV ds.length), (17, iV 0)]) (σ := []) ⟨0, rfl, rfl, by omega, by simpa using hA⟩
  have hnz : (1 : Int) < (ds.length : Int) → 1 < ds.length := by omega
  unfold m152
  by_cases h1 : 1 < ds.length
  · have h1z : (1 : Int) < (ds.length : Int) := by omega
    have h48 : ¬ c = 48 := fun e => hn ⟨h1, e⟩
    simp [h1, h1z, hl0, hg0, hcz, h48]
    refine loopK_of loop ?_
    rintro y e σ (⟨rfl, rfl, w, rfl, rfl⟩ | ⟨rfl, rfl, rfl⟩)
    · simp [hne]
    · simp
  · have h1z : ¬ (1 : Int) < (ds.length : Int) := by omega
    simp [h1, h1z]
    refine loopK_of loop ?_
    rintro y e σ (⟨rfl, rfl, w, rfl, rfl⟩ | ⟨rfl, rfl, rfl⟩)
    · simp [hne]
    · simp
end Go.Ev.Ty
namespace Go.Ev.Ty
open Go.Ev
variable [GF]
set_option maxRecDepth 100000
set_option linter.unusedSimpArgs false
set_option linter.unusedVariables false
theorem run_nameB : ∀ l : List UInt8, decide (run ldB l = l.length) = nameB l
  | [] => rfl
  | c :: l => by
    have ih := run_nameB l
    by_cases a : ldB (c.toNat : Int) = true
    · have b : (letter c.toNat || digit c.toNat) = true := a
      simp only [run, a, if_true, nameB, b, Bool.true_and, List.length_cons]
      rw [← ih]
      by_cases h : run ldB l = l.length
      · simp [h]
      · have : ¬ run ldB l + 1 = l.length + 1 := by omega
        simp [h, this]
    · have b : ¬ (letter c.toNat || digit c.toNat) = true := a
      simp only [Bool.not_eq_true] at a b
      simp [run, a, nameB, b]
theorem s109 (s : ByteArray) : CallP pg 109 [.str s] (.bool (lexName s)) := by
  refine CallP.go rfl (show _ = some m109 from rfl) ?_
  have hsz := len_data s
  by_cases h0 : s = ⟨#[]⟩
  · have hl : lexName s = false := by rw [h0]; rfl
    have h0' : (s = ⟨#[]⟩) = True := eq_true h0
    clear h0 hsz
    rw [hl]
    unfold m109
    simp [h0']
  by_cases h24 : s.size ≤ 24
  case neg =>
    have h24' : ¬ (s.size : Int) ≤ (24 : Int) := by omega
    unfold m109 lexName
    simp [h0, h24, h24']
  have h24' : (s.size : Int) ≤ (24 : Int) := by omega
  obtain ⟨c, l, hl⟩ : ∃ c l, s.data.toList = c :: l := by
    cases h : s.data.toList with
    | nil => exact absurd ((empty_data s).2 h) h0
    | cons c l => exact ⟨c, l, rfl⟩
  have h1 := s130 (c.toNat : Int)
  by_cases hc : letter (c.toNat : Int) = true
  case neg =>
    unfold m109 lexName
    simp [h0, h24, h24', hl, callK_eq h1, hc, headB]
  have hs : s = mkS (c :: l) := by rw [← hl]
  have h2 := s131 132 ldB (fun b => s132 _) (c :: l) (by have : (c :: l).length = s.size := by rw [← hl]; exact hsz
                                                         omega)
  rw [← hs] at h2
  have hlex : lexName s = decide (run ldB (c :: l) = (c :: l).length) := by unfold lexName; rw [run_nameB, hl]; simp [h24, headB, hc]
  have hsz' : (c :: l).length = s.size := by rw [← hl]; exact hsz
  rw [hsz'] at hlex
  rw [hlex]
  generalize run ldB (c :: l) = r at *
  unfold m109
  have hrs : ((r : Int) = (s.size : Int)) = (r = s.size) := by apply propext; omega
  simp [h0, h24', hl, callK_eq h1, hc, callK_eq h2, hrs]
def resB : List ByteArray → ByteArray → Bool
  | [], _ => false
  | w :: l, s => if s = w then true else resB l s
theorem s110 (s : ByteArray) : CallP pg 110 [.str s] (.bool (isRes s)) := by
  refine CallP.go rfl (show _ = some m110 from rfl) ?_
  unfold isRes resL
  by_cases w0 : s = ⟨#[115, 105, 116, 101]⟩
  case pos => subst w0; unfold m110; simp [isIn]
  by_cases w1 : s = ⟨#[102, 97, 117, 108, 116, 115]⟩
  case pos => subst w1; unfold m110; simp [isIn]
  by_cases w2 : s = ⟨#[113, 117, 111, 114, 117, 109]⟩
  case pos => subst w2; unfold m110; simp [isIn]
  by_cases w3 : s = ⟨#[99, 111, 110, 102, 105, 103]⟩
  case pos => subst w3; unfold m110; simp [isIn]
  by_cases w4 : s = ⟨#[119, 105, 116, 110, 101, 115, 115]⟩
  case pos => subst w4; unfold m110; simp [isIn]
  by_cases w5 : s = ⟨#[99, 108, 105, 101, 110, 116]⟩
  case pos => subst w5; unfold m110; simp [isIn]
  by_cases w6 : s = ⟨#[99, 104, 97, 105, 110]⟩
  case pos => subst w6; unfold m110; simp [isIn]
  by_cases w7 : s = ⟨#[114, 101, 97, 100]⟩
  case pos => subst w7; unfold m110; simp [isIn]
  by_cases w8 : s = ⟨#[119, 114, 105, 116, 101]⟩
  case pos => subst w8; unfold m110; simp [isIn]
  by_cases w9 : s = ⟨#[99, 114, 97, 115, 104]⟩
  case pos => subst w9; unfold m110; simp [isIn]
  by_cases w10 : s = ⟨#[98, 121, 122, 97, 110, 116, 105, 110, 101]⟩
  case pos => subst w10; unfold m110; simp [isIn]
  by_cases w11 : s = ⟨#[110, 111, 110, 101]⟩
  case pos => subst w11; unfold m110; simp [isIn]
  by_cases w12 : s = ⟨#[116, 104, 114, 101, 115, 104, 111, 108, 100]⟩
  case pos => subst w12; unfold m110; simp [isIn]
  by_cases w13 : s = ⟨#[98, 121, 122]⟩
  case pos => subst w13; unfold m110; simp [isIn]
  by_cases w14 : s = ⟨#[100, 117, 97, 108]⟩
  case pos => subst w14; unfold m110; simp [isIn]
  by_cases w15 : s = ⟨#[109, 97, 106, 111, 114, 105, 116, 121]⟩
  case pos => subst w15; unfold m110; simp [isIn]
  by_cases w16 : s = ⟨#[97, 108, 108]⟩
  case pos => subst w16; unfold m110; simp [isIn]
  by_cases w17 : s = ⟨#[97, 110, 121]⟩
  case pos => subst w17; unfold m110; simp [isIn]
  by_cases w18 : s = ⟨#[115, 101, 114, 118, 101, 114, 115]⟩
  case pos => subst w18; unfold m110; simp [isIn]
  have v0 := fun e => w0 (Eq.symm e)
  have v1 := fun e => w1 (Eq.symm e)
  have v2 := fun e => w2 (Eq.symm e)
  have v3 := fun e => w3 (Eq.symm e)
  have v4 := fun e => w4 (Eq.symm e)
  have v5 := fun e => w5 (Eq.symm e)
  have v6 := fun e => w6 (Eq.symm e)
  have v7 := fun e => w7 (Eq.symm e)
  have v8 := fun e => w8 (Eq.symm e)
  have v9 := fun e => w9 (Eq.symm e)
  have v10 := fun e => w10 (Eq.symm e)
  have v11 := fun e => w11 (Eq.symm e)
  have v12 := fun e => w12 (Eq.symm e)
  have v13 := fun e => w13 (Eq.symm e)
  have v14 := fun e => w14 (Eq.symm e)
  have v15 := fun e => w15 (Eq.symm e)
  have v16 := fun e => w16 (Eq.symm e)
  have v17 := fun e => w17 (Eq.symm e)
  have v18 := fun e => w18 (Eq.symm e)
  unfold m110
  simp [isIn, w0, w1, w2, w3, w4, w5, w6, w7, w8, w9, w10, w11, w12, w13, w14, w15, w16, w17, w18]
  exact ⟨v0, v1, v2, v3, v4, v5, v6, v7, v8, v9, v10, v11, v12, v13, v14, v15, v16, v17, v18⟩
theorem s80 (s : ByteArray) : CallP pg 80 [.str s] (.bool (isName s)) := by
  refine CallP.go rfl (show _ = some m80 from rfl) ?_
  unfold m80 isName
  have c1 := s109 s
  have c2 := s110 s
  by_cases a : lexName s = true <;> by_cases b : isRes s = true <;> simp [callK_eq c1, callK_eq c2, a, b]
/-- Where the first is for which p holds. -/
def posP {α : Type} (p : α → Bool) : List α → Nat → Int
  | [], _ => -1
  | x :: l, i => if p x then i else posP p l (i + 1)
theorem posP_any {α : Type} (p : α → Bool) : ∀ (l : List α) (i : Nat), decide (0 ≤ posP p l i) = l.any p
  | [], i => rfl
  | x :: l, i => by
    by_cases h : p x = true
    · simp [posP, h]
    · simp only [Bool.not_eq_true] at h
      have := posP_any p l (i + 1)
      simp only [posP, h, List.any_cons, Bool.false_or]
      exact this
theorem s133 (f : FuncId) (p : ByteArray → Bool) (l : List ByteArray) (hf : ∀ x, x ∈ l → CallP pg f [.str x] (.bool (p x))) (hl : l.length < 4611686018427387904) :
    CallP pg 133 [strsV l, .fn f [] []] (iV (posP p l 0)) := by
  refine CallP.go rfl (show _ = some m133 from rfl) ?_
  generalize hA : posP p l 0 = A
  have loop := loop_go (M := pg) m133_l0.eq_def l hl (fun i e σ => e = [(0, strsV l), (1, .fn f [] []), (7, iV l.length), (8, iV i)] ∧ σ = [] ∧ posP p (l.drop i) i = A)
    (fun y e σ => (y = .exit 0 ∧ A = -1) ∨ (y = .ret ∧ e = [(4, iV A)]))
    (by rintro e σ ⟨rfl, rfl, h⟩; simp [posP] at h; subst h; simp)
    (by
      rintro i x r e σ ⟨rfl, rfl, h⟩ hd hlt hx' hd' hw
      simp only [hd, posP] at h
      have cf := hf x (by rw [← hx']; exact List.getElem_mem hlt)
      by_cases a : p x = true
      · simp [a] at h
        subst h
        simp [hlt, hx', callK_eq cf, a]
      · simp [a] at h
        simp [hlt, hx', callK_eq cf, a, hw, hd', h])
    (e := [(0, strsV l), (1, .fn f [] []), (7, iV l.length), (8, iV 0)]) (σ := []) ⟨rfl, rfl, by simpa using hA⟩
  unfold m133
  simp
  refine loopK_of loop ?_
  rintro y e σ (⟨rfl, h⟩ | ⟨rfl, rfl⟩)
  · simp [h]
  · simp
theorem s111 (f : FuncId) (p : ByteArray → Bool) (l : List ByteArray) (hf : ∀ x, x ∈ l → CallP pg f [.str x] (.bool (p x))) (hl : l.length < 4611686018427387904) :
    CallP pg 111 [strsV l, .fn f [] []] (.bool (l.any p)) := by
  refine CallP.go rfl (show _ = some m111 from rfl) ?_
  rw [← posP_any p l 0]
  unfold m111
  simp [callK_eq (s133 f p l hf hl)]
theorem s134 (f : FuncId) (p : Int → Bool) (l : List Int) (hf : ∀ x, x ∈ l → CallP pg f [iV x] (.bool (p x))) (hl : l.length < 4611686018427387904) :
    CallP pg 134 [intsV l, .fn f [] []] (iV (posP p l 0)) := by
  refine CallP.go rfl (show _ = some m134 from rfl) ?_
  generalize hA : posP p l 0 = A
  have loop := loop_go (M := pg) m134_l0.eq_def l hl (fun i e σ => e = [(0, intsV l), (1, .fn f [] []), (7, iV l.length), (8, iV i)] ∧ σ = [] ∧ posP p (l.drop i) i = A)
    (fun y e σ => (y = .exit 0 ∧ A = -1) ∨ (y = .ret ∧ e = [(4, iV A)]))
    (by rintro e σ ⟨rfl, rfl, h⟩; simp [posP] at h; subst h; simp)
    (by
      rintro i x r e σ ⟨rfl, rfl, h⟩ hd hlt hx' hd' hw
      simp only [hd, posP] at h
      have cf := hf x (by rw [← hx']; exact List.getElem_mem hlt)
      by_cases a : p x = true
      · simp [a] at h
        subst h
        simp [hlt, hx', callK_eq cf, a]
      · simp [a] at h
        simp [hlt, hx', callK_eq cf, a, hw, hd', h])
    (e := [(0, intsV l), (1, .fn f [] []), (7, iV l.length), (8, iV 0)]) (σ := []) ⟨rfl, rfl, by simpa using hA⟩
  unfold m134
  simp
  refine loopK_of loop ?_
  rintro y e σ (⟨rfl, h⟩ | ⟨rfl, rfl⟩)
  · simp [h]
  · simp
theorem s115 (f : FuncId) (p : Int → Bool) (l : List Int) (hf : ∀ x, x ∈ l → CallP pg f [iV x] (.bool (p x))) (hl : l.length < 4611686018427387904) :
    CallP pg 115 [intsV l, .fn f [] []] (.bool (l.any p)) := by
  refine CallP.go rfl (show _ = some m115 from rfl) ?_
  rw [← posP_any p l 0]
  unfold m115
  simp [callK_eq (s134 f p l hf hl)]
theorem s135 (f : FuncId) (p : T → Bool) (l : List T) (hf : ∀ x, x ∈ l → CallP pg f [.agg x.cells] (.bool (p x))) (hl : l.length < 4611686018427387904) :
    CallP pg 135 [termsV l, .fn f [] []] (iV (posP p l 0)) := by
  refine CallP.go rfl (show _ = some m135 from rfl) ?_
  generalize hA : posP p l 0 = A
  have loop := loop_go (M := pg) m135_l0.eq_def l hl (fun i e σ => e = [(0, termsV l), (1, .fn f [] []), (7, iV l.length), (8, iV i)] ∧ σ = [] ∧ posP p (l.drop i) i = A)
    (fun y e σ => (y = .exit 0 ∧ A = -1) ∨ (y = .ret ∧ e = [(4, iV A)]))
    (by rintro e σ ⟨rfl, rfl, h⟩; simp [posP] at h; subst h; simp)
    (by
      rintro i x r e σ ⟨rfl, rfl, h⟩ hd hlt hx' hd' hw
      simp only [hd, posP] at h
      have cf := hf x (by rw [← hx']; exact List.getElem_mem hlt)
      by_cases a : p x = true
      · simp [a] at h
        subst h
        simp [hlt, hx', callK_eq cf, a]
      · simp [a] at h
        simp [hlt, hx', callK_eq cf, a, hw, hd', h])
    (e := [(0, termsV l), (1, .fn f [] []), (7, iV l.length), (8, iV 0)]) (σ := []) ⟨rfl, rfl, by simpa using hA⟩
  unfold m135
  simp
  refine loopK_of loop ?_
  rintro y e σ (⟨rfl, h⟩ | ⟨rfl, rfl⟩)
  · simp [h]
  · simp
theorem s117 (f : FuncId) (p : T → Bool) (l : List T) (hf : ∀ x, x ∈ l → CallP pg f [.agg x.cells] (.bool (p x))) (hl : l.length < 4611686018427387904) :
    CallP pg 117 [termsV l, .fn f [] []] (.bool (l.any p)) := by
  refine CallP.go rfl (show _ = some m117 from rfl) ?_
  rw [← posP_any p l 0]
  unfold m117
  simp [callK_eq (s135 f p l hf hl)]
theorem s78 (f : FuncId) (p : D → Bool) (l : List D) (hf : ∀ x, x ∈ l → CallP pg f [.agg x.cells] (.bool (p x))) (hl : l.length < 4611686018427387904) :
    CallP pg 78 [declsV l, .fn f [] []] (iV (posP p l 0)) := by
  refine CallP.go rfl (show _ = some m78 from rfl) ?_
  generalize hA : posP p l 0 = A
  have loop := loop_go (M := pg) m78_l0.eq_def l hl (fun i e σ => e = [(0, declsV l), (1, .fn f [] []), (7, iV l.length), (8, iV i)] ∧ σ = [] ∧ posP p (l.drop i) i = A)
    (fun y e σ => (y = .exit 0 ∧ A = -1) ∨ (y = .ret ∧ e = [(4, iV A)]))
    (by rintro e σ ⟨rfl, rfl, h⟩; simp [posP] at h; subst h; simp)
    (by
      rintro i x r e σ ⟨rfl, rfl, h⟩ hd hlt hx' hd' hw
      simp only [hd, posP] at h
      have cf := hf x (by rw [← hx']; exact List.getElem_mem hlt)
      by_cases a : p x = true
      · simp [a] at h
        subst h
        simp [hlt, hx', callK_eq cf, a]
      · simp [a] at h
        simp [hlt, hx', callK_eq cf, a, hw, hd', h])
    (e := [(0, declsV l), (1, .fn f [] []), (7, iV l.length), (8, iV 0)]) (σ := []) ⟨rfl, rfl, by simpa using hA⟩
  unfold m78
  simp
  refine loopK_of loop ?_
  rintro y e σ (⟨rfl, h⟩ | ⟨rfl, rfl⟩)
  · simp [h]
  · simp
theorem s56 (f : FuncId) (p : D → Bool) (l : List D) (hf : ∀ x, x ∈ l → CallP pg f [.agg x.cells] (.bool (p x))) (hl : l.length < 4611686018427387904) :
    CallP pg 56 [declsV l, .fn f [] []] (.bool (l.any p)) := by
  refine CallP.go rfl (show _ = some m56 from rfl) ?_
  rw [← posP_any p l 0]
  unfold m56
  simp [callK_eq (s78 f p l hf hl)]
theorem s112 (s : ByteArray) : CallP pg 112 [.str s] (.bool (!isName s)) := by
  refine CallP.go rfl (show _ = some m112 from rfl) ?_
  unfold m112
  simp [callK_eq (s80 s)]
theorem allN_any : ∀ l : List ByteArray, allN l = !(l.any fun s => !isName s)
  | [] => rfl
  | s :: l => by
    have := allN_any l
    by_cases h : isName s = true
    · simp [allN, h, this]
    · simp [allN, h]
theorem s81 (l : List ByteArray) (hl : l.length < 4611686018427387904) : CallP pg 81 [strsV l] (.bool (allN l)) := by
  refine CallP.go rfl (show _ = some m81 from rfl) ?_
  have c := s111 112 (fun s => !isName s) l (fun x _ => s112 x) hl
  rw [allN_any]
  generalize l.any (fun s => !isName s) = b at *
  unfold m81
  simp [callK_eq c]
theorem s113 (n : Int) : CallP pg 113 [iV n] (.bool (small n)) := by
  refine CallP.go rfl (show _ = some m113 from rfl) ?_
  unfold m113 small
  by_cases a : 0 ≤ n <;> by_cases b : n ≤ 100000 <;> simp [a, b]
theorem s116 (n : Int) : CallP pg 116 [iV n] (.bool (!small n)) := by
  refine CallP.go rfl (show _ = some m116 from rfl) ?_
  unfold m116
  simp [callK_eq (s113 n)]
theorem allSmall_any : ∀ l : List Int, allSmall l = !(l.any fun s => !small s)
  | [] => rfl
  | s :: l => by
    have := allSmall_any l
    by_cases h : small s = true
    · simp [allSmall, h, this]
    · simp [allSmall, h]
/-- A term without need, weights, kids. -/
def bareT (t : T) : Bool := decide (t.need = 0) && decide (t.weights.length + t.kids.length = 0)
theorem s114 (t : T) (hw : t.weights.length < 4294967296) (hk : t.kids.length < 4294967296) : CallP pg 114 [.agg t.cells] (.bool (bareT t)) := by
  refine CallP.go rfl (show _ = some m114 from rfl) ?_
  have hws : IntKind.i64.wrap ((t.weights.length : Int) + (t.kids.length : Int)) = ((t.weights.length + t.kids.length : Nat) : Int) := by rw [wrap_int (by omega) (by omega)]; omega
  generalize hn : t.weights.length + t.kids.length = n at *
  unfold m114 bareT
  by_cases q2 : t.need = 0
  case neg => simp [hws, hn, q2]
  simp [hws, hn, q2]
theorem s85 (t : T) (hw : t.weights.length < 4294967296) (hk : t.kids.length < 4294967296) : CallP pg 85 [.agg t.cells] (.bool (blankT t)) := by
  refine CallP.go rfl (show _ = some m85 from rfl) ?_
  have c := s114 t hw hk
  have hb : blankT t = (decide (t.op = 0) && decide (t.name = ⟨#[]⟩) && bareT t) := by unfold blankT bareT; simp only [Bool.and_assoc]
  rw [hb]
  generalize bareT t = b at *
  unfold m85
  by_cases z0 : t.op = 0
  case neg => simp [callK_eq c, z0]
  by_cases z1 : t.name = ⟨#[]⟩
  case neg => simp [callK_eq c, z0, z1]
  simp [callK_eq c, z0, z1]
set_option maxHeartbeats 8000000 in
/-- validFault. -/
theorem s83 (f : FT) (hb : f.byzNames.length < 4294967296) (hc : f.crashNames.length < 4294967296) : CallP pg 83 [.agg f.cells] (.bool (isFault f)) := by
  refine CallP.go rfl (show _ = some m83 from rfl) ?_
  have hws : IntKind.i64.wrap ((f.byzNames.length : Int) + (f.crashNames.length : Int)) = ((f.byzNames.length + f.crashNames.length : Nat) : Int) := by rw [wrap_int (by omega) (by omega)]; omega
  have cb := s113 f.byz
  have cc := s113 f.crash
  have cn := s80 f.name
  have c1 := s81 f.byzNames (by omega)
  have c2 := s81 f.crashNames (by omega)
  generalize hk : f.byzNames.length + f.crashNames.length = k at *
  unfold m83 isFault
  simp only [hk]
  have kk : (k = 0 ∧ ¬ 0 < k) ∨ (¬ k = 0 ∧ 0 < k) := by omega
  rcases kk with ⟨k0, k1⟩ | ⟨k0, k1⟩ <;> rcases Classical.propComplete (f.byz = 0) with q1 | q1 <;> rcases Classical.propComplete (f.crash = 0) with q2 | q2
  all_goals
    skip
    by_cases o1 : f.op = 1
    · skip
      by_cases z0 : f.name = ⟨#[]⟩
      case neg => simp [o1, hws, q1, q2, k0, k1, z0]
      simp [o1, hws, q1, q2, k0, k1, z0]
    by_cases o2 : f.op = 2
    · skip
      by_cases z0 : f.name = ⟨#[]⟩
      case neg => simp [o2, hws, callK_eq cb, callK_eq cc, q1, q2, k0, k1, z0]
      by_cases z1 : small f.byz = true
      case neg => simp [o2, hws, callK_eq cb, callK_eq cc, q1, q2, k0, k1, z0, z1]
      by_cases z2 : small f.crash = true
      case neg => simp [o2, hws, callK_eq cb, callK_eq cc, q1, q2, k0, k1, z0, z1, z2]
      simp [o2, hws, callK_eq cb, callK_eq cc, q1, q2, k0, k1, z0, z1, z2]
    by_cases o3 : f.op = 3
    · skip
      by_cases z0 : f.name = ⟨#[]⟩
      case neg => simp [o3, hws, callK_eq c1, callK_eq c2, q1, q2, k0, k1, z0]
      by_cases z1 : allN f.byzNames = true
      case neg => simp [o3, hws, callK_eq c1, callK_eq c2, q1, q2, k0, k1, z0, z1]
      simp [o3, hws, callK_eq c1, callK_eq c2, q1, q2, k0, k1, z0, z1]
    by_cases o4 : f.op = 4 ∨ f.op = 5 ∨ f.op = 6
    · rcases o4 with o | o | o
      all_goals
        skip
        by_cases z0 : isName f.name = true
        case neg => simp [o, hws, callK_eq cn, q1, q2, k0, k1, z0]
        simp [o, hws, callK_eq cn, q1, q2, k0, k1, z0]
    · have o4' : ¬ f.op = 4 ∧ ¬ f.op = 5 ∧ ¬ f.op = 6 := by omega
      simp [o1, o2, o3, o4'.1, o4'.2.1, o4'.2.2, hws, q1, q2, k0, k1]
end Go.Ev.Ty
namespace Go.Ev.Ty
open Go.Ev
variable [GF]
set_option maxRecDepth 100000
set_option linter.unusedSimpArgs false
set_option linter.unusedVariables false
theorem isTerms_any : ∀ l : List T, isTerms l = !(l.any fun t => !isTerm t)
  | [] => rfl
  | s :: l => by
    have := isTerms_any l
    by_cases h : isTerm s = true
    · simp [isTerms, h, this]
    · simp [isTerms, h]
theorem s118 (t : T) (b : Bool) (h : CallP pg 84 [.agg t.cells] (.bool b)) : CallP pg 118 [.agg t.cells] (.bool (!b)) := by
  refine CallP.go rfl (show _ = some m118 from rfl) ?_
  unfold m118
  simp [callK_eq h]
set_option maxHeartbeats 8000000 in
theorem s84 : ∀ (n : Nat) (x : T), x.size ≤ n → n < 4294967296 → CallP pg 84 [.agg x.cells] (.bool (isTerm x)) := by
  intro n
  induction n with
  | zero => intro x h; have := x.size_pos; omega
  | succ n ih =>
    intro x hx hn
    have hsz := x.size_eq
    have hkl := sizes_len x.kids
    have hwl : x.weights.length < 4294967296 := by omega
    have hkl' : x.kids.length < 4294967296 := by omega
    have c80 := s80 x.name
    have c113 := s113 x.need
    have c114 := s114 x hwl hkl'
    have c115 := s115 116 (fun s => !small s) x.weights (fun x _ => s116 x) (by omega)
    have c117 := s117 118 (fun s => !isTerm s) x.kids (fun u hu => s118 u _ (ih u (by have := sizes_mem hu; omega) (by omega))) (by omega)
    refine CallP.go rfl (show _ = some m84 from rfl) ?_
    rw [isTerm_eq, isTerms_any, allSmall_any]
    have hb : ∀ W K F : Bool, (if (!K) = true then (if (!W) = true then F else false) else false) = (F && (!W && !K)) := by decide
    rw [hb]
    generalize x.weights.any (fun s => !small s) = W at *
    generalize x.kids.any (fun s => !isTerm s) = K at *
    have hbare : bareT x = (decide (x.need = 0) && decide (x.weights.length + x.kids.length = 0)) := rfl
    unfold m84 formOk
    simp only [Bool.and_assoc]
    rw [← hbare]
    generalize hB : bareT x = B at *
    clear hb ih hsz
    have hc2 : ((2 : Int) ≤ (x.kids.length : Int)) = (2 ≤ x.kids.length) := by apply propext; omega
    have hc1 : ((x.kids.length : Int) = 1) = (x.kids.length = 1) := by apply propext; omega
    cases W
    all_goals
      by_cases o1 : x.op = 1
      · skip
        by_cases q0 : isName x.name = true
        case neg => simp [o1, callK_eq c80, callK_eq c114, callK_eq c115, callK_eq c117, q0]
        by_cases q1 : B = true
        case neg => simp [o1, callK_eq c80, callK_eq c114, callK_eq c115, callK_eq c117, q0, q1]
        simp [o1, callK_eq c80, callK_eq c114, callK_eq c115, callK_eq c117, q0, q1]
      by_cases o6 : x.op = 6 ∨ x.op = 7 ∨ x.op = 8
      · rcases o6 with o | o | o
        all_goals
          by_cases n1 : isName x.name = true
          · skip
            by_cases q0 : B = true
            case neg => simp [o, callK_eq c80, callK_eq c114, callK_eq c115, callK_eq c117, n1, q0]
            simp [o, callK_eq c80, callK_eq c114, callK_eq c115, callK_eq c117, n1, q0]
          · by_cases n2 : x.name = bServers
            · have n3 : x.name = ⟨#[115, 101, 114, 118, 101, 114, 115]⟩ := n2
              have n4 : isName ⟨#[115, 101, 114, 118, 101, 114, 115]⟩ = false := by rw [← n3]; simpa using n1
              have c80' := c80
              rw [n3] at c80'
              by_cases q0 : B = true
              case neg => simp [o, callK_eq c80', callK_eq c114, callK_eq c115, callK_eq c117, n3, n4, bServers, q0]
              simp [o, callK_eq c80', callK_eq c114, callK_eq c115, callK_eq c117, n3, n4, bServers, q0]
            · have n3 : ¬ x.name = ⟨#[115, 101, 114, 118, 101, 114, 115]⟩ := n2
              simp [o, callK_eq c80, callK_eq c115, callK_eq c117, n1, n2, n3]
      by_cases o2 : x.op = 2
      · skip
        by_cases q0 : x.name = ⟨#[]⟩
        case neg => simp [o2, callK_eq c113, callK_eq c115, callK_eq c117, q0]
        by_cases q1 : small x.need = true
        case neg => simp [o2, callK_eq c113, callK_eq c115, callK_eq c117, q0, q1]
        by_cases q2 : 0 < x.kids.length
        case neg => simp [o2, callK_eq c113, callK_eq c115, callK_eq c117, q0, q1, q2]
        by_cases q3 : x.weights.length = 0
        case pos => simp [o2, callK_eq c113, callK_eq c115, callK_eq c117, q0, q1, q2, q3]
        have hcast : ((x.weights.length : Int) = (x.kids.length : Int)) = (x.weights.length = x.kids.length) := by apply propext; omega
        rcases Classical.propComplete (x.weights.length = x.kids.length) with q4 | q4
        all_goals simp [o2, callK_eq c113, callK_eq c115, callK_eq c117, q0, q1, q2, q3, q4, hcast]
      by_cases o34 : x.op = 3 ∨ x.op = 4
      · rcases o34 with o | o
        all_goals
          skip
          by_cases q0 : x.name = ⟨#[]⟩
          case neg => simp [o, callK_eq c115, callK_eq c117, hc2, q0]
          by_cases q1 : x.need = 0
          case neg => simp [o, callK_eq c115, callK_eq c117, hc2, q0, q1]
          by_cases q2 : x.weights.length = 0
          case neg => simp [o, callK_eq c115, callK_eq c117, hc2, q0, q1, q2]
          by_cases q3 : 2 ≤ x.kids.length
          case neg => simp [o, callK_eq c115, callK_eq c117, hc2, q0, q1, q2, q3]
          simp [o, callK_eq c115, callK_eq c117, hc2, q0, q1, q2, q3]
      by_cases o5 : x.op = 5
      · skip
        by_cases q0 : x.name = ⟨#[]⟩
        case neg => simp [o5, callK_eq c115, callK_eq c117, hc1, q0]
        by_cases q1 : x.need = 0
        case neg => simp [o5, callK_eq c115, callK_eq c117, hc1, q0, q1]
        by_cases q2 : x.weights.length = 0
        case neg => simp [o5, callK_eq c115, callK_eq c117, hc1, q0, q1, q2]
        by_cases q3 : x.kids.length = 1
        case neg => simp [o5, callK_eq c115, callK_eq c117, hc1, q0, q1, q2, q3]
        simp [o5, callK_eq c115, callK_eq c117, hc1, q0, q1, q2, q3]
      have o6' : ¬ x.op = 6 ∧ ¬ x.op = 7 ∧ ¬ x.op = 8 := by omega
      have o34' : ¬ x.op = 3 ∧ ¬ x.op = 4 := by omega
      simp [o1, o2, o5, o6'.1, o6'.2.1, o6'.2.2, o34'.1, o34'.2]
end Go.Ev.Ty
