/- What functions of ref23 and of ref06 answer: names, numbers, terms, faults. No condition. What functions of ref23 answer: terms, declarations. No condition. What functions of ref24 answer, continued. No condition. What functions of ref24 answer, continued: position, Byzantine. No condition. -/
import Derived.Test.YtagceefccafgoaaGreatDoorT25
set_option linter.all false
namespace Go.Ev.Ty
open Go.Ev
variable [GF]
set_option maxRecDepth 100000
set_option linter.unusedSimpArgs false
set_option linter.unusedVariables false
abbrev bV (n : Int) : V := .int .u8 n
def letter (n : Int) : Bool := (decide (97 ≤ n) && decide (n ≤ 122)) || (decide (65 ≤ n) && decide (n ≤ 90)) || decide (n = 95)
def digit (n : Int) : Bool := decide (48 ≤ n) && decide (n ≤ 57)
def small (n : Int) : Bool := decide (0 ≤ n) && decide (n ≤ 100000)
theorem s104 (n : Int) : CallP pg 104 [bV n] (.bool (letter n)) := by
  refine CallP.go rfl (show _ = some m104 from rfl) ?_
  unfold m104 letter
  by_cases a : 97 ≤ n <;> by_cases b : n ≤ 122 <;> by_cases c : 65 ≤ n <;> by_cases d : n ≤ 90 <;> by_cases e : n = 95 <;> simp [a, b, c, d, e] <;> simp_all
theorem s105 (n : Int) : CallP pg 105 [bV n] (.bool (digit n)) := by
  refine CallP.go rfl (show _ = some m105 from rfl) ?_
  unfold m105 digit
  by_cases a : 48 ≤ n <;> by_cases b : n ≤ 57 <;> simp [a, b]
theorem s124 (n : Int) : CallP pg 124 [iV n] (.bool (small n)) := by
  refine CallP.go rfl (show _ = some m124 from rfl) ?_
  unfold m124 small
  by_cases a : 0 ≤ n <;> by_cases b : n ≤ 100000 <;> simp [a, b]
/-- Bytes of a name. -/
def nameB : List UInt8 → Bool
  | [] => true
  | c :: l => (letter c.toNat || digit c.toNat) && nameB l
def headB : List UInt8 → Bool
  | [] => false
  | c :: _ => letter c.toNat
/-- IsName of the lexer. -/
def lexName (s : ByteArray) : Bool := decide (s.size ≤ 24) && headB s.data.toList && nameB s.data.toList
theorem len_data (s : ByteArray) : s.data.toList.length = s.size := by rw [Array.length_toList]; rfl
theorem empty_data (s : ByteArray) : s = ⟨#[]⟩ ↔ s.data.toList = [] := by
  obtain ⟨⟨l⟩⟩ := s
  simp only [ByteArray.mk.injEq, Array.mk.injEq]
theorem s125 (s : ByteArray) : CallP pg 125 [.str s] (.bool (lexName s)) := by
  refine CallP.go rfl (show _ = some m125 from rfl) ?_
  have hsz := len_data s
  by_cases h0 : s = ⟨#[]⟩
  · have hl : lexName s = false := by rw [h0]; rfl
    have h0' : (s = ⟨#[]⟩) = True := eq_true h0
    clear h0 hsz
    rw [hl]
    unfold m125
    simp [h0']
  by_cases h24 : s.size ≤ 24
  case neg =>
    have h24' : (24 : Int) < (s.size : Int) := by omega
    unfold m125 lexName
    simp [h0, h24, h24']
  have h24' : ¬ (24 : Int) < (s.size : Int) := by omega
  obtain ⟨c, l, hl⟩ : ∃ c l, s.data.toList = c :: l := by
    cases h : s.data.toList with
    | nil => exact absurd ((empty_data s).2 h) h0
    | cons c l => exact ⟨c, l, rfl⟩
  have h1 := s104 (c.toNat : Int)
  by_cases hc : letter (c.toNat : Int) = true
  case neg =>
    unfold m125 lexName
    simp [h0, h24, h24', hl, callK_eq h1, hc, headB]
  generalize hA : nameB s.data.toList = A
  have hlex : lexName s = A := by unfold lexName; rw [hA, hl]; simp [h24, headB, hc]
  have loop := loop_go (M := pg) m125_l0.eq_def s.data.toList (by omega) (fun i e σ => e = [(0, .str s), (3, iV i)] ∧ σ = [] ∧ nameB (s.data.toList.drop i) = A)
    (fun y e σ => (y = .exit 0 ∧ A = true ∧ σ = []) ∨ (y = .ret ∧ A = false ∧ e = [(2, .bool false)] ∧ σ = []))
    (by rintro e σ ⟨rfl, rfl, h⟩; simp only [List.drop_length, nameB] at h; subst h; simp)
    (by
      rintro i x r e σ ⟨rfl, rfl, h⟩ hd hlt hx' hd' hw
      simp only [hd, nameB] at h
      have hlt' : i < s.size := by omega
      have hgx : s.data.toList[i]? = some x := by rw [List.getElem?_eq_getElem hlt, hx']
      have hgi : ∀ h : i < s.data.size, s.data[i]'h = x := fun h => by rw [← hx']; simp
      have c1 := s104 (x.toNat : Int)
      have c2 := s105 (x.toNat : Int)
      by_cases a : letter (x.toNat : Int) = true
      · simp [a] at h
        simp [hlt', hgi, callK_eq c1, callK_eq c2, a, hw, hd', h]
      · by_cases b : digit (x.toNat : Int) = true
        · simp [a, b] at h
          simp [hlt', hgi, callK_eq c1, callK_eq c2, a, b, hw, hd', h]
        · simp [a, b] at h
          subst h
          simp [hlt', hgi, callK_eq c1, callK_eq c2, a, b])
    (e := [(0, .str s), (3, iV 0)]) (σ := []) ⟨rfl, rfl, by simpa using hA⟩
  rw [hlex]
  unfold m125
  simp [h0, h24', hl, callK_eq h1, hc]
  refine loopK_of loop ?_
  rintro y e σ (⟨rfl, h, rfl⟩ | ⟨rfl, h, rfl, rfl⟩)
  · simp [h]
  · simp [h]
/-- The words that are reserved. -/
def resL : List ByteArray := [⟨#[115, 105, 116, 101]⟩, ⟨#[102, 97, 117, 108, 116, 115]⟩, ⟨#[113, 117, 111, 114, 117, 109]⟩, ⟨#[99, 111, 110, 102, 105, 103]⟩, ⟨#[119, 105, 116, 110, 101, 115, 115]⟩, ⟨#[99, 108, 105, 101, 110, 116]⟩, ⟨#[99, 104, 97, 105, 110]⟩, ⟨#[114, 101, 97, 100]⟩, ⟨#[119, 114, 105, 116, 101]⟩, ⟨#[99, 114, 97, 115, 104]⟩, ⟨#[98, 121, 122, 97, 110, 116, 105, 110, 101]⟩, ⟨#[110, 111, 110, 101]⟩, ⟨#[116, 104, 114, 101, 115, 104, 111, 108, 100]⟩, ⟨#[98, 121, 122]⟩, ⟨#[100, 117, 97, 108]⟩, ⟨#[109, 97, 106, 111, 114, 105, 116, 121]⟩, ⟨#[97, 108, 108]⟩, ⟨#[97, 110, 121]⟩, ⟨#[115, 101, 114, 118, 101, 114, 115]⟩]
def isRes (s : ByteArray) : Bool := isIn s resL
theorem s74 (s : ByteArray) : CallP pg 74 [.str s] (.bool (isRes s)) := by
  refine CallP.go rfl (show _ = some m74 from rfl) ?_
  generalize hA : isRes s = A
  have hlen : resL.length = 19 := rfl
  have loop := loop_go (M := pg) m74_l0.eq_def resL (by rw [hlen]; omega) (fun i e σ => e = [(0, .str s), (3, .ref 0 19), (4, iV i)] ∧ σ = [some (.arr 1 (resL.map fun s => [.str s]))] ∧ isIn s (resL.drop i) = A)
    (fun y e σ => (y = .exit 0 ∧ A = false) ∨ (y = .ret ∧ A = true ∧ e = [(2, .bool true)]))
    (by rintro e σ ⟨rfl, rfl, h⟩; simp [isIn] at h; subst h; simp [hlen])
    (by
      rintro i x r e σ ⟨rfl, rfl, h⟩ hd hlt hx' hd' hw
      have hlt' : i < 19 := by rw [← hlen]; exact hlt
      have hltz : (i : Int) < 19 := by omega
      have hi : isIn s (x :: r) = if x = s then true else isIn s r := by by_cases h : x = s <;> simp [isIn, h]
      rw [hd, hi] at h
      by_cases hq : x = s
      · rw [if_pos hq] at h
        subst h
        simp [hlen, hlt, hlt', hltz, hx', hq]
      · rw [if_neg hq] at h
        simp [hlen, hlt, hlt', hltz, hx', hq, hw, hd', h])
    (e := [(0, .str s), (3, .ref 0 19), (4, iV 0)]) (σ := [some (.arr 1 (resL.map fun s => [.str s]))]) ⟨rfl, rfl, hA⟩
  unfold m74
  simp
  refine loopK_of loop ?_
  rintro y e σ (⟨rfl, h⟩ | ⟨rfl, h, rfl⟩)
  · simp [h]
  · simp [h]
/-- A name of the language. -/
def isName (s : ByteArray) : Bool := lexName s && !isRes s
theorem s97 (s : ByteArray) : CallP pg 97 [.str s] (.bool (isName s)) := by
  refine CallP.go rfl (show _ = some m97 from rfl) ?_
  unfold m97 isName
  have c1 := s125 s
  have c2 := s74 s
  by_cases a : lexName s = true <;> by_cases b : isRes s = true <;> simp [callK_eq c1, callK_eq c2, a, b]
/-- All are names. -/
def allN : List ByteArray → Bool
  | [] => true
  | s :: l => if isName s then allN l else false
theorem s98 (l : List ByteArray) (hl : l.length < 4611686018427387904) : CallP pg 98 [strsV l] (.bool (allN l)) := by
  refine CallP.go rfl (show _ = some m98 from rfl) ?_
  generalize hA : allN l = A
  have loop := loop_go (M := pg) m98_l0.eq_def l hl (fun i e σ => e = [(0, strsV l), (3, iV i)] ∧ σ = [] ∧ allN (l.drop i) = A)
    (fun y e σ => (y = .exit 0 ∧ A = true) ∨ (y = .ret ∧ A = false ∧ e = [(2, .bool false)]))
    (by rintro e σ ⟨rfl, rfl, h⟩; simp [allN] at h; subst h; simp)
    (by
      rintro i x r e σ ⟨rfl, rfl, h⟩ hd hlt hx' hd' hw
      simp only [hd, allN] at h
      have c1 := s97 x
      by_cases a : isName x = true
      · simp [a] at h
        simp [hlt, hx', callK_eq c1, a, hw, hd', h]
      · simp [a] at h
        subst h
        simp [hlt, hx', callK_eq c1, a])
    (e := [(0, strsV l), (3, iV 0)]) (σ := []) ⟨rfl, rfl, by simpa using hA⟩
  unfold m98
  simp
  refine loopK_of loop ?_
  rintro y e σ (⟨rfl, h⟩ | ⟨rfl, h, rfl⟩)
  · simp [h]
  · simp [h]
/-- A term that is zero. -/
def blankT (t : T) : Bool := decide (t.op = 0) && decide (t.name = ⟨#[]⟩) && decide (t.need = 0) && decide (t.weights.length + t.kids.length = 0)
theorem s100 (t : T) (hw : t.weights.length < 4294967296) (hk : t.kids.length < 4294967296) : CallP pg 100 [.agg t.cells] (.bool (blankT t)) := by
  refine CallP.go rfl (show _ = some m100 from rfl) ?_
  have hws : IntKind.i64.wrap ((t.weights.length : Int) + (t.kids.length : Int)) = ((t.weights.length + t.kids.length : Nat) : Int) := by rw [wrap_int (by omega) (by omega)]; omega
  generalize hn : t.weights.length + t.kids.length = n at *
  unfold m100 blankT
  by_cases q0 : t.op = 0
  case neg => simp [hws, hn, q0]
  by_cases q1 : t.name = ⟨#[]⟩
  case neg => simp [hws, hn, q0, q1]
  by_cases q2 : t.need = 0
  case neg => simp [hws, hn, q0, q1, q2]
  simp [hws, hn, q0, q1, q2]
/-- ref23.isFault. -/
def isFault (f : FT) : Bool :=
  let k := f.byzNames.length + f.crashNames.length
  if f.op = 1 then decide (f.name = ⟨#[]⟩) && decide (f.byz = 0) && decide (f.crash = 0) && decide (k = 0)
  else if f.op = 2 then decide (f.name = ⟨#[]⟩) && small f.byz && small f.crash && decide (k = 0)
  else if f.op = 3 then decide (f.name = ⟨#[]⟩) && decide (f.byz = 0) && decide (f.crash = 0) && decide (0 < k) && allN f.byzNames && allN f.crashNames
  else if f.op = 4 ∨ f.op = 5 ∨ f.op = 6 then isName f.name && decide (f.byz = 0) && decide (f.crash = 0) && decide (k = 0)
  else false
theorem s95 (f : FT) (hb : f.byzNames.length < 4294967296) (hc : f.crashNames.length < 4294967296) : CallP pg 95 [.agg f.cells] (.bool (isFault f)) := by
  refine CallP.go rfl (show _ = some m95 from rfl) ?_
  have hws : IntKind.i64.wrap ((f.byzNames.length : Int) + (f.crashNames.length : Int)) = ((f.byzNames.length + f.crashNames.length : Nat) : Int) := by rw [wrap_int (by omega) (by omega)]; omega
  have cb := s124 f.byz
  have cc := s124 f.crash
  have cn := s97 f.name
  have c1 := s98 f.byzNames (by omega)
  have c2 := s98 f.crashNames (by omega)
  generalize hk : f.byzNames.length + f.crashNames.length = k at *
  unfold m95 isFault
  simp only [hk]
  by_cases o1 : f.op = 1
  · skip
    by_cases q0 : f.name = ⟨#[]⟩
    case neg => simp [o1, hws, q0]
    by_cases q1 : f.byz = 0
    case neg => simp [o1, hws, q0, q1]
    by_cases q2 : f.crash = 0
    case neg => simp [o1, hws, q0, q1, q2]
    simp [o1, hws, q0, q1, q2]
  by_cases o2 : f.op = 2
  · skip
    by_cases q0 : f.name = ⟨#[]⟩
    case neg => simp [o2, hws, callK_eq cb, callK_eq cc, q0]
    by_cases q1 : small f.byz = true
    case neg => simp [o2, hws, callK_eq cb, callK_eq cc, q0, q1]
    by_cases q2 : small f.crash = true
    case neg => simp [o2, hws, callK_eq cb, callK_eq cc, q0, q1, q2]
    simp [o2, hws, callK_eq cb, callK_eq cc, q0, q1, q2]
  by_cases o3 : f.op = 3
  · skip
    by_cases q0 : f.name = ⟨#[]⟩
    case neg => simp [o3, hws, callK_eq c1, callK_eq c2, q0]
    by_cases q1 : f.byz = 0
    case neg => simp [o3, hws, callK_eq c1, callK_eq c2, q0, q1]
    by_cases q2 : f.crash = 0
    case neg => simp [o3, hws, callK_eq c1, callK_eq c2, q0, q1, q2]
    by_cases q3 : 0 < k
    case neg => simp [o3, hws, callK_eq c1, callK_eq c2, q0, q1, q2, q3]
    by_cases q4 : allN f.byzNames = true
    case neg => simp [o3, hws, callK_eq c1, callK_eq c2, q0, q1, q2, q3, q4]
    simp [o3, hws, callK_eq c1, callK_eq c2, q0, q1, q2, q3, q4]
  by_cases o4 : f.op = 4 ∨ f.op = 5 ∨ f.op = 6
  · rcases o4 with o | o | o
    all_goals
      skip
      by_cases q0 : isName f.name = true
      case neg => simp [o, hws, callK_eq cn, q0]
      by_cases q1 : f.byz = 0
      case neg => simp [o, hws, callK_eq cn, q0, q1]
      by_cases q2 : f.crash = 0
      case neg => simp [o, hws, callK_eq cn, q0, q1, q2]
      simp [o, hws, callK_eq cn, q0, q1, q2]
  · have o4' : ¬ f.op = 4 ∧ ¬ f.op = 5 ∧ ¬ f.op = 6 := by omega
    simp [o1, o2, o3, o4'.1, o4'.2.1, o4'.2.2, hws]
end Go.Ev.Ty
namespace Go.Ev.Ty
open Go.Ev
variable [GF]
set_option maxRecDepth 100000
set_option linter.unusedSimpArgs false
set_option linter.unusedVariables false
def allSmall : List Int → Bool
  | [] => true
  | w :: l => if small w then allSmall l else false
/-- A term without its kids and weights. -/
def formOk (t : T) : Bool :=
  let w := t.weights.length
  let n := t.kids.length
  if t.op = 1 then isName t.name && decide (t.need = 0) && decide (w + n = 0)
  else if t.op = 6 ∨ t.op = 7 ∨ t.op = 8 then (isName t.name || decide (t.name = bServers)) && decide (t.need = 0) && decide (w + n = 0)
  else if t.op = 2 then decide (t.name = ⟨#[]⟩) && small t.need && decide (0 < n) && (decide (w = 0) || decide (w = n))
  else if t.op = 3 ∨ t.op = 4 then decide (t.name = ⟨#[]⟩) && decide (t.need = 0) && decide (w = 0) && decide (2 ≤ n)
  else if t.op = 5 then decide (t.name = ⟨#[]⟩) && decide (t.need = 0) && decide (w = 0) && decide (n = 1)
  else false
mutual
/-- ref23.IsTerm. -/
def isTerm : T → Bool
  | .mk op name need ws ks => if isTerms ks then (if allSmall ws then formOk (.mk op name need ws ks) else false) else false
def isTerms : List T → Bool
  | [] => true
  | t :: l => if isTerm t then isTerms l else false
end
theorem isTerm_eq (t : T) : isTerm t = if isTerms t.kids then (if allSmall t.weights then formOk t else false) else false := by cases t; rfl
theorem s99 : ∀ (n : Nat) (x : T), x.size ≤ n → n < 4294967296 → CallP pg 99 [.agg x.cells] (.bool (isTerm x)) := by
  intro n
  induction n with
  | zero => intro x h; have := x.size_pos; omega
  | succ n ih =>
    intro x hx hn
    have hsz := x.size_eq
    have hkl := sizes_len x.kids
    have hwl : x.weights.length < 4294967296 := by omega
    have hkl' : x.kids.length < 4294967296 := by omega
    have c97 := s97 x.name
    have c124 := s124 x.need
    refine CallP.go rfl (show _ = some m99 from rfl) ?_
    rw [isTerm_eq]
    generalize hA : isTerms x.kids = A
    generalize hB : allSmall x.weights = B
    have kids := loop_go (M := pg) m99_l1.eq_def x.kids (by omega) (fun i e σ => e = [(1, .ptr 0 1 0 0), (3, iV i)] ∧ σ = [some (.arr 5 [x.cells])] ∧ isTerms (x.kids.drop i) = A)
      (fun y e σ => σ = [some (.arr 5 [x.cells])] ∧ ((y = .exit 0 ∧ A = true ∧ e = [(1, .ptr 0 1 0 0), (3, iV x.kids.length), (10, .bool false)]) ∨ (y = .ret ∧ A = false ∧ e = [(2, .bool false)])))
      (by rintro e σ ⟨rfl, rfl, h⟩; simp [isTerms] at h; subst h; simp)
      (by
        rintro i u r e σ ⟨rfl, rfl, h⟩ hd hlt hx' hd' hw
        simp only [hd, isTerms] at h
        have hu : u ∈ x.kids := by rw [← hx']; exact List.getElem_mem hlt
        have := sizes_mem hu
        have c99 := ih u (by omega) (by omega)
        by_cases a : isTerm u = true
        · simp [a] at h
          simp [hlt, hx', callK_eq c99, a, hw, hd', h]
        · simp [a] at h
          subst h
          simp [hlt, hx', callK_eq c99, a])
      (e := [(1, .ptr 0 1 0 0), (3, iV 0)]) (σ := [some (.arr 5 [x.cells])]) ⟨rfl, rfl, by simpa using hA⟩
    have wts := loop_go (M := pg) m99_l0.eq_def x.weights (by omega) (fun i e σ => e = [(1, .ptr 0 1 0 0), (4, iV i)] ∧ σ = [some (.arr 5 [x.cells])] ∧ allSmall (x.weights.drop i) = B)
      (fun y e σ => σ = [some (.arr 5 [x.cells])] ∧ ((y = .exit 2 ∧ B = true ∧ e = [(1, .ptr 0 1 0 0), (4, iV x.weights.length), (24, .bool false)]) ∨ (y = .ret ∧ B = false ∧ e = [(2, .bool false)])))
      (by rintro e σ ⟨rfl, rfl, h⟩; simp [allSmall] at h; subst h; simp)
      (by
        rintro i u r e σ ⟨rfl, rfl, h⟩ hd hlt hx' hd' hw
        simp only [hd, allSmall] at h
        have c124 := s124 u
        by_cases a : small u = true
        · simp [a] at h
          simp [hlt, hx', callK_eq c124, a, hw, hd', h]
        · simp [a] at h
          subst h
          simp [hlt, hx', callK_eq c124, a])
      (e := [(1, .ptr 0 1 0 0), (4, iV 0)]) (σ := [some (.arr 5 [x.cells])]) ⟨rfl, rfl, by simpa using hB⟩
    unfold m99
    simp
    refine loopK_of kids ?_
    rintro y e σ ⟨rfl, ⟨rfl, h, rfl⟩ | ⟨rfl, h, rfl⟩⟩
    case inr => simp [h]
    simp
    refine loopK_of wts ?_
    rintro y e σ ⟨rfl, ⟨rfl, h2, rfl⟩ | ⟨rfl, h2, rfl⟩⟩
    case inr => simp [h, h2]
    clear kids wts
    subst h h2
    have hws : IntKind.i64.wrap ((x.weights.length : Int) + (x.kids.length : Int)) = ((x.weights.length + x.kids.length : Nat) : Int) := by rw [wrap_int (by omega) (by omega)]; omega
    unfold formOk
    generalize hwn : x.weights.length + x.kids.length = m at *
    simp only [hwn, if_true]
    by_cases o1 : x.op = 1
    · skip
      by_cases q0 : isName x.name = true
      case neg => simp [o1, hws, callK_eq c97, q0]
      by_cases q1 : x.need = 0
      case neg => simp [o1, hws, callK_eq c97, q0, q1]
      simp [o1, hws, callK_eq c97, q0, q1]
    by_cases o6 : x.op = 6 ∨ x.op = 7 ∨ x.op = 8
    · rcases o6 with o | o | o
      all_goals
        by_cases n1 : isName x.name = true
        · skip
          by_cases q0 : x.need = 0
          case neg => simp [o, hws, callK_eq c97, n1, q0]
          simp [o, hws, callK_eq c97, n1, q0]
        · by_cases n2 : x.name = bServers
          · have n3 : x.name = ⟨#[115, 101, 114, 118, 101, 114, 115]⟩ := n2
            have n4 : isName ⟨#[115, 101, 114, 118, 101, 114, 115]⟩ = false := by rw [← n3]; simpa using n1
            rw [n3] at c97
            by_cases q0 : x.need = 0
            case neg => simp [o, hws, callK_eq c97, n3, n4, bServers, q0]
            simp [o, hws, callK_eq c97, n3, n4, bServers, q0]
          · have n3 : ¬ x.name = ⟨#[115, 101, 114, 118, 101, 114, 115]⟩ := n2
            simp [o, hws, callK_eq c97, n1, n2, n3]
    by_cases o2 : x.op = 2
    · skip
      by_cases q0 : x.name = ⟨#[]⟩
      case neg => simp [o2, callK_eq c124, q0]
      by_cases q1 : small x.need = true
      case neg => simp [o2, callK_eq c124, q0, q1]
      by_cases q2 : 0 < x.kids.length
      case neg => simp [o2, callK_eq c124, q0, q1, q2]
      by_cases q3 : x.weights.length = 0
      case pos => simp [o2, callK_eq c124, q0, q1, q2, q3]
      simp [o2, callK_eq c124, q0, q1, q2, q3]; clear hws; omega
    by_cases o34 : x.op = 3 ∨ x.op = 4
    · rcases o34 with o | o
      all_goals
        skip
        by_cases q0 : x.name = ⟨#[]⟩
        case neg => simp [o, q0]
        by_cases q1 : x.need = 0
        case neg => simp [o, q0, q1]
        by_cases q2 : x.weights.length = 0
        case neg => simp [o, q0, q1, q2]
        simp [o, q0, q1, q2]; clear hws; omega
    by_cases o5 : x.op = 5
    · skip
      by_cases q0 : x.name = ⟨#[]⟩
      case neg => simp [o5, q0]
      by_cases q1 : x.need = 0
      case neg => simp [o5, q0, q1]
      by_cases q2 : x.weights.length = 0
      case neg => simp [o5, q0, q1, q2]
      simp [o5, q0, q1, q2]; clear hws; omega
    have o6' : ¬ x.op = 6 ∧ ¬ x.op = 7 ∧ ¬ x.op = 8 := by omega
    have o34' : ¬ x.op = 3 ∧ ¬ x.op = 4 := by omega
    simp [o1, o2, o5, o6'.1, o6'.2.1, o6'.2.2, o34'.1, o34'.2]
end Go.Ev.Ty
namespace Go.Ev.Ty
open Go.Ev
variable [GF]
set_option maxRecDepth 100000
set_option linter.unusedSimpArgs false
set_option linter.unusedVariables false
/-- The servers of a site. -/
def srv : List ByteArray → List (ByteArray × Int)
  | [] => []
  | s :: l => (s, 2) :: srv l
theorem srv_len : ∀ l : List ByteArray, (srv l).length = l.length
  | [] => rfl
  | s :: l => by simp [srv, srv_len l]
/-- What a declaration declares. -/
def entriesOf (d : D) : List (ByteArray × Int) := if kindOf d.kind = 0 then [] else (d.name, kindOf d.kind) :: (if d.kind = 1 then srv d.names else [])
/-- ref24.Table. -/
def table : List D → List (ByteArray × Int)
  | [] => []
  | d :: l => entriesOf d ++ table l
theorem s19 (l : List D) (hl : l.length < 4611686018427387904) (hs : (table l).length < 4294967296) : CallP pg 19 [declsV l] (.lst 2 ((table l).map fun p => [V.str p.1, iV p.2])) := by
  refine CallP.go rfl (show _ = some m19 from rfl) ?_
  have inner : ∀ (i : Nat) (d : D) (rows full : List (ByteArray × Int)) (v : V) (σ : Store) (h : i < l.length), l[i] = d → Grown 2 (rows.map fun p => [V.str p.1, iV p.2]) v σ → rows ++ (if d.kind = 1 then srv d.names else []) = full → full.length < 4294967296 →
      loopW pg m19_l0 [(0, declsV l), (3, v), (4, iV i), (5, iV 0)] σ fun y e σ' => y = .exit 2 ∧ ∃ v' k, e = [(0, declsV l), (3, v'), (4, iV i), (5, iV k), (47, .bool false)] ∧ Grown 2 (full.map fun p => [V.str p.1, iV p.2]) v' σ' := by
    intro i d rows full v σ hlt hx' hg hfull hbd
    by_cases hk : d.kind = 1
    case neg =>
      simp [hk] at hfull
      subst hfull
      refine loopW_go m19_l0.eq_def ?_
      by_cases h0 : 0 < d.names.length <;> simp [hlt, hx', hk, h0] <;> exact hg
    simp only [hk, if_true] at hfull
    have hn : d.names.length < 4611686018427387904 := by rw [← hfull] at hbd; simp [srv_len] at hbd; omega
    refine loop_go (M := pg) m19_l0.eq_def d.names hn (fun k e σ => ∃ v' acc, e = [(0, declsV l), (3, v'), (4, iV i), (5, iV k)] ∧ Grown 2 (acc.map fun p => [V.str p.1, iV p.2]) v' σ ∧ acc ++ srv (d.names.drop k) = full) _ ?_ ?_ ⟨v, rows, rfl, hg, by simpa using hfull⟩
    · rintro e σ ⟨v', acc, rfl, hg, hd⟩
      simp [srv] at hd
      subst hd
      simp [hlt, hx', hk]
      exact hg
    · rintro k s r e σ ⟨v', acc, rfl, hg, hdone⟩ hd hlt2 hx2 hd' hw
      have hlen : acc.length + 1 ≤ full.length := by rw [← hdone, hd]; simp [srv]
      have hbb := bd25 (n := acc.length + 1) (by omega)
      rw [hd] at hdone
      simp only [srv] at hdone
      rcases hg with ⟨rfl, hg⟩ | ⟨b, rfl, hb, hg⟩
      · simp at hg
        subst hg
        simp [hlt, hx', hk, hlt2, hx2, hw]
        exact ⟨[(s, 2)], by simpa using grown_new (sz := 2) (rows := ([(s, 2)].map fun p : ByteArray × Int => [V.str p.1, iV p.2])) σ _, by simpa [hd'] using hdone⟩
      · have hgx := get_more hg
        simp [hlt, hx', hk, hlt2, hx2, hw, hgx, hbb]
        have hgs := grown_set (sz := 2) (rows := ((acc ++ [(s, 2)]).map fun p : ByteArray × Int => [V.str p.1, iV p.2])) [some (.arr 2 [[.str s, iV 2]])] hb
        exact ⟨acc ++ [(s, 2)], by simpa using hgs, by simpa [hd'] using hdone⟩
  have outer := loop_go (M := pg) m19_l1.eq_def l hl (fun i e σ => ∃ v acc, e = [(0, declsV l), (3, v), (4, iV i)] ∧ Grown 2 (acc.map fun p => [V.str p.1, iV p.2]) v σ ∧ acc ++ table (l.drop i) = table l)
    (fun y e σ => y = .exit 0 ∧ ∃ v, e.look 3 = some v ∧ Grown 2 ((table l).map fun p => [V.str p.1, iV p.2]) v σ)
    (by rintro e σ ⟨v, acc, rfl, hg, h⟩; simp [table] at h; subst h; simpa using hg)
    (by
      rintro i d r e σ ⟨v, acc, rfl, hg, h⟩ hd hlt hx' hd' hw
      rw [hd] at h
      simp only [table, entriesOf] at h
      have c35 := s35 d
      by_cases hz : kindOf d.kind = 0
      · simp [hz] at h
        simp [hlt, hx', hw, callK_eq c35, hz]
        exact ⟨acc, hg, by rw [hd']; exact h⟩
      have hlen : acc.length + 1 + (if d.kind = 1 then srv d.names else []).length ≤ (table l).length := by rw [← h]; simp only [hz, if_false, List.length_append, List.length_cons]; omega
      have hbb := bd25 (n := acc.length + 1) (by omega)
      simp only [hz, if_false] at h
      have inner' := fun v σ hg => inner i d (acc ++ [(d.name, kindOf d.kind)]) _ v σ hlt hx' hg rfl (by rw [← h] at hs; simp at hs ⊢; omega)
      rcases hg with ⟨rfl, hg⟩ | ⟨b, rfl, hb, hg⟩
      · simp at hg
        subst hg
        simp [hlt, hx', hw, callK_eq c35, hz]
        refine loopK_of (inner' _ _ (by simpa using grown_new (sz := 2) (rows := ([(d.name, kindOf d.kind)].map fun p : ByteArray × Int => [V.str p.1, iV p.2])) σ _)) ?_
        rintro y e σ ⟨rfl, v', k, rfl, hg⟩
        simp [hw]
        exact ⟨_, hg, by simpa [hd'] using h⟩
      · have hgx := get_more hg
        simp [hlt, hx', hw, callK_eq c35, hz, hgx, hbb]
        refine loopK_of (inner' _ _ (by simpa using grown_set (sz := 2) (rows := ((acc ++ [(d.name, kindOf d.kind)]).map fun p : ByteArray × Int => [V.str p.1, iV p.2])) [_] hb)) ?_
        rintro y e σ ⟨rfl, v', k, rfl, hg⟩
        simp [hw]
        exact ⟨_, hg, by simpa [hd'] using h⟩)
    (e := [(0, declsV l), (3, .nils), (4, iV 0)]) (σ := []) ⟨.nils, [], rfl, .inl ⟨rfl, rfl⟩, by simp⟩
  unfold m19
  simp
  refine loopK_of outer ?_
  rintro y e σ ⟨rfl, v, h, hg⟩
  rcases hg with ⟨rfl, hg⟩ | ⟨b, rfl, hb, hg⟩
  · simp at hg; simp [h, hg]
  · simp [h, hg]
end Go.Ev.Ty
namespace Go.Ev.Ty
open Go.Ev
variable [GF]
set_option maxRecDepth 100000
set_option linter.unusedSimpArgs false
set_option linter.unusedVariables false
/-- Where a text stands in a list, or -1 (ref24.position). -/
def posOf (s : ByteArray) : List ByteArray → Nat → Int
  | [], _ => -1
  | x :: l, i => if x = s then i else posOf s l (i + 1)
theorem posOf_cases (s : ByteArray) : ∀ (l : List ByteArray) (i : Nat), posOf s l i = -1 ∨ ∃ k : Nat, posOf s l i = (k : Int) ∧ i ≤ k ∧ k < i + l.length
  | [], i => .inl rfl
  | x :: l, i => by
    simp only [posOf]
    split
    · exact .inr ⟨i, rfl, by omega, by simp⟩
    · rcases posOf_cases s l (i + 1) with h | ⟨k, h, h1, h2⟩
      · exact .inl h
      · exact .inr ⟨k, h, by omega, by simp; omega⟩
theorem s70 (l : List ByteArray) (s : ByteArray) (hl : l.length < 4611686018427387904) : CallP pg 70 [strsV l, .str s] (iV (posOf s l 0)) := by
  refine CallP.go rfl (show _ = some m70 from rfl) ?_
  generalize hA : posOf s l 0 = A
  have loop := loop_go (M := pg) m70_l0.eq_def l hl (fun i e σ => e = [(0, strsV l), (1, .str s), (5, iV i)] ∧ σ = [] ∧ posOf s (l.drop i) i = A)
    (fun x e σ => (x = .exit 0 ∧ A = -1 ∧ σ = []) ∨ (x = .ret ∧ ret m70.results (iV A) e σ))
    (by rintro e σ ⟨rfl, rfl, h⟩; simp [posOf] at h; simp [← h])
    (by
      rintro i x r e σ ⟨rfl, rfl, h⟩ hd hlt hx' hd' hw
      simp only [hd, posOf] at h
      by_cases hq : x = s <;> simp [hq] at h <;> subst h <;> simp [hx', hlt, hq, hw, m70, hd'])
    ⟨rfl, rfl, hA⟩
  unfold m70
  simp
  refine loopK_of loop ?_
  rintro x e σ (⟨rfl, h, rfl⟩ | ⟨rfl, h⟩)
  · simp [h]
  · exact ⟨trivial, h⟩
/-- What is known of a name. -/
def lookB (ns : List ByteArray) (is : List Bool) (s : ByteArray) : Bool := if 0 ≤ posOf s ns 0 then is.getD (posOf s ns 0).toNat false else false
/-- Whether a fault is Byzantine. -/
def fByz (ns : List ByteArray) (is : List Bool) (f : FT) : Bool := if f.op = 2 then decide (0 < f.byz) else if f.op = 3 then decide (0 < f.byzNames.length) else if f.op = 4 then true else if f.op = 6 then lookB ns is f.name else false
def fsByz (ns : List ByteArray) (is : List Bool) : List FT → Bool → Bool
  | [], b => b
  | f :: l, b => fsByz ns is l (if b then true else fByz ns is f)
/-- The names of the declared models, and whether they are Byzantine. -/
def known (ns : List ByteArray) (is : List Bool) : List D → List ByteArray × List Bool
  | [] => (ns, is)
  | d :: l => if d.kind ≠ 2 ∨ 0 ≤ posOf d.name ns 0 then known ns is l else known (ns ++ [d.name]) (is ++ [fsByz ns is d.faults false]) l
/-- ref24.Byzantine. -/
def byz (l : List D) (s : ByteArray) : Bool := lookB (known [] [] l).1 (known [] [] l).2 s
/-- Two lists that grow side by side. -/
def Two (ns : List ByteArray) (is : List Bool) (v w : V) (σ : Store) : Prop :=
  (v = .nils ∧ w = .nils ∧ ns = [] ∧ is = []) ∨ ∃ a b, v = .ref a ns.length ∧ w = .ref b is.length ∧ a ≠ b ∧ σ[a]? = some (some (.arr 1 (ns.map fun s => [.str s]))) ∧ σ[b]? = some (some (.arr 1 (is.map fun s => [.bool s]))) ∧ is.length = ns.length
theorem Two.more {ns : List ByteArray} {is : List Bool} {v w : V} {σ : Store} (x : List (Option Blk)) (h : Two ns is v w σ) : Two ns is v w (σ ++ x) := by
  rcases h with h | ⟨a, b, h1, h2, h3, h4, h5, h6⟩
  · exact .inl h
  · exact .inr ⟨a, b, h1, h2, h3, get_more h4 x, get_more h5 x, h6⟩
theorem s41 (l : List D) (s : ByteArray) (hl : l.length < 4294967296) (hf : ∀ d, d ∈ l → d.faults.length < 4611686018427387904) : CallP pg 41 [declsV l, .str s] (.bool (byz l s)) := by
  refine CallP.go rfl (show _ = some m41 from rfl) ?_
  have inner : ∀ (i : Nat) (d : D) (ns : List ByteArray) (is : List Bool) (v w : V) (σ : Store) (h : i < l.length), l[i] = d → Two ns is v w σ → ns.length < 4294967296 →
      loopW pg m41_l0 [(0, declsV l), (1, .str s), (5, v), (6, w), (7, iV i), (8, .bool false), (9, iV 0)] σ fun y e σ' => y = .exit 2 ∧ ∃ k, e = [(0, declsV l), (1, .str s), (5, v), (6, w), (7, iV i), (8, .bool (fsByz ns is d.faults false)), (9, iV k), (42, .bool false)] ∧ Two ns is v w σ' := by
    intro i d ns is v w σ hlt hx' hg hn
    have hfd := hf d (by rw [← hx']; exact List.getElem_mem hlt)
    generalize hA : fsByz ns is d.faults false = A
    refine loop_go (M := pg) m41_l0.eq_def d.faults hfd (fun k e σ => ∃ b, e = [(0, declsV l), (1, .str s), (5, v), (6, w), (7, iV i), (8, .bool b), (9, iV k)] ∧ Two ns is v w σ ∧ fsByz ns is (d.faults.drop k) b = A) _ ?_ ?_ ⟨false, rfl, hg, hA⟩
    · rintro e σ ⟨b, rfl, hg, hd⟩
      simp [fsByz] at hd
      subst hd
      simp [hlt, hx']
      exact hg
    · rintro k f r e σ ⟨b, rfl, hg, hb⟩ hd hlt2 hx2 hd' hw
      simp only [hd, fsByz] at hb
      have hn' : ns.length < 4611686018427387904 := by omega
      have c70 := s70 ns f.name hn'
      rcases hg with ⟨rfl, rfl, rfl, rfl⟩ | ⟨p, q, rfl, rfl, hne, hp, hq, hlen⟩
      · have c70' : CallP pg 70 [.slc [], .str f.name] (iV (-1)) := s70 [] f.name (by simp)
        by_cases o6 : f.op = 6
        · cases b <;> simp [hlt, hx', hlt2, hx2, hw, o6, callK_eq c70'] <;> exact ⟨.inl ⟨rfl, rfl, rfl, rfl⟩, by simpa [hd', fByz, o6, lookB, posOf] using hb⟩
        cases b
        · by_cases o2 : f.op = 2
          · by_cases hp : 0 < f.byz <;> simp [hlt, hx', hlt2, hx2, hw, o2, hp] <;> exact ⟨.inl ⟨rfl, rfl, rfl, rfl⟩, by simpa [hd', fByz, o2, hp] using hb⟩
          by_cases o3 : f.op = 3
          · by_cases hp : 0 < f.byzNames.length <;> simp [hlt, hx', hlt2, hx2, hw, o3, hp] <;> exact ⟨.inl ⟨rfl, rfl, rfl, rfl⟩, by simpa [hd', fByz, o3, hp] using hb⟩
          by_cases o4 : f.op = 4
          · simp [hlt, hx', hlt2, hx2, hw, o4]; exact ⟨.inl ⟨rfl, rfl, rfl, rfl⟩, by simpa [hd', fByz, o4] using hb⟩
          simp [hlt, hx', hlt2, hx2, hw, o2, o3, o4, o6]; exact ⟨.inl ⟨rfl, rfl, rfl, rfl⟩, by simpa [hd', fByz, o2, o3, o4, o6] using hb⟩
        · simp [hlt, hx', hlt2, hx2, hw, o6]; exact ⟨.inl ⟨rfl, rfl, rfl, rfl⟩, by simpa [hd'] using hb⟩
      · have hp' := get_more hp
        have hq' := get_more hq
        have two : ∀ x, Two ns is (.ref p ns.length) (.ref q is.length) (σ ++ x) := fun x => Two.more x (.inr ⟨p, q, rfl, rfl, hne, hp, hq, hlen⟩)
        by_cases o6 : f.op = 6
        · cases b
          · have hlk : fByz ns is f = lookB ns is f.name := by simp [fByz, o6]
            rw [hlk] at hb
            unfold lookB at hb
            rcases posOf_cases f.name ns 0 with hz | ⟨j, hz, _, hj⟩
            · rw [hz] at hb c70
              simp [hlt, hx', hlt2, hx2, hw, o6, callK_eq c70, hp', hq']
              exact ⟨two _, by simpa [hd'] using hb⟩
            · rw [hz] at hb c70
              have hj' : j < is.length := by omega
              cases hij : is[j]'hj' <;> simp [hlt, hx', hlt2, hx2, hw, o6, callK_eq c70, hp', hq', hj', hij] <;> exact ⟨two _, by simpa [hd', hj', hij] using hb⟩
          · rcases posOf_cases f.name ns 0 with hz | ⟨j, hz, _, hj⟩ <;> rw [hz] at c70 <;> simp [hlt, hx', hlt2, hx2, hw, o6, callK_eq c70, hp', hq'] <;> exact ⟨two _, by simpa [hd'] using hb⟩
        cases b
        · by_cases o2 : f.op = 2
          · by_cases hp : 0 < f.byz <;> simp [hlt, hx', hlt2, hx2, hw, o2, hp] <;> exact ⟨two _, by simpa [hd', fByz, o2, hp] using hb⟩
          by_cases o3 : f.op = 3
          · by_cases hp : 0 < f.byzNames.length <;> simp [hlt, hx', hlt2, hx2, hw, o3, hp] <;> exact ⟨two _, by simpa [hd', fByz, o3, hp] using hb⟩
          by_cases o4 : f.op = 4
          · simp [hlt, hx', hlt2, hx2, hw, o4]; exact ⟨two _, by simpa [hd', fByz, o4] using hb⟩
          simp [hlt, hx', hlt2, hx2, hw, o2, o3, o4, o6]; exact ⟨two _, by simpa [hd', fByz, o2, o3, o4, o6] using hb⟩
        · simp [hlt, hx', hlt2, hx2, hw, o6]; exact ⟨two _, by simpa [hd'] using hb⟩
  generalize hA : known [] [] l = A
  have outer := loop_go (M := pg) m41_l1.eq_def l (by omega) (fun i e σ => ∃ ns is v w, e = [(0, declsV l), (1, .str s), (5, v), (6, w), (7, iV i)] ∧ Two ns is v w σ ∧ known ns is (l.drop i) = A ∧ ns.length ≤ i)
    (fun y e σ => y = .exit 0 ∧ ∃ v w, e.look 1 = some (.str s) ∧ e.look 5 = some v ∧ e.look 6 = some w ∧ Two A.1 A.2 v w σ ∧ A.1.length < 4294967296)
    (by rintro e σ ⟨ns, is, v, w, rfl, hg, h, hn⟩; simp [known] at h; subst h; simpa using ⟨hg, by omega⟩)
    (by
      rintro i d r e σ ⟨ns, is, v, w, rfl, hg, h, hn⟩ hd hlt hx' hd' hw
      simp only [hd, known] at h
      have c70 := s70 ns d.name (by omega)
      by_cases hk : d.kind = 2
      case neg =>
        simp [hk] at h
        simp [hlt, hx', hw, hk]
        exact ⟨ns, is, v, w, ⟨rfl, rfl⟩, hg, by simpa [hd'] using h, by clear hw; omega⟩
      have inner' := inner i d ns is v w
      rcases hg with ⟨rfl, rfl, rfl, rfl⟩ | ⟨p, q, rfl, rfl, hne, hp, hq, hlen⟩
      · have c70' : CallP pg 70 [.slc [], .str d.name] (iV (-1)) := s70 [] d.name (by simp)
        simp [hk, posOf] at h
        simp [hlt, hx', hw, hk, callK_eq c70']
        refine loopK_of (inner' _ hlt hx' (.inl ⟨rfl, rfl, rfl, rfl⟩) (by simp)) ?_
        rintro y e σ' ⟨rfl, k, rfl, hg⟩
        simp [hlt, hx', hw]
        exact ⟨[d.name], [fsByz [] [] d.faults false], _, _, ⟨rfl, rfl⟩, .inr ⟨σ'.length + 1, σ'.length + 3, rfl, rfl, by omega, by simp, by simp, rfl⟩, by rw [hd']; exact h, by simp⟩
      · have hp' := get_more hp
        rcases posOf_cases d.name ns 0 with hz | ⟨j, hz, _, hj⟩
        · rw [hz] at c70
          simp [hk, hz] at h
          simp [hlt, hx', hw, hk, callK_eq c70, hp, hp']
          refine loopK_of (inner' _ hlt hx' (.inr ⟨p, q, rfl, rfl, hne, hp, hq, hlen⟩) (by clear hw; omega)) ?_
          rintro y e σ' ⟨rfl, k, rfl, hg⟩
          rcases hg with ⟨hg, _⟩ | ⟨p', q', e1, e2, _, hp1, hq1, _⟩
          · cases hg
          obtain ⟨rfl, _⟩ := V.ref.inj e1
          obtain ⟨rfl, _⟩ := V.ref.inj e2
          have hpl := (List.getElem?_eq_some_iff.1 hp1).1
          have hql := (List.getElem?_eq_some_iff.1 hq1).1
          have hb1 := bd17 (n := ns.length + 1) (by clear hw; omega)
          have hb2 := bd2 (n := is.length + 1) (by clear hw; omega)
          have hp2 := get_more hp1
          have hq2 : ∀ x y, (σ'.set p x ++ y)[q]? = some (some (.arr 1 (is.map fun s => [.bool s]))) := fun x y => get_more (by rw [List.getElem?_set_ne hne]; exact hq1) y
          simp [hlt, hx', hw, hp2, hq2, hpl, hql, hb1, hb2]
          exact ⟨ns ++ [d.name], is ++ [fsByz ns is d.faults false], _, _, ⟨rfl, rfl⟩, Two.more _ (.inr ⟨p, q, by simp, by simp, hne, by rw [List.getElem?_set_ne (Ne.symm hne), List.getElem?_set_self hpl]; simp, by rw [List.getElem?_set_self (by simpa using hql)]; simp, by simp [hlen]⟩), by rw [hd']; exact h, by simp; clear hw; omega⟩
        · rw [hz] at c70
          simp [hk, hz] at h
          simp [hlt, hx', hw, hk, callK_eq c70, hp, hp']
          exact ⟨ns, is, _, _, ⟨rfl, rfl⟩, .inr ⟨p, q, rfl, rfl, hne, hp, hq, hlen⟩, by simpa [hd'] using h, by clear hw; omega⟩)
    (e := [(0, declsV l), (1, .str s), (5, .nils), (6, .nils), (7, iV 0)]) (σ := []) ⟨[], [], .nils, .nils, rfl, .inl ⟨rfl, rfl, rfl, rfl⟩, by simpa using hA, by simp⟩
  unfold m41
  simp
  refine loopK_of outer ?_
  rintro y e σ ⟨rfl, v, w, h1, h5, h6, hg, hn⟩
  have hby : byz l s = lookB A.1 A.2 s := by unfold byz; rw [hA]
  rw [hby]
  have c70 := s70 A.1 s (by omega)
  unfold lookB
  rcases hg with ⟨rfl, rfl, h7, h8⟩ | ⟨p, q, rfl, rfl, hne, hp, hq, hlen⟩
  · have c70' : CallP pg 70 [.slc [], .str s] (iV (-1)) := s70 [] s (by simp)
    simp [h1, h5, h6, h7, posOf, callK_eq c70']
  · rcases posOf_cases s A.1 0 with hz | ⟨j, hz, _, hj⟩
    · rw [hz] at c70
      simp [h1, h5, h6, hz, callK_eq c70, hp, hq]
    · rw [hz] at c70
      have hj' : j < A.2.length := by omega
      cases hij : A.2[j]'hj' <;> simp [h1, h5, h6, hz, callK_eq c70, hp, hq, hj', hij]
end Go.Ev.Ty
