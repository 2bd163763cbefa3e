/- The texts of ref23: lists. No condition. The texts of ref23: terms. No condition. The texts of ref23: terms, continued. No condition. The texts of ref23: faults, declarations. No condition. -/
import Derived.Test.YtagceefccafgoaaGreatDoorT27
set_option linter.all false
namespace Go.Ev.Ty
open Go.Ev
variable [GF]
set_option maxRecDepth 100000
set_option linter.unusedSimpArgs false
set_option linter.unusedVariables false
theorem add_ok {a b : ByteArray} (h : a.size + b.size ≤ 4611686018427387904) : strBin .add a b = some (.str (a ++ b)) := by simp [strBin, h]
theorem bsize (l : List UInt8) : (⟨⟨l⟩⟩ : ByteArray).size = l.length := rfl
/-- Texts with a text between them. -/
def sepT (sep : ByteArray) : List ByteArray → ByteArray
  | [] => ⟨#[]⟩
  | [x] => x
  | x :: y :: l => x ++ sep ++ sepT sep (y :: l)
theorem sepT_nil (sep : ByteArray) : sepT sep [] = ⟨#[]⟩ := rfl
theorem sepT_one (sep x : ByteArray) : sepT sep [x] = x := rfl
theorem bsize0 : (⟨#[]⟩ : ByteArray).size = 0 := rfl
theorem app_assoc (a b c : ByteArray) : a ++ b ++ c = a ++ (b ++ c) := by
  exact ByteArray.append_assoc
theorem app_nil (a : ByteArray) : a ++ ⟨#[]⟩ = a := by
  exact ByteArray.append_empty
theorem nil_app (a : ByteArray) : (⟨#[]⟩ : ByteArray) ++ a = a := by
  exact ByteArray.empty_append
theorem sepT_append (sep : ByteArray) : ∀ (l : List ByteArray) (x : ByteArray), l ≠ [] → sepT sep (l ++ [x]) = sepT sep l ++ sep ++ x
  | [], x, h => absurd rfl h
  | [a], x, _ => by simp [sepT]
  | a :: b :: l, x, _ => by
    have := sepT_append sep (b :: l) x (by simp)
    simp only [List.cons_append] at this
    simp only [List.cons_append, sepT, this, app_assoc]
def sizesB : List ByteArray → Nat
  | [] => 0
  | s :: l => s.size + sizesB l
theorem sizesB_take : ∀ (l : List ByteArray) (i : Nat), sizesB (l.take i) ≤ sizesB l
  | [], i => by simp [sizesB]
  | s :: l, 0 => by simp [sizesB]
  | s :: l, i + 1 => by have := sizesB_take l i; simp only [List.take_succ_cons, sizesB]; omega
theorem sepT_size (sep : ByteArray) : ∀ l : List ByteArray, (sepT sep l).size ≤ sizesB l + sep.size * l.length
  | [] => Nat.zero_le _
  | [x] => by simp [sepT, sizesB]
  | x :: y :: l => by
    have := sepT_size sep (y :: l)
    simp only [sepT, ByteArray.size_append, sizesB, List.length_cons] at this ⊢
    have e : sep.size * (l.length + 1 + 1) = sep.size * (l.length + 1) + sep.size := by rw [Nat.mul_add]; simp
    omega
theorem sepT_take (sep : ByteArray) (l : List ByteArray) (i : Nat) : (sepT sep (l.take i)).size ≤ sizesB l + sep.size * l.length := by
  refine Nat.le_trans (sepT_size sep _) ?_
  have h1 := sizesB_take l i
  have h2 : sep.size * (l.take i).length ≤ sep.size * l.length := Nat.mul_le_mul_left _ (by simp; omega)
  omega
/-- Text: comma. -/
abbrev bComma : ByteArray := ⟨#[44, 32]⟩
def listT (l : List ByteArray) : ByteArray := sepT bComma l
theorem s101 (l : List ByteArray) (hl : l.length < 4294967296) (hs : sizesB l < 4294967296) : CallP pg 101 [strsV l] (.str (listT l)) := by
  refine CallP.go rfl (show _ = some m101 from rfl) ?_
  have htk : ∀ i, (sepT bComma (l.take i)).size ≤ sizesB l + 2 * l.length := fun i => sepT_take bComma l i
  have loop := loop_go (M := pg) m101_l0.eq_def l (by omega) (fun i e σ => e = [(0, strsV l), (3, .str (sepT bComma (l.take i))), (4, iV i)] ∧ σ = [])
    (fun y e σ => y = .exit 0 ∧ e = [(0, strsV l), (3, .str (listT l)), (4, iV l.length), (8, .bool false)] ∧ σ = [])
    (by rintro e σ ⟨rfl, rfl⟩; simp [listT])
    (by
      rintro i x r e σ ⟨rfl, rfl⟩ hd hlt hx' hd' hw
      have ht1 : l.take (i + 1) = l.take i ++ [x] := by rw [List.take_add_one]; simp [hlt, hx']
      have hz := htk i
      have hz1 := htk (i + 1)
      rw [ht1] at hz1
      by_cases h0 : 0 < i
      · have hne : l.take i ≠ [] := by intro h; have := congrArg List.length h; rw [List.length_take, List.length_nil] at this; clear hw; omega
        rw [sepT_append _ _ _ hne] at hz1
        rw [ht1, sepT_append _ _ _ hne]
        generalize sepT bComma (l.take i) = a at *
        simp only [ByteArray.size_append] at hz1
        have hb1 : a.size + bComma.size ≤ 4611686018427387904 := by omega
        have hb2 : a.size + bComma.size + x.size ≤ 4611686018427387904 := by omega
        simp [hlt, hx', h0, hw, hb1, hb2]
      · have hi : i = 0 := by clear hw; omega
        subst hi
        have h1 : l.take 1 = [x] := by simpa using ht1
        rw [List.take_zero, List.nil_append] at hz1
        have hxs : x.size ≤ 4611686018427387904 := by simp only [sepT] at hz1; clear hw; omega
        have w1 : IntKind.i64.wrap 1 = 1 := by decide
        simp [hlt, hx', sepT_nil, bsize0, hxs, nil_app, h1, sepT_one, w1])
    (e := [(0, strsV l), (3, .str ⟨#[]⟩), (4, iV 0)]) (σ := []) ⟨rfl, rfl⟩
  unfold m101
  simp
  refine loopK_of loop ?_
  rintro y e σ ⟨rfl, rfl, rfl⟩
  simp
/-- A number that is not negative, in digits. -/
def itoaT (n : Int) : ByteArray := ⟨(digitsB 20 n.toNat []).toArray⟩
theorem digitsB_len : ∀ (k n : Nat) (acc : List UInt8), (digitsB k n acc).length ≤ k + acc.length
  | 0, n, acc => by simp [digitsB]
  | k + 1, n, acc => by
    simp only [digitsB]
    split
    · simp only [List.length_cons]; omega
    · have := digitsB_len k (n / 10) ((48 + UInt8.ofNat (n % 10)) :: acc)
      simp only [List.length_cons] at this; omega
theorem itoaT_size (n : Int) : (itoaT n).size ≤ 20 := by
  have := digitsB_len 20 n.toNat []
  show (digitsB 20 n.toNat []).toArray.size ≤ 20
  simpa using this
theorem s120 (n : Int) (h : 0 ≤ n) (h' : n ≤ 9223372036854775807) : CallP pg 120 [iV n] (.str (itoaT n)) := CallP.nat (g := natItoa) rfl (by simp [natItoa, h, h', mkStr, itoaT])
abbrev bAnd : ByteArray := ⟨#[32, 38, 32]⟩
abbrev bOr : ByteArray := ⟨#[32, 124, 32]⟩
abbrev bDual : ByteArray := ⟨#[100, 117, 97, 108, 40]⟩
abbrev bMaj : ByteArray := ⟨#[109, 97, 106, 111, 114, 105, 116, 121, 40]⟩
abbrev bAll : ByteArray := ⟨#[97, 108, 108, 40]⟩
abbrev bAny : ByteArray := ⟨#[97, 110, 121, 40]⟩
abbrev bOpen : ByteArray := ⟨#[40]⟩
abbrev bClose : ByteArray := ⟨#[41]⟩
abbrev bStar : ByteArray := ⟨#[42]⟩
def wrapT (or : Bool) (op : Int) (s : ByteArray) : ByteArray := if op = 4 ∨ (or = false ∧ op = 3) then bOpen ++ s ++ bClose else s
def wrapZ (or : Bool) : List T → List ByteArray → List ByteArray
  | k :: ks, s :: ss => wrapT or k.op s :: wrapZ or ks ss
  | _, _ => []
def wtZ : List Int → List ByteArray → List ByteArray
  | _, [] => []
  | [], s :: ss => s :: wtZ [] ss
  | w :: ws, s :: ss => (s ++ bStar ++ itoaT w) :: wtZ ws ss
mutual
/-- The text of a term. -/
def termT : T → ByteArray
  | .mk op name need ws ks =>
    if op = 3 then sepT bAnd (wrapZ false ks (texts ks))
    else if op = 4 then sepT bOr (wrapZ true ks (texts ks))
    else if op = 5 then bDual ++ (texts ks).headD ⟨#[]⟩ ++ bClose
    else if op = 6 then bMaj ++ name ++ bClose
    else if op = 7 then bAll ++ name ++ bClose
    else if op = 8 then bAny ++ name ++ bClose
    else if op = 2 then itoaT need ++ bOpen ++ sepT bComma (wtZ ws (texts ks)) ++ bClose
    else name
def texts : List T → List ByteArray
  | [] => []
  | t :: l => termT t :: texts l
end
theorem texts_map : ∀ l : List T, texts l = l.map termT
  | [] => rfl
  | t :: l => by simp [texts, texts_map l]
theorem wrapZ_map (or : Bool) : ∀ l : List T, wrapZ or l (texts l) = l.map fun k => wrapT or k.op (termT k)
  | [] => rfl
  | t :: l => by simp [texts, wrapZ, wrapZ_map or l]
theorem termT_eq (t : T) : termT t = if t.op = 3 then sepT bAnd (t.kids.map fun k => wrapT false k.op (termT k))
    else if t.op = 4 then sepT bOr (t.kids.map fun k => wrapT true k.op (termT k))
    else if t.op = 5 then bDual ++ (t.kids.map termT).headD ⟨#[]⟩ ++ bClose
    else if t.op = 6 then bMaj ++ t.name ++ bClose
    else if t.op = 7 then bAll ++ t.name ++ bClose
    else if t.op = 8 then bAny ++ t.name ++ bClose
    else if t.op = 2 then itoaT t.need ++ bOpen ++ sepT bComma (wtZ t.weights (t.kids.map termT)) ++ bClose
    else t.name := by
  cases t
  simp only [termT]
  rw [wrapZ_map, wrapZ_map, texts_map]
  rfl
/- Sizes. -/
theorem lexName_size {s : ByteArray} (h : isName s = true) : s.size ≤ 24 := by
  unfold isName lexName at h
  simp only [Bool.and_eq_true, decide_eq_true_eq] at h
  exact h.1.1.1
theorem wrapT_size (or : Bool) (op : Int) (s : ByteArray) : (wrapT or op s).size ≤ s.size + 2 := by
  unfold wrapT
  split
  · simp only [ByteArray.size_append, bsize, List.length_cons, List.length_nil]; omega
  · omega
theorem isTerms_mem : ∀ {l : List T}, isTerms l = true → ∀ k, k ∈ l → isTerm k = true
  | t :: l, h, k, hk => by
    simp only [isTerms] at h
    split at h
    · rename_i ht
      rcases List.mem_cons.1 hk with rfl | hk
      · exact ht
      · exact isTerms_mem h k hk
    · cases h
theorem sizesB_le {α : Type} {f : α → ByteArray} {g : α → Nat} {c : Nat} : ∀ {l : List α}, (∀ a, a ∈ l → (f a).size + c ≤ g a) → sizesB (l.map f) + c * l.length ≤ (l.map g).sum
  | [], _ => by simp [sizesB]
  | a :: l, h => by
    have h1 := h a (List.mem_cons_self ..)
    have h2 := sizesB_le (l := l) fun b hb => h b (List.mem_cons_of_mem _ hb)
    simp only [List.map_cons, sizesB, List.length_cons, List.sum_cons, Nat.mul_add, Nat.mul_one]
    omega
theorem sum_64 : ∀ l : List T, (l.map fun k => 64 * k.size).sum = 64 * sizes l
  | [] => rfl
  | t :: l => by simp only [List.map_cons, List.sum_cons, sizes, sum_64 l]; omega
theorem wtZ_size : ∀ (ws : List Int) (ss : List ByteArray), sizesB (wtZ ws ss) ≤ sizesB ss + 21 * ws.length
  | [], [] => by simp [wtZ, sizesB]
  | _ :: _, [] => by simp [wtZ, sizesB]
  | [], s :: ss => by have := wtZ_size [] ss; simp only [wtZ, sizesB, List.length_nil] at this ⊢; omega
  | w :: ws, s :: ss => by
    have := wtZ_size ws ss
    have := itoaT_size w
    simp only [wtZ, sizesB, ByteArray.size_append, bsize, List.length_cons, List.length_nil] at *
    omega
theorem wtZ_len : ∀ (ws : List Int) (ss : List ByteArray), (wtZ ws ss).length = ss.length
  | [], [] => rfl
  | _ :: _, [] => rfl
  | [], s :: ss => by simp [wtZ, wtZ_len [] ss]
  | w :: ws, s :: ss => by simp [wtZ, wtZ_len ws ss]
theorem headD_size : ∀ l : List ByteArray, (l.headD ⟨#[]⟩).size ≤ sizesB l
  | [] => Nat.zero_le _
  | s :: l => by simp [sizesB]
theorem termT_size : ∀ (n : Nat) (t : T), t.size ≤ n → isTerm t = true → (termT t).size + 30 ≤ 64 * t.size := by
  intro n
  induction n with
  | zero => intro t h; have := t.size_pos; omega
  | succ n ih =>
    intro t hn ht
    rw [isTerm_eq] at ht
    have hk : isTerms t.kids = true := by
      cases h : isTerms t.kids
      · rw [h] at ht; simp at ht
      · rfl
    rw [hk] at ht
    have hf : formOk t = true := by
      cases h : allSmall t.weights <;> rw [h] at ht <;> simp at ht
      exact ht
    have hsz := t.size_eq
    have kid : ∀ k, k ∈ t.kids → (termT k).size + 30 ≤ 64 * k.size := fun k hkm => ih k (by have := sizes_mem hkm; omega) (isTerms_mem hk k hkm)
    have h1 := sizesB_le (f := termT) (g := fun k => 64 * k.size) (c := 30) (l := t.kids) kid
    have h2 := fun or => sizesB_le (f := fun k => wrapT or k.op (termT k)) (g := fun k => 64 * k.size) (c := 28) (l := t.kids) fun k hkm => by have := kid k hkm; have := wrapT_size or k.op (termT k); omega
    rw [sum_64] at h1
    simp only [sum_64] at h2
    rw [termT_eq]
    unfold formOk at hf
    by_cases o3 : t.op = 3
    · rw [if_pos o3]
      have := sepT_size bAnd (t.kids.map fun k => wrapT false k.op (termT k))
      have := h2 false
      simp only [bsize, List.length_cons, List.length_nil, List.length_map] at *
      omega
    rw [if_neg o3]
    by_cases o4 : t.op = 4
    · rw [if_pos o4]
      have := sepT_size bOr (t.kids.map fun k => wrapT true k.op (termT k))
      have := h2 true
      simp only [bsize, List.length_cons, List.length_nil, List.length_map] at *
      omega
    rw [if_neg o4]
    by_cases o5 : t.op = 5
    · rw [if_pos o5]
      simp only [o5] at hf
      simp at hf
      have hl : t.kids.length = 1 := hf.2
      have := headD_size (t.kids.map termT)
      simp only [ByteArray.size_append, bsize, List.length_cons, List.length_nil] at *
      omega
    rw [if_neg o5]
    have hnm : t.op = 1 ∨ t.op = 6 ∨ t.op = 7 ∨ t.op = 8 → t.name.size ≤ 24 := fun h => by
      rcases h with h | h | h | h <;> simp [h] at hf
      · exact lexName_size hf.1.1
      all_goals
        rcases hf.1.1 with h | h
        · exact lexName_size h
        · rw [h]; decide
    by_cases o6 : t.op = 6
    · rw [if_pos o6]
      have := hnm (by simp [o6])
      simp only [ByteArray.size_append, bsize, List.length_cons, List.length_nil] at *
      omega
    rw [if_neg o6]
    by_cases o7 : t.op = 7
    · rw [if_pos o7]
      have := hnm (by simp [o7])
      simp only [ByteArray.size_append, bsize, List.length_cons, List.length_nil] at *
      omega
    rw [if_neg o7]
    by_cases o8 : t.op = 8
    · rw [if_pos o8]
      have := hnm (by simp [o8])
      simp only [ByteArray.size_append, bsize, List.length_cons, List.length_nil] at *
      omega
    rw [if_neg o8]
    by_cases o2 : t.op = 2
    · rw [if_pos o2]
      simp [o2] at hf
      have hl : 0 < t.kids.length := hf.1.2
      have e1 := sepT_size bComma (wtZ t.weights (t.kids.map termT))
      have e2 := wtZ_size t.weights (t.kids.map termT)
      rw [wtZ_len] at e1
      have := itoaT_size t.need
      simp only [ByteArray.size_append, bsize, List.length_cons, List.length_nil, List.length_map] at *
      omega
    rw [if_neg o2]
    have := hnm (by
      by_cases o1 : t.op = 1
      · exact .inl o1
      · simp [o1, o2, o3, o4, o5, o6, o7, o8] at hf)
    omega
end Go.Ev.Ty
namespace Go.Ev.Ty
open Go.Ev
variable [GF]
set_option maxRecDepth 100000
set_option linter.unusedSimpArgs false
set_option linter.unusedVariables false
theorem take_ne {α : Type} {l : List α} {i : Nat} (h0 : 0 < i) (hlt : i < l.length) : l.take i ≠ [] := by
  intro h; have := congrArg List.length h; rw [List.length_take, List.length_nil] at this; omega
theorem s126 (ks : List T) (sep : ByteArray) (or : Bool) (hl : ks.length < 4294967296) (hsep : sep.size ≤ 3) (hs : sizesB (ks.map fun k => wrapT or k.op (termT k)) < 4294967296)
    (hk : ∀ k, k ∈ ks → CallP pg 103 [.agg k.cells] (.str (termT k))) : CallP pg 126 [termsV ks, .str sep, .bool or] (.str (sepT sep (ks.map fun k => wrapT or k.op (termT k)))) := by
  refine CallP.go rfl (show _ = some m126 from rfl) ?_
  have w1 : IntKind.i64.wrap 1 = 1 := by decide
  generalize hL : ks.map (fun k => wrapT or k.op (termT k)) = L at *
  have hLl : L.length = ks.length := by rw [← hL]; simp
  have htk : ∀ i, (sepT sep (L.take i)).size ≤ 17179869184 := fun i => by
    have := sepT_take sep L i
    have : sep.size * L.length ≤ 3 * L.length := Nat.mul_le_mul_right _ hsep
    omega
  have loop := loop_go (M := pg) m126_l0.eq_def ks (by omega) (fun i e σ => e = [(0, termsV ks), (1, .str sep), (2, .bool or), (7, .str (sepT sep (L.take i))), (8, iV i)] ∧ σ = [])
    (fun y e σ => y = .exit 0 ∧ e.look 7 = some (.str (sepT sep L)) ∧ σ = [])
    (by rintro e σ ⟨rfl, rfl⟩; simp; rw [List.take_of_length_le (by omega)])
    (by
      rintro i k r e σ ⟨rfl, rfl⟩ hd hlt hx' hd' hw
      have c103 := hk k (by rw [← hx']; exact List.getElem_mem hlt)
      have hlt2 : i < L.length := by rw [hLl]; exact hlt
      have hLi : L[i] = wrapT or k.op (termT k) := by simp only [← hL, List.getElem_map, hx']
      have ht1 : L.take (i + 1) = L.take i ++ [wrapT or k.op (termT k)] := by rw [List.take_add_one]; simp [hlt2, hLi]
      have hz := htk i
      have hz1 := htk (i + 1)
      rw [ht1] at hz1
      by_cases h0 : 0 < i
      · have hne := take_ne h0 hlt2
        rw [sepT_append _ _ _ hne] at hz1
        rw [ht1, sepT_append _ _ _ hne]
        generalize sepT sep (L.take i) = a at *
        simp only [ByteArray.size_append] at hz1
        by_cases o4 : k.op = 4 ∨ (or = false ∧ k.op = 3)
        · have hwr : wrapT or k.op (termT k) = bOpen ++ termT k ++ bClose := by unfold wrapT; rw [if_pos o4]
          rw [hwr] at hz1
          rw [show a ++ sep ++ wrapT or k.op (termT k) = a ++ sep ++ bOpen ++ termT k ++ bClose from by rw [hwr]; simp only [app_assoc]]
          simp only [ByteArray.size_append] at hz1
          have hb1 : a.size + sep.size ≤ 4611686018427387904 := by clear hw; omega
          have hb2 : a.size + sep.size + bOpen.size ≤ 4611686018427387904 := by clear hw; omega
          have hb3 : a.size + sep.size + bOpen.size + (termT k).size ≤ 4611686018427387904 := by clear hw; omega
          have hb4 : a.size + sep.size + bOpen.size + (termT k).size + bClose.size ≤ 4611686018427387904 := by clear hw; omega
          by_cases o5 : k.op = 4
          · simp [hlt, hx', h0, hw, w1, hb1, hb2, hb3, hb4, o5, callK_eq c103, nil_app]
          · have o6 : or = false ∧ k.op = 3 := by rcases o4 with h | h; exact absurd h o5; exact h
            simp [hlt, hx', h0, hw, w1, hb1, hb2, hb3, hb4, o6.1, o6.2, callK_eq c103, nil_app]
        · have hwr : wrapT or k.op (termT k) = termT k := by unfold wrapT; rw [if_neg o4]
          rw [hwr] at hz1 ⊢
          have o5 : ¬ k.op = 4 := fun h => o4 (.inl h)
          have hb1 : a.size + sep.size ≤ 4611686018427387904 := by clear hw; omega
          have hb2 : a.size + sep.size + (termT k).size ≤ 4611686018427387904 := by clear hw; omega
          cases or
          · have o6 : ¬ k.op = 3 := fun h => o4 (.inr ⟨rfl, h⟩)
            simp [hlt, hx', h0, hw, w1, hb1, hb2, o5, o6, callK_eq c103, nil_app]
          · simp [hlt, hx', h0, hw, w1, hb1, hb2, o5, callK_eq c103, nil_app]
      · have hi : i = 0 := by clear hw; omega
        subst hi
        rw [List.take_zero, List.nil_append, sepT_one] at hz1
        rw [ht1, List.take_zero, List.nil_append, sepT_one]
        by_cases o4 : k.op = 4 ∨ (or = false ∧ k.op = 3)
        · have hwr : wrapT or k.op (termT k) = bOpen ++ termT k ++ bClose := by unfold wrapT; rw [if_pos o4]
          rw [hwr] at hz1
          rw [hwr]
          simp only [ByteArray.size_append] at hz1
          have hb2 : (⟨#[]⟩ : ByteArray).size + bOpen.size ≤ 4611686018427387904 := by simp only [bsize0]; clear hw; omega
          have hb3 : bOpen.size + (termT k).size ≤ 4611686018427387904 := by clear hw; omega
          have hb4 : bOpen.size + (termT k).size + bClose.size ≤ 4611686018427387904 := by clear hw; omega
          by_cases o5 : k.op = 4
          · simp [hlt, hx', sepT_nil, hw, w1, hb2, hb3, hb4, o5, callK_eq c103, nil_app]
          · have o6 : or = false ∧ k.op = 3 := by rcases o4 with h | h; exact absurd h o5; exact h
            simp [hlt, hx', sepT_nil, hw, w1, hb2, hb3, hb4, o6.1, o6.2, callK_eq c103, nil_app]
        · have hwr : wrapT or k.op (termT k) = termT k := by unfold wrapT; rw [if_neg o4]
          rw [hwr] at hz1 ⊢
          have o5 : ¬ k.op = 4 := fun h => o4 (.inl h)
          have hb2 : (⟨#[]⟩ : ByteArray).size + (termT k).size ≤ 4611686018427387904 := by simp only [bsize0]; clear hw; omega
          cases or
          · have o6 : ¬ k.op = 3 := fun h => o4 (.inr ⟨rfl, h⟩)
            simp [hlt, hx', sepT_nil, hw, w1, hb2, o5, o6, callK_eq c103, nil_app]
          · simp [hlt, hx', sepT_nil, hw, w1, hb2, o5, callK_eq c103, nil_app]
      )
    (e := [(0, termsV ks), (1, .str sep), (2, .bool or), (7, .str ⟨#[]⟩), (8, iV 0)]) (σ := []) ⟨rfl, rfl⟩
  unfold m126
  simp
  refine loopK_of loop ?_
  rintro y e σ ⟨rfl, h7, rfl⟩
  simp [h7]
end Go.Ev.Ty
namespace Go.Ev.Ty
open Go.Ev
variable [GF]
set_option maxRecDepth 100000
set_option linter.unusedSimpArgs false
set_option linter.unusedVariables false
theorem wtZ_nil : ∀ ss : List ByteArray, wtZ [] ss = ss
  | [] => rfl
  | s :: ss => by simp [wtZ, wtZ_nil ss]
theorem wtZ_get : ∀ (ws : List Int) (ss : List ByteArray) (i : Nat) (w : Int) (s : ByteArray), ws[i]? = some w → ss[i]? = some s → (wtZ ws ss)[i]? = some (s ++ bStar ++ itoaT w)
  | [], ss, i, w, s, h, _ => by simp at h
  | _ :: _, [], i, w, s, _, h => by simp at h
  | a :: ws, b :: ss, 0, w, s, h, h' => by simp at h h'; simp [wtZ, h, h']
  | a :: ws, b :: ss, i + 1, w, s, h, h' => by simp at h h'; simp [wtZ]; exact wtZ_get ws ss i w s h h'
theorem allSmall_mem : ∀ {l : List Int}, allSmall l = true → ∀ w, w ∈ l → small w = true
  | a :: l, h, w, hw => by
    simp only [allSmall] at h
    split at h
    · rename_i ha
      rcases List.mem_cons.1 hw with rfl | hw
      · exact ha
      · exact allSmall_mem h w hw
    · cases h
theorem small_hi {w : Int} (h : small w = true) : w ≤ 9223372036854775807 := by
  unfold small at h; simp only [Bool.and_eq_true, decide_eq_true_eq] at h; omega
theorem small_nn {w : Int} (h : small w = true) : 0 ≤ w := by
  unfold small at h; simp only [Bool.and_eq_true, decide_eq_true_eq] at h; exact h.1
theorem isTerm_parts {t : T} (ht : isTerm t = true) : isTerms t.kids = true ∧ allSmall t.weights = true ∧ formOk t = true := by
  rw [isTerm_eq] at ht
  cases h1 : isTerms t.kids <;> cases h2 : allSmall t.weights <;> simp [h1, h2] at ht
  exact ⟨rfl, rfl, ht⟩
theorem s103 : ∀ (n : Nat) (x : T), x.size ≤ n → n < 16777216 → isTerm x = true → CallP pg 103 [.agg x.cells] (.str (termT x)) := by
  intro n
  induction n with
  | zero => intro x h; have := x.size_pos; omega
  | succ n ih =>
    intro x hx hn ht
    have hsz := x.size_eq
    have hkl := sizes_len x.kids
    obtain ⟨hk, hws, hf⟩ := isTerm_parts ht
    have kid : ∀ k, k ∈ x.kids → CallP pg 103 [.agg k.cells] (.str (termT k)) := fun k hkm => ih k (by have := sizes_mem hkm; omega) (by omega) (isTerms_mem hk k hkm)
    have tsz := termT_size _ x (Nat.le_refl _) ht
    have ksz : ∀ k, k ∈ x.kids → (termT k).size + 30 ≤ 64 * k.size := fun k hkm => termT_size _ k (Nat.le_refl _) (isTerms_mem hk k hkm)
    have hwz : ∀ or, sizesB (x.kids.map fun k => wrapT or k.op (termT k)) < 4294967296 := fun or => by
      have := sizesB_le (f := fun k => wrapT or k.op (termT k)) (g := fun k => 64 * k.size) (c := 28) (l := x.kids) fun k hkm => by have := ksz k hkm; have := wrapT_size or k.op (termT k); omega
      simp only [sum_64] at this
      omega
    rw [termT_eq]
    rw [termT_eq] at tsz
    unfold formOk at hf
    refine CallP.go rfl (show _ = some m103 from rfl) ?_
    by_cases o3 : x.op = 3
    · have c := s126 x.kids bAnd false (by omega) (by decide) (hwz false) kid
      unfold m103
      simp [o3, callK_eq c]
    by_cases o4 : x.op = 4
    · have c := s126 x.kids bOr true (by omega) (by decide) (hwz true) kid
      unfold m103
      simp [o4, callK_eq c]
    by_cases o5 : x.op = 5
    · simp [o5] at hf
      have hl : x.kids.length = 1 := hf.2
      obtain ⟨k, hkk⟩ : ∃ k, x.kids = [k] := by
        cases h : x.kids with
        | nil => rw [h] at hl; simp at hl
        | cons k l => cases l with
          | nil => exact ⟨k, rfl⟩
          | cons b l => rw [h] at hl; simp at hl
      have c := kid k (by rw [hkk]; simp)
      have hs := ksz k (by rw [hkk]; simp)
      have hss : k.size ≤ x.size := by rw [hsz, hkk]; simp only [sizes]; omega
      have hb1 : bDual.size + (termT k).size ≤ 4611686018427387904 := by simp only [bsize, List.length_cons, List.length_nil]; omega
      have hb2 : bDual.size + (termT k).size + bClose.size ≤ 4611686018427387904 := by simp only [bsize, List.length_cons, List.length_nil]; omega
      unfold m103
      simp [o5, hkk, callK_eq c, hb1, hb2]
    by_cases o6 : x.op = 6
    · simp only [o6] at tsz
      simp at tsz
      have hb1 : bMaj.size + x.name.size ≤ 4611686018427387904 := by omega
      have hb2 : bMaj.size + x.name.size + bClose.size ≤ 4611686018427387904 := by omega
      unfold m103
      simp [o6, hb1, hb2]
    by_cases o7 : x.op = 7
    · simp only [o7] at tsz
      simp at tsz
      have hb1 : bAll.size + x.name.size ≤ 4611686018427387904 := by omega
      have hb2 : bAll.size + x.name.size + bClose.size ≤ 4611686018427387904 := by omega
      unfold m103
      simp [o7, hb1, hb2]
    by_cases o8 : x.op = 8
    · simp only [o8] at tsz
      simp at tsz
      have hb1 : bAny.size + x.name.size ≤ 4611686018427387904 := by omega
      have hb2 : bAny.size + x.name.size + bClose.size ≤ 4611686018427387904 := by omega
      unfold m103
      simp [o8, hb1, hb2]
    by_cases o1 : x.op = 1
    · unfold m103
      simp [o1]
    have o2 : x.op = 2 := Decidable.byContradiction fun o2 => by simp [o1, o2, o3, o4, o5, o6, o7, o8] at hf
    simp [o2] at hf tsz
    have hneed := small_nn hf.1.1.2
    have c120 := s120 x.need hneed (small_hi hf.1.1.2)
    generalize hL : wtZ x.weights (x.kids.map termT) = L at *
    have hLl : L.length = x.kids.length := by rw [← hL, wtZ_len]; simp
    generalize hbn : itoaT x.need ++ bOpen = b0 at *
    have htk : ∀ i, b0.size + (sepT bComma (L.take i)).size ≤ 68719476736 := fun i => by
      have h1 := sepT_take bComma L i
      have h2 : sizesB L ≤ sizesB (x.kids.map termT) + 21 * x.weights.length := by rw [← hL]; exact wtZ_size _ _
      have h3 := sizesB_le (f := termT) (g := fun k => 64 * k.size) (c := 30) (l := x.kids) ksz
      rw [sum_64] at h3
      have h4 : b0.size ≤ 21 := by rw [← hbn]; have := itoaT_size x.need; simp only [ByteArray.size_append, bsize, List.length_cons, List.length_nil]; omega
      have h5 : bComma.size = 2 := rfl
      rw [h5] at h1
      omega
    have w1 : IntKind.i64.wrap 1 = 1 := by decide
    have hb0 : (itoaT x.need).size + bOpen.size ≤ 4611686018427387904 := by have := itoaT_size x.need; simp only [bsize, List.length_cons, List.length_nil]; omega
    have loop := loop_go (M := pg) m103_l0.eq_def x.kids (by omega) (fun i e σ => e = [(1, .ptr 0 1 0 0), (3, .str (b0 ++ sepT bComma (L.take i))), (4, iV i)] ∧ σ = [some (.arr 5 [x.cells])])
      (fun y e σ => y = .exit 1 ∧ e = [(1, .ptr 0 1 0 0), (3, .str (b0 ++ sepT bComma L)), (4, iV x.kids.length), (56, .bool false)] ∧ σ = [some (.arr 5 [x.cells])])
      (by rintro e σ ⟨rfl, rfl⟩; simp; rw [List.take_of_length_le (by omega)])
      (by
        rintro i k r e σ ⟨rfl, rfl⟩ hd hlt hx' hd' hw
        have hkm : k ∈ x.kids := by rw [← hx']; exact List.getElem_mem hlt
        have c103 := kid k hkm
        have hlt2 : i < L.length := by rw [hLl]; exact hlt
        have hkg : (x.kids.map termT)[i]? = some (termT k) := by simp [hlt, hx']
        have hz := htk i
        have hz1 := htk (i + 1)
        -- the piece
        have piece : ∃ p, L[i] = p ∧ L.take (i + 1) = L.take i ++ [p] := ⟨_, rfl, by rw [List.take_add_one]; simp [hlt2]⟩
        obtain ⟨p, hp, ht1⟩ := piece
        rw [ht1] at hz1
        by_cases hw0 : x.weights = []
        · have hpk : p = termT k := by
            have hLe : L = x.kids.map termT := by rw [← hL, hw0, wtZ_nil]
            rw [← hp]; simp only [hLe, List.getElem_map, hx']
          subst hpk
          by_cases h0 : 0 < i
          · have hne := take_ne h0 hlt2
            rw [sepT_append _ _ _ hne] at hz1
            rw [ht1, sepT_append _ _ _ hne]
            generalize sepT bComma (L.take i) = a at *
            simp only [ByteArray.size_append] at hz1
            have hb0 : b0.size + a.size + bComma.size ≤ 4611686018427387904 := by clear hw; omega
            have hb1 : b0.size + a.size + bComma.size + (termT k).size ≤ 4611686018427387904 := by clear hw; omega
            rw [show b0 ++ (a ++ bComma ++ termT k) = b0 ++ a ++ bComma ++ (termT k) from by simp only [app_assoc]]
            simp [hlt, hx', h0, hw, w1, hb0, hb1, callK_eq c103, hw0, app_nil]
          · have hi : i = 0 := by clear hw; omega
            subst hi
            rw [List.take_zero, List.nil_append, sepT_one] at hz1
            rw [ht1, List.take_zero, List.nil_append, sepT_one]
            have hb0 : b0.size + (termT k).size ≤ 4611686018427387904 := by clear hw; omega
            rw [show b0 ++ termT k = b0 ++ (termT k) from by simp only [app_assoc]]
            simp [hlt, hx', sepT_nil, hw, w1, hb0, callK_eq c103, hw0, app_nil]
        · have hwl : x.weights.length = x.kids.length := by rcases hf.2 with h | h; exact absurd h hw0; exact h
          have hwp : 0 < x.weights.length := List.length_pos_iff.2 hw0
          have hltw : i < x.weights.length := by omega
          have hwm := small_nn (allSmall_mem hws x.weights[i] (List.getElem_mem hltw))
          have c120w := s120 x.weights[i] hwm (small_hi (allSmall_mem hws x.weights[i] (List.getElem_mem hltw)))
          have hpk : p = termT k ++ bStar ++ itoaT x.weights[i] := by
            have := wtZ_get x.weights (x.kids.map termT) i _ _ (List.getElem?_eq_getElem hltw) hkg
            rw [hL, List.getElem?_eq_getElem hlt2, hp] at this
            exact Option.some.inj this
          have hiw := itoaT_size x.weights[i]
          generalize itoaT x.weights[i] = iw at *
          subst hpk
          by_cases h0 : 0 < i
          · have hne := take_ne h0 hlt2
            rw [sepT_append _ _ _ hne] at hz1
            rw [ht1, sepT_append _ _ _ hne]
            generalize sepT bComma (L.take i) = a at *
            simp only [ByteArray.size_append] at hz1
            have hb0 : b0.size + a.size + bComma.size ≤ 4611686018427387904 := by clear hw; omega
            have hb1 : b0.size + a.size + bComma.size + (termT k).size ≤ 4611686018427387904 := by clear hw; omega
            have hb2 : b0.size + a.size + bComma.size + (termT k).size + bStar.size ≤ 4611686018427387904 := by clear hw; omega
            have hb3 : b0.size + a.size + bComma.size + (termT k).size + bStar.size + iw.size ≤ 4611686018427387904 := by clear hw; omega
            rw [show b0 ++ (a ++ bComma ++ (termT k ++ bStar ++ iw)) = b0 ++ a ++ bComma ++ (termT k) ++ bStar ++ iw from by simp only [app_assoc]]
            simp [hlt, hx', h0, hw, w1, hb0, hb1, hb2, hb3, callK_eq c103, hwp, hltw, callK_eq c120w, app_nil]
          · have hi : i = 0 := by clear hw; omega
            subst hi
            rw [List.take_zero, List.nil_append, sepT_one] at hz1
            rw [ht1, List.take_zero, List.nil_append, sepT_one]
            simp only [ByteArray.size_append] at hz1
            have hb0 : b0.size + (termT k).size ≤ 4611686018427387904 := by clear hw; omega
            have hb1 : b0.size + (termT k).size + bStar.size ≤ 4611686018427387904 := by clear hw; omega
            have hb2 : b0.size + (termT k).size + bStar.size + iw.size ≤ 4611686018427387904 := by clear hw; omega
            rw [show b0 ++ (termT k ++ bStar ++ iw) = b0 ++ (termT k) ++ bStar ++ iw from by simp only [app_assoc]]
            simp [hlt, hx', sepT_nil, hw, w1, hb0, hb1, hb2, callK_eq c103, hwp, hltw, callK_eq c120w, app_nil])
      (e := [(1, .ptr 0 1 0 0), (3, .str b0), (4, iV 0)]) (σ := [some (.arr 5 [x.cells])]) ⟨by simp [sepT_nil, app_nil], rfl⟩
    have tot := htk L.length
    rw [List.take_length] at tot
    generalize sepT bComma L = body at *
    have hb9 : b0.size + body.size + bClose.size ≤ 4611686018427387904 := by simp only [bsize, List.length_cons, List.length_nil]; omega
    unfold m103
    simp [o2, callK_eq c120, hb0, hbn]
    refine loopK_of loop ?_
    rintro y e σ ⟨rfl, rfl, rfl⟩
    simp [hb9]
end Go.Ev.Ty
namespace Go.Ev.Ty
open Go.Ev
variable [GF]
set_option maxRecDepth 100000
set_option linter.unusedSimpArgs false
set_option linter.unusedVariables false
abbrev tNone : ByteArray := ⟨#[110, 111, 110, 101]⟩
abbrev tThr : ByteArray := ⟨#[116, 104, 114, 101, 115, 104, 111, 108, 100, 32]⟩
abbrev tSp : ByteArray := ⟨#[32]⟩
abbrev tSite : ByteArray := ⟨#[115, 105, 116, 101, 32]⟩
abbrev tByz : ByteArray := ⟨#[32, 98, 121, 122]⟩
abbrev tCrash : ByteArray := ⟨#[32, 99, 114, 97, 115, 104]⟩
abbrev tByzO : ByteArray := ⟨#[98, 121, 122, 32, 123, 32]⟩
abbrev tCrashO : ByteArray := ⟨#[99, 114, 97, 115, 104, 32, 123, 32]⟩
abbrev tBrC : ByteArray := ⟨#[32, 125]⟩
abbrev tBrO : ByteArray := ⟨#[32, 123, 32]⟩
abbrev tBrCS : ByteArray := ⟨#[32, 125, 59]⟩
abbrev tFaults : ByteArray := ⟨#[102, 97, 117, 108, 116, 115, 32]⟩
abbrev tEq : ByteArray := ⟨#[32, 61, 32]⟩
abbrev tQuorum : ByteArray := ⟨#[113, 117, 111, 114, 117, 109, 32]⟩
abbrev tSemi : ByteArray := ⟨#[59]⟩
abbrev tConfig : ByteArray := ⟨#[99, 111, 110, 102, 105, 103, 32]⟩
abbrev tRead : ByteArray := ⟨#[32, 114, 101, 97, 100, 32]⟩
abbrev tWrite : ByteArray := ⟨#[32, 119, 114, 105, 116, 101, 32]⟩
abbrev tFlt : ByteArray := ⟨#[32, 102, 97, 117, 108, 116, 115, 32]⟩
abbrev tWit : ByteArray := ⟨#[119, 105, 116, 110, 101, 115, 115, 32]⟩
abbrev tClient : ByteArray := ⟨#[99, 108, 105, 101, 110, 116, 32]⟩
abbrev tChain : ByteArray := ⟨#[99, 104, 97, 105, 110, 32]⟩
abbrev tBar : ByteArray := ⟨#[32, 124, 32]⟩
abbrev tNl : ByteArray := ⟨#[10]⟩
def setsT (f : FT) : ByteArray :=
  if f.byzNames.length = 0 then (if f.crashNames.length = 0 then ⟨#[]⟩ else tCrashO ++ listT f.crashNames ++ tBrC)
  else if f.crashNames.length = 0 then tByzO ++ listT f.byzNames ++ tBrC
  else tByzO ++ listT f.byzNames ++ tBrC ++ tSp ++ tCrashO ++ listT f.crashNames ++ tBrC
/-- The text of a fault. -/
def faultT (f : FT) : ByteArray :=
  if f.op = 1 then tNone
  else if f.op = 2 then tThr ++ itoaT f.byz ++ tSp ++ itoaT f.crash
  else if f.op = 4 then tSite ++ f.name ++ tByz
  else if f.op = 5 then tSite ++ f.name ++ tCrash
  else if f.op = 6 then f.name
  else setsT f
theorem allN_mem : ∀ {l : List ByteArray}, allN l = true → ∀ s, s ∈ l → isName s = true
  | s :: l, h, x, hx => by
    simp only [allN] at h
    split at h
    · rename_i hs
      rcases List.mem_cons.1 hx with rfl | hx
      · exact hs
      · exact allN_mem h x hx
    · cases h
theorem allN_sizes : ∀ {l : List ByteArray}, allN l = true → sizesB l ≤ 24 * l.length
  | [], _ => by simp [sizesB]
  | s :: l, h => by
    have h1 := lexName_size (allN_mem h s (List.mem_cons_self ..))
    have h2 : allN l = true := by
      simp only [allN] at h
      split at h
      · exact h
      · cases h
    have := allN_sizes h2
    simp only [sizesB, List.length_cons]; omega
theorem listT_size {l : List ByteArray} (h : allN l = true) : (listT l).size ≤ 26 * l.length := by
  have h1 := sepT_size bComma l
  have h2 := allN_sizes h
  have h3 : bComma.size = 2 := rfl
  unfold listT
  rw [h3] at h1
  omega
theorem isFault_sets {f : FT} (h : isFault f = true) : allN f.byzNames = true ∧ allN f.crashNames = true := by
  have hnil : ∀ l : List ByteArray, l.length = 0 → allN l = true := fun l hl => by rw [List.length_eq_zero_iff.1 hl]; rfl
  unfold isFault at h
  by_cases o1 : f.op = 1
  · simp [o1] at h; exact ⟨hnil _ (by simp [h.2.1]), hnil _ (by simp [h.2.2])⟩
  by_cases o2 : f.op = 2
  · simp [o2] at h; exact ⟨hnil _ (by simp [h.2.1]), hnil _ (by simp [h.2.2])⟩
  by_cases o3 : f.op = 3
  · simp [o3] at h; exact ⟨h.1.2, h.2⟩
  by_cases o4 : f.op = 4 ∨ f.op = 5 ∨ f.op = 6
  · simp [o1, o2, o3, o4] at h; exact ⟨hnil _ (by simp [h.2.1]), hnil _ (by simp [h.2.2])⟩
  · simp [o1, o2, o3, o4] at h
theorem isFault_name {f : FT} (h : isFault f = true) : f.name.size ≤ 24 := by
  unfold isFault at h
  by_cases o1 : f.op = 1
  · simp [o1] at h; rw [h.1.1.1]; decide
  by_cases o2 : f.op = 2
  · simp [o2] at h; rw [h.1.1.1]; decide
  by_cases o3 : f.op = 3
  · simp [o3] at h; rw [h.1.1.1.1.1]; decide
  by_cases o4 : f.op = 4 ∨ f.op = 5 ∨ f.op = 6
  · simp [o1, o2, o3, o4] at h; exact lexName_size h.1.1.1
  · simp [o1, o2, o3, o4] at h
theorem faultT_size {f : FT} (h : isFault f = true) : (faultT f).size ≤ 64 + 26 * f.byzNames.length + 26 * f.crashNames.length := by
  have hn := isFault_name h
  obtain ⟨h1, h2⟩ := isFault_sets h
  have s1 := listT_size h1
  have s2 := listT_size h2
  have i1 := itoaT_size f.byz
  have i2 := itoaT_size f.crash
  unfold faultT setsT
  repeat' split
  all_goals
    try simp only [ByteArray.size_append, bsize, List.length_cons, List.length_nil]
    omega
theorem s102 (f : FT) (h : isFault f = true) (hb : f.byzNames.length < 16777216) (hc : f.crashNames.length < 16777216) : CallP pg 102 [.agg f.cells] (.str (faultT f)) := by
  have hn := isFault_name h
  obtain ⟨h1, h2⟩ := isFault_sets h
  have z1 := allN_sizes h1
  have z2 := allN_sizes h2
  have s1 := listT_size h1
  have s2 := listT_size h2
  have i1 := itoaT_size f.byz
  have i2 := itoaT_size f.crash
  have c1 := s101 f.byzNames (by omega) (by omega)
  have c2 := s101 f.crashNames (by omega) (by omega)
  refine CallP.go rfl (show _ = some m102 from rfl) ?_
  unfold faultT
  by_cases o1 : f.op = 1
  · unfold m102
    simp [o1]
  by_cases o2 : f.op = 2
  · have hf := h
    unfold isFault at hf
    simp [o2] at hf
    have cb := s120 f.byz (small_nn hf.1.1.2) (small_hi hf.1.1.2)
    have cc := s120 f.crash (small_nn hf.1.2) (small_hi hf.1.2)
    generalize itoaT f.byz = ib at *
    generalize itoaT f.crash = ic at *
    have hb0 : tThr.size + ib.size ≤ 4611686018427387904 := by simp only [bsize, List.length_cons, List.length_nil]; omega
    have hb1 : tThr.size + ib.size + tSp.size ≤ 4611686018427387904 := by simp only [bsize, List.length_cons, List.length_nil]; omega
    have hb2 : tThr.size + ib.size + tSp.size + ic.size ≤ 4611686018427387904 := by simp only [bsize, List.length_cons, List.length_nil]; omega
    unfold m102
    simp [o2, callK_eq cb, callK_eq cc, hb0, hb1, hb2]
  by_cases o4 : f.op = 4
  · skip
    have hb0 : tSite.size + f.name.size ≤ 4611686018427387904 := by simp only [bsize, List.length_cons, List.length_nil]; omega
    have hb1 : tSite.size + f.name.size + tByz.size ≤ 4611686018427387904 := by simp only [bsize, List.length_cons, List.length_nil]; omega
    unfold m102
    simp [o4, hb0, hb1]
  by_cases o5 : f.op = 5
  · skip
    have hb0 : tSite.size + f.name.size ≤ 4611686018427387904 := by simp only [bsize, List.length_cons, List.length_nil]; omega
    have hb1 : tSite.size + f.name.size + tCrash.size ≤ 4611686018427387904 := by simp only [bsize, List.length_cons, List.length_nil]; omega
    unfold m102
    simp [o5, hb0, hb1]
  by_cases o6 : f.op = 6
  · unfold m102
    simp [o6]
  unfold setsT
  generalize listT f.byzNames = lb at *
  generalize listT f.crashNames = lc at *
  have p1 : ¬ f.byzNames.length = 0 → 0 < f.byzNames.length := by omega
  have p2 : ¬ f.crashNames.length = 0 → 0 < f.crashNames.length := by omega
  have e0 : (⟨#[]⟩ : ByteArray) = ⟨#[]⟩ := rfl
  by_cases q1 : f.byzNames.length = 0
  · by_cases q2 : f.crashNames.length = 0
    · unfold m102
      simp [o1, o2, o4, o5, o6, q1, q2]
    · have q2' := p2 q2
      have hb0 : (⟨#[]⟩ : ByteArray).size + tCrashO.size ≤ 4611686018427387904 := by simp only [bsize, List.length_cons, List.length_nil]; omega
      have hb1 : (⟨#[]⟩ : ByteArray).size + tCrashO.size + lc.size ≤ 4611686018427387904 := by simp only [bsize, List.length_cons, List.length_nil]; omega
      have hb2 : (⟨#[]⟩ : ByteArray).size + tCrashO.size + lc.size + tBrC.size ≤ 4611686018427387904 := by simp only [bsize, List.length_cons, List.length_nil]; omega
      have hd0 : tCrashO.size + lc.size ≤ 4611686018427387904 := by simp only [bsize, List.length_cons, List.length_nil]; omega
      have hd1 : tCrashO.size + lc.size + tBrC.size ≤ 4611686018427387904 := by simp only [bsize, List.length_cons, List.length_nil]; omega
      unfold m102
      simp [o1, o2, o4, o5, o6, q1, q2, q2', callK_eq c2, nil_app, hb0, hb1, hb2, hd0, hd1]
  · have q1' := p1 q1
    have hne : ∀ a : ByteArray, ¬ tByzO ++ a ++ tBrC = ⟨#[]⟩ := fun a e => by
      have := congrArg ByteArray.size e
      simp only [ByteArray.size_append, bsize, List.length_cons, List.length_nil] at this
      omega
    have hb0 : tByzO.size + lb.size ≤ 4611686018427387904 := by simp only [bsize, List.length_cons, List.length_nil]; omega
    have hb1 : tByzO.size + lb.size + tBrC.size ≤ 4611686018427387904 := by simp only [bsize, List.length_cons, List.length_nil]; omega
    have hb2 : tByzO.size + lb.size + tBrC.size + tSp.size ≤ 4611686018427387904 := by simp only [bsize, List.length_cons, List.length_nil]; omega
    have hb3 : tByzO.size + lb.size + tBrC.size + tSp.size + tCrashO.size ≤ 4611686018427387904 := by simp only [bsize, List.length_cons, List.length_nil]; omega
    have hb4 : tByzO.size + lb.size + tBrC.size + tSp.size + tCrashO.size + lc.size ≤ 4611686018427387904 := by simp only [bsize, List.length_cons, List.length_nil]; omega
    have hb5 : tByzO.size + lb.size + tBrC.size + tSp.size + tCrashO.size + lc.size + tBrC.size ≤ 4611686018427387904 := by simp only [bsize, List.length_cons, List.length_nil]; omega
    by_cases q2 : f.crashNames.length = 0
    · unfold m102
      simp [o1, o2, o4, o5, o6, q1, q1', q2, callK_eq c1, hb0, hb1, hb2, hb3, hb4, hb5]
    · have q2' := p2 q2
      unfold m102
      simp [o1, o2, o4, o5, o6, q1, q1', q2, q2', callK_eq c1, callK_eq c2, hne, hb0, hb1, hb2, hb3, hb4, hb5]
end Go.Ev.Ty
