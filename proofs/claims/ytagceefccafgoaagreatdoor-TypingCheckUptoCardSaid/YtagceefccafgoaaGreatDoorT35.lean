/- The plain law of typing: the scope says what the table says. No condition. typing.Check answers what ref24.Check answers, given what Valid answers. No condition. Few; the statement's answer once awake answers true. No condition. -/
import Derived.Test.YtagceefccafgoaaGreatDoorT33
import Derived.Test.YtagceefccafgoaaGreatDoorT34
set_option linter.all false
namespace Go.Ev.Ty
open Go.Ev
variable [GF]
set_option maxRecDepth 100000
set_option linter.unusedSimpArgs false
set_option linter.unusedVariables false
/- Known models. -/
theorem posOf_append (s : ByteArray) : ∀ (a b : List ByteArray) (i : Nat), posOf s (a ++ b) i = if 0 ≤ posOf s a i then posOf s a i else posOf s b (i + a.length)
  | [], b, i => by simp [posOf]
  | x :: a, b, i => by
    simp only [List.cons_append, posOf]
    by_cases h : x = s
    · simp only [h, if_true]; rw [if_pos (by omega)]
    · simp only [h, if_false, posOf_append s a b (i + 1), List.length_cons]
      rw [show i + 1 + a.length = i + (a.length + 1) by omega]
theorem posOf_mem (s : ByteArray) : ∀ (l : List ByteArray) (i : Nat), 0 ≤ posOf s l i ↔ s ∈ l
  | [], i => by simp [posOf]
  | x :: l, i => by
    simp only [posOf, List.mem_cons]
    by_cases h : x = s
    · simp [h]
    · have h' : ¬ s = x := fun e => h e.symm
      simp only [h, h', if_false, false_or]
      exact posOf_mem s l (i + 1)
theorem lookB_append {ns : List ByteArray} {is : List Bool} (hl : is.length = ns.length) (a : List ByteArray) (b : List Bool) {s : ByteArray} (h : s ∈ ns) : lookB (ns ++ a) (is ++ b) s = lookB ns is s := by
  have h0 := (posOf_mem s ns 0).2 h
  unfold lookB
  rw [posOf_append, if_pos h0, if_pos h0]
  rcases posOf_cases s ns 0 with hz | ⟨k, hk, _, hk2⟩
  · omega
  · rw [hk]
    simp only [Int.toNat_natCast]
    have : k < is.length := by omega
    simp [List.getElem?_append_left this]
theorem known_ext : ∀ (l : List D) (ns : List ByteArray) (is : List Bool), ∃ a b, known ns is l = (ns ++ a, is ++ b) ∧ a.length = b.length
  | [], ns, is => ⟨[], [], by simp [known], rfl⟩
  | d :: l, ns, is => by
    simp only [known]
    split
    · exact known_ext l ns is
    · obtain ⟨a, b, h, hl⟩ := known_ext l (ns ++ [d.name]) (is ++ [fsByz ns is d.faults false])
      exact ⟨d.name :: a, fsByz ns is d.faults false :: b, by rw [h]; simp, by simp [hl]⟩
theorem known_append : ∀ (l m : List D) (ns : List ByteArray) (is : List Bool), known ns is (l ++ m) = known (known ns is l).1 (known ns is l).2 m
  | [], m, ns, is => rfl
  | d :: l, m, ns, is => by
    simp only [List.cons_append, known]
    split
    · exact known_append l m ns is
    · exact known_append l m _ _
theorem known_len (l : List D) : (known [] [] l).2.length = (known [] [] l).1.length := by
  obtain ⟨a, b, h, hl⟩ := known_ext l [] []
  rw [h]; simp [hl]
theorem fByz_eq (ns : List ByteArray) (is : List Bool) (f : FT) : fByz ns is f = fB (lookB ns is) f := rfl
theorem fsByz_eq (ns : List ByteArray) (is : List Bool) : ∀ (l : List FT) (b : Bool), fsByz ns is l b = (b || anyB (lookB ns is) l)
  | [], b => by simp [fsByz, anyB]
  | f :: l, b => by
    simp only [fsByz, anyB, fsByz_eq ns is l, fByz_eq]
    cases b <;> cases fB (lookB ns is) f <;> simp
theorem anyB_congr {B B' : ByteArray → Bool} : ∀ {l : List FT}, (∀ f, f ∈ l → f.op = 6 → B f.name = B' f.name) → anyB B l = anyB B' l
  | [], _ => rfl
  | f :: l, h => by
    have h1 : fB B f = fB B' f := by
      unfold fB
      by_cases h6 : f.op = 6
      · rw [h f (List.mem_cons_self ..) h6]
      · simp [h6]
    simp only [anyB, h1, anyB_congr fun g hg => h g (List.mem_cons_of_mem _ hg)]
/- Tables. -/
theorem table_append : ∀ a b : List D, table (a ++ b) = table a ++ table b
  | [], b => rfl
  | d :: a, b => by simp [table, table_append a b]
theorem namesK_append (k : Int) : ∀ a b : List D, namesK k (a ++ b) = namesK k a ++ namesK k b
  | [], b => rfl
  | d :: a, b => by simp [namesK, namesK_append k a b]
theorem countK_append (k : Int) : ∀ a b : List (ByteArray × Int), countK k (a ++ b) = countK k a + countK k b
  | [], b => by simp [countK]
  | (x, j) :: a, b => by simp only [List.cons_append, countK, countK_append k a b]; omega
theorem find_append (n : ByteArray) : ∀ a b : List (ByteArray × Int), (∀ p, p ∈ a → p.2 ≠ 0) → find n (a ++ b) = if find n a = 0 then find n b else find n a
  | [], b, _ => by simp [find]
  | (x, k) :: a, b, h => by
    have hk : k ≠ 0 := h (x, k) (List.mem_cons_self ..)
    simp only [List.cons_append, find, find_append n a b fun p hp => h p (List.mem_cons_of_mem _ hp)]
    by_cases e : x = n
    · simp [e, hk]
    · simp [e]
theorem srv_nz : ∀ (l : List ByteArray) p, p ∈ srv l → p.2 = 2
  | [], p, h => by simp [srv] at h
  | s :: l, p, h => by
    simp only [srv, List.mem_cons] at h
    rcases h with rfl | h
    · rfl
    · exact srv_nz l p h
theorem entries_nz (d : D) : ∀ p, p ∈ entriesOf d → p.2 ≠ 0 := by
  intro p h
  unfold entriesOf at h
  split at h
  · simp at h
  · rename_i hk
    simp only [List.mem_cons] at h
    rcases h with rfl | h
    · exact hk
    · split at h
      · rw [srv_nz _ p h]; decide
      · simp at h
theorem table_nz : ∀ (l : List D) p, p ∈ table l → p.2 ≠ 0
  | [], p, h => by simp [table] at h
  | d :: l, p, h => by
    simp only [table, List.mem_append] at h
    rcases h with h | h
    · exact entries_nz d p h
    · exact table_nz l p h
theorem isIn_cons (n s : ByteArray) (l : List ByteArray) : isIn n (s :: l) = if s = n then true else isIn n l := by
  by_cases h : s = n <;> simp [isIn, h]
theorem find_srv (n : ByteArray) : ∀ l : List ByteArray, find n (srv l) = if isIn n l = true then 2 else 0
  | [] => rfl
  | s :: l => by
    simp only [srv, find, find_srv n l, isIn_cons]
    by_cases e : s = n <;> simp [e]
theorem countK_srv (k : Int) : ∀ l : List ByteArray, countK k (srv l) = if k = 2 then l.length else 0
  | [] => by simp [srv, countK]
  | s :: l => by
    simp only [srv, countK, countK_srv k l]
    by_cases h : k = 2
    · simp [h]; omega
    · have h' : ¬ (2 : Int) = k := fun e => h e.symm
      simp [h, h']
/- What add adds. -/
def dsrv (d : D) : List ByteArray → List (ByteArray × D)
  | [] => []
  | n :: l => (n, d) :: dsrv d l
def declsOf (d : D) : List (ByteArray × D) := if kindOf d.kind = 0 then [] else (d.name, d) :: (if d.kind = 1 then dsrv d d.names else [])
theorem srv_append : ∀ a b : List ByteArray, srv (a ++ b) = srv a ++ srv b
  | [], b => rfl
  | s :: a, b => by simp [srv, srv_append a b]
theorem puts_eq (d : D) (t : List (ByteArray × Int)) (ht : ∀ p, p ∈ t → p.2 ≠ 0) (name : ByteArray) : ∀ (r pre : List ByteArray) (s : Sc), s.kinds = t ++ (name, 1) :: srv pre → siteErr t name pre r = 0 →
    Sc.puts d s r = { s with kinds := s.kinds ++ srv r, decls := s.decls ++ dsrv d r, servers := s.servers + r.length }
  | [], pre, s, hk, h => by simp [Sc.puts, srv, dsrv]
  | n :: r, pre, s, hk, h => by
    simp only [siteErr] at h
    by_cases h1 : find n t ≠ 0 ∨ n = name ∨ isIn n pre = true
    · simp [h1] at h
    · rw [if_neg h1] at h
      by_cases h2 : countK 2 t + pre.length ≥ 12
      · simp [h2] at h
      · rw [if_neg h2] at h
        have ha : find n t = 0 := Decidable.byContradiction fun e => h1 (.inl e)
        have hb : ¬ name = n := fun e => h1 (.inr (.inl e.symm))
        have hc : ¬ isIn n pre = true := fun e => h1 (.inr (.inr e))
        have hf : find n s.kinds = 0 := by
          rw [hk, find_append n t _ ht]
          simp [ha, find, hb, find_srv, hc]
        have hp : s.put n 2 d = { s with kinds := s.kinds ++ [(n, 2)], decls := s.decls ++ [(n, d)] } := by unfold Sc.put; rw [if_pos hf]
        simp only [Sc.puts, hp]
        rw [puts_eq d t ht name r (pre ++ [n]) _ (by simp [hk, srv_append, srv]) h]
        simp [srv, dsrv]
        omega
theorem add_eq (s : Sc) (d : D) (hwf : s.WF) (h0 : kindOf d.kind ≠ 0 → find d.name s.kinds = 0) (h1 : d.kind = 1 → siteErr s.kinds d.name [] d.names = 0) :
    s.add d = { s with kinds := s.kinds ++ entriesOf d, decls := s.decls ++ declsOf d, servers := s.servers + countK 2 (entriesOf d), configs := s.configs + countK 5 (entriesOf d), clients := s.clients + countK 6 (entriesOf d), others := (if d.kind = 1 then s.others else true), chain := (if d.kind = 7 then true else s.chain) } := by
  unfold Sc.add entriesOf declsOf
  by_cases k1 : d.kind = 1
  · have hz : kindOf d.kind ≠ 0 := by rw [k1]; decide
    have hp : s.put d.name (kindOf d.kind) d = { s with kinds := s.kinds ++ [(d.name, kindOf d.kind)], decls := s.decls ++ [(d.name, d)] } := by unfold Sc.put; rw [if_pos (h0 hz)]
    rw [k1] at hp
    simp only [kindOf, if_true] at hp
    simp only [k1, kindOf, if_true, ne_eq, Int.reduceEq, not_false_eq_true, hp, if_false]
    rw [puts_eq d s.kinds hwf.nz d.name d.names [] _ (by simp [srv]) (h1 k1)]
    simp [countK, countK_srv]
  by_cases k4 : d.kind = 4
  · have hz : kindOf d.kind ≠ 0 := by rw [k4]; decide
    have hp : s.put d.name (kindOf d.kind) d = { s with kinds := s.kinds ++ [(d.name, kindOf d.kind)], decls := s.decls ++ [(d.name, d)] } := by unfold Sc.put; rw [if_pos (h0 hz)]
    rw [k4] at hp; simp [kindOf] at hp; simp [k4, hp, kindOf, countK]
  by_cases k6 : d.kind = 6
  · have hz : kindOf d.kind ≠ 0 := by rw [k6]; decide
    have hp : s.put d.name (kindOf d.kind) d = { s with kinds := s.kinds ++ [(d.name, kindOf d.kind)], decls := s.decls ++ [(d.name, d)] } := by unfold Sc.put; rw [if_pos (h0 hz)]
    rw [k6] at hp; simp [kindOf] at hp; simp [k6, hp, kindOf, countK]
  by_cases k7 : d.kind = 7
  · simp [k7, kindOf, countK]
  by_cases k2 : d.kind = 2
  · have hz : kindOf d.kind ≠ 0 := by rw [k2]; decide
    have hp : s.put d.name (kindOf d.kind) d = { s with kinds := s.kinds ++ [(d.name, kindOf d.kind)], decls := s.decls ++ [(d.name, d)] } := by unfold Sc.put; rw [if_pos (h0 hz)]
    rw [k2] at hp; simp [kindOf] at hp; simp [k2, hp, kindOf, countK]
  by_cases k3 : d.kind = 3
  · have hz : kindOf d.kind ≠ 0 := by rw [k3]; decide
    have hp : s.put d.name (kindOf d.kind) d = { s with kinds := s.kinds ++ [(d.name, kindOf d.kind)], decls := s.decls ++ [(d.name, d)] } := by unfold Sc.put; rw [if_pos (h0 hz)]
    rw [k3] at hp; simp [kindOf] at hp; simp [k3, hp, kindOf, countK]
  simp [k1, k2, k3, k4, k6, k7, kindOf, countK]
/- The scope behind some declarations. -/
def rkOf (l : List D) (n : ByteArray) : Nat := (posOf n (known [] [] l).1 0).toNat
structure Inv (l pre : List D) (last : Int) (s : Sc) : Prop where
  wf : s.WF
  kinds : s.kinds = table pre
  servers : s.servers = countK 2 (table pre)
  configs : s.configs = countK 5 (table pre)
  clients : s.clients = countK 6 (table pre)
  others : s.others = true ↔ 0 < pre.length ∧ last ≠ 1
  chain : s.chain = true ↔ 0 < (namesK 7 pre).length
  witness : s.witness = tr (namesK 5 pre)
  conveyed : s.conveyed = tr (namesK 7 pre)
  ranked : Ranked s (byz l) (rkOf l) (fun n => find n (table pre) = 3)
  memo : Memo (byz l) s.byz
  decl : ∀ n, find n (table pre) = 3 ↔ n ∈ (known [] [] pre).1
theorem inv_empty (l : List D) : Inv l [] 0 Sc.empty where
  wf := ⟨by simp [Sc.empty], rfl⟩
  kinds := rfl
  servers := rfl
  configs := rfl
  clients := rfl
  others := by simp [Sc.empty]
  chain := by simp [Sc.empty, namesK]
  witness := rfl
  conveyed := rfl
  ranked := fun n h => by simp [table, find] at h
  memo := by intro p h; simp [Sc.empty] at h
  decl := by simp [table, find, known]
theorem byz_pre (l pre rest : List D) (hl : l = pre ++ rest) {n : ByteArray} (h : n ∈ (known [] [] pre).1) : byz l n = byz pre n := by
  unfold byz
  rw [hl, known_append]
  obtain ⟨a, b, hab, _⟩ := known_ext rest (known [] [] pre).1 (known [] [] pre).2
  rw [hab]
  exact lookB_append (known_len pre) a b h
theorem must_zero (t : List (ByteArray × Int)) (n : ByteArray) (a : Int) (ha : a ≠ 0) : must t n a a = 0 ↔ find n t = a := by
  unfold must
  simp only
  constructor
  · intro h
    by_cases h0 : find n t = 0
    · simp [h0] at h
    · by_cases h1 : find n t = a
      · exact h1
      · simp [h0, h1] at h
  · intro h; simp [h, ha]
/-- What the scope says of a declaration is what the table says. -/
theorem decl_first {l pre rest : List D} {last : Int} {s : Sc} {d : D} (I : Inv l pre last s) (hl : l = pre ++ rest) : declErr s (namesK 5 pre) (namesK 7 pre) (byz l) d = firstErr pre last d := by
  have hb : must (table pre) d.use 3 3 = 0 → byz l d.use = byz pre d.use := fun h => byz_pre l pre rest hl ((I.decl _).1 ((must_zero _ _ 3 (by decide)).1 h))
  unfold declErr firstErr bodyErr configErr
  rw [I.kinds, I.configs, I.clients]
  have ho : (d.kind = 1 ∧ s.others = true) ↔ (d.kind = 1 ∧ 0 < pre.length ∧ last ≠ 1) := by rw [I.others]
  have hch : s.chain = true ↔ 0 < (namesK 7 pre).length := I.chain
  by_cases h10 : d.kind = 1 ∧ 0 < pre.length ∧ last ≠ 1
  · rw [if_pos (ho.2 h10), if_pos h10]
  have h10' : ¬ (d.kind = 1 ∧ s.others = true) := fun h => h10 (ho.1 h)
  simp only [h10, h10', if_false]
  by_cases h5 : kindOf d.kind ≠ 0 ∧ find d.name (table pre) ≠ 0
  · simp only [h5, and_self, if_true, ne_eq, not_false_eq_true]
  simp only [h5, if_false]
  by_cases k4 : d.kind = 4
  · by_cases h6 : 6 ≤ countK 5 (table pre)
    · have h6' : (6 : Int) ≤ (countK 5 (table pre) : Int) := by omega
      simp [k4, kindOf, h6, h6']
    · have h6' : ¬ (6 : Int) ≤ (countK 5 (table pre) : Int) := by omega
      by_cases hm : must (table pre) d.use 3 3 = 0
      · simp [k4, kindOf, h6, h6', hb hm]
      · simp [k4, kindOf, h6, h6', hm]
  by_cases k6 : d.kind = 6
  · by_cases h6 : 6 ≤ countK 6 (table pre)
    · have h6' : (6 : Int) ≤ (countK 6 (table pre) : Int) := by omega
      simp [k6, kindOf, h6, h6']
    · have h6' : ¬ (6 : Int) ≤ (countK 6 (table pre) : Int) := by omega
      simp [k6, kindOf, h6, h6']
  have hk5 : kindOf d.kind ≠ 5 := by unfold kindOf; split <;> (try simp) <;> split <;> (try simp) <;> split <;> (try simp) <;> split <;> (try omega) <;> split <;> simp
  have hk6 : kindOf d.kind ≠ 6 := by unfold kindOf; split <;> (try simp) <;> split <;> (try simp) <;> split <;> (try simp) <;> split <;> (try simp) <;> split <;> (try omega)
  simp only [hk5, hk6, false_and, or_self, if_false, k4, k6]
  by_cases k7 : d.kind = 7
  · by_cases h0 : 0 < (namesK 7 pre).length
    · simp [k7, hch, h0]
    · have hn : namesK 7 pre = [] := List.eq_nil_of_length_eq_zero (by omega)
      have hc0 : ¬ s.chain = true := fun h => h0 (hch.1 h)
      simp [k7, hc0, hn]
  · simp [k7]
theorem idx_append {α : Type} (n : ByteArray) : ∀ (a b : List (ByteArray × α)) (i : Nat), idx n (a ++ b) i = match idx n a i with | some q => some q | none => idx n b (i + a.length)
  | [], b, i => by simp [idx]
  | (x, v) :: a, b, i => by
    simp only [List.cons_append, idx]
    by_cases h : x = n
    · simp [h]
    · simp only [h, if_false, idx_append n a b (i + 1), List.length_cons]
      rw [show i + 1 + a.length = i + (a.length + 1) by omega]
theorem Ranked.mono {s s' : Sc} {B : ByteArray → Bool} {rk : ByteArray → Nat} {G G' : ByteArray → Prop} (x : List (ByteArray × D)) (hs : s'.decls = s.decls ++ x) (hR : Ranked s B rk G) (hG : ∀ n, G n → G' n)
    (hnew : ∀ n, G' n → ¬ G n → ∃ d j, idx n s'.decls 0 = some (j, d) ∧ d.faults.length < 4611686018427387904 ∧ B n = anyB B d.faults ∧ ∀ f, f ∈ d.faults → f.op = 6 → G' f.name ∧ rk f.name < rk n) : Ranked s' B rk G' := by
  intro n h
  by_cases hn : G n
  · obtain ⟨d, j, h1, h2, h3, h4⟩ := hR n hn
    exact ⟨d, j, by rw [hs, idx_append, h1], h2, h3, fun f hf ho => ⟨hG _ (h4 f hf ho).1, (h4 f hf ho).2⟩⟩
  · exact hnew n h hn
/-- The names of models in a table. -/
theorem find_entries (n : ByteArray) (d : D) (h : d.kind ≠ 2) : find n (entriesOf d) ≠ 3 := by
  unfold entriesOf
  split
  · simp [find]
  · simp only [find]
    split
    · unfold kindOf; split <;> (try simp) <;> split <;> (try simp) <;> split <;> (try simp) <;> split <;> (try simp) <;> split <;> (try omega) <;> simp
    · split
      · rw [find_srv]; split <;> decide
      · simp [find]
theorem faultsErr_zero {t : List (ByteArray × Int)} : ∀ {l : List FT}, faultsErr t l = 0 → ∀ f, f ∈ l → faultErr t f = 0
  | [], _, f, hf => by simp at hf
  | g :: l, h, f, hf => by
    simp only [faultsErr] at h
    by_cases hz : faultErr t g = 0
    · simp [hz] at h
      rcases List.mem_cons.1 hf with rfl | hf
      · exact hz
      · exact faultsErr_zero h f hf
    · simp [hz] at h
theorem inv_step {l pre rest : List D} {last : Int} {s : Sc} {d : D} (I : Inv l pre last s) (hl : l = pre ++ d :: rest) (hz : firstErr pre last d = 0) (hD : Dec d) (hv : d.kind = 7 → d.names ≠ [])
    {w c b : List (ByteArray × Bool)} (hb : Memo (byz l) b) (hw : w = (if d.kind = 5 then tr (namesK 5 pre ++ d.names) else s.witness)) (hc : c = (if d.kind = 7 then tr (namesK 7 pre ++ d.names) else s.conveyed)) :
    Inv l (pre ++ [d]) d.kind (({ s with witness := w, conveyed := c, byz := b } : Sc).add d) := by
  have h10 : ¬ (d.kind = 1 ∧ 0 < pre.length ∧ last ≠ 1) := by
    intro h; unfold firstErr at hz; rw [if_pos h] at hz; exact absurd hz (by decide)
  have h5 : ¬ (kindOf d.kind ≠ 0 ∧ find d.name (table pre) ≠ 0) := by
    intro h; unfold firstErr at hz; rw [if_neg h10, if_pos h] at hz; exact absurd hz (by decide)
  have hbody : bodyErr pre d = 0 := by
    unfold firstErr at hz
    rw [if_neg h10, if_neg h5] at hz
    by_cases h3 : (kindOf d.kind = 5 ∧ countK 5 (table pre) ≥ 6) ∨ (kindOf d.kind = 6 ∧ countK 6 (table pre) ≥ 6)
    · rw [if_pos h3] at hz; exact absurd hz (by decide)
    · rw [if_neg h3] at hz; exact hz
  have hfresh : kindOf d.kind ≠ 0 → find d.name s.kinds = 0 := fun h => by rw [I.kinds]; exact Decidable.byContradiction fun e => h5 ⟨h, e⟩
  have hsite : d.kind = 1 → siteErr s.kinds d.name [] d.names = 0 := fun h => by
    unfold bodyErr at hbody; rw [I.kinds]; simpa [h] using hbody
  let s0 : Sc := { s with witness := w, conveyed := c, byz := b }
  have hwf0 : s0.WF := ⟨I.wf.nz, I.wf.same⟩
  have ha := add_eq s0 d hwf0 hfresh hsite
  show Inv l (pre ++ [d]) d.kind (s0.add d)
  have htab : table (pre ++ [d]) = table pre ++ entriesOf d := by rw [table_append]; simp [table]
  have hnk : ∀ k, namesK k (pre ++ [d]) = namesK k pre ++ (if d.kind = k then d.names else []) := fun k => by rw [namesK_append]; simp [namesK]
  have hkn := known_append pre [d] [] []
  have hfa : ∀ n, find n (table pre ++ entriesOf d) = if find n (table pre) = 0 then find n (entriesOf d) else find n (table pre) := fun n => find_append n _ _ (table_nz pre)
  rw [ha]
  constructor
  · refine ⟨fun p hp => ?_, ?_⟩
    · simp only [List.mem_append] at hp
      rcases hp with hp | hp
      · exact I.wf.nz p hp
      · exact entries_nz d p hp
    · have hd : ∀ l : List ByteArray, (dsrv d l).map (·.1) = (srv l).map (·.1) := fun l => by
        induction l with
        | nil => rfl
        | cons n l ih => simp [dsrv, srv, ih]
      have := I.wf.same
      simp only [List.map_append]
      rw [show s0.decls = s.decls from rfl, show s0.kinds = s.kinds from rfl, this]
      congr 1
      unfold declsOf entriesOf
      split
      · rfl
      · simp only [List.map_cons]
        split
        · rw [hd]
        · rfl
  · simp only [htab]; rw [show s0.kinds = s.kinds from rfl, I.kinds]
  · simp only [htab, countK_append]; rw [show s0.servers = s.servers from rfl, I.servers]; omega
  · simp only [htab, countK_append]; rw [show s0.configs = s.configs from rfl, I.configs]; omega
  · simp only [htab, countK_append]; rw [show s0.clients = s.clients from rfl, I.clients]; omega
  · simp only
    by_cases k1 : d.kind = 1
    · rw [if_pos k1, show s0.others = s.others from rfl, I.others]
      simp [k1]
      intro h
      exact Decidable.byContradiction fun e => h10 ⟨k1, h, e⟩
    · simp [k1]
  · simp only [hnk]
    by_cases k7 : d.kind = 7
    · have := List.length_pos_iff.2 (hv k7)
      simp [k7]; omega
    · simp only [k7, if_false, List.append_nil]; rw [show s0.chain = s.chain from rfl]; exact I.chain
  · simp only [hnk]
    rw [show s0.witness = w from rfl, hw]
    by_cases k5 : d.kind = 5
    · simp [k5]
    · simp [k5, I.witness]
  · simp only [hnk]
    rw [show s0.conveyed = c from rfl, hc]
    by_cases k7 : d.kind = 7
    · simp [k7]
    · simp [k7, I.conveyed]
  · by_cases k2 : d.kind = 2
    case neg =>
      refine Ranked.mono (declsOf d) rfl I.ranked (fun n h => ?_) (fun n h hn => ?_)
      · simp [htab, hfa, h]
      · simp only [htab, hfa] at h
        exfalso
        split at h
        · exact find_entries n d k2 h
        · exact hn h
    have hen : entriesOf d = [(d.name, 3)] := by unfold entriesOf; simp [k2, kindOf]
    have hdn : declsOf d = [(d.name, d)] := by unfold declsOf; simp [k2, kindOf]
    have hf0 : find d.name s.kinds = 0 := hfresh (by rw [k2]; decide)
    have hnot : d.name ∉ (known [] [] pre).1 := fun h => by have := (I.decl _).2 h; rw [← I.kinds, hf0] at this; exact absurd this (by decide)
    have hpos : ¬ 0 ≤ posOf d.name (known [] [] pre).1 0 := fun h => hnot ((posOf_mem _ _ _).1 h)
    have hk1 : known [] [] (pre ++ [d]) = ((known [] [] pre).1 ++ [d.name], (known [] [] pre).2 ++ [fsByz (known [] [] pre).1 (known [] [] pre).2 d.faults false]) := by
      rw [hkn]; simp [known, k2, hpos]
    have hfz : ∀ f, f ∈ d.faults → f.op = 6 → f.name ∈ (known [] [] pre).1 := fun f hf ho => by
      have := faultsErr_zero (t := table pre) (l := d.faults) (by unfold bodyErr at hbody; simpa [k2] using hbody) f hf
      unfold faultErr at this
      simp [ho] at this
      exact (I.decl _).1 ((must_zero _ _ 3 (by decide)).1 this)
    refine Ranked.mono (declsOf d) rfl I.ranked (fun n h => ?_) (fun n h hn => ?_)
    · simp [htab, hfa, h]
    · have hnd : n = d.name := by
        rw [htab, hfa, hen] at h
        simp only [find] at h
        split at h
        · exact Decidable.byContradiction fun e => by
            have e' : ¬ d.name = n := fun x => e x.symm
            simp [e'] at h
        · exact absurd h hn
      subst hnd
      have hidx : idx d.name s.decls 0 = none := (idx_none _ _ 0).2 (by rw [I.wf.same]; exact (find_zero I.wf _).1 hf0)
      refine ⟨d, s.decls.length, ?_, by have := hD.faults; omega, ?_, fun f hf ho => ⟨?_, ?_⟩⟩
      · show idx d.name (s.decls ++ declsOf d) 0 = _
        rw [idx_append, hidx, hdn]; simp [idx]
      · rw [byz_pre l (pre ++ [d]) rest (by rw [hl]; simp) (by rw [hk1]; simp)]
        unfold byz
        rw [hk1]
        unfold lookB
        simp only [posOf_append, hpos, if_false, posOf, if_true, Nat.zero_add]
        have hlen := known_len pre
        rw [if_pos (by omega)]
        simp only [Int.toNat_natCast, ← hlen]
        simp only [List.getD_eq_getElem?_getD, List.getElem?_concat_length, Option.getD_some]
        rw [fsByz_eq, Bool.false_or]
        exact anyB_congr fun f hf ho => (byz_pre l pre (d :: rest) hl (hfz f hf ho)).symm
      · have := (I.decl _).2 (hfz f hf ho)
        simp [htab, hfa, this]
      · unfold rkOf
        have hl2 : l = (pre ++ [d]) ++ rest := by rw [hl]; simp
        rw [hl2, known_append, hk1]
        obtain ⟨a, b', hab, _⟩ := known_ext rest ((known [] [] pre).1 ++ [d.name]) ((known [] [] pre).2 ++ [fsByz (known [] [] pre).1 (known [] [] pre).2 d.faults false])
        simp only [hab, List.append_assoc]
        rw [posOf_append f.name, if_pos ((posOf_mem _ _ _).2 (hfz f hf ho)), posOf_append d.name, if_neg hpos]
        rcases posOf_cases f.name (known [] [] pre).1 0 with h0 | ⟨k, h0, _, h2⟩
        · have := (posOf_mem f.name _ 0).2 (hfz f hf ho); omega
        · rw [h0]; simp only [List.singleton_append, posOf, if_true]; omega
  · exact hb
  · intro n
    rw [htab, hfa]
    by_cases k2 : d.kind = 2
    · have hen : entriesOf d = [(d.name, 3)] := by unfold entriesOf; simp [k2, kindOf]
      have hf0 : find d.name s.kinds = 0 := hfresh (by rw [k2]; decide)
      have hnot : d.name ∉ (known [] [] pre).1 := fun h => by have := (I.decl _).2 h; rw [← I.kinds, hf0] at this; exact absurd this (by decide)
      have hpos : ¬ 0 ≤ posOf d.name (known [] [] pre).1 0 := fun h => hnot ((posOf_mem _ _ _).1 h)
      have hk1 : (known [] [] (pre ++ [d])).1 = (known [] [] pre).1 ++ [d.name] := by rw [hkn]; simp [known, k2, hpos]
      rw [hk1, hen, List.mem_append, List.mem_singleton, ← I.decl]
      by_cases hn : n = d.name
      · subst hn; rw [← I.kinds, hf0]; simp [find]
      · have hn' : ¬ d.name = n := fun e => hn e.symm
        simp only [find, hn', if_false, hn, or_false]
        split
        · rename_i h; rw [h]
        · exact Iff.rfl
    · have hk1 : known [] [] (pre ++ [d]) = known [] [] pre := by rw [hkn]; simp [known, k2]
      rw [hk1, ← I.decl]
      split
      · rename_i h; rw [h]
        constructor
        · intro e; exact absurd e (find_entries n d k2)
        · intro e; exact absurd e (by decide)
      · exact Iff.rfl
end Go.Ev.Ty
namespace Go.Ev.Ty
open Go.Ev
variable [GF]
set_option maxRecDepth 100000
set_option linter.unusedSimpArgs false
set_option linter.unusedVariables false
theorem table_mem_le (l : List D) (k : Int) (i : Nat) : countK k (table (l.take i)) ≤ (table l).length := Nat.le_trans (countK_le k _) (table_take l i)
theorem s15 (l : List D) (i : Nat) (hlt : i < l.length) (s : Sc) (last : Int) (I : Inv l (l.take i) last s) (hD : Dec l[i]) (ht : (table l).length < 4294967296) (junk : Store) :
    CallT pg 15 [scP, .agg l[i].cells] (scS s ++ junk) (PostD s (namesK 5 (l.take i)) (namesK 7 (l.take i)) (byz l) junk (firstErr (l.take i) last l[i]) l[i]) := by
  have hl : l = l.take i ++ l.drop i := (List.take_append_drop i l).symm
  rw [← decl_first I hl]
  have hS : s.servers = countK 2 s.kinds := by rw [I.kinds]; exact I.servers
  have hk2 : countK 2 s.kinds < 4294967296 := by rw [I.kinds]; have := table_mem_le l 2 i; omega
  by_cases h1 : l[i].kind = 1
  · exact s15_1 s _ _ _ _ junk hS hD I.memo hk2 h1
  by_cases h2 : l[i].kind = 2
  · exact s15_2 s _ _ _ _ junk hS hD I.memo h2
  by_cases h3 : l[i].kind = 3
  · exact s15_3 s _ _ _ _ junk hS hD I.memo h3
  by_cases h4 : l[i].kind = 4
  · exact s15_4 s _ _ _ _ junk hS hD I.memo (rkOf l) _ I.ranked (fun h => by rw [I.kinds] at h; exact (must_zero _ _ 3 (by decide)).1 h) h4
  by_cases h5 : l[i].kind = 5
  · exact s15_5 s _ _ _ _ junk hS hD I.memo I.witness h5
  by_cases h6 : l[i].kind = 6
  · exact s15_6 s _ _ _ _ junk hS hD I.memo h6
  by_cases h7 : l[i].kind = 7
  · exact s15_7 s _ _ _ _ junk hS hD I.memo I.conveyed h7
  exact s15_0 s _ _ _ _ junk hS hD I.memo h1 h2 h3 h4 h5 h6 h7
theorem s6 (l : List D) (er : Int) (hl : l.length < 4294967296) (hd : er = 0 → ∀ d, d ∈ l → Dec d ∧ (d.kind = 7 → d.names ≠ [])) (ht : er = 0 → (table l).length < 4294967296)
    (h13 : CallP pg 13 [declsV l] (iV er)) : CallP pg 6 [declsV l] (.tup [iV (checkOf er l).1, iV (checkOf er l).2]) := by
  refine CallP.go rfl (show _ = some m6 from rfl) ?_
  by_cases he : er = 0
  case neg =>
    unfold m6 checkOf
    simp [callK_eq h13, he]
  replace hd := hd he
  replace ht := ht he
  generalize hA : firstBad [] 0 l = A
  have loop := loop_go (M := pg) m6_l0.eq_def l (by omega) (fun i e σ => e = [(5, scP), (15, declsV l), (16, iV l.length), (17, iV i)] ∧ ∃ s last, InSc s [] σ ∧ Inv l (l.take i) last s ∧ firstBad (l.take i) last (l.drop i) = A)
    (fun y e σ => (y = .exit 0 ∧ A = none ∧ e = [(5, scP), (15, declsV l), (16, iV l.length), (17, iV l.length), (18, .bool false)] ∧ ∃ s last, InSc s [] σ ∧ Inv l l last s) ∨ (y = .ret ∧ ∃ a b, A = some (a, b) ∧ e = [(2, iV a), (3, iV b)]))
    (by
      rintro e σ ⟨rfl, s, last, hi, I, h⟩
      simp [firstBad] at h
      subst h
      simp at I
      simp
      exact ⟨s, hi, last, I⟩)
    (by
      rintro i d r e σ ⟨rfl, s, last, ⟨more, rfl⟩, I, h⟩ hdk hlt hx' hd' hw
      have ht1 : l.take (i + 1) = l.take i ++ [d] := by rw [List.take_add_one]; simp [hlt, hx']
      have hDd := hd d (by rw [← hx']; exact List.getElem_mem hlt)
      have hl : l = l.take i ++ d :: r := by rw [← hdk]; exact (List.take_append_drop i l).symm
      have c15 := s15 l i hlt s last I (by rw [hx']; exact hDd.1) ht (more ++ [some (.arr 22 [d.cells])])
      rw [hx'] at c15
      simp only [hdk, firstBad] at h
      simp [hlt, hx']
      refine sharedK_of c15 ?_
      rintro v σ' ⟨rfl, w, c, b, ⟨more', rfl⟩, hb, hwc⟩
      by_cases hz : firstErr (l.take i) last d = 0
      case neg =>
        simp [hz] at h
        subst h
        simp [hz]
      simp [hz] at h
      obtain ⟨hw5, hc7⟩ := hwc hz
      have I' := inv_step I hl hz hDd.1 hDd.2 hb hw5 hc7
      have b2 := table_mem_le l 2 i
      have b5 := table_mem_le l 5 i
      have b6 := table_mem_le l 6 i
      have e2 := I.servers
      have e5 := I.configs
      have e6 := I.clients
      simp [hz]
      refine sharedK_of (s16 { s with witness := w, conveyed := c, byz := b } ⟨I.wf.nz, I.wf.same⟩ d (more ++ some (.arr 22 [d.cells]) :: more') (by have := hDd.1.names; omega) (by simp only [e2]; clear hw; omega) (by simp only [e5]; clear hw; omega) (by simp only [e6]; clear hw; omega)) ?_
      rintro v σ' ⟨more2, rfl⟩
      simp [hw]
      exact ⟨_, ⟨_, rfl⟩, d.kind, by rw [ht1]; exact I', by rw [ht1, hd']; exact h⟩)
    (e := [(5, scP), (15, declsV l), (16, iV l.length), (17, iV 0)]) (σ := scS Sc.empty) ⟨rfl, Sc.empty, 0, ⟨[], by simp⟩, by simpa using inv_empty l, by simpa using hA⟩
  unfold m6 checkOf
  rw [hA]
  simp [callK_eq h13, he]
  refine sharedK_of s14 ?_
  rintro v σ' ⟨rfl, rfl⟩
  simp
  refine loopK_of loop ?_
  rintro y e σ (⟨rfl, rfl, rfl, s, last, ⟨more, rfl⟩, I⟩ | ⟨rfl, a, b, rfl, rfl⟩)
  · have e2 := I.servers
    have e5 := I.configs
    by_cases h2 : countK 2 (table l) = 0
    · have h2' : s.servers = 0 := by rw [e2, h2]; rfl
      simp [h2, h2']
    · have h2' : ¬ s.servers = 0 := by rw [e2]; omega
      by_cases h5 : countK 5 (table l) = 0
      · have h5' : s.configs = 0 := by rw [e5, h5]; rfl
        simp [h2, h2', h5, h5']
      · have h5' : ¬ s.configs = 0 := by rw [e5]; omega
        simp [h2, h2', h5, h5']
  · simp
end Go.Ev.Ty
namespace Go.Ev.Ty
open Go.Ev
variable [GF]
set_option maxRecDepth 100000
set_option linter.unusedSimpArgs false
set_option linter.unusedVariables false
theorem most_int (a b : Int) : most2 (fun x y => decide (x < y)) [iV a, iV b] = some (iV (if a < b then b else a)) := by
  by_cases h : a < b <;> simp [most2, most, h]
open Classical in
theorem s12 : ∀ (n : Nat) (x : T), x.size ≤ n → n < 4294967296 → ∃ a b : Int, CallP pg 12 [.agg x.cells] (.tup [iV a, iV b]) := by
  intro n
  induction n with
  | zero => intro x h; have := x.size_pos; omega
  | succ n ih =>
    intro x hx hn
    have hsz := x.size_eq
    have hkl := sizes_len x.kids
    -- the answers of the kids
    have kid : ∃ F : T → Int × Int, ∀ k, k ∈ x.kids → CallP pg 12 [.agg k.cells] (.tup [iV (F k).1, iV (F k).2]) := by
      refine ⟨fun k => if h : ∃ p : Int × Int, CallP pg 12 [.agg k.cells] (.tup [iV p.1, iV p.2]) then h.choose else (0, 0), fun k hk => ?_⟩
      have h : ∃ p : Int × Int, CallP pg 12 [.agg k.cells] (.tup [iV p.1, iV p.2]) := by
        obtain ⟨a, b, h⟩ := ih k (by have := sizes_mem hk; omega) (by omega)
        exact ⟨(a, b), h⟩
      simp only [dif_pos h]
      exact h.choose_spec
    obtain ⟨F, hF⟩ := kid
    have pre : ∃ p : Int × Int, ∀ (A : Int × Int), A = p → loopW pg m12_l0 [(1, .ptr 0 1 0 0), (4, iV (IntKind.i64.wrap (IntKind.i64.wrap (1 + x.name.size) + x.weights.length))), (5, iV 0), (6, iV 0)] [some (.arr 5 [x.cells])]
        (fun y e σ => y = .exit 0 ∧ ∃ i : Nat, e = [(1, .ptr 0 1 0 0), (4, iV p.1), (5, iV p.2), (6, iV i), (21, .bool false)]) := by
      let step : Int × Int → T → Int × Int := fun p k => (IntKind.i64.wrap (p.1 + (F k).1), if p.2 < (F k).2 then (F k).2 else p.2)
      refine ⟨x.kids.foldl step (IntKind.i64.wrap (IntKind.i64.wrap (1 + x.name.size) + x.weights.length), 0), fun A hA => ?_⟩
      rw [← hA]
      refine loop_go (M := pg) m12_l0.eq_def x.kids (by omega) (fun i e σ => ∃ p : Int × Int, e = [(1, .ptr 0 1 0 0), (4, iV p.1), (5, iV p.2), (6, iV i)] ∧ σ = [some (.arr 5 [x.cells])] ∧ (x.kids.drop i).foldl step p = A) _ ?_ ?_ ⟨(_, 0), rfl, rfl, by rw [hA]; rfl⟩
      · rintro e σ ⟨p, rfl, rfl, h⟩
        rw [List.drop_length] at h
        simp only [List.foldl_nil] at h
        subst h
        simp
        exact ⟨_, rfl⟩
      · rintro i k r e σ ⟨p, rfl, rfl, h⟩ hd hlt hx' hd' hw
        rw [hd] at h
        simp only [List.foldl_cons] at h
        have c := hF k (by rw [← hx']; exact List.getElem_mem hlt)
        simp [hlt, hx', callK_eq c, hw, most_int]
        rw [hd']
        exact ⟨_, _, ⟨rfl, rfl⟩, h⟩
    obtain ⟨⟨a, b⟩, loop⟩ := pre
    refine ⟨a, IntKind.i64.wrap (b + 1), ?_⟩
    refine CallP.go rfl (show _ = some m12 from rfl) ?_
    unfold m12
    simp
    refine loopK_of (loop _ rfl) ?_
    rintro y e σ ⟨rfl, i, rfl⟩
    simp
/-- A call of which only a part of the answer is told. -/
def retE (rs : List (MRes × Nat)) (Q : V → Prop) : Post := fun x e σ => isDone x ∧ ∃ r, Q r ∧ ret rs r e σ
@[simp] theorem retE_ret (rs : List (MRes × Nat)) (Q : V → Prop) (e : Env) (σ : Store) : retE rs Q .ret e σ = ∃ r, Q r ∧ ret rs r e σ := by simp [retE, isDone]
@[simp] theorem retE_normal (rs : List (MRes × Nat)) (Q : V → Prop) (e : Env) (σ : Store) : retE rs Q .normal e σ = ∃ r, Q r ∧ ret rs r e σ := by simp [retE, isDone]
@[simp] theorem retE_exit (rs : List (MRes × Nat)) (Q : V → Prop) (j : Nat) (e : Env) (σ : Store) : retE rs Q (.exit j) e σ = False := by simp [retE, isDone]
theorem CallP.some {M : Prog} {f : FuncId} {m : MFun} {us : List V} {Q : V → Prop} (hn : M.nat f = none) (hf : M.fn f = some m) (h : Ev.go M [.code m.body] (retE m.results Q) (params us) []) : ∃ r, Q r ∧ CallP M f us r := by
  obtain ⟨x, e', σ', ⟨N, hN⟩, hd, r, hq, hr⟩ := wp_sound (M := M) (c := m.body) h
  unfold ret at hr
  refine ⟨r, hq, N + 2, fun n hn' => ?_⟩
  obtain ⟨n, rfl⟩ : ∃ j, n = j + 2 := ⟨n - 2, by omega⟩
  split at hr
  · rename_i vs hv
    exact ev_pure hn hf (hN n (by omega)) (by intro j e; subst e; exact hd) hv hr
  · cases hr
theorem s5 (l : List D) (hb : declsB l ≤ 1048576) : ∃ b : Bool, CallP pg 5 [declsV l] (.bool b) := by
  have hlen := declsB_len l
  have key : ∃ r, (∃ b : Bool, r = .bool b) ∧ CallP pg 5 [declsV l] r := by
    refine CallP.some rfl (show _ = some m5 from rfl) ?_
    have loop := loop_go (M := pg) m5_l0.eq_def l (by omega) (fun i e σ => ∃ a : Int, e = [(0, declsV l), (3, iV a), (4, iV i)] ∧ σ = [])
      (fun y e σ => y = .exit 0 ∧ (∃ a : Int, e.look 3 = some (iV a)))
      (by rintro e σ ⟨a, rfl, rfl⟩; simp)
      (by
        rintro i d r e σ ⟨a, rfl, rfl⟩ hd hlt hx' hd' hw
        have hdm : d ∈ l := by rw [← hx']; exact List.getElem_mem hlt
        have hD := bulk_lens hb hdm
        obtain ⟨a1, b1, c1⟩ := s12 _ d.term (Nat.le_refl _) (by clear hw; omega)
        obtain ⟨a2, b2, c2⟩ := s12 _ d.read (Nat.le_refl _) (by clear hw; omega)
        obtain ⟨a3, b3, c3⟩ := s12 _ d.write (Nat.le_refl _) (by clear hw; omega)
        simp [hlt, hx', callK_eq c1, callK_eq c2, callK_eq c3, hw])
      (e := [(0, declsV l), (3, iV 0), (4, iV 0)]) (σ := []) ⟨0, rfl, rfl⟩
    unfold m5
    simp
    refine loopK_of loop ?_
    rintro y e σ ⟨rfl, a, h⟩
    simp [h]
    omega
  obtain ⟨r, ⟨b, rfl⟩, h⟩ := key
  exact ⟨b, h⟩
theorem isFault_nums {f : FT} (h : isFault f = true) : (0 ≤ f.byz ∧ f.byz ≤ 100000) ∧ (0 ≤ f.crash ∧ f.crash ≤ 100000) := by
  unfold isFault small at h
  by_cases o1 : f.op = 1
  · simp [o1] at h; omega
  by_cases o2 : f.op = 2
  · simp [o2] at h; omega
  by_cases o3 : f.op = 3
  · simp [o3] at h; omega
  by_cases o4 : f.op = 4 ∨ f.op = 5 ∨ f.op = 6
  · simp [o1, o2, o3, o4] at h; omega
  · simp [o1, o2, o3, o4] at h
theorem table_len : ∀ l : List D, (table l).length ≤ declsB l
  | [] => Nat.zero_le _
  | d :: l => by
    have := table_len l
    have h2 := namesB_len d.names
    have h3 : (entriesOf d).length ≤ 1 + d.names.length := by
      unfold entriesOf
      split
      · simp
      · split
        · simp [srv_len]; omega
        · simp
    simp only [table, List.length_append, declsB, D.bulk]
    omega
theorem namesK_len (k : Int) : ∀ l : List D, (namesK k l).length ≤ declsB l
  | [] => Nat.zero_le _
  | d :: l => by
    have := namesK_len k l
    have h2 := namesB_len d.names
    have h3 : (if d.kind = k then d.names else []).length ≤ d.names.length := by split <;> simp
    simp only [namesK, List.length_append, declsB, D.bulk]
    omega
theorem dec_of {l : List D} (hb : declsB l ≤ 1048576) (he : (fmtR ⟨#[]⟩ l).2 = 0) : ∀ d, d ∈ l → Dec d ∧ (d.kind = 7 → d.names ≠ []) := by
  intro d hdm
  have v := isDecl_valid (fmtR_valid l _ he d hdm)
  have hD := bulk_lens hb hdm
  refine ⟨⟨by omega, by omega, fun f hf => ?_, by omega, by omega, by omega⟩, v.chain⟩
  have h1 := isFault_nums (allFaults_mem v.faults f hf)
  have := ftsB_mem hf
  unfold FT.bulk at this
  have := namesB_len f.byzNames
  have := namesB_len f.crashNames
  omega
/-- TypingCheck, once awake answers true. -/
theorem s3 (hG : FmtIs) (h4 : CallP pg 4 [] (.bool true)) (l : List D) (hb : declsB l ≤ 1048576) : CallP pg 3 [declsV l] (.bool true) := by
  obtain ⟨b, h5⟩ := s5 l hb
  have hlen := declsB_len l
  have htl := table_len l
  have h5l := namesK_len 5 l
  have h7l := namesK_len 7 l
  have h6 := s6 l _ (by omega) (dec_of hb) (fun _ => by omega) (s13 hG l hb)
  have h7 := s7 l _ (by omega) (fun he d hd => (dec_of hb he d hd).1) (fun _ => by omega) (fun _ => by omega) (fun _ => by omega) (s17 l hb)
  generalize checkOf (fmtR ⟨#[]⟩ l).2 l = p at *
  refine CallP.go rfl (show _ = some m3 from rfl) ?_
  by_cases hn : 20 < l.length
  · have hz : (20 : Int) < (l.length : Int) := by omega
    unfold m3
    simp [callK_eq h4, hn, hz]
  · have hz : ¬ (20 : Int) < (l.length : Int) := by omega
    cases b
    · unfold m3
      simp [callK_eq h4, hn, hz, callK_eq h5]
    · unfold m3
      simp [callK_eq h4, hn, hz, callK_eq h5, callK_eq h6, callK_eq h7]
end Go.Ev.Ty
