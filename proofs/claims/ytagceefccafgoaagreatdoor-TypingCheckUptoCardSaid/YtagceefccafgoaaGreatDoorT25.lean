/- The data of the statements about typing as values of the reader. No condition. What functions of ref24 answer. No condition. What functions of ref24 answer, continued. No condition. -/
import Derived.Test.YtagceefccafgoaaGreatDoorT14
import Derived.Test.YtagceefccafgoaaGreatDoorT15
import Derived.Test.YtagceefccafgoaaGreatDoorT24
set_option linter.all false
namespace Go.Ev.Ty
open Go.Ev
set_option linter.unusedVariables false
/-- A term. -/
inductive T where
  | mk (op : Int) (name : ByteArray) (need : Int) (weights : List Int) (kids : List T)
  deriving Inhabited
def T.op : T → Int | .mk o _ _ _ _ => o
def T.name : T → ByteArray | .mk _ n _ _ _ => n
def T.need : T → Int | .mk _ _ n _ _ => n
def T.weights : T → List Int | .mk _ _ _ w _ => w
def T.kids : T → List T | .mk _ _ _ _ k => k
/-- A term of a fault model. -/
structure FT where
  op : Int
  name : ByteArray
  byz : Int
  crash : Int
  byzNames : List ByteArray
  crashNames : List ByteArray
/-- A declaration. -/
structure D where
  kind : Int
  line : Int
  name : ByteArray
  names : List ByteArray
  faults : List FT
  term : T
  protocol : ByteArray
  read : T
  write : T
  use : ByteArray
abbrev iV (n : Int) : V := .int .i64 n
abbrev intsV (l : List Int) : V := .slc (l.map fun w => [iV w])
abbrev strsV (l : List ByteArray) : V := .slc (l.map fun s => [.str s])
mutual
def T.cells : T → List V
  | .mk op name need ws ks => [iV op, .str name, iV need, intsV ws, .slc (cellsTs ks)]
def cellsTs : List T → List (List V)
  | [] => []
  | t :: ts => t.cells :: cellsTs ts
end
theorem cellsTs_map : ∀ ts : List T, cellsTs ts = ts.map T.cells
  | [] => rfl
  | t :: ts => by simp [cellsTs, cellsTs_map ts]
abbrev termsV (l : List T) : V := .slc (l.map T.cells)
def FT.cells (f : FT) : List V := [iV f.op, .str f.name, iV f.byz, iV f.crash, strsV f.byzNames, strsV f.crashNames]
abbrev faultsV (l : List FT) : V := .slc (l.map FT.cells)
def D.cells (d : D) : List V := [iV d.kind, iV d.line, .str d.name, strsV d.names, faultsV d.faults] ++ d.term.cells ++ [.str d.protocol] ++ d.read.cells ++ d.write.cells ++ [.str d.use]
abbrev declsV (l : List D) : V := .slc (l.map D.cells)
/-- A table of names and kinds. -/
abbrev tabV (t : List (ByteArray × Int)) : V := .slc (t.map fun p => [.str p.1, iV p.2])
/- They lead nowhere into the store. -/
theorem plainss_map {α : Type} {f : α → List V} (h : ∀ a, plains (f a) = true) : ∀ l : List α, plainss (l.map f) = true
  | [] => rfl
  | a :: l => by simp [plainss, h a, plainss_map h l]
theorem plainss_take' : ∀ {l : List (List V)} (i : Nat), plainss l = true → plainss (l.take i) = true
  | [], i, h => by simp [plainss]
  | c :: l, 0, h => rfl
  | c :: l, i + 1, h => by
    simp only [plainss, Bool.and_eq_true] at h
    simp [plainss, h.1, plainss_take' i h.2]
theorem plainss_drop' : ∀ {l : List (List V)} (i : Nat), plainss l = true → plainss (l.drop i) = true
  | [], i, h => by simp [plainss]
  | c :: l, 0, h => h
  | c :: l, i + 1, h => by
    simp only [plainss, Bool.and_eq_true] at h
    simp [plainss_drop' i h.2]
@[simp] theorem plainss_take (l : List (List V)) (i : Nat) (h : plainss l = true) : plainss (l.take i) = true := plainss_take' i h
@[simp] theorem plainss_drop (l : List (List V)) (i : Nat) (h : plainss l = true) : plainss (l.drop i) = true := plainss_drop' i h
theorem plains_append : ∀ (a b : List V), plains (a ++ b) = (plains a && plains b)
  | [], b => by simp [plains]
  | x :: a, b => by simp [plains, plains_append a b, Bool.and_assoc]
@[simp] theorem plainss_strs (l : List ByteArray) : plainss (l.map fun s => [V.str s]) = true := plainss_map (fun _ => rfl) l
@[simp] theorem plainss_ints (l : List Int) : plainss (l.map fun s => [iV s]) = true := plainss_map (fun _ => rfl) l
@[simp] theorem intsV_plain (l : List Int) : (intsV l).plain = true := by
  unfold intsV V.plain; exact plainss_map (fun a => rfl) l
@[simp] theorem strsV_plain (l : List ByteArray) : (strsV l).plain = true := by
  unfold strsV V.plain; exact plainss_map (fun a => rfl) l
@[simp] theorem tabV_plain (t : List (ByteArray × Int)) : (tabV t).plain = true := by
  unfold tabV V.plain; exact plainss_map (fun a => rfl) t
mutual
theorem T.cells_plain : ∀ t : T, plains t.cells = true
  | .mk op name need ws ks => by simp [T.cells, plains, V.plain, cellsTs_plain ks]
theorem cellsTs_plain : ∀ ts : List T, plainss (cellsTs ts) = true
  | [] => rfl
  | t :: ts => by simp [cellsTs, plainss, T.cells_plain t, cellsTs_plain ts]
end
@[simp] theorem termsV_plain (l : List T) : (termsV l).plain = true := by unfold V.plain; exact plainss_map T.cells_plain l
theorem FT.cells_plain (f : FT) : plains f.cells = true := by simp [FT.cells, plains, V.plain]
@[simp] theorem plainss_FT (l : List FT) : plainss (l.map FT.cells) = true := plainss_map FT.cells_plain l
@[simp] theorem faultsV_plain (l : List FT) : (faultsV l).plain = true := by
  unfold faultsV V.plain; exact plainss_map FT.cells_plain l
theorem D.cells_plain (d : D) : plains d.cells = true := by simp [D.cells, plains_append, plains, V.plain, T.cells_plain]
@[simp] theorem declsV_plain (l : List D) : (declsV l).plain = true := by
  unfold declsV V.plain; exact plainss_map D.cells_plain l
theorem T.cells_len : ∀ t : T, t.cells.length = 5
  | .mk .. => rfl
/- Parts of the data's cells. -/
@[simp] theorem D.c0 (d : D) : d.cells[0]? = some (iV d.kind) := rfl
@[simp] theorem D.c1 (d : D) : d.cells[1]? = some (iV d.line) := rfl
@[simp] theorem D.c2 (d : D) : d.cells[2]? = some (.str d.name) := rfl
@[simp] theorem D.c3 (d : D) : d.cells[3]? = some (strsV d.names) := rfl
@[simp] theorem D.c4 (d : D) : d.cells[4]? = some (faultsV d.faults) := rfl
theorem D.eta (d : D) : ∃ o1 n1 e1 w1 k1 o2 n2 e2 w2 k2 o3 n3 e3 w3 k3, d.term = .mk o1 n1 e1 w1 k1 ∧ d.read = .mk o2 n2 e2 w2 k2 ∧ d.write = .mk o3 n3 e3 w3 k3 := by
  obtain ⟨k, l, n, ns, fs, ⟨o1, n1, e1, w1, k1⟩, pr, ⟨o2, n2, e2, w2, k2⟩, ⟨o3, n3, e3, w3, k3⟩, us⟩ := d
  exact ⟨_, _, _, _, _, _, _, _, _, _, _, _, _, _, _, rfl, rfl, rfl⟩
@[simp] theorem D.c10 (d : D) : d.cells[10]? = some (.str d.protocol) := by
  obtain ⟨k, l, n, ns, fs, ⟨o1, n1, e1, w1, k1⟩, pr, ⟨o2, n2, e2, w2, k2⟩, ⟨o3, n3, e3, w3, k3⟩, us⟩ := d; rfl
@[simp] theorem D.c21 (d : D) : d.cells[21]? = some (.str d.use) := by
  obtain ⟨k, l, n, ns, fs, ⟨o1, n1, e1, w1, k1⟩, pr, ⟨o2, n2, e2, w2, k2⟩, ⟨o3, n3, e3, w3, k3⟩, us⟩ := d; rfl
@[simp] theorem D.t5 (d : D) : (d.cells.drop 5).take 5 = d.term.cells := by
  obtain ⟨k, l, n, ns, fs, ⟨o1, n1, e1, w1, k1⟩, pr, ⟨o2, n2, e2, w2, k2⟩, ⟨o3, n3, e3, w3, k3⟩, us⟩ := d; rfl
@[simp] theorem D.t11 (d : D) : (d.cells.drop 11).take 5 = d.read.cells := by
  obtain ⟨k, l, n, ns, fs, ⟨o1, n1, e1, w1, k1⟩, pr, ⟨o2, n2, e2, w2, k2⟩, ⟨o3, n3, e3, w3, k3⟩, us⟩ := d; rfl
@[simp] theorem D.t16 (d : D) : (d.cells.drop 16).take 5 = d.write.cells := by
  obtain ⟨k, l, n, ns, fs, ⟨o1, n1, e1, w1, k1⟩, pr, ⟨o2, n2, e2, w2, k2⟩, ⟨o3, n3, e3, w3, k3⟩, us⟩ := d; rfl
@[simp] theorem D.len (d : D) : d.cells.length = 22 := by
  obtain ⟨k, l, n, ns, fs, ⟨o1, n1, e1, w1, k1⟩, pr, ⟨o2, n2, e2, w2, k2⟩, ⟨o3, n3, e3, w3, k3⟩, us⟩ := d; rfl
@[simp] theorem D.take (d : D) : d.cells.take 22 = d.cells := List.take_of_length_le (by simp)
@[simp] theorem D.drop (d : D) : d.cells.drop 22 = [] := List.drop_of_length_le (by simp)
@[simp] theorem T.c0 (t : T) : t.cells[0]? = some (iV t.op) := by cases t; rfl
@[simp] theorem T.c1 (t : T) : t.cells[1]? = some (.str t.name) := by cases t; rfl
@[simp] theorem T.c2 (t : T) : t.cells[2]? = some (iV t.need) := by cases t; rfl
@[simp] theorem T.c3 (t : T) : t.cells[3]? = some (intsV t.weights) := by cases t; rfl
@[simp] theorem T.c4 (t : T) : t.cells[4]? = some (termsV t.kids) := by cases t; simp [T.cells, T.kids, cellsTs_map]
attribute [simp] T.cells_len T.cells_plain FT.cells_plain D.cells_plain
@[simp] theorem D.g0 (d : D) (h : 0 < d.cells.length) : d.cells[0]'h = iV d.kind := by
  have := List.getElem?_eq_getElem h; rw [D.c0] at this; exact (Option.some.inj this).symm
@[simp] theorem D.g1 (d : D) (h : 1 < d.cells.length) : d.cells[1]'h = iV d.line := by
  have := List.getElem?_eq_getElem h; rw [D.c1] at this; exact (Option.some.inj this).symm
@[simp] theorem D.g2 (d : D) (h : 2 < d.cells.length) : d.cells[2]'h = .str d.name := by
  have := List.getElem?_eq_getElem h; rw [D.c2] at this; exact (Option.some.inj this).symm
@[simp] theorem D.g3 (d : D) (h : 3 < d.cells.length) : d.cells[3]'h = strsV d.names := by
  have := List.getElem?_eq_getElem h; rw [D.c3] at this; exact (Option.some.inj this).symm
@[simp] theorem D.g4 (d : D) (h : 4 < d.cells.length) : d.cells[4]'h = faultsV d.faults := by
  have := List.getElem?_eq_getElem h; rw [D.c4] at this; exact (Option.some.inj this).symm
@[simp] theorem D.g10 (d : D) (h : 10 < d.cells.length) : d.cells[10]'h = .str d.protocol := by
  have := List.getElem?_eq_getElem h; rw [D.c10] at this; exact (Option.some.inj this).symm
@[simp] theorem D.g21 (d : D) (h : 21 < d.cells.length) : d.cells[21]'h = .str d.use := by
  have := List.getElem?_eq_getElem h; rw [D.c21] at this; exact (Option.some.inj this).symm
@[simp] theorem T.g0 (t : T) (h : 0 < t.cells.length) : t.cells[0]'h = iV t.op := by
  have := List.getElem?_eq_getElem h; rw [T.c0] at this; exact (Option.some.inj this).symm
@[simp] theorem T.g1 (t : T) (h : 1 < t.cells.length) : t.cells[1]'h = .str t.name := by
  have := List.getElem?_eq_getElem h; rw [T.c1] at this; exact (Option.some.inj this).symm
@[simp] theorem T.g2 (t : T) (h : 2 < t.cells.length) : t.cells[2]'h = iV t.need := by
  have := List.getElem?_eq_getElem h; rw [T.c2] at this; exact (Option.some.inj this).symm
@[simp] theorem T.g3 (t : T) (h : 3 < t.cells.length) : t.cells[3]'h = intsV t.weights := by
  have := List.getElem?_eq_getElem h; rw [T.c3] at this; exact (Option.some.inj this).symm
@[simp] theorem T.g4 (t : T) (h : 4 < t.cells.length) : t.cells[4]'h = termsV t.kids := by
  have := List.getElem?_eq_getElem h; rw [T.c4] at this; exact (Option.some.inj this).symm
@[simp] theorem T.take (t : T) : t.cells.take 5 = t.cells := List.take_of_length_le (by simp)
@[simp] theorem T.drop (t : T) : t.cells.drop 5 = [] := List.drop_of_length_le (by simp)
@[simp] theorem FT.c0 (t : FT) : t.cells[0]? = some (iV t.op) := rfl
@[simp] theorem FT.c1 (t : FT) : t.cells[1]? = some (.str t.name) := rfl
@[simp] theorem FT.c2 (t : FT) : t.cells[2]? = some (iV t.byz) := rfl
@[simp] theorem FT.c3 (t : FT) : t.cells[3]? = some (iV t.crash) := rfl
@[simp] theorem FT.c4 (t : FT) : t.cells[4]? = some (strsV t.byzNames) := rfl
@[simp] theorem FT.c5 (t : FT) : t.cells[5]? = some (strsV t.crashNames) := rfl
@[simp] theorem FT.g0 (t : FT) (h : 0 < t.cells.length) : t.cells[0]'h = iV t.op := by
  have := List.getElem?_eq_getElem h; rw [FT.c0] at this; exact (Option.some.inj this).symm
@[simp] theorem FT.g1 (t : FT) (h : 1 < t.cells.length) : t.cells[1]'h = .str t.name := by
  have := List.getElem?_eq_getElem h; rw [FT.c1] at this; exact (Option.some.inj this).symm
@[simp] theorem FT.g2 (t : FT) (h : 2 < t.cells.length) : t.cells[2]'h = iV t.byz := by
  have := List.getElem?_eq_getElem h; rw [FT.c2] at this; exact (Option.some.inj this).symm
@[simp] theorem FT.g3 (t : FT) (h : 3 < t.cells.length) : t.cells[3]'h = iV t.crash := by
  have := List.getElem?_eq_getElem h; rw [FT.c3] at this; exact (Option.some.inj this).symm
@[simp] theorem FT.g4 (t : FT) (h : 4 < t.cells.length) : t.cells[4]'h = strsV t.byzNames := by
  have := List.getElem?_eq_getElem h; rw [FT.c4] at this; exact (Option.some.inj this).symm
@[simp] theorem FT.g5 (t : FT) (h : 5 < t.cells.length) : t.cells[5]'h = strsV t.crashNames := by
  have := List.getElem?_eq_getElem h; rw [FT.c5] at this; exact (Option.some.inj this).symm
@[simp] theorem FT.len (t : FT) : t.cells.length = 6 := rfl
@[simp] theorem FT.take (t : FT) : t.cells.take 6 = t.cells := rfl
@[simp] theorem FT.drop (t : FT) : t.cells.drop 6 = [] := rfl
@[simp] theorem plainss_T (l : List T) : plainss (l.map T.cells) = true := plainss_map T.cells_plain l
@[simp] theorem plainss_D (l : List D) : plainss (l.map D.cells) = true := plainss_map D.cells_plain l
@[simp] theorem plainss_tab (l : List (ByteArray × Int)) : plainss (l.map fun p => [V.str p.1, iV p.2]) = true := plainss_map (fun _ => rfl) l
theorem toListLoop (a : ByteArray) : ∀ (k i : Nat) (r : List UInt8), a.data.size - i = k → ByteArray.toList.loop a i r = r.reverse ++ a.data.toList.drop i := by
  intro k
  induction k with
  | zero =>
    intro i r h
    have hs : a.size = a.data.size := rfl
    unfold ByteArray.toList.loop
    rw [if_neg (by omega), List.drop_of_length_le (by simp; omega)]; simp
  | succ k ih =>
    intro i r h
    have hs : a.size = a.data.size := rfl
    have hl : i < a.data.size := by omega
    unfold ByteArray.toList.loop
    rw [if_pos (by omega), ih (i + 1) _ (by omega)]
    have hlt : i < a.data.toList.length := by simp; omega
    rw [List.drop_eq_getElem_cons hlt]
    simp [ByteArray.get!, hl, getElem!_pos a.data i hl]
theorem toList_data (a : ByteArray) : a.toList = a.data.toList := by
  unfold ByteArray.toList
  rw [toListLoop a _ 0 [] rfl]; simp
@[simp] theorem bytes_beq' (a b : ByteArray) : (a.toList == b.toList) = decide (a = b) := by
  rw [Bool.eq_iff_iff]; simp only [beq_iff_eq, decide_eq_true_eq]
  simp only [toList_data]
  constructor
  · intro h
    obtain ⟨⟨a⟩⟩ := a; obtain ⟨⟨b⟩⟩ := b
    simp only at h; rw [h]
  · intro h; rw [h]
/- Data is the same as itself. -/
theorem samess_map {α : Type} {g : α → List V} (h : ∀ a, sames (g a) (g a) = true) : ∀ l : List α, samess (l.map g) (l.map g) = true
  | [] => rfl
  | a :: l => by simp [samess, h a, samess_map h l]
@[simp] theorem samess_strs (l : List ByteArray) : samess (l.map fun s => [V.str s]) (l.map fun s => [V.str s]) = true := samess_map (fun _ => by simp [sames, V.same]) l
@[simp] theorem samess_ints (l : List Int) : samess (l.map fun s => [iV s]) (l.map fun s => [iV s]) = true := samess_map (fun _ => by simp [sames, V.same]) l
theorem sames_append : ∀ (a b c d : List V), sames a b = true → sames c d = true → sames (a ++ c) (b ++ d) = true
  | [], [], c, d, _, h => h
  | [], _ :: _, _, _, h, _ => by simp [sames] at h
  | _ :: _, [], _, _, h, _ => by simp [sames] at h
  | x :: a, y :: b, c, d, h, h' => by
    simp only [sames, Bool.and_eq_true] at h
    simp only [List.cons_append, sames, h.1, sames_append a b c d h.2 h', Bool.and_self]
mutual
theorem T.cells_same : ∀ t : T, sames t.cells t.cells = true
  | .mk op name need ws ks => by simp [T.cells, sames, V.same, cellsTs_same ks]
theorem cellsTs_same : ∀ ts : List T, samess (cellsTs ts) (cellsTs ts) = true
  | [] => rfl
  | t :: ts => by simp [cellsTs, samess, T.cells_same t, cellsTs_same ts]
end
theorem FT.cells_same (f : FT) : sames f.cells f.cells = true := by simp [FT.cells, sames, V.same]
@[simp] theorem D.cells_same (d : D) : sames d.cells d.cells = true := by
  unfold D.cells
  refine sames_append _ _ _ _ (sames_append _ _ _ _ (sames_append _ _ _ _ (sames_append _ _ _ _ (sames_append _ _ _ _ ?_ (T.cells_same _)) ?_) (T.cells_same _)) (T.cells_same _)) ?_
  · simp [sames, V.same, samess_map FT.cells_same]
  · simp [sames, V.same]
  · simp [sames, V.same]
attribute [simp] T.cells_same FT.cells_same
end Go.Ev.Ty
namespace Go.Ev.Ty
open Go.Ev
variable [GF]
set_option maxRecDepth 100000
set_option linter.unusedSimpArgs false
set_option linter.unusedVariables false
/-- ref24.kind. -/
def kindOf (k : Int) : Int := if k = 1 then 1 else if k = 2 then 3 else if k = 3 then 4 else if k = 4 then 5 else if k = 6 then 6 else 0
theorem s35 (d : D) : CallP pg 35 [.agg d.cells] (iV (kindOf d.kind)) := by
  refine CallP.go rfl (show _ = some m35 from rfl) ?_
  unfold m35 kindOf
  by_cases h1 : d.kind = 1
  · simp [h1]
  by_cases h2 : d.kind = 2
  · simp [h2]
  by_cases h3 : d.kind = 3
  · simp [h3]
  by_cases h4 : d.kind = 4
  · simp [h4]
  by_cases h6 : d.kind = 6 <;> simp [h1, h2, h3, h4, h6]
/-- ref24.find. -/
def find (s : ByteArray) : List (ByteArray × Int) → Int
  | [] => 0
  | (x, k) :: t => if x = s then k else find s t
theorem s36 (t : List (ByteArray × Int)) (s : ByteArray) (ht : t.length < 4611686018427387904) : CallP pg 36 [tabV t, .str s] (iV (find s t)) := by
  refine CallP.go rfl (show _ = some m36 from rfl) ?_
  have loop := loop_go (M := pg) m36_l0.eq_def t ht (fun i e σ => e = [(0, tabV t), (1, .str s), (5, iV i)] ∧ σ = [] ∧ find s (t.drop i) = find s t)
    (fun x e σ => (x = .exit 0 ∧ find s t = 0 ∧ σ = []) ∨ (x = .ret ∧ ret m36.results (iV (find s t)) e σ))
    (by rintro e σ ⟨rfl, rfl, h⟩; simp [find] at h; simp [h])
    (by
      rintro i ⟨x, k⟩ r e σ ⟨rfl, rfl, h⟩ hd hlt hx' hd' hw
      simp only [hd, find] at h
      by_cases hq : x = s <;> simp [hq] at h <;> simp [hx', hlt, hq, hw, m36, hd', h])
    ⟨rfl, rfl, rfl⟩
  unfold m36
  simp
  refine loopK_of loop ?_
  rintro x e σ (⟨rfl, h, rfl⟩ | ⟨rfl, h⟩)
  · simp [h]
  · exact ⟨trivial, h⟩
/-- ref24.must. -/
def must (t : List (ByteArray × Int)) (s : ByteArray) (a b : Int) : Int := let k := find s t; if k = 0 then 4 else if k ≠ a ∧ k ≠ b then 11 else 0
theorem s40 (t : List (ByteArray × Int)) (s : ByteArray) (a b : Int) (ht : t.length < 4611686018427387904) : CallP pg 40 [tabV t, .str s, iV a, iV b] (iV (must t s a b)) := by
  refine CallP.go rfl (show _ = some m40 from rfl) ?_
  unfold m40 must
  by_cases h0 : find s t = 0
  · simp [callK_eq (s36 t s ht), h0]
  by_cases h1 : find s t = a <;> by_cases h2 : find s t = b <;> simp [callK_eq (s36 t s ht), h0, h1, h2] <;> simp_all
/-- ref24.count. -/
def countK (k : Int) : List (ByteArray × Int) → Nat
  | [] => 0
  | (_, j) :: t => (if j = k then 1 else 0) + countK k t
theorem countK_le (k : Int) : ∀ t, countK k t ≤ t.length
  | [] => Nat.le_refl _
  | (_, j) :: t => by have := countK_le k t; simp only [countK, List.length_cons]; split <;> omega
theorem s20 (t : List (ByteArray × Int)) (k : Int) (ht : t.length < 4611686018427387904) : CallP pg 20 [tabV t, iV k] (iV (countK k t)) := by
  refine CallP.go rfl (show _ = some m20 from rfl) ?_
  have hle := countK_le k t
  have loop := loop_go (M := pg) m20_l0.eq_def t ht (fun i e σ => ∃ n : Nat, e = [(0, tabV t), (1, iV k), (5, iV n), (6, iV i)] ∧ σ = [] ∧ n + countK k (t.drop i) = countK k t)
    (fun x e σ => x = .exit 0 ∧ e.look 5 = some (iV (countK k t)) ∧ σ = [])
    (by rintro e σ ⟨n, rfl, rfl, h⟩; simp [countK] at h; simp [h])
    (by
      rintro i ⟨x, j⟩ r e σ ⟨n, rfl, rfl, h⟩ hd hlt hx' hd' hw
      simp only [hd, countK] at h
      have hw2 := wrap_nat' (n := n) (by omega)
      by_cases hq : j = k
      · simp [hq] at h; simp [hx', hlt, hq, hw, hw2, hd']; exact ⟨n + 1, by simp, by omega⟩
      · simp [hq] at h; simp [hx', hlt, hq, hw, hd', h]; exact ⟨n, rfl, h⟩)
    ⟨0, rfl, rfl, by simp⟩
  unfold m20
  simp
  refine loopK_of loop ?_
  rintro x e σ ⟨rfl, h, rfl⟩
  simp [h]
end Go.Ev.Ty
namespace Go.Ev.Ty
open Go.Ev
variable [GF]
set_option maxRecDepth 100000
set_option linter.unusedSimpArgs false
set_option linter.unusedVariables false
/- Rows of flat cells are their own contents. -/
theorem deepByss_map {α : Type} {g : α → List V} {rd : Nat → Option Blk} {f : List (List V) → Option (List (List V))} (h : ∀ a, deepBys rd f (g a) = some (g a)) : ∀ l : List α, deepByss rd f (l.map g) = some (l.map g)
  | [] => rfl
  | a :: l => by simp [deepByss, h a, deepByss_map h l]
@[simp] theorem deepByss_strs (rd : Nat → Option Blk) (f : List (List V) → Option (List (List V))) (l : List ByteArray) : deepByss rd f (l.map fun s => [V.str s]) = some (l.map fun s => [V.str s]) :=
  deepByss_map (fun _ => rfl) l
@[simp] theorem deepByss_tab (rd : Nat → Option Blk) (f : List (List V) → Option (List (List V))) (l : List (ByteArray × Int)) : deepByss rd f (l.map fun p => [V.str p.1, iV p.2]) = some (l.map fun p => [V.str p.1, iV p.2]) :=
  deepByss_map (fun _ => rfl) l
@[simp] theorem deepByss_append (rd : Nat → Option Blk) (f : List (List V) → Option (List (List V))) : ∀ a b : List (List V), deepByss rd f (a ++ b) = match deepByss rd f a with
    | some x => (deepByss rd f b).map (x ++ ·)
    | none => none
  | [], b => by cases h : deepByss rd f b <;> simp [deepByss, h]
  | c :: a, b => by
    simp only [List.cons_append, deepByss, deepByss_append rd f a b]
    cases deepBys rd f c <;> cases deepByss rd f a <;> cases deepByss rd f b <;> simp
theorem flatss_map {α : Type} {g : α → List V} (h : ∀ a, flats (g a) = true) : ∀ l : List α, flatss (l.map g) = true
  | [] => rfl
  | a :: l => by simp [flatss, h a, flatss_map h l]
@[simp] theorem flatss_strs (l : List ByteArray) : flatss (l.map fun s => [V.str s]) = true := flatss_map (fun _ => rfl) l
@[simp] theorem flatss_tab (l : List (ByteArray × Int)) : flatss (l.map fun p => [V.str p.1, iV p.2]) = true := flatss_map (fun _ => rfl) l
@[simp] theorem deepByss_cons (rd : Nat → Option Blk) (f : List (List V) → Option (List (List V))) (c : List V) (l : List (List V)) : deepByss rd f (c :: l) = match deepBys rd f c with
    | some x => (deepByss rd f l).map (x :: ·)
    | none => none := rfl
@[simp] theorem deepByss_nil (rd : Nat → Option Blk) (f : List (List V) → Option (List (List V))) : deepByss rd f [] = some [] := rfl
@[simp] theorem deepCells_succ (rd : Nat → Option Blk) (n : Nat) (xs : List (List V)) : deepCells rd (n + 1) xs = deepByss rd (deepCells rd n) xs := rfl
@[simp] theorem deepCells_20 (rd : Nat → Option Blk) (xs : List (List V)) : deepCells rd 20 xs = deepByss rd (deepCells rd 19) xs := rfl
theorem okSz_map {α : Type} {f : α → List V} {n : Nat} (h : ∀ a, (f a).length = n) : ∀ l : List α, okSz n (l.map f) = true
  | [] => rfl
  | a :: l => by simp [okSz, h a]
@[simp] theorem okSz_strs (l : List ByteArray) : okSz 1 (l.map fun s => [V.str s]) = true := okSz_map (f := fun s => [V.str s]) (fun _ => rfl) l
@[simp] theorem okSz_tab (l : List (ByteArray × Int)) : okSz 2 (l.map fun p => [V.str p.1, iV p.2]) = true := okSz_map (f := fun p : ByteArray × Int => [V.str p.1, iV p.2]) (fun _ => rfl) l
@[simp] theorem okSz_D (l : List D) : okSz 22 (l.map D.cells) = true := okSz_map (fun _ => by simp) l
@[simp] theorem okSz_T (l : List T) : okSz 5 (l.map T.cells) = true := okSz_map (fun _ => by simp) l
/-- ref24.names: the names of the declarations of a kind. -/
def namesK (k : Int) : List D → List ByteArray
  | [] => []
  | d :: l => (if d.kind = k then d.names else []) ++ namesK k l
theorem s43 (l : List D) (k : Int) (hl : l.length < 4611686018427387904) (hs : (namesK k l).length < 4294967296) : CallP pg 43 [declsV l, iV k] (.lst 1 ((namesK k l).map fun s => [.str s])) := by
  refine CallP.go rfl (show _ = some m43 from rfl) ?_
  have loop := loop_go (M := pg) (σ := []) m43_l0.eq_def l hl (fun i e σ => ∃ v ns, e = [(0, declsV l), (1, iV k), (5, v), (6, iV i)] ∧ Grown 1 (ns.map fun s => [.str s]) v σ ∧ ns ++ namesK k (l.drop i) = namesK k l)
    (fun x e σ => x = .exit 0 ∧ ∃ v, e.look 5 = some v ∧ Grown 1 ((namesK k l).map fun s => [.str s]) v σ)
    (by rintro e σ ⟨v, ns, rfl, hg, h⟩; simp [namesK] at h; subst h; simpa using hg)
    (by
      rintro i d r e σ ⟨v, ns, rfl, hg, h⟩ hd hlt hx' hd' hw
      have hns : ns.length + (namesK k (d :: r)).length < 4294967296 := by rw [← hd, ← List.length_append, h]; exact hs
      rw [hd] at h
      simp only [namesK] at h hns
      by_cases hq : d.kind = k
      · simp only [hq, if_true, List.length_append] at h hns
        have hbd : (ns.length + d.names.length + 1000) * 17 ≤ 1099511627776 := by omega
        rcases hg with ⟨rfl, hg⟩ | ⟨b, rfl, hb, hg⟩
        · simp at hg; subst hg
          simp at hbd
          simp [hx', hlt, hq, hw, hbd]
          exact ⟨d.names, .inr ⟨σ.length, by simp, by simp, by simp⟩, by simpa [hd'] using h⟩
        · simp [hx', hlt, hq, hw, hg, hbd]
          exact ⟨ns ++ d.names, .inr ⟨b, by simp, by simpa using hb, by simp [hb]⟩, by simpa [hd'] using h⟩
      · simp [hq] at h
        simp [hx', hlt, hq, hw]
        exact ⟨ns, hg, by simpa [hd'] using h⟩)
    ⟨.nils, [], rfl, .inl ⟨rfl, rfl⟩, by simp⟩
  unfold m43
  simp
  refine loopK_of loop ?_
  rintro x e σ ⟨rfl, v, h, hg⟩
  rcases hg with ⟨rfl, hg⟩ | ⟨b, rfl, hb, hg⟩
  · simp at hg; simp [h, hg]
  · simp [h, hg]
/-- Whether a text is in a list (ref24.in). -/
def isIn (s : ByteArray) (l : List ByteArray) : Bool := l.any fun x => x = s
theorem s37 (l : List ByteArray) (s : ByteArray) (hl : l.length < 4611686018427387904) : CallP pg 37 [strsV l, .str s] (.bool (isIn s l)) := by
  refine CallP.go rfl (show _ = some m37 from rfl) ?_
  have loop := loop_go (M := pg) m37_l0.eq_def l hl (fun i e σ => e = [(0, strsV l), (1, .str s), (5, iV i)] ∧ σ = [] ∧ isIn s (l.drop i) = isIn s l)
    (fun x e σ => (x = .exit 0 ∧ isIn s l = false ∧ σ = []) ∨ (x = .ret ∧ ret m37.results (.bool (isIn s l)) e σ))
    (by rintro e σ ⟨rfl, rfl, h⟩; have h' : isIn s l = false := by rw [← h]; simp [isIn]
        simp [h'])
    (by
      rintro i x r e σ ⟨rfl, rfl, h⟩ hd hlt hx' hd' hw
      simp only [hd, isIn] at h
      by_cases hq : x = s <;> simp [hq] at h <;> simp [hx', hlt, hq, hw, m37, hd', h, isIn])
    ⟨rfl, rfl, rfl⟩
  unfold m37
  simp
  refine loopK_of loop ?_
  rintro x e σ (⟨rfl, h, rfl⟩ | ⟨rfl, h⟩)
  · simp [h]
  · exact ⟨trivial, h⟩
/-- ref24.all. 'pre': those before. -/
def allOk (t : List (ByteArray × Int)) (others : List ByteArray) (k : Int) : List ByteArray → List ByteArray → Int
  | _, [] => 0
  | pre, x :: l => if must t x k k ≠ 0 then must t x k k else if isIn x pre || isIn x others then 5 else allOk t others k (pre ++ [x]) l
theorem s42 (t : List (ByteArray × Int)) (l others : List ByteArray) (k : Int) (ht : t.length < 4611686018427387904) (hl : l.length < 4611686018427387904) (ho : others.length < 4611686018427387904) :
    CallP pg 42 [tabV t, strsV l, strsV others, iV k] (iV (allOk t others k [] l)) := by
  refine CallP.go rfl (show _ = some m42 from rfl) ?_
  generalize hA : allOk t others k [] l = A
  have loop := loop_go (M := pg) m42_l0.eq_def l hl (fun i e σ => e = [(0, tabV t), (1, strsV l), (2, strsV others), (3, iV k), (9, iV i)] ∧ σ = [] ∧ allOk t others k (l.take i) (l.drop i) = A)
    (fun x e σ => (x = .exit 0 ∧ A = 0 ∧ σ = []) ∨ (x = .ret ∧ ret m42.results (iV A) e σ))
    (by rintro e σ ⟨rfl, rfl, h⟩; simp [allOk] at h; simp [← h])
    (by
      rintro i x r e σ ⟨rfl, rfl, h⟩ hd hlt hx' hd' hw
      have ht1 : l.take (i + 1) = l.take i ++ [x] := by rw [List.take_add_one]; simp [hlt, hx']
      have c40 := s40 t x k k ht
      have c37 : CallP pg 37 [.slc ((l.map fun s => [V.str s]).take i), .str x] (.bool (isIn x (l.take i))) := by rw [← List.map_take]; exact s37 _ _ (by simp; omega)
      have c37' := s37 others x ho
      simp only [hd, allOk] at h
      have hle : i ≤ l.length := by omega
      have hle' : ¬ l.length < i := by omega
      subst h
      by_cases hm : must t x k k = 0
      · by_cases h1 : isIn x (l.take i) = true
        · simp [hx', hlt, hle, hle', hw, m42, callK_eq c40, callK_eq c37, hm, h1]
        · by_cases h2 : isIn x others = true <;> simp [hx', hlt, hle, hle', hw, m42, callK_eq c40, callK_eq c37, callK_eq c37', hm, h1, h2, hd', ht1]
      · simp [hx', hlt, hw, m42, callK_eq c40, hm])
    ⟨rfl, rfl, hA⟩
  unfold m42
  simp
  refine loopK_of loop ?_
  rintro x e σ (⟨rfl, h, rfl⟩ | ⟨rfl, h⟩)
  · simp [h]
  · exact ⟨trivial, h⟩
end Go.Ev.Ty
namespace Go.Ev.Ty
open Go.Ev
variable [GF]
set_option maxRecDepth 100000
set_option linter.unusedSimpArgs false
set_option linter.unusedVariables false
/-- The sum of weights. -/
def sumW : List Int → Int
  | [] => 0
  | w :: l => w + sumW l
/-- Whether a weight is out of its range. -/
def badW : List Int → Bool
  | [] => false
  | w :: l => decide (w < 1) || decide (w > 1000) || badW l
/-- Text: servers. -/
def bServers : ByteArray := ⟨#[115, 101, 114, 118, 101, 114, 115]⟩
/-- The error of a threshold. -/
def thresholdErr (t : T) : Int := if badW t.weights then 7 else let s := if t.weights = [] then (t.kids.length : Int) else sumW t.weights; if t.need < 1 ∨ t.need > s then 7 else 0
/-- ref24.own. -/
def own (t : List (ByteArray × Int)) (x : T) : Int :=
  if x.op = 1 then must t x.name 2 4
  else if x.op = 2 then thresholdErr x
  else if x.op = 6 ∨ x.op = 7 ∨ x.op = 8 then (if x.name = bServers then (if countK 2 t = 0 then 9 else 0) else must t x.name 1 1)
  else 0
theorem sumW_le : ∀ {l : List Int}, badW l = false → 0 ≤ sumW l ∧ sumW l ≤ 1000 * l.length
  | [], _ => by simp [sumW]
  | w :: l, h => by
    simp only [badW, Bool.or_eq_false_iff, decide_eq_false_iff_not] at h
    have := sumW_le (l := l) h.2
    simp only [sumW, List.length_cons]
    omega
theorem s69 (t : List (ByteArray × Int)) (x : T) (ht : t.length < 4611686018427387904) (hw : x.weights.length < 4294967296) (hk : x.kids.length < 4611686018427387904) : CallP pg 69 [tabV t, .agg x.cells] (iV (own t x)) := by
  refine CallP.go rfl (show _ = some m69 from rfl) ?_
  have c20 := s20 t 2 ht
  unfold m69 own
  by_cases h1 : x.op = 1
  · simp [h1, callK_eq (s40 t x.name 2 4 ht)]
  by_cases h2 : x.op = 2
  · have h62 : ¬ (2 : Int) = 6 := by omega
    generalize hs0 : (if x.weights = [] then (x.kids.length : Int) else 0) = s0
    have hs0' : 0 ≤ s0 ∧ s0 < 4611686018427387904 := by subst hs0; split <;> omega
    have hw' : x.weights.length < 4611686018427387904 := by omega
    have loop := loop_go (M := pg) m69_l0.eq_def x.weights hw' (fun i e σ => ∃ s : Int, e = [(3, .ptr 0 1 0 0), (5, iV s), (6, iV i)] ∧ σ = [some (.arr 5 [x.cells])] ∧ s + sumW (x.weights.drop i) = s0 + sumW x.weights ∧ badW (x.weights.drop i) = badW x.weights ∧ s0 ≤ s ∧ s ≤ s0 + 1000 * i)
      (fun y e σ => (y = .exit 1 ∧ badW x.weights = false ∧ e.look 5 = some (iV (s0 + sumW x.weights)) ∧ e.look 3 = some (.ptr 0 1 0 0) ∧ σ = [some (.arr 5 [x.cells])]) ∨ (y = .ret ∧ badW x.weights = true ∧ ret m69.results (iV 7) e σ))
      (by rintro e σ ⟨s, rfl, rfl, h, hb, _⟩; simp [sumW, badW] at h hb; simp [h, hb])
      (by
        rintro i w r e σ ⟨s, rfl, rfl, h, hb, hl, hu⟩ hd hlt hx' hd' hw1
        simp only [hd, sumW] at h
        simp only [hd, badW] at hb
        by_cases ha : w < 1
        · simp [ha] at hb
          simp [hlt, hx', ha, m69, hb]
        by_cases ha2 : w > 1000
        · simp [ha2] at hb
          simp [hlt, hx', ha, ha2, m69, hb]
        have hws := wrap_int (z := s + w) (by omega) (by omega)
        simp [hlt, hx', ha, ha2, hws, hw1, hd']
        exact ⟨by omega, by simpa [ha, ha2] using hb, by omega, by omega⟩)
      (e := [(3, .ptr 0 1 0 0), (5, iV s0), (6, iV 0)]) (σ := [some (.arr 5 [x.cells])]) ⟨s0, rfl, rfl, by simp, by simp, by omega, by omega⟩
    have hth : thresholdErr x = if badW x.weights then 7 else if x.need < 1 ∨ x.need > s0 + sumW x.weights then 7 else 0 := by
      unfold thresholdErr
      subst hs0
      cases x.weights <;> simp [sumW]
    have hlt : ∀ a : Int, s0 + sumW x.weights < a ↔ a > s0 + sumW x.weights := fun _ => Iff.rfl
    by_cases hw0 : x.weights.length = 0
    all_goals
      have hs : s0 = if x.weights.length = 0 then (x.kids.length : Int) else 0 := by rw [← hs0]; simp
      simp only [hw0, if_true, if_false] at hs
      subst hs
      have hpos : 0 < x.weights.length ↔ ¬ x.weights.length = 0 := by omega
      simp [h1, h2, hw0, hpos]
      refine loopK_of loop ?_
      rintro y e σ (⟨rfl, hb, h5, h3, rfl⟩ | ⟨rfl, hb, h⟩)
      · rw [hth]
        generalize _ + sumW x.weights = s at *
        by_cases ha : x.need < 1
        · simp [h5, h3, hb, ha]
        · by_cases ha2 : s < x.need <;> simp [h5, h3, hb, ha, ha2]
      · rw [hth]; simp only [hb, if_true]; exact ⟨trivial, h⟩
  by_cases h6 : x.op = 6 ∨ x.op = 7 ∨ x.op = 8
  · by_cases hn : x.name = bServers
    · by_cases hc : countK 2 t = 0
      · rcases h6 with h6 | h6 | h6 <;> simp [h6, hn, callK_eq c20, hc, bServers]
      · rcases h6 with h6 | h6 | h6 <;> simp [h6, hn, callK_eq c20, hc, bServers]
    · have hn' : ¬ x.name = ⟨#[115, 101, 114, 118, 101, 114, 115]⟩ := hn
      rcases h6 with h6 | h6 | h6 <;> simp [h6, hn, hn', callK_eq (s40 t x.name 1 1 ht)]
  · have h6' : ¬ x.op = 6 ∧ ¬ x.op = 7 ∧ ¬ x.op = 8 := by omega
    simp [h1, h2, h6'.1, h6'.2.1, h6'.2.2]
end Go.Ev.Ty
namespace Go.Ev.Ty
open Go.Ev
variable [GF]
set_option maxRecDepth 100000
set_option linter.unusedSimpArgs false
set_option linter.unusedVariables false
mutual
/-- The size of a term (ref23.Size). -/
def T.size : T → Nat
  | .mk _ name _ ws ks => 1 + name.size + ws.length + sizes ks
def sizes : List T → Nat
  | [] => 0
  | t :: l => t.size + sizes l
end
theorem T.size_pos (t : T) : 1 ≤ t.size := by cases t; simp only [T.size]; omega
theorem sizes_len : ∀ l : List T, l.length ≤ sizes l
  | [] => Nat.le_refl _
  | t :: l => by have := sizes_len l; have := t.size_pos; simp only [sizes, List.length_cons]; omega
theorem sizes_mem : ∀ {l : List T} {t : T}, t ∈ l → t.size ≤ sizes l
  | u :: l, t, h => by
    rcases List.mem_cons.1 h with rfl | h
    · simp only [sizes]; omega
    · have := sizes_mem h; simp only [sizes]; omega
theorem T.size_eq (t : T) : t.size = 1 + t.name.size + t.weights.length + sizes t.kids := by cases t; rfl
mutual
/-- ref24.term. -/
def termErr (t : List (ByteArray × Int)) : T → Int
  | .mk op name need ws ks => if own t (.mk op name need ws ks) ≠ 0 then own t (.mk op name need ws ks) else termErrs t ks
def termErrs (t : List (ByteArray × Int)) : List T → Int
  | [] => 0
  | x :: l => if termErr t x ≠ 0 then termErr t x else termErrs t l
end
theorem termErr_eq (t : List (ByteArray × Int)) (x : T) : termErr t x = if own t x ≠ 0 then own t x else termErrs t x.kids := by cases x; rfl
theorem s39 (t : List (ByteArray × Int)) (ht : t.length < 4611686018427387904) : ∀ (n : Nat) (x : T), x.size ≤ n → n < 4294967296 → CallP pg 39 [tabV t, .agg x.cells] (iV (termErr t x)) := by
  intro n
  induction n with
  | zero => intro x h; have := x.size_pos; omega
  | succ n ih =>
    intro x hx hn
    have hsz := x.size_eq
    have hkl := sizes_len x.kids
    have c69 := s69 t x ht (by omega) (by omega)
    refine CallP.go rfl (show _ = some m39 from rfl) ?_
    rw [termErr_eq]
    generalize hA : termErrs t x.kids = A
    have loop := loop_go (M := pg) m39_l0.eq_def x.kids (by omega) (fun i e σ => e = [(0, tabV t), (3, .ptr 0 1 0 0), (6, iV i)] ∧ σ = [some (.arr 5 [x.cells])] ∧ termErrs t (x.kids.drop i) = A)
      (fun y e σ => (y = .exit 0 ∧ A = 0 ∧ σ = [some (.arr 5 [x.cells])]) ∨ (y = .ret ∧ ret m39.results (iV A) e σ))
      (by rintro e σ ⟨rfl, rfl, h⟩; simp [termErrs] at h; simp [← h])
      (by
        rintro i u r e σ ⟨rfl, rfl, h⟩ hd hlt hx' hd' hw
        simp only [hd, termErrs] at h
        have hu : u ∈ x.kids := by rw [← hx']; exact List.getElem_mem hlt
        have := sizes_mem hu
        have c39 := ih u (by omega) (by omega)
        by_cases hz : termErr t u = 0
        · simp [hz] at h
          subst h
          simp [hlt, hx', callK_eq c39, hz, hw, hd']
        · simp [hz] at h
          subst h
          simp [hlt, hx', callK_eq c39, hz, m39])
      (e := [(0, tabV t), (3, .ptr 0 1 0 0), (6, iV 0)]) (σ := [some (.arr 5 [x.cells])]) ⟨rfl, rfl, by simpa using hA⟩
    unfold m39
    by_cases hz : own t x = 0
    · simp [callK_eq c69, hz]
      refine loopK_of loop ?_
      rintro y e σ (⟨rfl, hb, rfl⟩ | ⟨rfl, h⟩)
      · simp [hb]
      · exact ⟨trivial, h⟩
    · simp [callK_eq c69, hz]
/-- ref24.fault. -/
def faultErr (t : List (ByteArray × Int)) (f : FT) : Int :=
  if f.op = 2 then (if f.byz + f.crash > countK 2 t then 7 else 0)
  else if f.op = 3 then allOk t [] 2 [] (f.byzNames ++ f.crashNames)
  else if f.op = 4 ∨ f.op = 5 then must t f.name 1 1
  else if f.op = 6 then must t f.name 3 3
  else 0
theorem s38 (t : List (ByteArray × Int)) (f : FT) (ht : t.length < 4611686018427387904) (hb : f.byzNames.length < 4294967296) (hc : f.crashNames.length < 4294967296) (h1 : -4611686018427387904 ≤ f.byz ∧ f.byz < 4611686018427387904) (h2 : -4611686018427387904 ≤ f.crash ∧ f.crash < 4611686018427387904) :
    CallP pg 38 [tabV t, .agg f.cells] (iV (faultErr t f)) := by
  refine CallP.go rfl (show _ = some m38 from rfl) ?_
  have hbd2 : (f.byzNames.length + f.crashNames.length + 1000) * 17 ≤ 1099511627776 := bd17 (by omega)
  have hbd : (f.byzNames.length + 1000) * 17 ≤ 1099511627776 := bd17 (by clear hbd2; omega)
  have c20 := s20 t 2 ht
  have hw := wrap_int (z := f.byz + f.crash) (by clear hbd hbd2; omega) (by clear hbd hbd2; omega)
  unfold m38 faultErr
  by_cases o2 : f.op = 2
  · by_cases hl : f.byz + f.crash > countK 2 t <;> simp [o2, callK_eq c20, hw, hl]
  by_cases o3 : f.op = 3
  · have c42 := s42 t (f.byzNames ++ f.crashNames) [] 2 ht (by simp; omega) (by simp)
    simp only [strsV, List.map_append, List.map_nil] at c42
    simp [o3, hbd, hbd2, callK_eq c42]
  by_cases o4 : f.op = 4
  · simp [o4, callK_eq (s40 t f.name 1 1 ht)]
  by_cases o5 : f.op = 5
  · simp [o5, callK_eq (s40 t f.name 1 1 ht)]
  by_cases o6 : f.op = 6
  · simp [o6, callK_eq (s40 t f.name 3 3 ht)]
  simp [o2, o3, o4, o5, o6]
end Go.Ev.Ty
