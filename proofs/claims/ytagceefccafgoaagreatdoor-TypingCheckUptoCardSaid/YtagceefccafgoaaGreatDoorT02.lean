/- What a value by content says of a value in memory; how long it holds. No condition. -/
import Derived.Laws.Sem
import Derived.Test.YtagceefccafgoaaGreatDoorT00
set_option linter.all false
namespace Go.Ev
open Go.RowKit
/-- What is known of the memory that the program finds (its variables): it lies in the first blocks, and holds as long as these stay as they are. -/
class Consts where
  om : World → Prop
  n0 : Nat
  keep : ∀ w w', om w → Below n0 w w' → om w'
variable [Consts]
set_option linter.unusedSectionVars false
/-- Where a block of the store lies: its block in memory, if it has one; the slice (or map) that leads there; how many elements of how many cells, of which type. -/
structure Loc where
  own : Option Nat
  v : Value
  n : Nat
  sz : Nat
  e : TypeId
abbrev LMap := Nat → Option Loc
abbrev SSet := Nat → Nat → Prop
mutual
/-- The value x in memory is v by content. 'S': the cells that nobody writes any more; 'L': where the store's blocks lie. -/
def Rep (w : World) (S : SSet) (L : LMap) : V → Value → Prop
  | .int k n, x => x = .int k n
  | .bool b, x => x = .bool b
  | .str s, x => x = .string s
  | .agg cs, x => ∃ vs, x = .agg vs ∧ cs.all V.isCell = true ∧ Reps w S L cs vs.toList
  | .tup ts, x => ∃ vs, x = .tuple vs ∧ Reps w S L ts vs.toList
  | .slc xs, x => ∃ oa c, x = .slice oa xs.length c ∧ xs.length ≤ c ∧ (xs = [] ∨ ∃ r o sz, oa = some ⟨r, o, none⟩ ∧ RowsAt w S L r sz o xs)
  | .lst _ _, _ => False
  | .ref b n, x => x.oneCell' = true ∧ ∃ l, L b = some l ∧ n ≤ l.n ∧ (n = l.n → x = l.v)
  | .sub b n lo hi, x => x.oneCell' = true ∧ ∃ l, L b = some l ∧ n ≤ l.n ∧ (n = l.n → hi ≤ n ∧ lo ≤ hi ∧ ∃ oa c, x = .slice oa (hi - lo) c ∧ hi - lo ≤ c ∧ (lo < hi → ∃ r, l.own = some r ∧ oa = some ⟨r, lo * l.sz, none⟩))
  | .ptr b n i o, x => ∃ ad, x = .pointer (some ad) ∧ ∃ l, L b = some l ∧ n ≤ l.n ∧ (n = l.n → ∃ r, l.own = some r ∧ ad = ⟨r, i * l.sz + o, none⟩)
  | .dptr cs o, x => ∃ r q, x = .pointer (some ⟨r, q + o, none⟩) ∧ CellsAt w S L r q cs
  | .nils, x => ∃ oa, x = .slice oa 0 0
  | .nilp, x => x = .pointer none
  | .nilm, x => x = .map none
  | .nili, x => x = .nilIface
  | .und, x => x = undef
  | .map b, x => x.oneCell' = true ∧ ∃ l, L b = some l ∧ (l.n = 0 → x = l.v)
  | .fn f a b, x => ∃ vs us, x = .func (.func f) vs us ∧ Reps w S L a vs.toList ∧ Reps w S L b us.toList
def Reps (w : World) (S : SSet) (L : LMap) : List V → List Value → Prop
  | [], xs => xs = []
  | v :: vs, xs => ∃ y ys, xs = y :: ys ∧ Rep w S L v y ∧ Reps w S L vs ys
/-- These cells lie in block r from offset o on. -/
def CellsAt (w : World) (S : SSet) (L : LMap) (r o : Nat) : List V → Prop
  | [] => True
  | v :: vs => (v.isCell = true ∧ S r o ∧ ∃ y, w.cell? ⟨r, o, none⟩ = some y ∧ Rep w S L v y) ∧ CellsAt w S L r (o + 1) vs
def RowsAt (w : World) (S : SSet) (L : LMap) (r sz o : Nat) : List (List V) → Prop
  | [] => True
  | c :: cs => (c.length = sz ∧ CellsAt w S L r o c) ∧ RowsAt w S L r sz (o + sz) cs
end
/-- Blocks keep their place, or grow (and may then move). -/
def LExt (L L' : LMap) : Prop := ∀ b l, L b = some l → ∃ l', L' b = some l' ∧ l'.sz = l.sz ∧ (l' = l ∨ l.n < l'.n)
theorem LExt.refl (L : LMap) : LExt L L := fun _ l h => ⟨l, h, rfl, .inl rfl⟩
theorem LExt.trans {A B C : LMap} (h : LExt A B) (k : LExt B C) : LExt A C := fun b l hl => by
  obtain ⟨l1, h1, z1, o1⟩ := h b l hl
  obtain ⟨l2, h2, z2, o2⟩ := k b l1 h1
  refine ⟨l2, h2, z2.trans z1, ?_⟩
  rcases o1 with rfl | o1 <;> rcases o2 with rfl | o2
  · exact .inl rfl
  · exact .inr o2
  · exact .inr o1
  · exact .inr (Nat.lt_trans o1 o2)
theorem LExt.empty (L : LMap) : LExt (fun _ => none) L := fun _ _ h => by cases h
/-- What a step must keep, so that values read as they did. -/
structure Keeps (w : World) (S : SSet) (L : LMap) (w' : World) (S' : SSet) (L' : LMap) : Prop where
  cell : ∀ r o, S r o → w'.cell? ⟨r, o, none⟩ = w.cell? ⟨r, o, none⟩
  set : ∀ r o, S r o → S' r o
  loc : LExt L L'
theorem Keeps.refl (w : World) (S : SSet) (L : LMap) : Keeps w S L w S L := ⟨fun _ _ _ => rfl, fun _ _ h => h, LExt.refl L⟩
theorem Keeps.trans {w w1 w2 : World} {S S1 S2 : SSet} {L L1 L2 : LMap} (h : Keeps w S L w1 S1 L1) (k : Keeps w1 S1 L1 w2 S2 L2) : Keeps w S L w2 S2 L2 :=
  ⟨fun r o s => (k.cell r o (h.set r o s)).trans (h.cell r o s), fun r o s => k.set r o (h.set r o s), h.loc.trans k.loc⟩
mutual
theorem Rep.mono {w w' : World} {S S' : SSet} {L L' : LMap} (h : Keeps w S L w' S' L') : ∀ (v : V) (x : Value), Rep w S L v x → Rep w' S' L' v x
  | .int .., x, r => by simpa only [Rep] using r
  | .bool .., x, r => by simpa only [Rep] using r
  | .str .., x, r => by simpa only [Rep] using r
  | .agg cs, x, r => by
    simp only [Rep] at r ⊢
    obtain ⟨vs, e, c, rr⟩ := r
    exact ⟨vs, e, c, Reps.mono h cs _ rr⟩
  | .tup ts, x, r => by
    simp only [Rep] at r ⊢
    obtain ⟨vs, e, rr⟩ := r
    exact ⟨vs, e, Reps.mono h ts _ rr⟩
  | .slc xs, x, r => by
    simp only [Rep] at r ⊢
    obtain ⟨oa, c, e, hc, rr⟩ := r
    exact ⟨oa, c, e, hc, rr.imp id fun ⟨r, o, sz, e, q⟩ => ⟨r, o, sz, e, RowsAt.mono h r sz xs o q⟩⟩
  | .lst .., x, r => by simp only [Rep] at r
  | .ref b n, x, r => by
    simp only [Rep] at r ⊢
    obtain ⟨h1, l, hl, hn, q⟩ := r
    obtain ⟨l', hl', hz, e⟩ := h.loc b l hl
    refine ⟨h1, l', hl', ?_, ?_⟩ <;> rcases e with rfl | e
    · exact hn
    · omega
    · exact q
    · intro; omega
  | .sub b n lo hi, x, r => by
    simp only [Rep] at r ⊢
    obtain ⟨h1, l, hl, hn, q⟩ := r
    obtain ⟨l', hl', hz, e⟩ := h.loc b l hl
    refine ⟨h1, l', hl', ?_, ?_⟩ <;> rcases e with rfl | e
    · exact hn
    · omega
    · exact q
    · intro; omega
  | .ptr b n i o, x, r => by
    simp only [Rep] at r ⊢
    obtain ⟨ad, h1, l, hl, hn, q⟩ := r
    obtain ⟨l', hl', hz, e⟩ := h.loc b l hl
    refine ⟨ad, h1, l', hl', ?_, ?_⟩ <;> rcases e with rfl | e
    · exact hn
    · omega
    · exact q
    · intro; omega
  | .dptr cs o, x, r => by
    simp only [Rep] at r ⊢
    obtain ⟨r, q, e, rr⟩ := r
    exact ⟨r, q, e, CellsAt.mono h r cs q rr⟩
  | .nils, x, r => by simpa only [Rep] using r
  | .nilp, x, r => by simpa only [Rep] using r
  | .nilm, x, r => by simpa only [Rep] using r
  | .nili, x, r => by simpa only [Rep] using r
  | .und, x, r => by simpa only [Rep] using r
  | .map b, x, r => by
    simp only [Rep] at r ⊢
    obtain ⟨h1, l, hl, q⟩ := r
    obtain ⟨l', hl', hz, e⟩ := h.loc b l hl
    refine ⟨h1, l', hl', ?_⟩
    rcases e with rfl | e
    · exact q
    · intro; omega
  | .fn f a b, x, r => by
    simp only [Rep] at r ⊢
    obtain ⟨vs, us, e, ra, rb⟩ := r
    exact ⟨vs, us, e, Reps.mono h a _ ra, Reps.mono h b _ rb⟩
theorem Reps.mono {w w' : World} {S S' : SSet} {L L' : LMap} (h : Keeps w S L w' S' L') : ∀ (v : List V) (x : List Value), Reps w S L v x → Reps w' S' L' v x
  | [], x, r => by simpa only [Reps] using r
  | v :: vs, x, r => by
    simp only [Reps] at r ⊢
    obtain ⟨y, ys, e, ry, rys⟩ := r
    exact ⟨y, ys, e, Rep.mono h v y ry, Reps.mono h vs ys rys⟩
theorem CellsAt.mono {w w' : World} {S S' : SSet} {L L' : LMap} (h : Keeps w S L w' S' L') (r : Nat) : ∀ (v : List V) (o : Nat), CellsAt w S L r o v → CellsAt w' S' L' r o v
  | [], o, q => by simp only [CellsAt]
  | v :: vs, o, q => by
    simp only [CellsAt] at q ⊢
    obtain ⟨⟨c, s, y, hy, ry⟩, rest⟩ := q
    exact ⟨⟨c, h.set _ _ s, y, (h.cell _ _ s).trans hy, Rep.mono h v y ry⟩, CellsAt.mono h r vs _ rest⟩
theorem RowsAt.mono {w w' : World} {S S' : SSet} {L L' : LMap} (h : Keeps w S L w' S' L') (r sz : Nat) : ∀ (v : List (List V)) (o : Nat), RowsAt w S L r sz o v → RowsAt w' S' L' r sz o v
  | [], o, q => by simp only [RowsAt]
  | v :: vs, o, q => by
    simp only [RowsAt] at q ⊢
    obtain ⟨⟨c, s⟩, rest⟩ := q
    exact ⟨⟨c, CellsAt.mono h r v o s⟩, RowsAt.mono h r sz vs _ rest⟩
end
section
variable {w : World} {S : SSet} {L : LMap}
theorem Reps.iff : ∀ (vs : List V) (xs : List Value), Reps w S L vs xs ↔ vs.length = xs.length ∧ ∀ (i : Nat) (v : V) (x : Value), vs[i]? = some v → xs[i]? = some x → Rep w S L v x
  | [], xs => by
    simp only [Reps]
    constructor
    · rintro rfl; exact ⟨rfl, fun i v x h => by simp at h⟩
    · rintro ⟨h, -⟩; exact List.eq_nil_of_length_eq_zero h.symm
  | v :: vs, [] => by simp [Reps]
  | v :: vs, x :: xs => by
    simp only [Reps, List.cons.injEq, List.length_cons, Nat.add_right_cancel_iff]
    constructor
    · rintro ⟨y, ys, ⟨rfl, rfl⟩, h, hs⟩
      obtain ⟨hl, hp⟩ := (Reps.iff vs xs).1 hs
      refine ⟨hl, fun i u z hu hz => ?_⟩
      cases i with
      | zero => simp at hu hz; subst hu; subst hz; exact h
      | succ i => exact hp i u z (by simpa using hu) (by simpa using hz)
    · rintro ⟨hl, hp⟩
      exact ⟨x, xs, ⟨rfl, rfl⟩, hp 0 v x rfl rfl, (Reps.iff vs xs).2 ⟨hl, fun i u z hu hz => hp (i + 1) u z (by simpa using hu) (by simpa using hz)⟩⟩
theorem Reps.len {vs : List V} {xs : List Value} (h : Reps w S L vs xs) : vs.length = xs.length := ((Reps.iff vs xs).1 h).1
theorem Reps.at {vs : List V} {xs : List Value} (h : Reps w S L vs xs) {i : Nat} {v : V} (hv : vs[i]? = some v) : ∃ x, xs[i]? = some x ∧ Rep w S L v x := by
  obtain ⟨hl, hp⟩ := (Reps.iff vs xs).1 h
  have hi : i < xs.length := by have := (List.getElem?_eq_some_iff.1 hv).1; omega
  exact ⟨xs[i], List.getElem?_eq_getElem hi, hp i v _ hv (List.getElem?_eq_getElem hi)⟩
theorem Reps.append {a b : List V} {x y : List Value} (h : Reps w S L a x) (k : Reps w S L b y) : Reps w S L (a ++ b) (x ++ y) := by
  rw [Reps.iff] at h k ⊢
  refine ⟨by simp [h.1, k.1], fun i v z hv hz => ?_⟩
  by_cases hi : i < a.length
  · rw [List.getElem?_append_left hi] at hv
    rw [List.getElem?_append_left (by omega)] at hz
    exact h.2 i v z hv hz
  · rw [List.getElem?_append_right (by omega)] at hv
    rw [List.getElem?_append_right (by omega), ← h.1] at hz
    exact k.2 _ v z hv hz
theorem Reps.take {a : List V} {x : List Value} (h : Reps w S L a x) (n : Nat) : Reps w S L (a.take n) (x.take n) := by
  rw [Reps.iff] at h ⊢
  refine ⟨by simp [h.1], fun i v z hv hz => ?_⟩
  rw [List.getElem?_take] at hv hz
  split at hv
  · rw [if_pos (by assumption)] at hz; exact h.2 i v z hv hz
  · cases hv
theorem Reps.drop {a : List V} {x : List Value} (h : Reps w S L a x) (n : Nat) : Reps w S L (a.drop n) (x.drop n) := by
  rw [Reps.iff] at h ⊢
  refine ⟨by simp [h.1], fun i v z hv hz => ?_⟩
  rw [List.getElem?_drop] at hv hz
  exact h.2 _ v z hv hz
theorem CellsAt.iff (r : Nat) : ∀ (cs : List V) (o : Nat), CellsAt w S L r o cs ↔ ∀ (j : Nat) (v : V), cs[j]? = some v → v.isCell = true ∧ S r (o + j) ∧ ∃ y, w.cell? ⟨r, o + j, none⟩ = some y ∧ Rep w S L v y
  | [], o => by simp [CellsAt]
  | c :: cs, o => by
    simp only [CellsAt]
    constructor
    · rintro ⟨h, hs⟩ j v hv
      cases j with
      | zero => simp at hv; subst hv; exact h
      | succ j => have := (CellsAt.iff r cs (o + 1)).1 hs j v (by simpa using hv); rwa [show o + 1 + j = o + (j + 1) by omega] at this
    · intro h
      exact ⟨h 0 c rfl, (CellsAt.iff r cs (o + 1)).2 fun j v hv => by have := h (j + 1) v (by simpa using hv); rwa [show o + (j + 1) = o + 1 + j by omega] at this⟩
theorem RowsAt.iff (r sz : Nat) : ∀ (xs : List (List V)) (o : Nat), RowsAt w S L r sz o xs ↔ ∀ (i : Nat) (c : List V), xs[i]? = some c → c.length = sz ∧ CellsAt w S L r (o + i * sz) c
  | [], o => by simp [RowsAt]
  | c :: cs, o => by
    simp only [RowsAt]
    constructor
    · rintro ⟨h, hs⟩ j v hv
      cases j with
      | zero => simp at hv; subst hv; simpa using h
      | succ j => have := (RowsAt.iff r sz cs (o + sz)).1 hs j v (by simpa using hv); rwa [show o + sz + j * sz = o + (j + 1) * sz by rw [Nat.add_mul]; omega] at this
    · intro h
      exact ⟨by simpa using h 0 c rfl, (RowsAt.iff r sz cs (o + sz)).2 fun j v hv => by have := h (j + 1) v (by simpa using hv); rwa [show o + (j + 1) * sz = o + sz + j * sz by rw [Nat.add_mul]; omega] at this⟩
end
/-- Elements in block g, from its first cell on; no word on who else writes there. -/
def Row (w : World) (S : SSet) (L : LMap) (g sz : Nat) (xs : List (List V)) : Prop :=
  ∀ (i : Nat) (c : List V), xs[i]? = some c → c.length = sz ∧ ∀ (j : Nat) (v : V), c[j]? = some v → v.isCell = true ∧ ∃ y, w.cell? ⟨g, i * sz + j, none⟩ = some y ∧ Rep w S L v y
theorem Row.mono {w w' : World} {S S' : SSet} {L L' : LMap} (h : Keeps w S L w' S' L') {g sz : Nat} {xs : List (List V)} (r : Row w S L g sz xs) (hg : w'.heap[g]? = w.heap[g]?) : Row w' S' L' g sz xs :=
  fun i c hc => ⟨(r i c hc).1, fun j v hv => by
    obtain ⟨h1, y, hy, hr⟩ := (r i c hc).2 j v hv
    exact ⟨h1, y, by rw [World.cell?_of_block (a := ⟨g, i * sz + j, none⟩) hg]; exact hy, Rep.mono h v y hr⟩⟩
/-- One entry of a map after the other; the i-th was born as number i. -/
def Entries (w : World) (S : SSet) (L : LMap) : List (V × V) → List MapEntry → Nat → Prop
  | [], ms, _ => ms = []
  | e :: es, ms, i => ∃ m rest, ms = m :: rest ∧ isKey e.1 = true ∧ Rep w S L e.1 m.key ∧ Rep w S L e.2 m.val ∧ m.born = i ∧ Entries w S L es rest (i + 1)
theorem Entries.mono {w w' : World} {S S' : SSet} {L L' : LMap} (h : Keeps w S L w' S' L') : ∀ (es : List (V × V)) (ms : List MapEntry) (i : Nat), Entries w S L es ms i → Entries w' S' L' es ms i
  | [], _, _, q => q
  | e :: es, ms, i, q => by
    obtain ⟨m, rest, e1, k, r1, r2, b, r3⟩ := q
    exact ⟨m, rest, e1, k, Rep.mono h _ _ r1, Rep.mono h _ _ r2, b, Entries.mono h es rest _ r3⟩
/-- A block of the store as it lies in memory. -/
def BlkRep (base : Nat) (w : World) (S : SSet) (L : LMap) (l : Loc) : Blk → Prop
  | .arr sz xs => l.n = xs.length ∧ l.sz = sz ∧
    match l.own with
    | none => xs = [] ∧ ∃ oa, l.v = .slice oa 0 0
    | some g => ∃ cap cur, l.v = .slice (some ⟨g, 0, none⟩) l.n cap ∧ base ≤ g ∧ w.heap[g]? = some (.cells cur l.e (0, 0)) ∧ l.n ≤ cap ∧ cap ≤ maxLen ∧ cur.size = cap * sz ∧ Row w S L g sz xs ∧ ∀ o, ¬ S g o
  | .mp es => l.n = 0 ∧ ∃ g ms, l.own = some g ∧ l.v = .map (some g) ∧ base ≤ g ∧ w.heap[g]? = some (.map ms ms.size) ∧ Entries w S L es ms.toList 0 ∧ ∀ o, ¬ S g o
/-- What holds of the store and the memory between two operations. -/
structure Inv (base : Nat) (w : World) (S : SSet) (G : Nat → Option Blk) (L : LMap) : Prop where
  blk : ∀ b k, G b = some k → ∃ l, L b = some l ∧ BlkRep base w S L l k
  dom : ∀ b l, L b = some l → ∃ k, G b = some k
  apart : ∀ b c l m r, L b = some l → L c = some m → l.own = some r → m.own = some r → b = c
  stable : ∀ r o, S r o → r < w.heap.size
  base_le : base ≤ w.heap.size
  om : Consts.om w
  n0_le : Consts.n0 ≤ base
/-- What a step does to memory at most. -/
structure Step (base : Nat) (w : World) (S : SSet) (L : LMap) (w' : World) (S' : SSet) (L' : LMap) : Prop where
  below : Below base w w'
  keeps : Keeps w S L w' S' L'
  fresh : ∀ r o, S' r o → S r o ∨ w.heap.size ≤ r
theorem Step.refl (base : Nat) (w : World) (S : SSet) (L : LMap) : Step base w S L w S L := ⟨Below.refl _ _, Keeps.refl _ _ _, fun _ _ h => .inl h⟩
theorem Step.trans {base : Nat} {w w1 w2 : World} {S S1 S2 : SSet} {L L1 L2 : LMap} (h : Step base w S L w1 S1 L1) (k : Step base w1 S1 L1 w2 S2 L2) : Step base w S L w2 S2 L2 :=
  ⟨h.below.trans k.below, h.keeps.trans k.keeps, fun r o s => by
    rcases k.fresh r o s with s | s
    · exact h.fresh r o s
    · exact .inr (Nat.le_trans h.below.size s)⟩
theorem BlkRep.lt {base : Nat} {w : World} {S : SSet} {L : LMap} {l : Loc} {k : Blk} (h : BlkRep base w S L l k) {g : Nat} (hg : l.own = some g) : base ≤ g ∧ g < w.heap.size := by
  cases k with
  | arr sz xs =>
    simp only [BlkRep, hg] at h
    obtain ⟨-, -, cap, cur, -, hb, hh, -⟩ := h
    exact ⟨hb, (Array.getElem?_eq_some_iff.1 hh).1⟩
  | mp es =>
    obtain ⟨-, g', ms, e, -, hb, hh, -⟩ := h
    rw [hg] at e; cases e
    exact ⟨hb, (Array.getElem?_eq_some_iff.1 hh).1⟩
theorem BlkRep.mono {base : Nat} {w w' : World} {S S' : SSet} {L L' : LMap} (h : Keeps w S L w' S' L') {l : Loc} {k : Blk} (r : BlkRep base w S L l k)
    (hg : ∀ g, l.own = some g → w'.heap[g]? = w.heap[g]?) (hS : ∀ g o, l.own = some g → ¬ S' g o) : BlkRep base w' S' L' l k := by
  cases k with
  | arr sz xs =>
    obtain ⟨h1, h2, r⟩ := r
    refine ⟨h1, h2, ?_⟩
    cases hl : l.own with
    | none => simpa only [hl] using r
    | some g =>
      simp only [hl] at r
      obtain ⟨cap, cur, e, hb, hh, a, b, c, d, q⟩ := r
      exact ⟨cap, cur, e, hb, (hg g hl).trans hh, a, b, c, d.mono h (hg g hl), fun o => hS g o hl⟩
  | mp es =>
    obtain ⟨h0, g, ms, e, e', hb, hh, d, q⟩ := r
    exact ⟨h0, g, ms, e, e', hb, (hg g e).trans hh, d.mono h, fun o => hS g o e⟩
/-- Memory that no block of the store owns may turn; new memory may come. -/
theorem Inv.mono {base : Nat} {w w' : World} {S S' : SSet} {G : Nat → Option Blk} {L : LMap} (h : Inv base w S G L) (k : Keeps w S L w' S' L) (hb : Below base w w')
    (hg : ∀ b l g, L b = some l → l.own = some g → w'.heap[g]? = w.heap[g]?) (hS : ∀ b l g o, L b = some l → l.own = some g → ¬ S' g o) (hst : ∀ r o, S' r o → r < w'.heap.size) : Inv base w' S' G L where
  blk b k' hb := by
    obtain ⟨l, hl, r⟩ := h.blk b k' hb
    exact ⟨l, hl, r.mono k (hg b l · hl) (hS b l · · hl)⟩
  dom := h.dom
  apart := h.apart
  stable := hst
  base_le := Nat.le_trans h.base_le hb.size
  om := Consts.keep _ _ h.om (hb.mono h.n0_le)
  n0_le := h.n0_le
theorem Inv.own_lt {base : Nat} {w : World} {S : SSet} {G : Nat → Option Blk} {L : LMap} (h : Inv base w S G L) {b : Nat} {l : Loc} {g : Nat} (hl : L b = some l) (hg : l.own = some g) : base ≤ g ∧ g < w.heap.size ∧ ∀ o, ¬ S g o := by
  obtain ⟨k, hk⟩ := h.dom b l hl
  obtain ⟨l', hl', r⟩ := h.blk b k hk
  rw [hl] at hl'; cases hl'
  refine ⟨(r.lt hg).1, (r.lt hg).2, ?_⟩
  cases k with
  | arr sz xs => simp only [BlkRep, hg] at r; obtain ⟨-, -, cap, cur, -, -, -, -, -, -, -, q⟩ := r; exact q
  | mp es => obtain ⟨-, g', ms, e, -, -, -, -, q⟩ := r; rw [hg] at e; cases e; exact q
/-- Below all that was there nothing has turned. -/
theorem Inv.below {base : Nat} {w w' : World} {S : SSet} {G : Nat → Option Blk} {L : LMap} (h : Inv base w S G L) (hb : Below w.heap.size w w') : Inv base w' S G L ∧ Step base w S L w' S L := by
  have k : Keeps w S L w' S L := ⟨fun r o s => hb.cell (p := ⟨r, o, none⟩) (h.stable r o s), fun _ _ s => s, LExt.refl L⟩
  exact ⟨h.mono k (hb.mono h.base_le) (fun b l g hl hg => hb.block g (h.own_lt hl hg).2.1) (fun b l g o hl hg => (h.own_lt hl hg).2.2 o) (fun r o s => Nat.lt_of_lt_of_le (h.stable r o s) hb.size),
    hb.mono h.base_le, k, fun _ _ s => .inl s⟩
end Go.Ev
