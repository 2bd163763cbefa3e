/- What a row's arguments hold, in the reader's words: a reading of plain data (integers, truths, texts, slices, structs) gives values by content. No condition. -/
import Derived.ChangeArms
import Derived.DataReads
import Derived.Test.YtagceefccafgoaaGreatDoorT13
set_option linter.all false
namespace Go.Ev
variable [Consts]
set_option linter.unusedSectionVars false
set_option linter.unusedVariables false
open Go.RowKit
/-- All cells that the call finds: it writes none of them. -/
def SAll (w : World) : SSet := fun r _ => r < w.heap.size
mutual
/-- How many values and letters a reading holds. -/
def bk {H : Type} : DataW H → Nat
  | .lit (.string bytes) => bytes.length + 1
  | .lit _ => 1
  | .nil => 1
  | .ptr d => bk d + 1
  | .slice elems spare => bkAll elems + bkAll spare + 1
  | .agg parts => bkAll parts + 1
  | .iface _ d => bk d + 1
  | .map entries => bkEntries entries + 1
  | .held _ => 1
def bkAll {H : Type} : List (DataW H) → Nat
  | [] => 0
  | d :: r => bk d + bkAll r
def bkEntries {H : Type} : List (Lit × DataW H) → Nat
  | [] => 0
  | x :: r => bkEntry x + bkEntries r
def bkEntry {H : Type} : Lit × DataW H → Nat
  | (.string bytes, d) => bytes.length + bk d + 1
  | (_, d) => bk d + 1
end
theorem bkAll_sum {H : Type} : ∀ l : List (DataW H), bkAll l = (l.map bk).sum
  | [] => rfl
  | d :: r => by simp [bkAll, bkAll_sum r]
section
variable {H : Type} {enc : TypeId × Value → H} {P : Program} {w : World} {spare : Nat → Bool} {held : Bool} {α β : Type}
/-- A reading at this type is data of the kind α. -/
def Opens (enc : TypeId × Value → H) (P : Program) (w : World) (spare : Nat → Bool) (held : Bool) (n : Nat) (t : TypeId) (cells : α → List V) (bulk : α → Nat) : Prop :=
  ∀ cs x, DataW.trod enc P w 0 spare held n t cs = some x → ∃ a, Reps w (SAll w) noL (cells a) cs ∧ (cells a).all V.isCell = true ∧ bulk a ≤ bk x.1
theorem open_int {n : Nat} {t : TypeId} {k : IntKind} (ht : P.underlying t = some (.int k)) : Opens enc P w spare held n t (fun i : Int => [.int k i]) (fun _ => 1) := by
  intro cs x h
  obtain ⟨i, rfl, rfl, _⟩ := DataW.trod_int ht h
  exact ⟨i, by simp only [Reps, Rep]; exact ⟨_, _, rfl, rfl, rfl⟩, rfl, by simp [bk]⟩
theorem open_bool {n : Nat} {t : TypeId} (ht : P.underlying t = some .bool) : Opens enc P w spare held n t (fun b : Bool => [.bool b]) (fun _ => 1) := by
  intro cs x h
  obtain ⟨i, rfl, rfl⟩ := DataW.trod_bool ht h
  exact ⟨i, by simp only [Reps, Rep]; exact ⟨_, _, rfl, rfl, rfl⟩, rfl, by simp [bk]⟩
theorem open_str {n : Nat} {t : TypeId} (ht : P.underlying t = some .string) : Opens enc P w spare held n t (fun s : ByteArray => [.str s]) (fun s => s.size + 1) := by
  intro cs x h
  obtain ⟨s, rfl, rfl, _⟩ := DataW.trod_string ht h
  exact ⟨s, by simp only [Reps, Rep]; exact ⟨_, _, rfl, rfl, rfl⟩, rfl, by simp [bk]⟩
theorem cellsAt_of {w : World} {r : Nat} : ∀ {c : List V} {cs : List Value} {o : Nat}, Reps w (SAll w) noL c cs → c.all V.isCell = true → r < w.heap.size → (∀ j, j < c.length → w.cell? ⟨r, o + j, none⟩ = cs[j]?) → CellsAt w (SAll w) noL r o c
  | [], cs, o, _, _, _, _ => by simp only [CellsAt]
  | v :: c, cs, o, h, ha, hr, hc => by
    simp only [Reps] at h
    obtain ⟨y, ys, rfl, h1, h2⟩ := h
    simp only [List.all_cons, Bool.and_eq_true] at ha
    simp only [CellsAt]
    refine ⟨⟨ha.1, hr, y, by simpa using hc 0 (by simp), h1⟩, cellsAt_of h2 ha.2 hr fun j hj => ?_⟩
    have := hc (j + 1) (by simpa using hj)
    rw [show o + 1 + j = o + (j + 1) from by omega, this]
    simp
theorem rowsAt_of {w : World} {r sz : Nat} : ∀ {xs : List (List V)} {o : Nat}, (∀ i c, xs[i]? = some c → c.length = sz ∧ CellsAt w (SAll w) noL r (o + i * sz) c) → RowsAt w (SAll w) noL r sz o xs
  | [], o, _ => by simp only [RowsAt]
  | c :: xs, o, h => by
    simp only [RowsAt]
    refine ⟨by simpa using h 0 c rfl, rowsAt_of fun i d hd => ?_⟩
    have := h (i + 1) d (by simpa using hd)
    rwa [show o + (i + 1) * sz = o + sz + i * sz from by rw [Nat.add_mul]; omega] at this
theorem list_of {n : Nat} {p : Nat → α → Prop} (h : ∀ i, i < n → ∃ a, p i a) : ∃ l : List α, l.length = n ∧ ∀ (i : Nat) a, l[i]? = some a → p i a := by
  induction n with
  | zero => exact ⟨[], rfl, fun i a h => by simp at h⟩
  | succ n ih =>
    obtain ⟨l, hl, hp⟩ := ih fun i hi => h i (by omega)
    obtain ⟨a, ha⟩ := h n (by omega)
    refine ⟨l ++ [a], by simp [hl], fun i b hb => ?_⟩
    by_cases hi : i < n
    · rw [List.getElem?_append_left (by omega)] at hb; exact hp i b hb
    · rw [List.getElem?_append_right (by omega)] at hb
      have : i - l.length = 0 := by
        rcases Nat.eq_zero_or_pos (i - l.length) with h0 | h0
        · exact h0
        · rw [List.getElem?_eq_none (by simp; omega)] at hb; cases hb
      rw [this] at hb
      simp at hb
      subst hb
      rw [show i = n from by omega]
      exact ha
theorem sum_le {f : α → Nat} {g : β → Nat} : ∀ (l : List α) (l' : List β), l.length = l'.length → (∀ (i : Nat) (a : α) (b : β), l[i]? = some a → l'[i]? = some b → f a ≤ g b) → (l.map f).sum ≤ (l'.map g).sum
  | [], [], _, _ => by simp
  | a :: l, b :: l', h, hp => by
    have h1 := hp 0 a b rfl rfl
    have h2 := sum_le l l' (by simpa using h) (fun i x y hx hy => hp (i + 1) x y (by simpa using hx) (by simpa using hy))
    simp only [List.map_cons, List.sum_cons]
    omega
/-- A slice of data. -/
theorem open_slc {n : Nat} {t e : TypeId} {cells : α → List V} {bulk : α → Nat} {sz : Nat} (ht : P.underlying t = some (.slice e)) (hz : P.cellsOf e = sz) (h0 : 0 < sz) (he : ∀ m, m < n → Opens enc P w spare held m e cells bulk) :
    Opens enc P w spare held n t (fun l : List α => [.slc (l.map cells)]) (fun l => (l.map bulk).sum + 1) := by
  intro cs x h
  rcases DataW.trod_slice ht h with ⟨rfl, rfl⟩ | ⟨a, len, cap, elems, rest, m, rfl, rfl, rfl, hb, hl, hm, hlen, hel, _, _⟩
  · exact ⟨[], by simp only [Reps, Rep, List.map_nil]; exact ⟨_, _, rfl, ⟨none, 0, rfl, Nat.le_refl _, .inl trivial⟩, rfl⟩, rfl, by simp [bk]⟩
  · rw [hz] at hel
    have key : ∀ i, i < len → ∃ b : α, ∃ cs' y, w.cells? 0 (a.add (i * sz)) sz = some cs' ∧ elems[i]? = some y ∧ Reps w (SAll w) noL (cells b) cs' ∧ (cells b).all V.isCell = true ∧ bulk b ≤ bk y.1 := by
      intro i hi
      have h1 := hel i hi
      rw [List.getElem?_eq_getElem (by omega : i < elems.length)] at h1
      obtain ⟨cs', h2, h3⟩ := Option.bind_eq_some_iff.1 h1
      obtain ⟨b, h4, h5, h6⟩ := he m (by omega) cs' _ h3
      exact ⟨b, cs', _, h2, List.getElem?_eq_getElem _, h4, h5, h6⟩
    obtain ⟨l, hll, hlp⟩ := list_of key
    refine ⟨l, ?_, rfl, ?_⟩
    · simp only [Reps, Rep, List.length_map]
      refine ⟨_, _, rfl, ⟨some a, cap, by rw [hll], by omega, ?_⟩, rfl⟩
      by_cases hne : l = []
      · left; rw [hne]; rfl
      · right
        have hpos : 0 < len := by
          rw [← hll]; exact List.length_pos_iff.2 hne
        obtain ⟨cs0, y0, h1, _⟩ := hlp 0 l[0] (List.getElem?_eq_getElem (by omega))
        obtain ⟨_, hcl, hcc⟩ := World.cells?_some h1
        have hc0 := hcc 0 h0
        have ha : a.add (0 * sz) = a := by rw [Nat.zero_mul]; rfl
        rw [ha, show a.add 0 = a from rfl, List.getElem?_eq_getElem (by omega)] at hc0
        obtain ⟨blk, off, spot⟩ := a
        have hsp : spot = none := by
          cases spot with
          | none => rfl
          | some q => unfold World.cell? at hc0; simp at hc0; split at hc0 <;> cases hc0
        subst hsp
        have hblk : blk < w.heap.size := by
          rcases Nat.lt_or_ge blk w.heap.size with h | h
          · exact h
          · unfold World.cell? at hc0; simp [Array.getElem?_eq_none h] at hc0
        refine ⟨blk, off, sz, rfl, rowsAt_of fun i c hc => ?_⟩
        rw [List.getElem?_map] at hc
        obtain ⟨b, hbi, rfl⟩ := Option.map_eq_some_iff.1 hc
        obtain ⟨cs', y, h1, h2, h3, h4, _⟩ := hlp i b hbi
        obtain ⟨_, hcl, hcc⟩ := World.cells?_some h1
        have hlen2 : (cells b).length = sz := by rw [h3.len, hcl]
        refine ⟨hlen2, cellsAt_of h3 h4 hblk fun j hj => ?_⟩
        have := hcc j (by omega)
        rw [Addr.add_lit, Addr.add_lit] at this
        exact this
    · simp only [bk]
      have : (l.map bulk).sum ≤ bkAll (elems.map (·.1)) := by
        rw [bkAll_sum, List.map_map]
        refine sum_le l elems (by omega) fun i b y hb hy => ?_
        obtain ⟨_, y', _, h2, _, _, h5⟩ := hlp i b hb
        rw [hy] at h2
        cases h2
        exact h5
      omega
/-- Fields from an offset on. -/
def OpensFs (enc : TypeId × Value → H) (P : Program) (w : World) (spare : Nat → Bool) (held : Bool) (n : Nat) (fs : List Field) (off total : Nat) (cells : α → List V) (bulk : α → Nat) : Prop :=
  ∀ (cs : List Value) (xs : List (DataW H × List MemPlace)), cs.length = total → xs.length = fs.length → (∀ (i : Nat) (f : Field), fs[i]? = some f → DataW.trod enc P w 0 spare held n f.type ((cs.drop f.offset).take (P.cellsOf f.type)) = xs[i]?) →
    ∃ a, Reps w (SAll w) noL (cells a) (cs.drop off) ∧ (cells a).all V.isCell = true ∧ bulk a ≤ (xs.map fun x => bk x.1).sum
theorem open_fs0 {n total : Nat} : OpensFs enc P w spare held n [] total total (fun _ : Unit => []) (fun _ => 0) := by
  intro cs xs hc hx _
  exact ⟨(), by rw [List.drop_of_length_le (by omega)]; simp [Reps], rfl, Nat.zero_le _⟩
theorem open_fs {n off off' total z : Nat} {f : Field} {fs : List Field} {c1 : α → List V} {b1 : α → Nat} {c2 : β → List V} {b2 : β → Nat} (hoff : f.offset = off) (hz : P.cellsOf f.type = z) (ho : off + z = off') (h1 : Opens enc P w spare held n f.type c1 b1)
    (h2 : OpensFs enc P w spare held n fs off' total c2 b2) : OpensFs enc P w spare held n (f :: fs) off total (fun p : α × β => c1 p.1 ++ c2 p.2) (fun p => b1 p.1 + b2 p.2) := by
  intro cs xs hc hx hf
  match xs, hx with
  | x :: xs, hx =>
    have hf0 := hf 0 f rfl
    rw [hoff, hz] at hf0
    obtain ⟨a, ha1, ha2, ha3⟩ := h1 _ _ hf0
    obtain ⟨b, hb1, hb2, hb3⟩ := h2 cs xs hc (by simpa using hx) fun i g hg => by simpa using hf (i + 1) g (by simpa using hg)
    refine ⟨(a, b), ?_, by simp [ha2, hb2], ?_⟩
    · have e : cs.drop off = (cs.drop off).take z ++ cs.drop off' := by
        rw [← ho, ← List.drop_drop, List.take_append_drop]
      rw [e]
      exact ha1.append hb1
    · simp only [List.map_cons, List.sum_cons]
      omega
/-- A struct. -/
theorem open_struct {n total : Nat} {t : TypeId} {fs : Array Field} {cells : α → List V} {bulk : α → Nat} (ht : P.underlying t = some (.struct fs)) (htot : P.cellsOf t = total) (h : ∀ m, m < n → OpensFs enc P w spare held m fs.toList 0 total cells bulk) :
    Opens enc P w spare held n t cells (fun a => bulk a + 1) := by
  intro cs x hx
  obtain ⟨xs, m, rfl, rfl, hl, hxl, hf⟩ := DataW.trod_struct ht hx
  obtain ⟨a, h1, h2, h3⟩ := h m (by omega) cs xs (by omega) (by simpa using hxl) fun i f hfi => hf i f (by simpa using hfi)
  refine ⟨a, by simpa using h1, h2, ?_⟩
  simp only [bk, bkAll_sum, List.map_map]
  have : (xs.map (bk ∘ fun x => x.1)).sum = (xs.map fun x => bk x.1).sum := rfl
  omega
theorem Opens.map {n : Nat} {t : TypeId} {cells : α → List V} {bulk : α → Nat} (h : Opens enc P w spare held n t cells bulk) {cells' : β → List V} {bulk' : β → Nat} (f : α → β) (h1 : ∀ a, cells' (f a) = cells a) (h2 : ∀ a, bulk' (f a) ≤ bulk a) : Opens enc P w spare held n t cells' bulk' := by
  intro cs x hx
  obtain ⟨a, q1, q2, q3⟩ := h cs x hx
  exact ⟨f a, by rw [h1]; exact q1, by rw [h1]; exact q2, Nat.le_trans (h2 a) q3⟩
end
end Go.Ev
