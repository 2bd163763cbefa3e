/- Contents out of the store: what a pure call is handed, and what it hands back. No condition. Calls: what a pure call hands back comes into the caller's store; calls that share the store. No condition. Calls of functions, and all operations in one law. No condition. -/
import Derived.Test.YtagceefccafgoaaGreatDoorT07
set_option linter.all false
namespace Go.Ev
variable [Consts]
set_option linter.unusedSectionVars false
open Go.RowKit
set_option linter.unusedSimpArgs false
set_option linter.unusedVariables false
def noL : LMap := fun _ => none
mutual
theorem plain_rep {w : World} {S : SSet} {L L' : LMap} : ∀ (v : V) (x : Value), v.plain = true → Rep w S L v x → Rep w S L' v x
  | .int .., x, _, r => by simpa only [Rep] using r
  | .bool .., x, _, r => by simpa only [Rep] using r
  | .str .., x, _, r => by simpa only [Rep] using r
  | .agg cs, x, h, r => by
    simp only [V.plain] at h
    simp only [Rep] at r ⊢
    obtain ⟨vs, e, c, rr⟩ := r
    exact ⟨vs, e, c, plain_reps cs _ h rr⟩
  | .tup ts, x, h, r => by
    simp only [V.plain] at h
    simp only [Rep] at r ⊢
    obtain ⟨vs, e, rr⟩ := r
    exact ⟨vs, e, plain_reps ts _ h rr⟩
  | .slc xs, x, h, r => by
    simp only [V.plain] at h
    simp only [Rep] at r ⊢
    obtain ⟨oa, c, e, hc, rr⟩ := r
    exact ⟨oa, c, e, hc, rr.imp id fun ⟨r, o, sz, e, q⟩ => ⟨r, o, sz, e, plain_rows r sz xs o h q⟩⟩
  | .lst .., x, h, r => by simp only [V.plain, Bool.false_eq_true] at h
  | .ref .., x, h, r => by simp only [V.plain, Bool.false_eq_true] at h
  | .sub .., x, h, r => by simp only [V.plain, Bool.false_eq_true] at h
  | .ptr .., x, h, r => by simp only [V.plain, Bool.false_eq_true] at h
  | .dptr cs o, x, h, r => by
    simp only [V.plain] at h
    simp only [Rep] at r ⊢
    obtain ⟨r, q, e, rr⟩ := r
    exact ⟨r, q, e, plain_cells r cs q h rr⟩
  | .nils, x, h, r => by simp only [V.plain, Bool.false_eq_true] at h
  | .nilp, x, _, r => by simpa only [Rep] using r
  | .nilm, x, _, r => by simpa only [Rep] using r
  | .nili, x, _, r => by simpa only [Rep] using r
  | .und, x, h, r => by simp only [V.plain, Bool.false_eq_true] at h
  | .map .., x, h, r => by simp only [V.plain, Bool.false_eq_true] at h
  | .fn f a b, x, h, r => by
    simp only [V.plain, Bool.and_eq_true] at h
    simp only [Rep] at r ⊢
    obtain ⟨vs, us, e, ra, rb⟩ := r
    exact ⟨vs, us, e, plain_reps a _ h.1 ra, plain_reps b _ h.2 rb⟩
theorem plain_reps {w : World} {S : SSet} {L L' : LMap} : ∀ (v : List V) (x : List Value), plains v = true → Reps w S L v x → Reps w S L' v x
  | [], x, _, r => by simpa only [Reps] using r
  | v :: vs, x, h, r => by
    simp only [plains, Bool.and_eq_true] at h
    simp only [Reps] at r ⊢
    obtain ⟨y, ys, e, ry, rys⟩ := r
    exact ⟨y, ys, e, plain_rep v y h.1 ry, plain_reps vs ys h.2 rys⟩
theorem plain_cells {w : World} {S : SSet} {L L' : LMap} (r : Nat) : ∀ (v : List V) (o : Nat), plains v = true → CellsAt w S L r o v → CellsAt w S L' r o v
  | [], o, _, q => by simp only [CellsAt]
  | v :: vs, o, h, q => by
    simp only [plains, Bool.and_eq_true] at h
    simp only [CellsAt] at q ⊢
    obtain ⟨⟨c, s, y, hy, ry⟩, rest⟩ := q
    exact ⟨⟨c, s, y, hy, plain_rep v y h.1 ry⟩, plain_cells r vs _ h.2 rest⟩
theorem plain_rows {w : World} {S : SSet} {L L' : LMap} (r sz : Nat) : ∀ (v : List (List V)) (o : Nat), plainss v = true → RowsAt w S L r sz o v → RowsAt w S L' r sz o v
  | [], o, _, q => by simp only [RowsAt]
  | v :: vs, o, h, q => by
    simp only [plainss, Bool.and_eq_true] at h
    simp only [RowsAt] at q ⊢
    obtain ⟨⟨c, s⟩, rest⟩ := q
    exact ⟨⟨c, plain_cells r v o h.1 s⟩, plain_rows r sz vs _ h.2 rest⟩
end
mutual
theorem flat_rep {w w' : World} {S S' : SSet} {L L' : LMap} : ∀ (v : V) (x : Value), v.flat = true → Rep w S L v x → Rep w' S' L' v x
  | .int .., x, _, r => by simpa only [Rep] using r
  | .bool .., x, _, r => by simpa only [Rep] using r
  | .str .., x, _, r => by simpa only [Rep] using r
  | .agg cs, x, h, r => by
    simp only [V.flat] at h
    simp only [Rep] at r ⊢
    obtain ⟨vs, e, c, rr⟩ := r
    exact ⟨vs, e, c, flat_reps cs _ h rr⟩
  | .tup ts, x, h, r => by
    simp only [V.flat] at h
    simp only [Rep] at r ⊢
    obtain ⟨vs, e, rr⟩ := r
    exact ⟨vs, e, flat_reps ts _ h rr⟩
  | .slc xs, x, h, r => by
    simp only [V.flat, List.isEmpty_iff] at h
    subst h
    simp only [Rep] at r ⊢
    obtain ⟨oa, c, e, hc, rr⟩ := r
    exact ⟨oa, c, e, hc, .inl trivial⟩
  | .lst .., x, h, r => by simp only [V.flat, Bool.false_eq_true] at h
  | .ref .., x, h, r => by simp only [V.flat, Bool.false_eq_true] at h
  | .sub .., x, h, r => by simp only [V.flat, Bool.false_eq_true] at h
  | .ptr .., x, h, r => by simp only [V.flat, Bool.false_eq_true] at h
  | .dptr .., x, h, r => by simp only [V.flat, Bool.false_eq_true] at h
  | .nils, x, _, r => by simpa only [Rep] using r
  | .nilp, x, _, r => by simpa only [Rep] using r
  | .nilm, x, _, r => by simpa only [Rep] using r
  | .nili, x, _, r => by simpa only [Rep] using r
  | .und, x, h, r => by simp only [V.flat, Bool.false_eq_true] at h
  | .map .., x, h, r => by simp only [V.flat, Bool.false_eq_true] at h
  | .fn f a b, x, h, r => by
    simp only [V.flat, Bool.and_eq_true] at h
    simp only [Rep] at r ⊢
    obtain ⟨vs, us, e, ra, rb⟩ := r
    exact ⟨vs, us, e, flat_reps a _ h.1 ra, flat_reps b _ h.2 rb⟩
theorem flat_reps {w w' : World} {S S' : SSet} {L L' : LMap} : ∀ (v : List V) (x : List Value), flats v = true → Reps w S L v x → Reps w' S' L' v x
  | [], x, _, r => by simpa only [Reps] using r
  | v :: vs, x, h, r => by
    simp only [flats, Bool.and_eq_true] at h
    simp only [Reps] at r ⊢
    obtain ⟨y, ys, e, ry, rys⟩ := r
    exact ⟨y, ys, e, flat_rep v y h.1 ry, flat_reps vs ys h.2 rys⟩
end
theorem flats_mem : ∀ {vs : List V}, flats vs = true → ∀ v ∈ vs, v.flat = true
  | [], _, v, hv => by simp at hv
  | u :: us, h, v, hv => by
    simp only [flats, Bool.and_eq_true] at h
    rcases List.mem_cons.1 hv with rfl | hv
    · exact h.1
    · exact flats_mem h.2 v hv
theorem flatss_mem : ∀ {xs : List (List V)}, flatss xs = true → ∀ c ∈ xs, flats c = true
  | [], _, c, hc => by simp at hc
  | d :: ds, h, c, hc => by
    simp only [flatss, Bool.and_eq_true] at h
    rcases List.mem_cons.1 hc with rfl | hc
    · exact h.1
    · exact flatss_mem h.2 c hc
/-! ### Contents out of the store -/
/-- u is v, without names of blocks. -/
def DR (w : World) (S : SSet) (L : LMap) (S' : SSet) (v u : V) : Prop := (v.isCell = true → u.isCell = true) ∧ ∀ x, Rep w S L v x → Rep w S' noL u x
def DRs (w : World) (S : SSet) (L : LMap) (S' : SSet) : List V → List V → Prop
  | [], us => us = []
  | v :: vs, us => ∃ u rest, us = u :: rest ∧ DR w S L S' v u ∧ DRs w S L S' vs rest
def DRss (w : World) (S : SSet) (L : LMap) (S' : SSet) : List (List V) → List (List V) → Prop
  | [], us => us = []
  | v :: vs, us => ∃ u rest, us = u :: rest ∧ DRs w S L S' v u ∧ DRss w S L S' vs rest
section
variable {w : World} {S : SSet} {L : LMap} {S' : SSet}
theorem DRs.len : ∀ {vs us : List V}, DRs w S L S' vs us → us.length = vs.length
  | [], us, h => by simp only [DRs] at h; subst h; rfl
  | v :: vs, us, h => by obtain ⟨u, rest, rfl, -, h⟩ := h; simp [h.len]
theorem DRs.at : ∀ {vs us : List V} {i : Nat} {u : V}, DRs w S L S' vs us → us[i]? = some u → ∃ v, vs[i]? = some v ∧ DR w S L S' v u
  | [], us, i, u, h, hu => by simp only [DRs] at h; subst h; simp at hu
  | v :: vs, us, i, u, h, hu => by
    obtain ⟨u', rest, rfl, h1, h2⟩ := h
    cases i with
    | zero => simp at hu; subst hu; exact ⟨v, rfl, h1⟩
    | succ i => obtain ⟨v', hv, hd⟩ := h2.at (i := i) (by simpa using hu); exact ⟨v', by simpa using hv, hd⟩
theorem DRss.len : ∀ {vs us : List (List V)}, DRss w S L S' vs us → us.length = vs.length
  | [], us, h => by simp only [DRss] at h; subst h; rfl
  | v :: vs, us, h => by obtain ⟨u, rest, rfl, -, h⟩ := h; simp [h.len]
theorem DRss.at : ∀ {vs us : List (List V)} {i : Nat} {u : List V}, DRss w S L S' vs us → us[i]? = some u → ∃ v, vs[i]? = some v ∧ DRs w S L S' v u
  | [], us, i, u, h, hu => by simp only [DRss] at h; subst h; simp at hu
  | v :: vs, us, i, u, h, hu => by
    obtain ⟨u', rest, rfl, h1, h2⟩ := h
    cases i with
    | zero => simp at hu; subst hu; exact ⟨v, rfl, h1⟩
    | succ i => obtain ⟨v', hv, hd⟩ := h2.at (i := i) (by simpa using hu); exact ⟨v', by simpa using hv, hd⟩
theorem DRs.reps {vs us : List V} (h : DRs w S L S' vs us) {xs : List Value} (hr : Reps w S L vs xs) : Reps w S' noL us xs := by
  rw [Reps.iff] at hr ⊢
  refine ⟨by rw [h.len]; exact hr.1, fun i u x hu hx => ?_⟩
  obtain ⟨v, hv, hd⟩ := h.at hu
  exact hd.2 x (hr.2 i v x hv hx)
theorem DRs.cellsAll {vs us : List V} (h : DRs w S L S' vs us) (hc : vs.all V.isCell = true) : us.all V.isCell = true := by
  rw [List.all_eq_true] at hc ⊢
  intro u hu
  obtain ⟨i, hi⟩ := List.getElem?_of_mem hu
  obtain ⟨v, hv, hd⟩ := h.at hi
  exact hd.1 (hc v (List.mem_of_getElem? hv))
theorem DRs.cellsAt {vs us : List V} (h : DRs w S L S' vs us) (hS : ∀ r o, S r o → S' r o) {r o : Nat} (hc : CellsAt w S L r o vs) : CellsAt w S' noL r o us := by
  rw [CellsAt.iff] at hc ⊢
  intro j u hu
  obtain ⟨v, hv, hd⟩ := h.at hu
  obtain ⟨h1, h2, y, h3, h4⟩ := hc j v hv
  exact ⟨hd.1 h1, hS _ _ h2, y, h3, hd.2 y h4⟩
theorem DRss.rowsAt {vs us : List (List V)} (h : DRss w S L S' vs us) (hS : ∀ r o, S r o → S' r o) {r sz o : Nat} (hc : RowsAt w S L r sz o vs) : RowsAt w S' noL r sz o us := by
  rw [RowsAt.iff] at hc ⊢
  intro i u hu
  obtain ⟨v, hv, hd⟩ := h.at hu
  obtain ⟨h1, h2⟩ := hc i v hv
  exact ⟨by rw [hd.len]; exact h1, hd.cellsAt hS h2⟩
/-- The contents of a live row. -/
theorem DRss.row {vs us : List (List V)} (h : DRss w S L S' vs us) {g sz : Nat} (hr : Row w S L g sz vs) : Row w S' noL g sz us := by
  intro i u hu
  obtain ⟨v, hv, hd⟩ := h.at hu
  obtain ⟨h1, h2⟩ := hr i v hv
  refine ⟨by rw [hd.len]; exact h1, fun j c hc => ?_⟩
  obtain ⟨c', hc', hd'⟩ := hd.at hc
  obtain ⟨q1, y, q2, q3⟩ := h2 j c' hc'
  exact ⟨hd'.1 q1, y, q2, hd'.2 y q3⟩
/-- .. from some element on, where the block is given away. -/
theorem DRss.rowsOf {vs us : List (List V)} {l m : Nat} (h : DRss w S L S' ((vs.drop l).take m) us) {g sz : Nat} (hr : Row w S L g sz vs) (hg : ∀ o, S' g o) : RowsAt w S' noL g sz (l * sz) us := by
  rw [RowsAt.iff]
  intro i u hu
  obtain ⟨v, hv, hd⟩ := h.at hu
  rw [List.getElem?_take] at hv
  split at hv
  · rw [List.getElem?_drop] at hv
    obtain ⟨h1, h2⟩ := hr _ v hv
    refine ⟨by rw [hd.len]; exact h1, ?_⟩
    rw [CellsAt.iff]
    intro j c hc
    obtain ⟨c', hc', hd'⟩ := hd.at hc
    obtain ⟨q1, y, q2, q3⟩ := h2 j c' hc'
    exact ⟨hd'.1 q1, hg _, y, by rwa [Nat.add_mul] at q2, hd'.2 y q3⟩
  · cases hv
end
mutual
theorem deepBy_rel {base : Nat} {w : World} {S : SSet} {G : Nat → Option Blk} {L : LMap} {S' : SSet} (hI : Inv base w S G L) (hS : ∀ r o, S r o → S' r o) {rd : Nat → Option Blk} (hrd : ∀ b k, rd b = some k → G b = some k) (hown : ∀ b k l g, rd b = some k → L b = some l → l.own = some g → ∀ o, S' g o) {f : List (List V) → Option (List (List V))} (hf : ∀ xs ys, f xs = some ys → DRss w S L S' xs ys) :
    ∀ (v u : V), v.deepBy rd f = some u → DR w S L S' v u
  | .int .., u, h => by simp only [V.deepBy, Option.some.injEq] at h; subst h; exact ⟨id, fun x r => by simpa only [Rep] using r⟩
  | .bool .., u, h => by simp only [V.deepBy, Option.some.injEq] at h; subst h; exact ⟨id, fun x r => by simpa only [Rep] using r⟩
  | .str .., u, h => by simp only [V.deepBy, Option.some.injEq] at h; subst h; exact ⟨id, fun x r => by simpa only [Rep] using r⟩
  | .agg cs, u, h => by
    simp only [V.deepBy, Option.map_eq_some_iff] at h
    obtain ⟨us, hu, rfl⟩ := h
    have := deepBys_rel hI hS hrd hown hf cs us hu
    refine ⟨(fun h => by cases h), fun x r => ?_⟩
    simp only [Rep] at r ⊢
    obtain ⟨vs, e, c, rr⟩ := r
    exact ⟨vs, e, this.cellsAll c, this.reps rr⟩
  | .tup ts, u, h => by
    simp only [V.deepBy, Option.map_eq_some_iff] at h
    obtain ⟨us, hu, rfl⟩ := h
    have := deepBys_rel hI hS hrd hown hf ts us hu
    refine ⟨(fun h => by cases h), fun x r => ?_⟩
    simp only [Rep] at r ⊢
    obtain ⟨vs, e, rr⟩ := r
    exact ⟨vs, e, this.reps rr⟩
  | .slc xs, u, h => by
    simp only [V.deepBy, Option.map_eq_some_iff] at h
    obtain ⟨us, hu, rfl⟩ := h
    have := deepByss_rel hI hS hrd hown hf xs us hu
    refine ⟨fun _ => rfl, fun x r => ?_⟩
    simp only [Rep] at r ⊢
    obtain ⟨oa, c, e, hc, rr⟩ := r
    rw [this.len]
    refine ⟨oa, c, e, hc, ?_⟩
    rcases rr with rfl | ⟨r, o, sz, e, q⟩
    · exact .inl (List.eq_nil_of_length_eq_zero this.len)
    · exact .inr ⟨r, o, sz, e, this.rowsAt hS q⟩
  | .lst .., u, h => by simp only [V.deepBy, reduceCtorEq] at h
  | .ref b n, u, h => by
    simp only [V.deepBy] at h
    split at h <;> first | (cases h; done) | skip
    rename_i s xs hb
    split at h <;> first | (cases h; done) | skip
    rename_i hn
    simp only [Option.map_eq_some_iff] at h
    obtain ⟨us, hu, rfl⟩ := h
    have hd := hf xs us hu
    refine ⟨fun _ => rfl, fun x r => ?_⟩
    obtain ⟨l, hl, h1, h2, e, -, -, h3⟩ := hI.ref r (hrd _ _ hb) hn
    simp only [Rep]
    rw [hd.len]
    cases hown' : l.own with
    | none =>
      rw [hown'] at h3
      obtain ⟨rfl, oa, e2⟩ := h3
      exact ⟨oa, 0, e.trans e2, Nat.le_refl _, .inl (List.eq_nil_of_length_eq_zero hd.len)⟩
    | some g =>
      rw [hown'] at h3
      obtain ⟨cap, cur, e2, -, -, e4, -, -, hrow, -⟩ := h3
      rw [h1, ← hn] at e2 e4
      refine ⟨_, cap, e.trans e2, e4, .inr ⟨g, 0, s, rfl, ?_⟩⟩
      have := DRss.rowsOf (l := 0) (m := xs.length) (us := us) (by simpa using hd) hrow (hown b _ l g hb hl hown')
      simpa using this
  | .sub b n lo hi, u, h => by
    simp only [V.deepBy] at h
    split at h <;> first | (cases h; done) | skip
    rename_i s xs hb
    split at h <;> first | (cases h; done) | skip
    rename_i hn
    simp only [Option.map_eq_some_iff] at h
    obtain ⟨us, hu, rfl⟩ := h
    have hd := hf _ us hu
    refine ⟨fun _ => rfl, fun x r => ?_⟩
    simp only [Rep] at r ⊢
    obtain ⟨_, l, hl, hle, hx⟩ := r
    obtain ⟨h1, h2, h3⟩ := hI.row (hrd _ _ hb) hl
    obtain ⟨p1, p2, oa, c, e, hc, hoa⟩ := hx (by omega)
    have hlen : us.length = hi - lo := by rw [hd.len]; simp; omega
    rw [hlen]
    refine ⟨oa, c, e, hc, ?_⟩
    by_cases hlt : lo < hi
    · obtain ⟨g, hg, rfl⟩ := hoa hlt
      rw [hg] at h3
      obtain ⟨cap, cur, -, -, -, -, -, -, hrow, -⟩ := h3
      refine .inr ⟨g, lo * s, s, by rw [h2], ?_⟩
      exact DRss.rowsOf hd hrow (hown b _ l g hb hl hg)
    · exact .inl (List.eq_nil_of_length_eq_zero (by omega))
  | .ptr .., u, h => by simp only [V.deepBy, reduceCtorEq] at h
  | .dptr cs o, u, h => by
    simp only [V.deepBy, Option.map_eq_some_iff] at h
    obtain ⟨us, hu, rfl⟩ := h
    have := deepBys_rel hI hS hrd hown hf cs us hu
    refine ⟨fun _ => rfl, fun x r => ?_⟩
    simp only [Rep] at r ⊢
    obtain ⟨r, q, e, rr⟩ := r
    exact ⟨r, q, e, this.cellsAt hS rr⟩
  | .nils, u, h => by
    simp only [V.deepBy, Option.some.injEq] at h; subst h
    refine ⟨fun _ => rfl, fun x r => ?_⟩
    simp only [Rep] at r ⊢
    obtain ⟨oa, e⟩ := r
    exact ⟨oa, 0, e, Nat.le_refl _, .inl trivial⟩
  | .nilp, u, h => by simp only [V.deepBy, Option.some.injEq] at h; subst h; exact ⟨id, fun x r => by simpa only [Rep] using r⟩
  | .nilm, u, h => by simp only [V.deepBy, Option.some.injEq] at h; subst h; exact ⟨id, fun x r => by simpa only [Rep] using r⟩
  | .nili, u, h => by simp only [V.deepBy, Option.some.injEq] at h; subst h; exact ⟨id, fun x r => by simpa only [Rep] using r⟩
  | .und, u, h => by simp only [V.deepBy, reduceCtorEq] at h
  | .map .., u, h => by simp only [V.deepBy, reduceCtorEq] at h
  | .fn g a b, u, h => by
    simp only [V.deepBy] at h
    split at h <;> first | (cases h; done) | skip
    rename_i a' ha
    simp only [Option.map_eq_some_iff] at h
    obtain ⟨b', hb, rfl⟩ := h
    have h1 := deepBys_rel hI hS hrd hown hf a a' ha
    have h2 := deepBys_rel hI hS hrd hown hf b b' hb
    refine ⟨fun _ => rfl, fun x r => ?_⟩
    simp only [Rep] at r ⊢
    obtain ⟨vs, us, e, ra, rb⟩ := r
    exact ⟨vs, us, e, h1.reps ra, h2.reps rb⟩
theorem deepBys_rel {base : Nat} {w : World} {S : SSet} {G : Nat → Option Blk} {L : LMap} {S' : SSet} (hI : Inv base w S G L) (hS : ∀ r o, S r o → S' r o) {rd : Nat → Option Blk} (hrd : ∀ b k, rd b = some k → G b = some k) (hown : ∀ b k l g, rd b = some k → L b = some l → l.own = some g → ∀ o, S' g o) {f : List (List V) → Option (List (List V))} (hf : ∀ xs ys, f xs = some ys → DRss w S L S' xs ys) :
    ∀ (v u : List V), deepBys rd f v = some u → DRs w S L S' v u
  | [], u, h => by simp only [deepBys, Option.some.injEq] at h; subst h; rfl
  | v :: vs, u, h => by
    simp only [deepBys] at h
    split at h <;> first | (cases h; done) | skip
    rename_i x hx
    simp only [Option.map_eq_some_iff] at h
    obtain ⟨us, hu, rfl⟩ := h
    exact ⟨x, us, rfl, deepBy_rel hI hS hrd hown hf v x hx, deepBys_rel hI hS hrd hown hf vs us hu⟩
theorem deepByss_rel {base : Nat} {w : World} {S : SSet} {G : Nat → Option Blk} {L : LMap} {S' : SSet} (hI : Inv base w S G L) (hS : ∀ r o, S r o → S' r o) {rd : Nat → Option Blk} (hrd : ∀ b k, rd b = some k → G b = some k) (hown : ∀ b k l g, rd b = some k → L b = some l → l.own = some g → ∀ o, S' g o) {f : List (List V) → Option (List (List V))} (hf : ∀ xs ys, f xs = some ys → DRss w S L S' xs ys) :
    ∀ (v u : List (List V)), deepByss rd f v = some u → DRss w S L S' v u
  | [], u, h => by simp only [deepByss, Option.some.injEq] at h; subst h; rfl
  | v :: vs, u, h => by
    simp only [deepByss] at h
    split at h <;> first | (cases h; done) | skip
    rename_i x hx
    simp only [Option.map_eq_some_iff] at h
    obtain ⟨us, hu, rfl⟩ := h
    exact ⟨x, us, rfl, deepBys_rel hI hS hrd hown hf v x hx, deepByss_rel hI hS hrd hown hf vs us hu⟩
end
theorem deepCells_rel {base : Nat} {w : World} {S : SSet} {G : Nat → Option Blk} {L : LMap} {S' : SSet} (hI : Inv base w S G L) (hS : ∀ r o, S r o → S' r o) {rd : Nat → Option Blk} (hrd : ∀ b k, rd b = some k → G b = some k) (hown : ∀ b k l g, rd b = some k → L b = some l → l.own = some g → ∀ o, S' g o) :
    ∀ (n : Nat) (xs ys : List (List V)), deepCells rd n xs = some ys → DRss w S L S' xs ys
  | 0, xs, ys, h => by simp only [deepCells, reduceCtorEq] at h
  | n + 1, xs, ys, h => deepByss_rel hI hS hrd hown (deepCells_rel hI hS hrd hown n) xs ys h
theorem deep_rel {base : Nat} {w : World} {S : SSet} {G : Nat → Option Blk} {L : LMap} {S' : SSet} (hI : Inv base w S G L) (hS : ∀ r o, S r o → S' r o) {rd : Nat → Option Blk} (hrd : ∀ b k, rd b = some k → G b = some k) (hown : ∀ b k l g, rd b = some k → L b = some l → l.own = some g → ∀ o, S' g o) {v u : V} (h : toPlain rd v = some u) {x : Value} (hx : Rep w S L v x) : Rep w S' noL u x := by
  unfold toPlain at h
  split at h
  · rename_i hp
    simp only [Option.some.injEq] at h; subst h
    have := plain_rep (L' := noL) v x hp hx
    exact Rep.mono ⟨fun _ _ _ => rfl, hS, LExt.refl _⟩ v x this
  · exact (deepBy_rel hI hS hrd hown (deepCells_rel hI hS hrd hown 20) v u h).2 x hx
theorem toPlains_rel {base : Nat} {w : World} {S : SSet} {G : Nat → Option Blk} {L : LMap} {S' : SSet} (hI : Inv base w S G L) (hS : ∀ r o, S r o → S' r o) {rd : Nat → Option Blk} (hrd : ∀ b k, rd b = some k → G b = some k) (hown : ∀ b k l g, rd b = some k → L b = some l → l.own = some g → ∀ o, S' g o) :
    ∀ {vs us : List V} {xs : List Value}, toPlains rd vs = some us → Reps w S L vs xs → Reps w S' noL us xs
  | [], us, xs, h, hx => by simp only [toPlains, Option.some.injEq] at h; subst h; simpa only [Reps] using hx
  | v :: vs, us, xs, h, hx => by
    simp only [toPlains] at h
    split at h <;> first | (cases h; done) | skip
    rename_i u hu
    simp only [Option.map_eq_some_iff] at h
    obtain ⟨us', hus, rfl⟩ := h
    simp only [Reps] at hx ⊢
    obtain ⟨y, ys, rfl, hy, hys⟩ := hx
    exact ⟨y, ys, rfl, deep_rel hI hS hrd hown hu hy, toPlains_rel hI hS hrd hown hus hys⟩
theorem toPlains_plain {rd : Nat → Option Blk} : ∀ {vs us : List V}, plains vs = true → toPlains rd vs = some us → us = vs
  | [], us, _, h => by simp only [toPlains, Option.some.injEq] at h; exact h.symm
  | v :: vs, us, hp, h => by
    simp only [plains, Bool.and_eq_true] at hp
    simp only [toPlains, toPlain, hp.1, if_true, Option.map_eq_some_iff] at h
    obtain ⟨us', hus, rfl⟩ := h
    rw [toPlains_plain hp.2 hus]
end Go.Ev
namespace Go.Ev
variable [Consts]
set_option linter.unusedSectionVars false
open Go.RowKit
set_option linter.unusedSimpArgs false
set_option linter.unusedVariables false
/-- Results of a pure call: a whole row that nobody else knows of, or contents. 'T': the blocks that are taken. -/
def Exps (B : Nat) (w : World) (S : SSet) : List V → List Value → (Nat → Prop) → Prop
  | [], xs, _ => xs = []
  | v :: vs, xs, T => match v with
    | .lst sz ys => ∃ l rest, xs = l.v :: rest ∧ l.v.oneCell' = true ∧ l.n = ys.length ∧ BlkRep B w S noL l (.arr sz ys) ∧ (∀ g, l.own = some g → ¬ T g) ∧ Exps B w S vs rest (fun g => T g ∨ l.own = some g)
    | v => ∃ x rest, xs = x :: rest ∧ Rep w S noL v x ∧ Exps B w S vs rest T
def ExpRep (B : Nat) (w : World) (S : SSet) (r : V) (x : Value) : Prop :=
  match r with
  | .lst sz ys => Exps B w S [.lst sz ys] [x] (fun g => g < B)
  | .tup vs => ∃ xs, x = .tuple xs ∧ Exps B w S vs xs.toList (fun g => g < B)
  | v => Rep w S noL v x
theorem Exps.mono {B : Nat} {w : World} {S S' : SSet} (h : Keeps w S noL w S' noL) (hS : ∀ g o, B ≤ g → S' g o → S g o) : ∀ {vs : List V} {xs : List Value} {T T' : Nat → Prop}, (∀ g, T' g → T g) → Exps B w S vs xs T → Exps B w S' vs xs T'
  | [], xs, T, T', _, h' => h'
  | v :: vs, xs, T, T', hT, h' => by
    cases v
    case lst sz ys =>
      obtain ⟨l, rest, e, h1, h2, h3, h4, h5⟩ := h'
      refine ⟨l, rest, e, h1, h2, h3.mono h (fun _ _ => rfl) (fun g o hg s => ?_), fun g hg => fun t => h4 g hg (hT g t), h5.mono h hS (fun g => Or.imp (hT g) id)⟩
      have hlt := h3.lt hg
      have hs := hS g o hlt.1 s
      simp only [BlkRep, hg] at h3
      obtain ⟨-, -, cap, cur, -, -, -, -, -, -, -, q⟩ := h3
      exact q o hs
    all_goals
      obtain ⟨x, rest, e, h1, h2⟩ := h'
      exact ⟨x, rest, e, Rep.mono h _ _ h1, h2.mono h hS hT⟩
/-- Results that lead nowhere do not hang on what is stable. -/
theorem Exps.fresh {B : Nat} {w : World} {S S' : SSet} (hS : ∀ g o, B ≤ g → ¬ S' g o) : ∀ {vs : List V} {xs : List Value} {T : Nat → Prop}, (∀ v ∈ vs, (match v with | .lst _ ys => flatss ys | v => v.flat) = true) → Exps B w S vs xs T → Exps B w S' vs xs T
  | [], xs, T, _, h' => h'
  | v :: vs, xs, T, hf, h' => by
    have hv := hf v (by simp)
    have hvs := fun u hu => hf u (List.mem_cons_of_mem v hu)
    cases v
    case lst sz ys =>
      obtain ⟨l, rest, e, h1, h2, h3, h4, h5⟩ := h'
      refine ⟨l, rest, e, h1, h2, ?_, h4, h5.fresh hS hvs⟩
      obtain ⟨q1, q2, q3⟩ := h3
      refine ⟨q1, q2, ?_⟩
      cases hown : l.own with
      | none => simpa only [hown] using q3
      | some g =>
        simp only [hown] at q3
        obtain ⟨cap, cur, e1, e2, e3, e4, e5, e6, e7, e8⟩ := q3
        refine ⟨cap, cur, e1, e2, e3, e4, e5, e6, fun i c hc => ⟨(e7 i c hc).1, fun j v hv' => ?_⟩, fun o => hS g o e2⟩
        obtain ⟨p1, y, p2, p3⟩ := (e7 i c hc).2 j v hv'
        exact ⟨p1, y, p2, flat_rep v y (flats_mem (flatss_mem hv c (List.mem_of_getElem? hc)) v (List.mem_of_getElem? hv')) p3⟩
    all_goals
      obtain ⟨x, rest, e, h1, h2⟩ := h'
      exact ⟨x, rest, e, flat_rep _ _ hv h1, h2.fresh hS hvs⟩
theorem applyG_cons (G : Nat → Option Blk) (nb : Nat) (k : Blk) (ks : List Blk) : applyG (upd G nb k) (nb + 1) (.news ks) = applyG G nb (.news (k :: ks)) := by
  funext b
  simp only [applyG, upd]
  by_cases h : nb + 1 ≤ b
  · have hne : b ≠ nb := by omega
    have hle : nb ≤ b := by omega
    simp only [if_pos h, if_neg hne, if_pos hle]
    rw [show b - nb = (b - (nb + 1)) + 1 by omega, List.getElem?_cons_succ]
  · rw [if_neg h]
    by_cases hb : b = nb
    · subst hb; simp
    · rw [if_neg hb, if_neg (by omega)]
theorem applyG_nil (G : Nat → Option Blk) (nb : Nat) : applyG G nb (.news []) = G := by
  funext b
  simp [applyG]
/-- .. and come into the store. -/
theorem imps_rel {base B : Nat} {w : World} {S : SSet} (hB : base ≤ B) : ∀ {vs : List V} {xs : List Value} {T : Nat → Prop} {G : Nat → Option Blk} {L : LMap} {nb : Nat}, Inv base w S G L → (∀ j, j < (imps nb vs).2.length → G (nb + j) = none) → (∀ b l g, L b = some l → l.own = some g → T g) → Exps B w S vs xs T →
    ∃ L', Inv base w S (applyG G nb (.news (imps nb vs).2)) L' ∧ Reps w S L' (imps nb vs).1 xs ∧ Step base w S L w S L'
  | [], xs, T, G, L, nb, hI, _, _, h => by
    simp only [imps, applyG_nil]
    exact ⟨L, hI, by simpa only [Reps, Exps] using h, Step.refl ..⟩
  | v :: vs, xs, T, G, L, nb, hI, hnb, hT, h => by
    have other : (∀ sz ys, v ≠ .lst sz ys) → imps nb (v :: vs) = (v :: (imps nb vs).1, (imps nb vs).2) := by
      intro hne
      cases v <;> first | rfl | exact absurd rfl (hne _ _)
    by_cases hl : ∃ sz ys, v = .lst sz ys
    · obtain ⟨sz, ys, rfl⟩ := hl
      obtain ⟨l, rest, rfl, h1, h2, h3, h4, h5⟩ := h
      have hnb0 : G nb = none := by simpa using hnb 0 (by simp [imps])
      have hup := hI.upd (b := nb) (l' := l) (k' := .arr sz ys) (w' := w) (fun m hm => by rw [hI.noLoc hnb0] at hm; cases hm) (fun _ _ _ => rfl) (fun c m g _ hm hg => ⟨rfl, fun e => h4 g e (hT c m g hm hg)⟩) (Below.refl _ _) (fun K => by
        have hk : Keeps w S noL w S (upd L nb l) := ⟨fun _ _ _ => rfl, fun _ _ s => s, LExt.empty _⟩
        have h3' : BlkRep base w S noL l (.arr sz ys) := by
          obtain ⟨q1, q2, q3⟩ := h3
          refine ⟨q1, q2, ?_⟩
          cases hown : l.own with
          | none => simpa only [hown] using q3
          | some g =>
            simp only [hown] at q3
            obtain ⟨cap, cur, e1, e2, e3⟩ := q3
            exact ⟨cap, cur, e1, Nat.le_trans hB e2, e3⟩
        refine h3'.mono hk (fun _ _ => rfl) (fun g o hg => ?_)
        simp only [BlkRep, hg] at h3'
        obtain ⟨-, -, cap, cur, -, -, -, -, -, -, -, q⟩ := h3'
        exact q o)
      obtain ⟨L', q1, q2, q3⟩ := imps_rel hB (vs := vs) (xs := rest) (T := fun g => T g ∨ l.own = some g) (nb := nb + 1) hup.1 (fun j hj => by rw [upd_ne _ _ (by omega), show nb + 1 + j = nb + (j + 1) by omega]; exact hnb (j + 1) (by simp only [imps, List.length_cons]; omega)) (fun b m g hm hg => by
        by_cases hb : b = nb
        · subst hb; rw [upd_same] at hm; cases hm; exact .inr hg
        · rw [upd_ne _ _ hb] at hm; exact .inl (hT b m g hm hg)) h5
      refine ⟨L', ?_, ?_, hup.2.trans q3⟩
      · simp only [imps]
        rw [← applyG_cons]; exact q1
      · simp only [imps, Reps]
        refine ⟨_, _, rfl, ?_, q2⟩
        refine Rep.mono q3.keeps _ _ ?_
        simp only [Rep]
        exact ⟨h1, l, upd_same .., by omega, fun _ => rfl⟩
    · have hne : ∀ sz ys, v ≠ .lst sz ys := fun sz ys e => hl ⟨sz, ys, e⟩
      rw [other hne]
      have h' : ∃ x rest, xs = x :: rest ∧ Rep w S noL v x ∧ Exps B w S vs rest T := by
        cases v <;> first | exact h | exact absurd rfl (hne _ _)
      obtain ⟨x, rest, rfl, h1, h2⟩ := h'
      obtain ⟨L', q1, q2, q3⟩ := imps_rel hB hI (fun j hj => hnb j (by rw [other hne]; exact hj)) hT h2
      refine ⟨L', q1, ?_, q3⟩
      simp only [Reps]
      exact ⟨_, _, rfl, Rep.mono ⟨fun _ _ _ => rfl, fun _ _ s => s, LExt.empty _⟩ _ _ h1, q2⟩
theorem imp_rel {base B : Nat} {w : World} {S : SSet} (hB : base ≤ B) {G : Nat → Option Blk} {L : LMap} {nb : Nat} {r : V} (hI : Inv base w S G L) (hnb : ∀ j, j < (imp nb r).2.length → G (nb + j) = none) (hT : ∀ b l g, L b = some l → l.own = some g → g < B) {x : Value} (h : ExpRep B w S r x) :
    ∃ L', Inv base w S (applyG G nb (.news (imp nb r).2)) L' ∧ Rep w S L' (imp nb r).1 x ∧ Step base w S L w S L' := by
  have plainCase : (imp nb r) = (r, []) → Rep w S noL r x → ∃ L', Inv base w S (applyG G nb (.news (imp nb r).2)) L' ∧ Rep w S L' (imp nb r).1 x ∧ Step base w S L w S L' := by
    intro e hr
    rw [e]
    exact ⟨L, by rw [applyG_nil]; exact hI, Rep.mono ⟨fun _ _ _ => rfl, fun _ _ s => s, LExt.empty _⟩ _ _ hr, Step.refl ..⟩
  cases r
  case lst sz ys =>
    obtain ⟨L', q1, q2, q3⟩ := imps_rel hB hI (by simpa [imps, imp] using hnb) hT h
    simp only [imps, Reps] at q1 q2
    obtain ⟨y, ys', e, q2, -⟩ := q2
    cases e
    exact ⟨L', q1, q2, q3⟩
  case tup vs =>
    obtain ⟨xs, rfl, h⟩ := h
    obtain ⟨L', q1, q2, q3⟩ := imps_rel hB hI (by simpa [imp] using hnb) hT h
    exact ⟨L', q1, by simp only [imp, Rep]; exact ⟨xs, rfl, q2⟩, q3⟩
  all_goals exact plainCase rfl h
end Go.Ev
namespace Go.Ev
variable [Consts]
set_option linter.unusedSectionVars false
open Go.RowKit
set_option linter.unusedSimpArgs false
set_option linter.unusedVariables false
/-- A function that the model enters. -/
def FuncOk (P : Program) (f : FuncId) : Prop := ∃ fn, P.funcs[f]? = some fn ∧ fn.body.isSome = true ∧ fn.name ≠ "runtime.NumGoroutine"
/-- A call comes to an ending: of Go code, or of a function that the model gives. -/
def CallOk (P : Program) (f : FuncId) (vals : Array Value) (w : World) (R : Value → World → Prop) : Prop :=
  (FuncOk P f ∧ Calls P f vals w fun e w' => ∃ x, e = .returned x ∧ R x w') ∨ ∃ x w', (callFunc f vals).run P w = .ok (.value x) w' ∧ R x w'
/-- Pure calls do what the reader says. -/
def CfSound (P : Program) (cf : FuncId → List V → Option V) : Prop :=
  ∀ f us r, cf f us = some r → ∀ (w : World) (S : SSet) (vals : List Value), Consts.om w → Consts.n0 ≤ w.heap.size → (∀ r o, S r o → r < w.heap.size) → Reps w S noL us vals →
    CallOk P f vals.toArray w fun x w' => ∃ S', Below w.heap.size w w' ∧ (∀ r o, S r o → S' r o) ∧ (∀ r o, S' r o → S r o ∨ w.heap.size ≤ r) ∧ (∀ r o, S' r o → r < w'.heap.size) ∧ ExpRep w.heap.size w' S' r x
/-- Calls on the store do what the reader says. -/
def CsSound (P : Program) (cs : CallS) : Prop :=
  ∀ f vs σ r σ', cs f vs σ = some (r, σ') → ∀ (base : Nat) (w : World) (S : SSet) (L : LMap) (vals : List Value), Inv base w S σ.rd L → Reps w S L vs vals →
    CallOk P f vals.toArray w fun x w' => ∃ S' L', Inv base w' S' σ'.rd L' ∧ Rep w' S' L' r x ∧ Step base w S L w' S' L'
section
variable {P : Program} {o : Oper} {a : Act} {base : Nat} {w : World} {S : SSet} {L : LMap} {G : Nat → Option Blk}
theorem call_wp {fx : Operand} {as : Array Operand} {ts : Array TypeId} {f : FuncId} {fst cap : Array Value} {R : Value → World → Prop} (ho : o.op = .call { callee := .value fx, args := as, argTypes := ts }) (hf : a.eval fx = .func (.func f) fst cap)
    (h : CallOk P f (fst ++ as.map a.eval ++ cap) w R) (next : Act → World → Prop) (Q : Exit → Act → World → Prop) (hn : ∀ x w', R x w' → next (a.put o.dst x) w') : o.wp P a w next Q := by
  have e : (execOp a.eval o).run P w = (callFunc f (fst ++ as.map a.eval ++ cap)).run P w := by
    simp [execOp, ho, resolve, hf, Deferred.ofValue, invoke]
  unfold Oper.wp
  rw [e]
  rcases h with ⟨⟨fn, h1, h2, h3⟩, h⟩ | ⟨x, w', h, hr⟩
  · have : (callFunc f (fst ++ as.map a.eval ++ cap)).run P w = .ok (.enter f (fst ++ as.map a.eval ++ cap)) w := by
      simp [callFunc, h1, h3]
      intro hb
      rw [hb] at h2
      cases h2
    rw [this]
    exact Calls.mono h fun e w' ⟨x, hx, hr⟩ => by subst hx; exact hn x w' hr
  · rw [h]
    exact hn x w' hr
/-- The blocks that the store owns, and what is stable. -/
def lentSet (S : SSet) (L : LMap) : SSet := fun r o => S r o ∨ ∃ b l, L b = some l ∧ l.own = some r
theorem e_callp {cf : FuncId → List V → Option V} (hcf : CfSound P cf) {rd : Nat → Option Blk} (hrd : ∀ b k, rd b = some k → G b = some k) {ev : MArg → Option V} (hρ : ArgRel w S L a.eval ev) {fx : Operand} {as : Array Operand} {ts : Array TypeId} {fm : MArg} {ams : List MArg} {f : FuncId} {fst cap vs us : List V} {r : V} {nb : Nat}
    (hI : Inv base w S G L) (hnb : ∀ j, j < (imp nb r).2.length → G (nb + j) = none) (ho : o.op = .call { callee := .value fx, args := as, argTypes := ts }) (hfm : arg fx = some fm) (hams : args as.toList = some ams) (hf : ev fm = some (.fn f fst cap)) (hvs : evs ev ams = some vs)
    (hus : toPlains rd (fst ++ vs ++ cap) = some us) (hr : cf f us = some r) (hfr : plains (fst ++ vs ++ cap) = true ∨ r.fresh = true) : OpGoal P o a base w S L (applyG G nb (.news (imp nb r).2)) (imp nb r).1 := by
  have hfv := hρ fx fm _ hfm hf
  simp only [Rep] at hfv
  obtain ⟨fs, cs, ef, hfs, hcs⟩ := hfv
  have hl := ArgRel.list hρ _ _ _ hams hvs
  have hall : Reps w S L (fst ++ vs ++ cap) (fs ++ as.map a.eval ++ cs).toList := by
    simp only [Array.toList_append, Array.toList_map]
    exact (hfs.append hl).append hcs
  have hown_lt : ∀ b l g, L b = some l → l.own = some g → g < w.heap.size := fun b l g h1 h2 => (hI.own_lt h1 h2).2.1
  -- what is stable while the callee runs
  have key : ∃ S0 : SSet, (∀ r o, S0 r o → r < w.heap.size) ∧ Reps w S0 noL us (fs ++ as.map a.eval ++ cs).toList ∧ ((∀ r o, S0 r o → S r o) ∨ r.fresh = true) := by
    rcases hfr with hp | hp
    · have e := toPlains_plain hp hus
      subst e
      exact ⟨S, hI.stable, plain_reps _ _ hp hall, .inl fun _ _ s => s⟩
    · refine ⟨lentSet S L, fun r o h => ?_, toPlains_rel hI (fun _ _ s => .inl s) hrd (fun b k l g _ h1 h2 o => .inr ⟨b, l, h1, h2⟩) hus hall, .inr hp⟩
      rcases h with h | ⟨b, l, h1, h2⟩
      · exact hI.stable r o h
      · exact hown_lt b l r h1 h2
  obtain ⟨S0, hS0, hreps, hcase⟩ := key
  have hc := hcf f us r hr w S0 _ hI.om (Nat.le_trans hI.n0_le hI.base_le) hS0 hreps
  rw [Array.toArray_toList] at hc
  intro next Q hn
  refine call_wp ho ef hc next Q fun x w' ⟨S', hb, h1, h2, h3, h4⟩ => ?_
  -- what is stable from now on
  have hSc : ∃ Sc : SSet, (∀ r o, S r o → Sc r o) ∧ (∀ r o, Sc r o → S r o ∨ w.heap.size ≤ r) ∧ (∀ r o, Sc r o → r < w'.heap.size) ∧ ExpRep w.heap.size w' Sc r x := by
    rcases hcase with hs | hfresh
    · refine ⟨fun r o => S r o ∨ (S' r o ∧ w.heap.size ≤ r), fun _ _ s => .inl s, fun r o s => s.imp id (·.2), fun r o s => ?_, ?_⟩
      · rcases s with s | s
        · exact Nat.lt_of_lt_of_le (hI.stable r o s) hb.size
        · exact h3 r o s.1
      · have k : Keeps w' S' noL w' (fun r o => S r o ∨ (S' r o ∧ w.heap.size ≤ r)) noL := ⟨fun _ _ _ => rfl, fun r o s => by
          rcases h2 r o s with q | q
          · exact .inl (hs r o q)
          · exact .inr ⟨s, q⟩, LExt.refl _⟩
        have hback : ∀ g o, w.heap.size ≤ g → (S g o ∨ (S' g o ∧ w.heap.size ≤ g)) → S' g o := fun g o hg s => by
          rcases s with s | s
          · have := hI.stable g o s; omega
          · exact s.1
        cases r
        case lst sz ys => exact Exps.mono k hback (fun _ t => t) h4
        case tup vs => obtain ⟨xs, e, h4⟩ := h4; exact ⟨xs, e, Exps.mono k hback (fun _ t => t) h4⟩
        all_goals exact Rep.mono k _ _ h4
    · refine ⟨S, fun _ _ s => s, fun _ _ s => .inl s, fun r o s => Nat.lt_of_lt_of_le (hI.stable r o s) hb.size, ?_⟩
      have hno : ∀ g o, w.heap.size ≤ g → ¬ S g o := fun g o hg s => by have := hI.stable g o s; omega
      cases r
      case lst sz ys => exact Exps.fresh hno (by simpa [V.fresh] using hfresh) h4
      case tup vs =>
        obtain ⟨xs, e, h4⟩ := h4
        refine ⟨xs, e, Exps.fresh hno (fun v hv => ?_) h4⟩
        simp only [V.fresh, List.all_eq_true] at hfresh
        have := hfresh v hv
        cases v <;> exact this
      all_goals exact flat_rep (w := w') (S := S') (L := noL) _ _ (by simpa [V.fresh] using hfresh) h4
  obtain ⟨Sc, s1, s2, s3, s4⟩ := hSc
  have K : Keeps w S L w' Sc L := ⟨fun r o s => hb.cell (p := ⟨r, o, none⟩) (hI.stable r o s), s1, LExt.refl L⟩
  have hI' : Inv base w' Sc G L := hI.mono K (hb.mono hI.base_le) (fun b l g hl hg => hb.block g (hown_lt b l g hl hg)) (fun b l g o hl hg s => by
    rcases s2 g o s with s | s
    · exact (hI.own_lt hl hg).2.2 o s
    · have := hown_lt b l g hl hg; omega) s3
  obtain ⟨L', q1, q2, q3⟩ := imp_rel hI.base_le hI' hnb hown_lt s4
  exact hn x w' Sc L' q1 q2 ((Step.mk (hb.mono hI.base_le) K s2).trans q3)
/-- A call on the store. -/
theorem e_calls {cs : CallS} (hcs : CsSound P cs) {ev : MArg → Option V} (hρ : ArgRel w S L a.eval ev) {fx : Operand} {as : Array Operand} {ts : Array TypeId} {fm : MArg} {ams : List MArg} {f : FuncId} {fst cap vs : List V} {r : V} {σ σ' : Store}
    (hI : Inv base w S σ.rd L) (ho : o.op = .call { callee := .value fx, args := as, argTypes := ts }) (hfm : arg fx = some fm) (hams : args as.toList = some ams) (hf : ev fm = some (.fn f fst cap)) (hvs : evs ev ams = some vs)
    (hr : cs f (fst ++ vs ++ cap) σ = some (r, σ')) : OpGoal P o a base w S L σ'.rd r := by
  have hfv := hρ fx fm _ hfm hf
  simp only [Rep] at hfv
  obtain ⟨fs, cs', ef, hfs, hcs'⟩ := hfv
  have hl := ArgRel.list hρ _ _ _ hams hvs
  have hall : Reps w S L (fst ++ vs ++ cap) (fs ++ as.map a.eval ++ cs').toList := by
    simp only [Array.toList_append, Array.toList_map]
    exact (hfs.append hl).append hcs'
  have hc := hcs f _ σ r σ' hr base w S L _ hI hall
  rw [Array.toArray_toList] at hc
  intro next Q hn
  exact call_wp ho ef hc next Q fun x w' ⟨S', L', h1, h2, h3⟩ => hn x w' S' L' h1 h2 h3
end
end Go.Ev
