/- Each operation: what the reader says of it holds in memory. Part ten: append, make. No condition. Each operation: what the reader says of it holds in memory. Part eleven: make, maps. No condition. Each operation: what the reader says of it holds in memory. Part twelve: maps that are written. No condition. -/
import Derived.Test.YtagceefccafgoaaGreatDoorT06
set_option linter.all false
namespace Go.Ev
variable [Consts]
set_option linter.unusedSectionVars false
open Go.RowKit
set_option linter.unusedSimpArgs false
set_option linter.unusedVariables false
section
variable {P : Program} {o : Oper} {a : Act} {base : Nat} {w : World} {S : SSet} {L : LMap} {G : Nat → Option Blk}
/-- What is appended. -/
theorem source (hI : Inv base w S G L) {rd : Nat → Option Blk} (hrd : ∀ b k, rd b = some k → G b = some k) {v : V} {x : Value} {ys : List (List V)} (hx : Rep w S L v x) (he : elems rd v = some ys) {sz : Nat} (hok : okSz sz ys = true) :
    (∀ d ∈ ys, d.length = sz) ∧ ys.flatten.all V.isCell = true ∧ (∀ k, (Builtin.lenOf x).run P (w.drewN k) = .ok ys.length (w.drewN k)) ∧
      ∃ news : Array Value, Reps w S L ys.flatten news.toList ∧ ∀ k, (Builtin.firstCells sz ys.length x).run P (w.drewN k) = .ok news (w.drewN k) := by
  by_cases hs : v.isStr = true
  · cases v <;> simp only [V.isStr, Bool.false_eq_true] at hs
    rename_i s
    simp only [elems, Option.some.injEq] at he
    simp only [Rep] at hx
    subst hx
    subst he
    have hlen : (s.data.toList.map fun b => [V.int .u8 b.toNat]).length = s.size := by simp
    have hfl : (s.data.toList.map fun b => [V.int .u8 b.toNat]).flatten = s.data.toList.map (fun b => V.int .u8 b.toNat) := by
      generalize s.data.toList = l
      induction l with
      | nil => rfl
      | cons b l ih => rw [List.map_cons, List.flatten_cons, ih]; rfl
    refine ⟨?_, ?_, fun k => ?_, (s.data.map fun b => Value.int .u8 b.toNat), ?_, fun k => ?_⟩
    · intro d hd
      obtain ⟨i, hi⟩ := List.getElem?_of_mem hd
      exact okSz_head hok (fun d hd d' hd' => by
        simp only [List.mem_map] at hd hd'
        obtain ⟨p, -, rfl⟩ := hd
        obtain ⟨q, -, rfl⟩ := hd'
        rfl) hi
    · rw [hfl, List.all_eq_true]
      intro v hv
      obtain ⟨b, -, rfl⟩ := List.mem_map.1 hv
      rfl
    · rw [hlen]; simp [Builtin.lenOf]
    · rw [hfl, Reps.iff]
      refine ⟨by simp, fun i v x hv hx => ?_⟩
      simp only [List.getElem?_map, Array.toList_map, Option.map_eq_some_iff] at hv hx
      obtain ⟨p, hp, rfl⟩ := hv
      obtain ⟨q, hq, rfl⟩ := hx
      rw [hp] at hq; cases hq
      simp [Rep]
    · rw [hlen]
      have : s.extract 0 s.size = s := by simp
      simp [Builtin.firstCells, this]
  · have hs' : v.isStr = false := by simpa using hs
    obtain ⟨oa, c, e, hc, hb⟩ := elems_behind hI hrd hx he hs'
    obtain ⟨h1, h2, zs, h3, h4, h5⟩ := hb.list hok
    subst e
    refine ⟨h1, h2, fun k => by simp [Builtin.lenOf], zs.toArray, by simpa using h4, fun k => ?_⟩
    by_cases hne : ys = []
    · subst hne
      obtain rfl : zs = [] := List.eq_nil_of_length_eq_zero (by simpa using h3)
      cases oa <;> simp [Builtin.firstCells, loadCells, loadCellsFrom]
    · obtain ⟨ad, rfl, h6⟩ := h5 hne
      exact run_firstCells_some (P := P) (w.drewN k) sz ys.length ad ys.length c zs h3 (fun j v hj => by simpa using h6 j v hj)
theorem reps_more {c : List V} {ys : List Value} (h : Reps w S L c ys) (n : Nat) (hn : ys.length ≤ n) : True := trivial
theorem app_bound {m bytes : Nat} (h : (m + 1000) * (bytes + 1) ≤ 1099511627776) : m ≤ 1099511627776 ∧ m * bytes ≤ 1099511627776 := by
  have h1 : (m + 1000) ≤ (m + 1000) * (bytes + 1) := Nat.le_mul_of_pos_right _ (by omega)
  have h2 : m * bytes ≤ (m + 1000) * (bytes + 1) := Nat.mul_le_mul (by omega) (by omega)
  omega
/-- append, as the program calls it. -/
theorem e_app {t u e : TypeId} {x y : Operand} {sz by' : Nat} {z : List V} {vs vx : V} {ys : List (List V)} {nb : Nat} (hI : Inv base w S G L) {rd : Nat → Option Blk} (hrd : ∀ b k, rd b = some k → G b = some k)
    (ho : o.op = .call { callee := .builtin .append, args := #[x, y], argTypes := #[t, u] }) (ht : P.underlying t = some (.slice e)) (hu : (∃ e', P.underlying u = some (.slice e')) ∨ P.underlying u = some .string)
    (hs : size? P e = some sz) (hby : bytes? P e = some by') (hz : zero? P e = some z) (h0 : 0 < sz) (hzl : z.length = sz) (hx : Rep w S L vs (a.eval x)) (hy : Rep w S L vx (a.eval y)) (hel : elems rd vx = some ys) (hok : okSz sz ys = true) :
    (vs = .nils → G nb = none → (ys.length + 1000) * (by' + 1) ≤ 1099511627776 → OpGoal P o a base w S L (upd G nb (.arr sz ys)) (.ref nb ys.length)) ∧
    (∀ b n xs, vs = .ref b n → rd b = some (.arr sz xs) → xs.length = n → (n + ys.length + 1000) * (by' + 1) ≤ 1099511627776 → OpGoal P o a base w S L (upd G b (.arr sz (xs ++ ys))) (.ref b (n + ys.length))) := by
  obtain ⟨i, zv, hi, hzv, hcs⟩ := zero?_some hz
  obtain ⟨y1, y2, y3, news, y4, y5⟩ := source (P := P) hI hrd hy hel hok
  obtain ⟨z1, z2⟩ := ofCells_rep (w := w) (S := S) (L := L) hcs
  have his : i.size = sz := by unfold size? at hs; rw [hi] at hs; simpa using hs
  have hib : i.bytes = by' := by unfold bytes? at hby; rw [hi] at hby; simpa using hby
  have hzsz : zv.cells.size = sz := by have := z2.len; simp at this; omega
  have hnl : news.size = ys.length * sz := by have := y4.len; rw [flatten_len y1] at this; simpa using this.symm
  have run : ∀ r w', (Builtin.append_ #[t, u] o.type #[a.eval x, a.eval y]).run P w = .ok r w' → (execOp a.eval o).run P w = .ok (.value r) w' := fun r w' h => by
    simp [execOp, ho, resolve, invoke, builtin, h]
  have len0 : (Builtin.lenOf (a.eval y)).run P w = .ok ys.length w := y3 0
  have len1 : (Builtin.firstCells sz ys.length (a.eval y)).run P w.drew = .ok news w.drew := y5 1
  have new0 : (Builtin.firstCells sz ys.length (a.eval y)).run P w = .ok news w := y5 0
  subst his
  -- growing out of cells that are known
  have grow : ∀ (oa : Option Addr) (n c : Nat) (xs : List (List V)) (olds : Array Value), a.eval x = .slice oa n c → xs.length = n → n ≤ c → c < n + ys.length → (n + ys.length + 1000) * (by' + 1) ≤ 1099511627776 →
      (Builtin.firstCells i.size n (.slice oa n c)).run P w.drew = .ok olds w.drew → (∀ d ∈ xs, d.length = i.size) → xs.flatten.all V.isCell = true → Reps w S L xs.flatten olds.toList →
      ∃ cap cur, xs.length + ys.length ≤ cap ∧ cap ≤ maxLen ∧ cur.size = cap * i.size ∧ Filled w S L i.size (xs ++ ys) cur ∧ (execOp a.eval o).run P w = .ok (.value (.slice (some ⟨w.heap.size, 0, none⟩) (n + ys.length) cap)) ((w.drewN 1).alloc (.cells cur e)) := by
    intro oa n c xs olds ex hxn hnc hcn hbd ho1 x1 x2 x3
    obtain ⟨b1, b2⟩ := app_bound hbd
    have hge := grownCap_ge w (n + ys.length) c e
    have hcm : grownCap w (n + ys.length) c e ≤ maxLen := grownCap_le_maxLen w _ _ _ (by unfold maxLen; omega)
    have ol : olds.size = n * i.size := by have := x3.len; rw [flatten_len x1, hxn] at this; simp at this; omega
    refine ⟨grownCap w (n + ys.length) c e, olds ++ news ++ Builtin.zeroCells zv.cells (grownCap w (n + ys.length) c e - (n + ys.length)), by omega, hcm, ?_, ?_, ?_⟩
    · simp only [Array.size_append, ol, hnl, size_zeroCells, hzsz, ← Nat.add_mul]
      congr 1; omega
    · refine filled_of (ys := olds.toList ++ news.toList) (by intro d hd; rcases List.mem_append.1 hd with h | h; exact x1 d h; exact y1 d h) (by rw [List.flatten_append, List.all_append, x2, y2]; rfl) (by rw [List.flatten_append]; exact x3.append y4) (fun j y hj => ?_)
      rw [← Array.getElem?_toList]
      simp only [Array.toList_append]
      rw [List.getElem?_append_left (List.getElem?_eq_some_iff.1 hj).1]
      exact hj
    · refine run _ _ ?_
      rw [ex]
      exact run_app_grow ht hu hi hzv len0 ho1 len1 hcn (by omega) (growslice_fits hcn (by rw [hib]; omega)) o.type
  have none_first : ∀ (oa : Option Addr) (c : Nat), (Builtin.firstCells i.size 0 (.slice oa 0 c)).run P w.drew = .ok #[] w.drew := fun oa c => by
    cases oa <;> simp [Builtin.firstCells, loadCells, loadCellsFrom]
  have stay : ∀ oa, a.eval x = .slice oa 0 0 → ys = [] → (execOp a.eval o).run P w = .ok (.value (.slice oa 0 0)) w := by
    intro oa ex hys
    subst hys
    have hn0 : news = #[] := by
      have : news.size = 0 := by simpa using hnl
      exact Array.eq_empty_of_size_eq_zero this
    subst hn0
    refine run _ _ ?_
    rw [ex]
    exact run_app_fit ht hu hi len0 new0 (Nat.le_refl _) o.type (fun ad _ => by simp [storeCells]) (fun _ => rfl)
  refine ⟨?_, ?_⟩
  · rintro rfl hnb hbd
    simp only [Rep] at hx
    obtain ⟨oa, ex⟩ := hx
    by_cases hys : ys = []
    · subst hys
      have h := hI.newEmpty hnb i.size e oa
      refine OpGoal.value (stay oa ex rfl) h ?_
      simp only [Rep]
      exact ⟨rfl, _, upd_same .., Nat.le_refl _, fun _ => rfl⟩
    · have hpos : 0 < ys.length := List.length_pos_iff.2 hys
      obtain ⟨cap, cur, q1, q2, q3, q4, q5⟩ := grow oa 0 0 [] #[] ex rfl (Nat.le_refl _) (by omega) (by simpa using hbd) (none_first oa 0) (by simp) (by simp) (by simp [Reps])
      obtain ⟨L', h, hr⟩ := row_new hI hnb (d := 1) (e := e) (xs := ys) rfl (by simpa using q4) (by simpa using q1) q2 q3
      refine OpGoal.value (by simpa using q5) h hr
  · rintro b n xs rfl hb hn hbd
    have hb' := hrd _ _ hb
    obtain ⟨l, hl, hln, hlz, ex, -, -, h3⟩ := hI.ref hx hb' hn
    have fin : ∀ (l' : Loc) (w' : World), l'.n = n + ys.length → Inv base w' S (upd G b (.arr i.size (xs ++ ys))) (upd L b l') ∧ Step base w S L w' S (upd L b l') → (execOp a.eval o).run P w = .ok (.value l'.v) w' → l'.v.oneCell' = true → OpGoal P o a base w S L (upd G b (.arr i.size (xs ++ ys))) (.ref b (n + ys.length)) := by
      intro l' w' e1 e2 e3 e4
      refine OpGoal.value e3 e2 ?_
      simp only [Rep]
      exact ⟨e4, l', upd_same .., by omega, fun _ => rfl⟩
    cases hown : l.own with
    | none =>
      rw [hown] at h3
      obtain ⟨rfl, oa, e2⟩ := h3
      simp only [List.length_nil] at hn
      subst hn
      rw [e2] at ex
      by_cases hys : ys = []
      · subst hys
        have h := hI.upd (b := b) (l' := l) (k' := .arr i.size []) (fun m hm => by rw [hl] at hm; cases hm; exact ⟨rfl, .inl rfl⟩) (fun _ _ _ => rfl) (fun c m g hc hm hg => ⟨rfl, by rw [hown]; simp⟩) (Below.refl _ _) (fun K => ⟨by rw [hln]; rfl, hlz, by rw [hown]; exact ⟨rfl, oa, e2⟩⟩)
        refine fin l w (by simpa using hln) (by simpa using h) (by rw [e2]; exact stay oa ex rfl) (by rw [e2]; rfl)
      · have hpos : 0 < ys.length := List.length_pos_iff.2 hys
        obtain ⟨cap, cur, q1, q2, q3, q4, q5⟩ := grow oa 0 0 [] #[] ex rfl (Nat.le_refl _) (by omega) (by simpa using hbd) (none_first oa 0) (by simp) (by simp) (by simp [Reps])
        have h := hI.moveArr hb' hl 1 (xs' := [] ++ ys) (cap := cap) (cur' := cur) (e := e) (by simpa using hpos) (by simpa using q1) q2 q3 q4
        exact fin _ _ (by simp) h (by simpa using q5) rfl
    | some g =>
      rw [hown] at h3
      obtain ⟨cap, cur, e2, e3, e4, e5, e6, e7, e8, e9⟩ := h3
      rw [e2, hln] at ex
      have hcm : xs.length * i.size ≤ cur.size := by rw [e7]; exact Nat.mul_le_mul_right _ (by omega)
      obtain ⟨x1, x2, x3⟩ := e8.reps e4 hcm
      by_cases hfit : n + ys.length ≤ cap
      · have hfc : n * i.size + news.toList.length ≤ cur.size := by
          simp only [Array.length_toList, hnl, e7, ← Nat.add_mul]
          exact Nat.mul_le_mul_right _ hfit
        have hst := run_storeCells_at P g (n * i.size) l.e news.toList 0 cur w e4 (by simpa using hfc) (reps_one y4 y2)
        rw [setRow_eq w g _ e4] at hst
        simp only [Nat.add_zero] at hst
        have h := hI.writeArr hb' hl hown e2 (xs' := xs ++ ys) (cur' := (cur.toList.take (n * i.size) ++ news.toList ++ cur.toList.drop (n * i.size + news.toList.length)).toArray) (by rcases Nat.eq_zero_or_pos ys.length with h | h; exact .inl (by rw [List.length_append]; omega); exact .inr (by rw [List.length_append]; omega)) (by simp; omega) e6 (by simp only [List.size_toArray, List.length_append, List.length_take, List.length_drop, Array.length_toList] at hfc ⊢; omega) (by
          refine filled_of (ys := cur.toList.take (n * i.size) ++ news.toList) (by intro d hd; rcases List.mem_append.1 hd with h | h; exact x1 d h; exact y1 d h) (by rw [List.flatten_append, List.all_append, x2, y2]; rfl) (by rw [List.flatten_append, ← hn]; exact x3.append y4) (fun j y hj => ?_)
          rw [List.getElem?_toArray, List.getElem?_append_left (List.getElem?_eq_some_iff.1 hj).1]
          exact hj)
        refine fin _ _ (by simp; omega) h ?_ rfl
        refine run _ _ ?_
        rw [ex]
        have := run_app_fit (P := P) ht hu hi (oa := some ⟨g, 0, none⟩) len0 new0 hfit o.type (w' := { w with heap := w.heap.setIfInBounds g (.cells (cur.toList.take (n * i.size) ++ news.toList ++ cur.toList.drop (n * i.size + news.toList.length)).toArray l.e (0, 0)) }) (fun ad had => by
          cases had
          rw [add_lit, Nat.zero_add]
          exact hst) (fun q => by cases q)
        rw [this]
        simp [hn]
      · obtain ⟨cap', cur', q1, q2, q3, q4, q5⟩ := grow (some ⟨g, 0, none⟩) n cap xs (cur.toList.take (xs.length * i.size)).toArray ex hn (by omega) (by omega) hbd (by
          have := run_firstCells_some (P := P) w.drew i.size n ⟨g, 0, none⟩ n cap (cur.toList.take (xs.length * i.size)) (by rw [List.length_take, hn]; rw [hn] at hcm; simp; omega) (fun j v hj => by
            rw [List.getElem?_take] at hj
            split at hj
            · rw [add_lit]
              have hj' : cur[j]? = some v := by simpa using hj
              show w.cell? _ = _
              unfold World.cell?
              simp [e4, hj']
            · cases hj)
          exact this) x1 x2 (by simpa using x3)
        have h := hI.moveArr hb' hl 1 (xs' := xs ++ ys) (cap := cap') (cur' := cur') (e := e) (by rw [List.length_append]; omega) (by simpa using q1) q2 q3 q4
        refine fin _ _ (by simp; omega) h ?_ rfl
        rw [q5]
        simp [hn]
end
end Go.Ev
namespace Go.Ev
variable [Consts]
set_option linter.unusedSectionVars false
open Go.RowKit
set_option linter.unusedSimpArgs false
set_option linter.unusedVariables false
section
variable {P : Program} {o : Oper} {a : Act} {base : Nat} {w : World} {S : SSet} {L : LMap} {G : Nat → Option Blk}
theorem e_mk {t e : TypeId} {x y : Operand} {sz by' nb : Nat} {z : List V} {k k' : IntKind} {l c : Int} (hI : Inv base w S G L) (hnb : G nb = none) (ho : o.op = .makeSlice t x y) (ht : P.underlying t = some (.slice e))
    (hs : size? P e = some sz) (hby : bytes? P e = some by') (hz : zero? P e = some z) (h0 : 0 < sz) (hx : Rep w S L (.int k l) (a.eval x)) (hy : Rep w S L (.int k' c) (a.eval y)) (hl : 0 ≤ l) (hlc : l ≤ c) (hb : c * (by' + 1) ≤ 1099511627776) (hzl : z.length = sz) :
    OpGoal P o a base w S L (upd G nb (.arr sz (List.replicate l.toNat z))) (.ref nb l.toNat) := by
  obtain ⟨i, zv, hi, hzv, hcs⟩ := zero?_some hz
  obtain ⟨z1, z2⟩ := ofCells_rep (w := w) (S := S) (L := L) hcs
  have his : i.size = sz := by unfold size? at hs; rw [hi] at hs; simpa using hs
  have hib : i.bytes = by' := by unfold bytes? at hby; rw [hi] at hby; simpa using hby
  simp only [Rep] at hx hy
  have hc0 : 0 ≤ c := by omega
  have hcb : (by' : Int) * c ≤ 1099511627776 ∧ c ≤ 1099511627776 := by
    have e1 : c * ((by' : Int) + 1) = (by' : Int) * c + c := by rw [Int.mul_add, Int.mul_one, Int.mul_comm]
    have e2 : 0 ≤ (by' : Int) * c := Int.mul_nonneg (by omega) hc0
    rw [e1] at hb
    omega
  have hr := run_make (P := P) w t e i zv ht hi hzv k k' l c hl hlc (by rw [hib]; omega) (by omega)
  subst his
  have hzs : zv.cells.size = i.size := by have := z2.len; simp at this; omega
  obtain ⟨m1, m2, m3⟩ := reps_many z2 z1 l.toNat hzl h0
  have hcl : l.toNat ≤ c.toNat := by omega
  obtain ⟨L', h, hrep⟩ := row_new hI hnb (d := 0) (e := e) (n := l.toNat) (cap := c.toNat) (xs := List.replicate l.toNat z) (ys := madeCells zv.cells (c.toNat * i.size)) (by simp) (filled_of m2 m3 m1 (fun j y hj => by
    have hjl : j < l.toNat * i.size := by have := (List.getElem?_eq_some_iff.1 hj).1; simpa using this
    have hjc : j < c.toNat * i.size := Nat.lt_of_lt_of_le hjl (Nat.mul_le_mul_right _ hcl)
    simp [hjl] at hj
    simp [madeCells, hjc, hj])) hcl (by unfold maxLen; omega) (size_madeCells _ _)
  exact OpGoal.value (w' := w.alloc (.cells (madeCells zv.cells (c.toNat * i.size)) e)) (by simp [execOp, ho, hx, hy, hr]) h hrep
/-! ### Maps -/
/-- A live map. -/
theorem Inv.mapAt (hI : Inv base w S G L) {b : Nat} {x : Value} (hx : Rep w S L (.map b) x) {es : List (V × V)} (hb : G b = some (.mp es)) :
    ∃ l g ms, L b = some l ∧ l.own = some g ∧ x = .map (some g) ∧ w.heap[g]? = some (.map ms ms.size) ∧ Entries w S L es ms.toList 0 := by
  simp only [Rep] at hx
  obtain ⟨_, l, hl, hx⟩ := hx
  obtain ⟨l', hl', h⟩ := hI.blk b _ hb
  rw [hl] at hl'; cases hl'
  obtain ⟨h0, g, ms, h1, h2, -, h4, h5, -⟩ := h
  exact ⟨l, g, ms, hl, h1, (hx h0).trans h2, h4, h5⟩
theorem run_getObj {g : Nat} {ms : Array MapEntry} {c : Nat} (h : w.heap[g]? = some (.map ms c)) : (getObj g).run P w = .ok (.map ms c) w := by simp only [getObj, Sem.run, h]
theorem run_setObj {g : Nat} {ms : Array MapEntry} {c : Nat} (ob : Obj) (h : w.heap[g]? = some (.map ms c)) : (setObj g ob).run P w = .ok () { w with heap := w.heap.setIfInBounds g ob } := by simp only [setObj, Sem.run, h]
theorem e_mmap {t k e : TypeId} {nb : Nat} (hI : Inv base w S G L) (hnb : G nb = none) (ho : o.op = .makeMap t none) (ht : P.underlying t = some (.map k e)) : OpGoal P o a base w S L (upd G nb (.mp [])) (.map nb) := by
  have h := hI.newMap hnb
  refine OpGoal.value (w' := w.alloc (.map #[] 0)) (x := .map (some w.heap.size)) ?_ h ?_
  · simp [execOp, ho, Instr.makeMap]
  · simp only [Rep]
    exact ⟨rfl, _, upd_same .., fun _ => rfl⟩
theorem run_lookup {t kt e : TypeId} {x y : Value} {ok : Bool} {ms : Array MapEntry} {fr : Option (Nat × Value)} {zv : Value} (ht : P.underlying t = some (.map kt e)) (hm : (x = .map none ∧ ms = #[]) ∨ ∃ g c, x = .map (some g) ∧ w.heap[g]? = some (.map ms c))
    (hck : (Instr.checkKey ms.isEmpty 10000 kt y).run P w = .ok () w) (hfk : (Instr.findKey kt y ms.toList).run P w = .ok fr w) (hz : (zeroValue e).run P w = .ok zv w) :
    (Instr.lookup t x y ok).run P w = .ok (if ok then .tuple #[(fr.map (·.2)).getD zv, .bool fr.isSome] else (fr.map (·.2)).getD zv) w := by
  unfold Instr.lookup
  rw [Sem.run_bind, run_underlying ht]
  rcases hm with ⟨rfl, rfl⟩ | ⟨g, c, rfl, hg⟩
  · simp only [Result.andThen_ok, Sem.run_bind, Sem.run_pure, hck, hfk]
    cases fr with
    | none => simp only [Sem.run_bind, hz, Result.andThen_ok, Sem.run_pure]; cases ok <;> rfl
    | some p => cases ok <;> rfl
  · simp only [Result.andThen_ok, Sem.run_bind, run_getObj hg, Sem.run_pure, hck, hfk]
    cases fr with
    | none => simp only [Sem.run_bind, hz, Result.andThen_ok, Sem.run_pure]; cases ok <;> rfl
    | some p => cases ok <;> rfl
/-- The entries that a map value leads to. -/
theorem entries_at (hI : Inv base w S G L) {rd : Nat → Option Blk} (hrd : ∀ b k, rd b = some k → G b = some k) {vm : V} {x : Value} (hx : Rep w S L vm x) {es : List (V × V)} (he : entries rd vm = some es) :
    ∃ ms : Array MapEntry, ((x = .map none ∧ ms = #[]) ∨ ∃ g c, x = .map (some g) ∧ w.heap[g]? = some (.map ms c)) ∧ Entries w S L es ms.toList 0 := by
  cases vm <;> simp only [entries, reduceCtorEq] at he
  case nilm =>
    simp only [Option.some.injEq] at he; subst he
    simp only [Rep] at hx
    exact ⟨#[], .inl ⟨hx, rfl⟩, rfl⟩
  case map b =>
    split at he <;> simp only [Option.some.injEq, reduceCtorEq] at he
    rename_i es' hb
    subst he
    obtain ⟨l, g, ms, hl, ho', e1, hh, hE⟩ := hI.mapAt hx (hrd _ _ hb)
    exact ⟨ms, .inr ⟨g, _, e1, hh⟩, hE⟩
theorem q_mlook {t kt e : TypeId} {x y : Operand} {ok : Bool} {kk : Nat} {z : V} {vm k : V} {es : List (V × V)} {r : Option (Nat × V)} {rd : Nat → Option Blk} (hrd : ∀ b k, rd b = some k → G b = some k) (hI : Inv base w S G L)
    (ho : o.op = .lookup t x y ok) (ht : P.underlying t = some (.map kt e)) (hk : keyT P kt = some kk) (hz : zeroV? P e = some z) (hx : Rep w S L vm (a.eval x)) (hy : Rep w S L k (a.eval y)) (hkk : keyK kk k = true)
    (he : entries rd vm = some es) (hf : findK k es 0 = some r) :
    OpGoal P o a base w S L G (if ok then .tup [(r.map (·.2)).getD z, .bool r.isSome] else (r.map (·.2)).getD z) := by
  obtain ⟨i, zv, hi, hzv, hcs⟩ := zeroV?_some hz
  have hzr := ofValue_rep (w := w) (S := S) (L := L) hcs
  have hK := keyT_some hk
  obtain ⟨ms, hm, hE⟩ := entries_at hI hrd hx he
  obtain ⟨d, hd, hfind⟩ := findNow_of hK hkk hy es ms.toList 0 r hE hf
  have run : ∀ (fr : Option (Nat × Value)), Instr.findNow d (a.eval y) ms.toList 0 = some fr →
      (execOp a.eval o).run P w = .ok (.value (if ok then .tuple #[(fr.map (·.2)).getD zv, .bool fr.isSome] else (fr.map (·.2)).getD zv)) w := by
    intro fr hfr
    have hl := run_lookup (P := P) (ok := ok) ht hm (run_checkKey (P := P) hK hkk hy ms.isEmpty) (run_findKey (P := P) (w := w) hd hfr) (run_zeroValue hi hzv)
    simp [execOp, ho, hl]
  have fin : ∀ (fr : Option (Nat × Value)), Instr.findNow d (a.eval y) ms.toList 0 = some fr → Rep w S L ((r.map (·.2)).getD z) ((fr.map (·.2)).getD zv) → r.isSome = fr.isSome →
      OpGoal P o a base w S L G (if ok then .tup [(r.map (·.2)).getD z, .bool r.isSome] else (r.map (·.2)).getD z) := by
    intro fr hfr hr hs
    refine OpGoal.same hI (run fr hfr) ?_
    cases ok
    · exact hr
    · simp only [if_true, Rep]
      exact ⟨_, rfl, by simp only [Reps]; exact ⟨_, _, rfl, hr, _, _, rfl, by simp [Rep, hs], rfl⟩⟩
  cases r with
  | none => exact fin none hfind hzr rfl
  | some p =>
    obtain ⟨j, v⟩ := p
    obtain ⟨m, h1, -, -, h4, -⟩ := hfind
    exact fin _ h1 h4 rfl
/-- Entries one by one. -/
theorem Entries.len : ∀ {es : List (V × V)} {ms : List MapEntry} {i : Nat}, Entries w S L es ms i → es.length = ms.length
  | [], ms, i, h => by simp only [Entries] at h; subst h; rfl
  | e :: es, ms, i, h => by obtain ⟨m, rest, rfl, -, -, -, -, h5⟩ := h; simp [Entries.len h5]
theorem Entries.push : ∀ {es : List (V × V)} {ms : List MapEntry} {i : Nat} {k v : V} {m : MapEntry}, Entries w S L es ms i → isKey k = true → Rep w S L k m.key → Rep w S L v m.val → m.born = i + es.length → Entries w S L (es ++ [(k, v)]) (ms ++ [m]) i
  | [], ms, i, k, v, m, h, hk, h1, h2, h3 => by
    simp only [Entries] at h; subst h
    exact ⟨m, [], rfl, hk, h1, h2, by simpa using h3, rfl⟩
  | e :: es, ms, i, k, v, m, h, hk, h1, h2, h3 => by
    obtain ⟨m', rest, rfl, q1, q2, q3, q4, q5⟩ := h
    exact ⟨m', rest ++ [m], rfl, q1, q2, q3, q4, Entries.push q5 hk h1 h2 (by rw [h3]; simp; omega)⟩
theorem Entries.set : ∀ {es : List (V × V)} {ms : List MapEntry} {i j : Nat} {k v : V} {m : MapEntry}, Entries w S L es ms i → isKey k = true → Rep w S L k m.key → Rep w S L v m.val → m.born = i + j → Entries w S L (es.set j (k, v)) (ms.set j m) i
  | [], ms, i, j, k, v, m, h, hk, h1, h2, h3 => by
    simp only [Entries] at h; subst h
    simp [Entries]
  | e :: es, ms, i, j, k, v, m, h, hk, h1, h2, h3 => by
    obtain ⟨m', rest, rfl, q1, q2, q3, q4, q5⟩ := h
    cases j with
    | zero => exact ⟨m, rest, rfl, hk, h1, h2, by simpa using h3, q5⟩
    | succ j => exact ⟨m', rest.set j m, rfl, q1, q2, q3, q4, Entries.set q5 hk h1 h2 (by omega)⟩
theorem Entries.at : ∀ {es : List (V × V)} {ms : List MapEntry} {i j : Nat} {e : V × V}, Entries w S L es ms i → es[j]? = some e → ∃ m, ms[j]? = some m ∧ isKey e.1 = true ∧ Rep w S L e.1 m.key ∧ Rep w S L e.2 m.val ∧ m.born = i + j
  | [], ms, i, j, e, h, he => by simp at he
  | e' :: es, ms, i, j, e, h, he => by
    obtain ⟨m', rest, rfl, q1, q2, q3, q4, q5⟩ := h
    cases j with
    | zero => simp at he; subst he; exact ⟨m', rfl, q1, q2, q3, q4⟩
    | succ j =>
      obtain ⟨m, h1, h2, h3, h4, h5⟩ := Entries.at q5 (by simpa using he)
      exact ⟨m, by simpa using h1, h2, h3, h4, by omega⟩
theorem keyK_isKey {kk : Nat} {k : V} (h : keyK kk k = true) : isKey k = true := by cases k <;> simp_all [keyK, isKey]
end
end Go.Ev
namespace Go.Ev
variable [Consts]
set_option linter.unusedSectionVars false
open Go.RowKit
set_option linter.unusedSimpArgs false
set_option linter.unusedVariables false
section
variable {P : Program} {o : Oper} {a : Act} {base : Nat} {w : World} {S : SSet} {L : LMap} {G : Nat → Option Blk}
theorem sameBits_key {kk : Nat} {k : V} {x y : Value} (hk : keyK kk k = true) (hx : Rep w S L k x) (hy : Rep w S L k y) : x = y ∧ Instr.sameBits 10000 x y = true := by
  cases k <;> simp only [keyK, Bool.false_eq_true] at hk <;> simp only [Rep] at hx hy <;> subst hx <;> subst hy <;> refine ⟨rfl, ?_⟩
  · simp [Instr.sameBits]
  · simp [Instr.sameBits]
  · rename_i s
    have : (s == s) = true := by
      obtain ⟨d⟩ := s
      exact beq_self_eq_true d
    simpa [Instr.sameBits] using this
theorem modify_toList (ms : Array MapEntry) (i : Nat) (f : MapEntry → MapEntry) {m : MapEntry} (h : ms[i]? = some m) : (ms.modify i f).toList = ms.toList.set i (f m) := by
  apply List.ext_getElem?
  intro j
  have hlt : i < ms.size := (Array.getElem?_eq_some_iff.1 h).1
  rw [Array.getElem?_toList, Array.getElem?_modify, List.getElem?_set]
  by_cases hij : i = j
  · subst hij
    have : ms[i] = m := by rw [Array.getElem?_eq_getElem hlt] at h; exact Option.some.inj h
    simp [h, hlt, this]
  · simp [hij]
/-- A map's block is written. -/
theorem map_written (hI : Inv base w S G L) {b : Nat} {es es' : List (V × V)} (hb : G b = some (.mp es)) {l : Loc} (hl : L b = some l) {g : Nat} (hg : l.own = some g) {ms' : Array MapEntry} {c : Nat} (hc : c = ms'.size) (hE : Entries w S L es' ms'.toList 0) {v : V} {x : Value}
    (hrun : (execOp a.eval o).run P w = .ok (.value x) { w with heap := w.heap.setIfInBounds g (.map ms' c) }) (hx : Rep w S L v x) : OpGoal P o a base w S L (upd G b (.mp es')) v := by
  subst hc
  have h := hI.writeMap hb hl hg hE
  exact OpGoal.value hrun h (Rep.mono h.2.keeps _ _ hx)
theorem map_written' (hI : Inv base w S G L) {b : Nat} {es es' : List (V × V)} (hb : G b = some (.mp es)) {l : Loc} (hl : L b = some l) {g : Nat} (hg : l.own = some g) {ms' : Array MapEntry} {c : Nat} (hc : c = ms'.size) (hE : Entries w S L es' ms'.toList 0)
    (hrun : (execOp a.eval o).run P w = .ok .skip { w with heap := w.heap.setIfInBounds g (.map ms' c) }) : OpGoal P o a base w S L (upd G b (.mp es')) .und := by
  subst hc
  exact OpGoal.skip hrun (hI.writeMap hb hl hg hE)
theorem run_stays {old new : Value} (h : Instr.sameBits 10000 old new = true) : (Instr.keyThatStays old new).run P w = .ok new w := by simp [Instr.keyThatStays, h]
theorem e_mupd {t kt e : TypeId} {x y z : Operand} {kk b : Nat} {k v : V} {es : List (V × V)} {r : Option (Nat × V)} {rd : Nat → Option Blk} (hrd : ∀ b k, rd b = some k → G b = some k) (hI : Inv base w S G L)
    (ho : o.op = .mapUpdate t x y z ∨ o.op = .insert t x y z) (ht : P.underlying t = some (.map kt e)) (hk : keyT P kt = some kk) (hx : Rep w S L (.map b) (a.eval x)) (hy : Rep w S L k (a.eval y)) (hz : Rep w S L v (a.eval z)) (hkk : keyK kk k = true)
    (hb : rd b = some (.mp es)) (hf : findK k es 0 = some r) :
    OpGoal P o a base w S L (upd G b (.mp (match r with | some (i, _) => es.set i (k, v) | none => es ++ [(k, v)]))) .und := by
  have hK := keyT_some hk
  have hb' := hrd _ _ hb
  obtain ⟨l, g, ms, hl, hg, hxe, hh, hE⟩ := hI.mapAt hx hb'
  obtain ⟨d, hd, hfind⟩ := findNow_of hK hkk hy es ms.toList 0 r hE hf
  have run : ∀ w', (Instr.mapUpdate t (a.eval x) (a.eval y) (a.eval z)).run P w = .ok () w' → (execOp a.eval o).run P w = .ok .skip w' := by
    intro w' h
    rcases ho with ho | ho <;> simp [execOp, ho, h]
  have hck := run_checkKey (P := P) hK hkk hy false
  cases r with
  | none =>
    have hfk := run_findKey (P := P) (w := w) hd hfind
    refine map_written' hI hb' hl hg (ms' := ms.push { key := a.eval y, val := a.eval z, born := ms.size }) (c := ms.size + 1) (by simp) ?_ (run _ ?_)
    · rw [Array.toList_push]
      exact hE.push (keyK_isKey hkk) hy hz (by have := hE.len; simp at this ⊢; omega)
    · rw [hxe]
      unfold Instr.mapUpdate
      simp only [Sem.run_bind, run_underlying ht, Result.andThen_ok, run_getObj hh, hck, hfk, run_setObj _ hh]
  | some p =>
    obtain ⟨i, v0⟩ := p
    obtain ⟨m, h1, -, h3, h4, e0, h5, -, h6, h7⟩ := hfind
    simp only [Nat.sub_zero] at h3 h5
    have hfk := run_findKey (P := P) (w := w) hd h1
    obtain ⟨hke, hsb⟩ := sameBits_key hkk h7 hy
    have hms : ms[i]? = some m := by simpa using h3
    refine map_written' hI hb' hl hg (ms' := ms.modify i fun e => { e with key := a.eval y, val := a.eval z }) (c := ms.size) (by simp) ?_ (run _ ?_)
    · rw [modify_toList _ _ _ hms]
      exact hE.set (keyK_isKey hkk) hy hz (by simp [h6])
    · rw [hxe]
      unfold Instr.mapUpdate
      simp only [Sem.run_bind, run_underlying ht, Result.andThen_ok, run_getObj hh, hck, hfk, hms, Option.map_some, Option.getD_some, run_stays hsb, run_setObj _ hh]
theorem e_ment {t kt e : TypeId} {x y : Operand} {kk b : Nat} {z k : V} {es : List (V × V)} {r : Option (Nat × V)} {rd : Nat → Option Blk} (hrd : ∀ b k, rd b = some k → G b = some k) (hI : Inv base w S G L)
    (ho : o.op = .mapEntry t x y) (ht : P.underlying t = some (.map kt e)) (hk : keyT P kt = some kk) (hz : zeroV? P e = some z) (hx : Rep w S L (.map b) (a.eval x)) (hy : Rep w S L k (a.eval y)) (hkk : keyK kk k = true)
    (hb : rd b = some (.mp es)) (hf : findK k es 0 = some r) :
    match r with
    | some (i, v) => OpGoal P o a base w S L G (.tup [v, .int .i64 i])
    | none => OpGoal P o a base w S L (upd G b (.mp (es ++ [(k, z)]))) (.tup [z, .int .i64 es.length]) := by
  obtain ⟨i0, zv, hi, hzv, hcs⟩ := zeroV?_some hz
  have hzr := ofValue_rep (w := w) (S := S) (L := L) hcs
  have hK := keyT_some hk
  have hb' := hrd _ _ hb
  obtain ⟨l, g, ms, hl, hg, hxe, hh, hE⟩ := hI.mapAt hx hb'
  obtain ⟨d, hd, hfind⟩ := findNow_of hK hkk hy es ms.toList 0 r hE hf
  have run : ∀ r w', (Instr.mapEntry t (a.eval x) (a.eval y)).run P w = .ok r w' → (execOp a.eval o).run P w = .ok (.value r) w' := by
    intro r w' h
    simp [execOp, ho, h]
  have hck := run_checkKey (P := P) hK hkk hy false
  have hel : es.length = ms.size := by have := hE.len; simpa using this
  cases r with
  | none =>
    have hfk := run_findKey (P := P) (w := w) hd hfind
    refine map_written hI hb' hl hg (ms' := ms.push { key := a.eval y, val := zv, born := ms.size }) (c := ms.size + 1) (by simp) ?_ (x := .tuple #[zv, goInt ms.size]) (run _ _ ?_) ?_
    · rw [Array.toList_push]
      exact hE.push (keyK_isKey hkk) hy hzr (by show ms.size = _; omega)
    · rw [hxe]
      unfold Instr.mapEntry
      simp only [Sem.run_bind, run_underlying ht, Result.andThen_ok, run_getObj hh, hck, hfk, run_zeroValue hi hzv, run_setObj _ hh, Sem.run_pure]
    · simp only [Rep]
      exact ⟨_, rfl, by simp only [Reps]; exact ⟨_, _, rfl, hzr, _, _, rfl, by simp [Rep, goInt, hel], rfl⟩⟩
  | some p =>
    obtain ⟨i, v⟩ := p
    obtain ⟨m, h1, -, h3, h4, e0, h5, -, h6, h7⟩ := hfind
    simp only [Nat.sub_zero] at h3 h5
    have hfk := run_findKey (P := P) (w := w) hd h1
    obtain ⟨hke, hsb⟩ := sameBits_key hkk h7 hy
    have hms : ms[i]? = some m := by simpa using h3
    have hlt : i < ms.size := (Array.getElem?_eq_some_iff.1 hms).1
    have hsame : (ms.modify i fun e => { e with key := a.eval y }) = ms := by
      apply Array.ext_getElem?
      intro j
      rw [Array.getElem?_modify]
      by_cases hij : i = j
      · subst hij
        rw [if_pos rfl, hms, ← hke]
        rfl
      · rw [if_neg hij]
    have hsw : ({ w with heap := w.heap.setIfInBounds g (.map ms ms.size) } : World) = w := by
      have : w.heap.setIfInBounds g (.map ms ms.size) = w.heap := by
        apply Array.ext_getElem?
        intro j
        rw [Array.getElem?_setIfInBounds]
        by_cases hij : g = j
        · subst hij
          rw [if_pos rfl, if_pos (Array.getElem?_eq_some_iff.1 hh).1, hh]
        · rw [if_neg hij]
      rw [this]
    refine OpGoal.same hI (x := .tuple #[m.val, goInt m.born]) (run _ _ ?_) ?_
    · rw [hxe]
      unfold Instr.mapEntry
      simp only [Sem.run_bind, run_underlying ht, Result.andThen_ok, run_getObj hh, hck, hfk, hms, Option.map_some, Option.getD_some, run_stays hsb, run_setObj _ hh, Sem.run_pure, hsame, hsw]
    · simp only [Rep]
      exact ⟨_, rfl, by simp only [Reps]; exact ⟨_, _, rfl, h4, _, _, rfl, by simp [Rep, goInt, h6], rfl⟩⟩
theorem findIdx_born : ∀ {es : List (V × V)} {ms : List MapEntry} {i j : Nat} {m : MapEntry}, Entries w S L es ms i → ms[j]? = some m → ms.findIdx? (fun e => (e.born : Int) == ((i + j : Nat) : Int)) = some j
  | [], ms, i, j, m, h, hj => by simp only [Entries] at h; subst h; simp at hj
  | e :: es, ms, i, j, m, h, hj => by
    obtain ⟨m', rest, rfl, -, -, -, q4, q5⟩ := h
    rw [List.findIdx?_cons]
    cases j with
    | zero => simp [q4]
    | succ j =>
      have hne : ((m'.born : Int) == ((i + (j + 1) : Nat) : Int)) = false := by rw [q4, beq_eq_false_iff_ne]; omega
      rw [hne]
      have := findIdx_born q5 (by simpa using hj)
      rw [show i + (j + 1) = i + 1 + j by omega]
      simp only [this, Bool.false_eq_true, if_false, Option.map_some]
theorem e_mst {t : TypeId} {x y z : Operand} {b : Nat} {j : IntKind} {i : Int} {v : V} {es : List (V × V)} {e : V × V} {rd : Nat → Option Blk} (hrd : ∀ b k, rd b = some k → G b = some k) (hI : Inv base w S G L)
    (ho : o.op = .entryStore t x y z) (hx : Rep w S L (.map b) (a.eval x)) (hy : Rep w S L (.int j i) (a.eval y)) (hz : Rep w S L v (a.eval z)) (hb : rd b = some (.mp es)) (h0 : 0 ≤ i) (he : es[i.toNat]? = some e) :
    OpGoal P o a base w S L (upd G b (.mp (es.set i.toNat (e.1, v)))) .und := by
  have hb' := hrd _ _ hb
  obtain ⟨l, g, ms, hl, hg, hxe, hh, hE⟩ := hI.mapAt hx hb'
  simp only [Rep] at hy
  obtain ⟨m, h1, h2, h3, h4, h5⟩ := hE.at he
  have hms : ms[i.toNat]? = some m := by simpa using h1
  have hidx := findIdx_born hE h1
  have hidx' : ms.findIdx? (fun e => (e.born : Int) == i) = some i.toNat := by
    rw [← List.findIdx?_toArray, Array.toArray_toList] at hidx
    rw [show ((0 + i.toNat : Nat) : Int) = i by omega] at hidx
    exact hidx
  refine map_written' hI hb' hl hg (ms' := ms.modify i.toNat fun e => { e with val := a.eval z }) (c := ms.size) (by simp) ?_ ?_
  · rw [modify_toList _ _ _ hms]
    exact hE.set h2 h3 hz h5
  · have : (Instr.entryStore t (a.eval x) (a.eval y) (a.eval z)).run P w = .ok () { w with heap := w.heap.setIfInBounds g (.map (ms.modify i.toNat fun e => { e with val := a.eval z }) ms.size) } := by
      rw [hxe, hy]
      unfold Instr.entryStore
      simp only [Sem.run_bind, Result.andThen_ok, run_getObj hh, asInt, asIntOf, Sem.run_pure, hidx', run_setObj _ hh]
    simp [execOp, ho, this]
end
end Go.Ev
