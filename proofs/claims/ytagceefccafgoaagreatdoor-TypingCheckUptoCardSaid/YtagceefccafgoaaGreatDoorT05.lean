/- Each operation: what the reader says of it holds in memory. Part six: slices of slices, bytes as text, lesser and greater, maps that are read. No condition. Rows of elements as rows of cells; what is behind a slice; bytes as text. No condition. -/
import Derived.Test.YtagceefccafgoaaGreatDoorT04
set_option linter.all false
namespace Go.Ev
variable [Consts]
set_option linter.unusedSectionVars false
open Go.RowKit
set_option linter.unusedSimpArgs false
set_option linter.unusedVariables false
section
variable {P : Program} {o : Oper} {a : Act} {base : Nat} {w : World} {S : SSet} {L : LMap} {G : Nat → Option Blk}
theorem okSz_head {sz : Nat} {xs : List (List V)} {i : Nat} {c : List V} (h : okSz sz xs = true) (hall : ∀ d ∈ xs, ∀ d' ∈ xs, d.length = d'.length) (hc : xs[i]? = some c) : c.length = sz := by
  cases xs with
  | nil => simp at hc
  | cons d ds =>
    simp only [okSz, beq_iff_eq] at h
    rw [← h]
    exact hall _ (List.mem_of_getElem? hc) _ (by simp)
theorem RowsAt.size {r z q sz : Nat} {xs : List (List V)} (h : RowsAt w S L r z q xs) (ho : okSz sz xs = true) (hne : xs ≠ []) : z = sz := by
  cases xs with
  | nil => exact absurd rfl hne
  | cons c cs =>
    simp only [RowsAt] at h
    simp only [okSz, beq_iff_eq] at ho
    omega
theorem RowsAt.slice {r z q : Nat} {xs : List (List V)} (h : RowsAt w S L r z q xs) (l m : Nat) : RowsAt w S L r z (q + l * z) ((xs.drop l).take m) := by
  rw [RowsAt.iff] at h ⊢
  intro i c hc
  rw [List.getElem?_take] at hc
  split at hc
  · rw [List.getElem?_drop] at hc
    obtain ⟨h1, h2⟩ := h _ c hc
    exact ⟨h1, by rwa [Nat.add_mul, ← Nat.add_assoc] at h2⟩
  · cases hc
theorem q_sll {ev : MArg → Option V} (hρ : ArgRel w S L a.eval ev) {rd : Nat → Option Blk} (hrd : ∀ b k, rd b = some k → G b = some k) {t e : TypeId} {x : Operand} {lo hi mx : Option Operand} {lo' hi' mx' : Option MArg} (h1 : argO lo = some lo') (h2 : argO hi = some hi') (h3 : argO mx = some mx') {sz : Nat}
    (hI : Inv base w S G L) (ho : o.op = .slice t x lo hi mx) (ht : P.underlying t = some (.slice e)) (hs : size? P e = some sz) {v u : V} (hx : Rep w S L v (a.eval x)) (hmh : ¬ (mx'.isSome ∧ hi'.isNone)) {f : Eff}
    (hv : (match v with
      | .nils => match bnd ev 0 0 mx', bnd ev 0 0 hi', bnd ev 0 0 lo' with
        | some _, some _, some _ => some (V.nils, Eff.nop)
        | _, _, _ => none
      | .str _ => none
      | v => match elems rd v with
        | none => none
        | some xs => match bnd ev xs.length xs.length mx' with
          | none => none
          | some m => match bnd ev m xs.length hi' with
            | none => none
            | some h => if m < h then none else match bnd ev h 0 lo' with
              | none => none
              | some l => if mx'.isSome ∧ m = l then some (.nils, .nop) else if okSz sz xs then (match v with
                | .slc xs => some (.slc ((xs.drop l).take (h - l)), .nop)
                | .ref b n => if l = 0 ∧ h = n ∧ mx'.isNone then some (.ref b n, .nop) else some (.sub b n l h, .nop)
                | .sub b n l0 _ => some (.sub b n (l0 + l) (l0 + h), .nop)
                | _ => none) else none) = some (u, f)) : f = .nop ∧ OpGoal P o a base w S L G u := by
  have le : ∀ {k d : Nat} {y : Option MArg} {r : Nat}, bnd ev k d y = some r → d ≤ k → r ≤ k := by
    intro k d y r h hd
    cases y with
    | none => simp only [bnd, Option.some.injEq] at h; omega
    | some z => obtain ⟨j, n, -, -, q, rfl⟩ := bounds_some h; omega
  have bndle : ∀ {k d : Nat} {y : Option MArg} {r : Nat}, y.isSome → bnd ev k d y = some r → r ≤ k := by
    intro k d y r hy h
    cases y with
    | none => cases hy
    | some z => obtain ⟨j, n, -, -, q, rfl⟩ := bounds_some h; omega
  -- the run, for a value of known shape
  have go : ∀ {oa : Option Addr} {n c m h l : Nat}, a.eval x = .slice oa n c → n ≤ c → bnd ev n n mx' = some m → bnd ev m n hi' = some h → ¬ m < h → bnd ev h 0 lo' = some l →
      l ≤ h ∧ h ≤ n ∧ ∃ m', (mx' = none → m' = c) ∧ (mx' ≠ none → m' = m) ∧ h ≤ m' ∧ (execOp a.eval o).run P w = .ok (.value (.slice (if m' = l then oa else oa.map (·.add (l * sz))) (h - l) (m' - l))) w := by
    intro oa n c m h l e1 hc hm hh hn hl
    refine ⟨le hl (Nat.zero_le _), ?_, run_sll hρ h1 h2 h3 ho ht hs e1 hc hmh hm hh (by omega) hl⟩
    have := le hm (Nat.le_refl _)
    omega
  have nil : ∀ {oa : Option Addr} {n c m h l : Nat}, a.eval x = .slice oa n c → n ≤ c → bnd ev n n mx' = some m → bnd ev m n hi' = some h → ¬ m < h → bnd ev h 0 lo' = some l → (mx'.isSome = true ∧ m = l) → OpGoal P o a base w S L G .nils := by
    intro oa n c m h l e1 hc hm hh hn hl hz
    obtain ⟨q1, q2, m', -, q4, q5, run⟩ := go e1 hc hm hh hn hl
    have := q4 (by intro e; rw [e] at hz; simp at hz)
    have hml : m' = l := by omega
    have hhl : h - l = 0 := by omega
    rw [if_pos hml, hhl, hml, Nat.sub_self] at run
    exact OpGoal.same hI run (by simp only [Rep]; exact ⟨oa, rfl⟩)
  cases v <;> simp only [elems, reduceCtorEq] at hv
  case nils =>
    split at hv
    · rename_i mm hh ll e1 e2 e3
      simp only [Option.some.injEq, Prod.mk.injEq] at hv
      obtain ⟨rfl, rfl⟩ := hv
      simp only [Rep] at hx
      obtain ⟨oa, hx⟩ := hx
      have z1 := le e1 (Nat.le_refl _)
      have z2 := le e2 (Nat.le_refl _)
      have z3 := le e3 (Nat.le_refl _)
      obtain rfl : mm = 0 := by omega
      obtain rfl : hh = 0 := by omega
      obtain rfl : ll = 0 := by omega
      obtain ⟨q1, q2, m', q3, q4, q5, run⟩ := go hx (Nat.le_refl _) e1 e2 (by omega) e3
      have hm' : m' = 0 := by
        cases hmx : mx' with
        | none => exact q3 hmx
        | some z => exact q4 (by rw [hmx]; simp)
      subst hm'
      refine ⟨rfl, OpGoal.same hI run ?_⟩
      simp only [Rep]
      exact ⟨oa, rfl⟩
    · cases hv
  case slc xs =>
    split at hv <;> first | (cases hv; done) | skip
    rename_i m hm
    split at hv <;> first | (cases hv; done) | skip
    rename_i h hh
    split at hv <;> first | (cases hv; done) | skip
    rename_i hn
    split at hv <;> first | (cases hv; done) | skip
    rename_i l hl
    simp only [Rep] at hx
    obtain ⟨oa, c, e1, hc, hrow⟩ := hx
    split at hv
    · rename_i hz
      simp only [Option.some.injEq, Prod.mk.injEq] at hv
      obtain ⟨rfl, rfl⟩ := hv
      exact ⟨rfl, nil e1 hc hm hh hn hl hz⟩
    · split at hv
      · rename_i hok
        simp only [Option.some.injEq, Prod.mk.injEq] at hv
        obtain ⟨rfl, rfl⟩ := hv
        obtain ⟨q1, q2, m', q3, q4, q5, run⟩ := go e1 hc hm hh hn hl
        refine ⟨rfl, OpGoal.same hI run ?_⟩
        have hlen : ((xs.drop l).take (h - l)).length = h - l := by simp; omega
        simp only [Rep, hlen]
        refine ⟨_, _, rfl, by omega, ?_⟩
        by_cases hlh : l < h
        · rcases hrow with rfl | ⟨r, q, z, rfl, hrow⟩
          · simp at q2; omega
          · have hz : z = sz := hrow.size hok (by intro e; rw [e] at q2; simp at q2; omega)
            subst hz
            refine .inr ⟨r, q + l * z, z, ?_, hrow.slice l (h - l)⟩
            rw [if_neg (by omega)]
            simp [add_lit]
        · exact .inl (by rw [show h - l = 0 by omega]; simp)
      · cases hv
  case ref b n =>
    split at hv <;> first | (cases hv; done) | skip
    rename_i xs hxs
    split at hxs <;> first | (cases hxs; done) | skip
    rename_i s xs' hb
    split at hxs <;> first | (cases hxs; done) | skip
    rename_i hlen
    simp only [Option.some.injEq] at hxs
    subst hxs
    split at hv <;> first | (cases hv; done) | skip
    rename_i m hm
    split at hv <;> first | (cases hv; done) | skip
    rename_i h hh
    split at hv <;> first | (cases hv; done) | skip
    rename_i hn
    split at hv <;> first | (cases hv; done) | skip
    rename_i l hl
    obtain ⟨lc, hlc, hcn, hcs, e1, hblk⟩ := hI.ref hx (hrd _ _ hb) hlen
    have hsh : ∃ oa c, a.eval x = .slice oa n c ∧ n ≤ c ∧ (0 < n → ∃ g, lc.own = some g ∧ oa = some ⟨g, 0, none⟩) := by
      obtain ⟨-, -, h3⟩ := hblk
      cases hown : lc.own with
      | none =>
        rw [hown] at h3
        obtain ⟨rfl, oa, e2⟩ := h3
        simp at hlen
        subst hlen
        exact ⟨oa, 0, e1.trans e2, Nat.le_refl _, fun q => by omega⟩
      | some g =>
        rw [hown] at h3
        obtain ⟨cap, cur, e2, -, -, e4, -⟩ := h3
        rw [hcn] at e2 e4
        exact ⟨_, cap, e1.trans e2, e4, fun _ => ⟨g, rfl, rfl⟩⟩
    obtain ⟨oa, c, e2, hc, hoa⟩ := hsh
    rw [hlen] at hm hh
    split at hv
    · rename_i hz
      simp only [Option.some.injEq, Prod.mk.injEq] at hv
      obtain ⟨rfl, rfl⟩ := hv
      exact ⟨rfl, nil e2 hc hm hh hn hl hz⟩
    · split at hv
      · rename_i hok
        obtain ⟨q1, q2, m', q3, q4, q5, run⟩ := go e2 hc hm hh hn hl
        split at hv
        · rename_i hz
          obtain ⟨rfl, rfl, hz3⟩ := hz
          simp only [Option.some.injEq, Prod.mk.injEq] at hv
          obtain ⟨rfl, rfl⟩ := hv
          have hm' : m' = c := q3 (by simpa using hz3)
          subst hm'
          refine ⟨rfl, OpGoal.same hI run ?_⟩
          have hadd : oa.map (·.add (0 * sz)) = oa := by cases oa <;> simp [Addr.add]
          rw [hadd]
          simp only [ite_self, Nat.sub_zero]
          rw [← e2]
          exact hx
        · simp only [Option.some.injEq, Prod.mk.injEq] at hv
          obtain ⟨rfl, rfl⟩ := hv
          refine ⟨rfl, OpGoal.same hI run ?_⟩
          simp only [Rep]
          refine ⟨rfl, lc, hlc, by omega, fun _ => ⟨by omega, q1, _, _, rfl, by omega, fun hlt => ?_⟩⟩
          obtain ⟨g, hg, rfl⟩ := hoa (by omega)
          refine ⟨g, hg, ?_⟩
          have hsz : s = sz := by
            obtain ⟨-, -, h3⟩ := hblk
            rw [hg] at h3
            obtain ⟨cap, cur, -, -, -, -, -, -, hrow, -⟩ := h3
            cases hxs : xs' with
            | nil => rw [hxs] at hlen; simp at hlen; omega
            | cons d ds =>
              have := (hrow 0 d (by rw [hxs]; rfl)).1
              rw [hxs] at hok
              simp only [okSz, beq_iff_eq] at hok
              omega
          rw [if_neg (by omega), hcs, hsz]
          simp [add_lit]
      · cases hv
  case sub b n l0 h0 =>
    split at hv <;> first | (cases hv; done) | skip
    rename_i xs hxs
    split at hxs <;> first | (cases hxs; done) | skip
    rename_i s xs' hb
    split at hxs <;> first | (cases hxs; done) | skip
    rename_i hlen
    simp only [Option.some.injEq] at hxs
    subst hxs
    split at hv <;> first | (cases hv; done) | skip
    rename_i m hm
    split at hv <;> first | (cases hv; done) | skip
    rename_i h hh
    split at hv <;> first | (cases hv; done) | skip
    rename_i hn
    split at hv <;> first | (cases hv; done) | skip
    rename_i l hl
    simp only [Rep] at hx
    obtain ⟨_, lc, hlc, hln, hx⟩ := hx
    obtain ⟨r1, r2, r3⟩ := hI.row (hrd _ _ hb) hlc
    obtain ⟨p1, p2, oa, c, e2, hc, hoa⟩ := hx (by omega)
    have hlen' : ((xs'.drop l0).take (h0 - l0)).length = h0 - l0 := by simp; omega
    rw [hlen'] at hm hh
    split at hv
    · rename_i hz
      simp only [Option.some.injEq, Prod.mk.injEq] at hv
      obtain ⟨rfl, rfl⟩ := hv
      exact ⟨rfl, nil e2 hc hm hh hn hl hz⟩
    · split at hv
      · rename_i hok
        obtain ⟨q1, q2, m', q3, q4, q5, run⟩ := go e2 hc hm hh hn hl
        simp only [Option.some.injEq, Prod.mk.injEq] at hv
        obtain ⟨rfl, rfl⟩ := hv
        refine ⟨rfl, OpGoal.same hI run ?_⟩
        simp only [Rep]
        refine ⟨rfl, lc, hlc, by omega, fun _ => ⟨by omega, by omega, (if m' = l then oa else oa.map (·.add (l * sz))), m' - l, by rw [show l0 + h - (l0 + l) = h - l by omega], by omega, fun hlt => ?_⟩⟩
        obtain ⟨g, hg, rfl⟩ := hoa (by omega)
        refine ⟨g, hg, ?_⟩
        have hsz : s = sz := by
          rw [hg] at r3
          obtain ⟨cap, cur, -, -, -, -, -, -, hrow, -⟩ := r3
          have hlt : l0 < xs'.length := by omega
          have h0' := (hrow l0 _ (List.getElem?_eq_getElem hlt)).1
          have h1' : ((xs'.drop l0).take (h0 - l0))[0]? = some xs'[l0] := by
            rw [List.getElem?_take, if_pos (by omega), List.getElem?_drop]
            simp [hlt]
          cases hd : (xs'.drop l0).take (h0 - l0) with
          | nil => rw [hd] at h1'; simp at h1'
          | cons d ds =>
            rw [hd] at h1' hok
            simp only [List.getElem?_cons_zero, Option.some.injEq] at h1'
            subst h1'
            simp only [okSz, beq_iff_eq] at hok
            omega
        rw [if_neg (by omega), r2, hsz]
        simp [add_lit, Nat.add_mul]
      · cases hv
end
end Go.Ev
namespace Go.Ev
variable [Consts]
set_option linter.unusedSectionVars false
open Go.RowKit
set_option linter.unusedSimpArgs false
set_option linter.unusedVariables false
theorem flatten_get {sz : Nat} : ∀ {xs : List (List V)}, (∀ d ∈ xs, d.length = sz) → ∀ {i j : Nat} {c : List V}, xs[i]? = some c → j < sz → xs.flatten[i * sz + j]? = c[j]?
  | [], _, i, j, c, hi, _ => by simp at hi
  | d :: ds, hall, i, j, c, hi, hj => by
    have hd : d.length = sz := hall d (by simp)
    rw [List.flatten_cons]
    cases i with
    | zero =>
      simp only [List.getElem?_cons_zero, Option.some.injEq] at hi
      subst hi
      rw [List.getElem?_append_left (by omega)]
      simp
    | succ i =>
      rw [List.getElem?_append_right (by rw [hd, Nat.add_mul]; omega), hd]
      rw [show (i + 1) * sz + j - sz = i * sz + j by rw [Nat.add_mul]; omega]
      exact flatten_get (fun e he => hall e (by simp [he])) (by simpa using hi) hj
theorem flatten_len {sz : Nat} : ∀ {xs : List (List V)}, (∀ d ∈ xs, d.length = sz) → xs.flatten.length = xs.length * sz
  | [], _ => by simp
  | d :: ds, hall => by
    have hd : d.length = sz := hall d (by simp)
    rw [List.flatten_cons, List.length_append, hd, flatten_len (fun e he => hall e (by simp [he])), List.length_cons, Nat.add_mul]
    omega
theorem flat_cells {sz : Nat} {C : Nat → V → Prop} : ∀ (xs : List (List V)) (o : Nat), (∀ (i : Nat) (c : List V), xs[i]? = some c → c.length = sz ∧ ∀ (j : Nat) (v : V), c[j]? = some v → C (o + i * sz + j) v) →
    ∀ (j : Nat) (v : V), xs.flatten[j]? = some v → C (o + j) v
  | [], o, h, j, v, hj => by simp at hj
  | d :: ds, o, h, j, v, hj => by
    obtain ⟨hd, hc⟩ := h 0 d rfl
    rw [List.flatten_cons] at hj
    by_cases hlt : j < d.length
    · rw [List.getElem?_append_left hlt] at hj
      simpa using hc j v hj
    · rw [List.getElem?_append_right (by omega)] at hj
      have := flat_cells ds (o + sz) (fun i c hi => ⟨(h (i + 1) c (by simpa using hi)).1, fun k u hk => by
        have := (h (i + 1) c (by simpa using hi)).2 k u hk
        rwa [show o + (i + 1) * sz + k = o + sz + i * sz + k by rw [Nat.add_mul]; omega] at this⟩) (j - d.length) v hj
      rwa [show o + sz + (j - d.length) = o + j by omega] at this
section
variable {P : Program} {o : Oper} {a : Act} {base : Nat} {w : World} {S : SSet} {L : LMap} {G : Nat → Option Blk}
/-- What is behind a slice. -/
def Behind (w : World) (S : SSet) (L : LMap) (xs : List (List V)) (oa : Option Addr) : Prop :=
  xs = [] ∨ ∃ ad z, oa = some ad ∧ (∀ d ∈ xs, d.length = z) ∧ ∀ (j : Nat) (v : V), xs.flatten[j]? = some v → v.isCell = true ∧ ∃ y, w.cell? (ad.add j) = some y ∧ Rep w S L v y
theorem RowsAt.behind {r z q : Nat} {xs : List (List V)} (h : RowsAt w S L r z q xs) : Behind w S L xs (some ⟨r, q, none⟩) := by
  rw [RowsAt.iff] at h
  refine .inr ⟨_, z, rfl, fun d hd => ?_, fun j v hv => ?_⟩
  · obtain ⟨i, hi⟩ := List.getElem?_of_mem hd
    exact (h i d hi).1
  · rw [add_lit]
    exact flat_cells (C := fun k v => v.isCell = true ∧ ∃ y, w.cell? ⟨r, k, none⟩ = some y ∧ Rep w S L v y) xs q (fun i c hi => ⟨(h i c hi).1, fun j v hv => by
      obtain ⟨h1, -, h3⟩ := (CellsAt.iff r c _).1 (h i c hi).2 j v hv
      exact ⟨h1, h3⟩⟩) j v hv
theorem Row.behind {g sz : Nat} {xs : List (List V)} (h : Row w S L g sz xs) : Behind w S L xs (some ⟨g, 0, none⟩) := by
  refine .inr ⟨_, sz, rfl, fun d hd => ?_, fun j v hv => ?_⟩
  · obtain ⟨i, hi⟩ := List.getElem?_of_mem hd
    exact (h i d hi).1
  · rw [add_lit]
    have := flat_cells (C := fun k v => v.isCell = true ∧ ∃ y, w.cell? ⟨g, k, none⟩ = some y ∧ Rep w S L v y) xs 0 (fun i c hi => ⟨(h i c hi).1, fun j v hv => by
      simpa using (h i c hi).2 j v hv⟩) j v hv
    simpa using this
theorem Behind.slice {r q z : Nat} {xs : List (List V)} {l m : Nat} (h : ∀ (i : Nat) (c : List V), xs[i]? = some c → c.length = z ∧ ∀ (j : Nat) (v : V), c[j]? = some v → v.isCell = true ∧ ∃ y, w.cell? ⟨r, q + i * z + j, none⟩ = some y ∧ Rep w S L v y) :
    Behind w S L ((xs.drop l).take m) (some ⟨r, q + l * z, none⟩) := by
  have h' : ∀ (i : Nat) (c : List V), ((xs.drop l).take m)[i]? = some c → c.length = z ∧ ∀ (j : Nat) (v : V), c[j]? = some v → v.isCell = true ∧ ∃ y, w.cell? ⟨r, (q + l * z) + i * z + j, none⟩ = some y ∧ Rep w S L v y := by
    intro i c hc
    rw [List.getElem?_take] at hc
    split at hc
    · rw [List.getElem?_drop] at hc
      have := h _ c hc
      rwa [Nat.add_mul, ← Nat.add_assoc] at this
    · cases hc
  refine .inr ⟨_, z, rfl, fun d hd => ?_, fun j v hv => ?_⟩
  · obtain ⟨i, hi⟩ := List.getElem?_of_mem hd
    exact (h' i d hi).1
  · rw [add_lit]
    exact flat_cells (C := fun k v => v.isCell = true ∧ ∃ y, w.cell? ⟨r, k, none⟩ = some y ∧ Rep w S L v y) _ (q + l * z) h' j v hv
/-- What 'elems' says of a slice. -/
theorem elems_behind (hI : Inv base w S G L) {rd : Nat → Option Blk} (hrd : ∀ b k, rd b = some k → G b = some k) {v : V} {x : Value} {xs : List (List V)} (hx : Rep w S L v x) (he : elems rd v = some xs) (hs : v.isStr = false) :
    ∃ oa c, x = .slice oa xs.length c ∧ xs.length ≤ c ∧ Behind w S L xs oa := by
  cases v <;> simp only [elems, reduceCtorEq, V.isStr, Bool.true_eq_false] at he hs
  case slc ys =>
    simp only [Option.some.injEq] at he; subst he
    simp only [Rep] at hx
    obtain ⟨oa, c, e, hc, h⟩ := hx
    refine ⟨oa, c, e, hc, ?_⟩
    rcases h with rfl | ⟨r, q, z, rfl, h⟩
    · exact .inl rfl
    · exact h.behind
  case nils =>
    simp only [Option.some.injEq] at he; subst he
    simp only [Rep] at hx
    obtain ⟨oa, e⟩ := hx
    exact ⟨oa, 0, e, Nat.le_refl _, .inl rfl⟩
  case ref b n =>
    split at he <;> first | (cases he; done) | skip
    rename_i s ys hb
    split at he <;> first | (cases he; done) | skip
    rename_i hn
    simp only [Option.some.injEq] at he; subst he
    obtain ⟨l, hl, h1, h2, e, -, -, h3⟩ := hI.ref hx (hrd _ _ hb) hn
    cases hown : l.own with
    | none =>
      rw [hown] at h3
      obtain ⟨rfl, oa, e2⟩ := h3
      exact ⟨oa, 0, e.trans e2, Nat.le_refl _, .inl rfl⟩
    | some g =>
      rw [hown] at h3
      obtain ⟨cap, cur, e2, -, -, e4, -, -, hrow, -⟩ := h3
      rw [h1, ← hn] at e2 e4
      exact ⟨_, cap, e.trans e2, e4, hrow.behind⟩
  case sub b n lo hi =>
    split at he <;> first | (cases he; done) | skip
    rename_i s ys hb
    split at he <;> first | (cases he; done) | skip
    rename_i hn
    simp only [Option.some.injEq] at he; subst he
    simp only [Rep] at hx
    obtain ⟨_, l, hl, hle, hx⟩ := hx
    obtain ⟨h1, h2, h3⟩ := hI.row (hrd _ _ hb) hl
    obtain ⟨p1, p2, oa, c, e, hc, hoa⟩ := hx (by omega)
    have hlen : ((ys.drop lo).take (hi - lo)).length = hi - lo := by simp; omega
    refine ⟨oa, c, by rw [hlen]; exact e, by omega, ?_⟩
    by_cases hlt : lo < hi
    · obtain ⟨g, hg, rfl⟩ := hoa hlt
      rw [hg] at h3
      obtain ⟨cap, cur, -, -, -, -, -, -, hrow, -⟩ := h3
      have := Behind.slice (w := w) (S := S) (L := L) (r := g) (q := 0) (z := s) (xs := ys) (l := lo) (m := hi - lo) (fun i c hi => ⟨(hrow i c hi).1, fun j v hv => by simpa using (hrow i c hi).2 j v hv⟩)
      rw [h2]
      simpa using this
    · exact .inl (by rw [show hi - lo = 0 by omega]; simp)
/-- .. as a list of cells. -/
theorem Behind.list {xs : List (List V)} {oa : Option Addr} {sz : Nat} (h : Behind w S L xs oa) (ho : okSz sz xs = true) :
    (∀ d ∈ xs, d.length = sz) ∧ (xs.flatten.all V.isCell = true) ∧ ∃ ys : List Value, ys.length = xs.length * sz ∧ Reps w S L xs.flatten ys ∧ (xs ≠ [] → ∃ ad, oa = some ad ∧ ∀ (j : Nat) (y : Value), ys[j]? = some y → w.cell? (ad.add j) = some y) := by
  rcases h with rfl | ⟨ad, z, rfl, hz, h⟩
  · exact ⟨by simp, by simp, [], by simp, by simp [Reps], fun q => absurd rfl q⟩
  · have hz' : ∀ d ∈ xs, d.length = sz := by
      intro d hd
      obtain ⟨i, hi⟩ := List.getElem?_of_mem hd
      exact okSz_head ho (fun d hd d' hd' => by rw [hz d hd, hz d' hd']) hi
    obtain ⟨ys, h1, h2, h3⟩ := cells_list (w := w) (S := S) (L := L) ad xs.flatten (fun j v hv => (h j v hv).2)
    refine ⟨hz', ?_, ys, by rw [h1, flatten_len hz'], h3, fun _ => ⟨ad, rfl, h2⟩⟩
    rw [List.all_eq_true]
    intro v hv
    obtain ⟨j, hj⟩ := List.getElem?_of_mem hv
    exact (h j v hj).1
/-- A row of cells as what fills a new row. -/
theorem filled_of {sz : Nat} {xs : List (List V)} {ys : List Value} {cur : Array Value} (hz : ∀ d ∈ xs, d.length = sz) (hc : xs.flatten.all V.isCell = true) (hr : Reps w S L xs.flatten ys) (hcur : ∀ (j : Nat) (y : Value), ys[j]? = some y → cur[j]? = some y) : Filled w S L sz xs cur := by
  intro i c hi
  have hl : c.length = sz := hz c (List.mem_of_getElem? hi)
  refine ⟨hl, fun j v hv => ?_⟩
  have hj : j < sz := by have := (List.getElem?_eq_some_iff.1 hv).1; omega
  have hf : xs.flatten[i * sz + j]? = some v := by rw [flatten_get hz hi hj]; exact hv
  obtain ⟨y, hy, q⟩ := hr.at hf
  exact ⟨List.all_eq_true.1 hc _ (List.mem_of_getElem? hf), y, hcur _ y hy, q⟩
/-! ### Bytes as text -/
theorem bytesOf_flat : ∀ {xs : List (List V)} {bs : List UInt8}, bytesOf xs = some bs → ∃ ns : List Int, xs = ns.map (fun n => [V.int .u8 n]) ∧ bs = ns.map (fun n => UInt8.ofNat n.toNat)
  | [], bs, h => by simp only [bytesOf, Option.some.injEq] at h; subst h; exact ⟨[], rfl, rfl⟩
  | c :: cs, bs, h => by
    unfold bytesOf at h
    split at h
    · rename_i h'; cases h'
    · rename_i n ds h'
      cases h'
      rw [Option.map_eq_some_iff] at h
      obtain ⟨bs', hb, rfl⟩ := h
      obtain ⟨ns, rfl, rfl⟩ := bytesOf_flat hb
      exact ⟨n :: ns, rfl, rfl⟩
    · cases h
end
end Go.Ev
