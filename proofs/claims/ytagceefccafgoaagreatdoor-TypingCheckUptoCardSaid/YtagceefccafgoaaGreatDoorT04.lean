/- Each operation: what the reader says of it holds in memory. Part one: operations that change nothing. No condition. Each operation: what the reader says of it holds in memory. Part two: operations that change nothing. No condition. Each operation: what the reader says of it holds in memory. Part three. No condition. Each operation: what the reader says of it holds in memory. Part four. No condition. Each operation: what the reader says of it holds in memory. Part five. No condition. -/
import Derived.Laws.AppendOwn
import Derived.Test.YtagceefccafgoaaGreatDoorT01
import Derived.Test.YtagceefccafgoaaGreatDoorT03
set_option linter.all false
namespace Go.Ev
variable [Consts]
set_option linter.unusedSectionVars false
open Go.RowKit
set_option linter.unusedSimpArgs false
set_option linter.unusedVariables false
def applyG (G : Nat → Option Blk) (nb : Nat) : Eff → Nat → Option Blk
  | .nop => G
  | .news ks => fun b => if nb ≤ b then (match ks[b - nb]? with | some k => some k | none => G b) else G b
  | .set b k => upd G b k
theorem applyG_one (G : Nat → Option Blk) (nb : Nat) (k : Blk) : applyG G nb (.news [k]) = upd G nb k := by
  funext b
  simp only [applyG, upd]
  by_cases h : b = nb
  · subst h; simp
  · rw [if_neg h]
    split
    · rw [List.getElem?_eq_none (by simp; omega)]
    · rfl
/-- Behind the operation: whatever comes of it reads as v, over the store G'. -/
def OpGoal (P : Program) (o : Oper) (a : Act) (base : Nat) (w : World) (S : SSet) (L : LMap) (G' : Nat → Option Blk) (v : V) : Prop :=
  ∀ (next : Act → World → Prop) (Q : Exit → Act → World → Prop),
    (∀ x w' S' L', Inv base w' S' G' L' → Rep w' S' L' v x → Step base w S L w' S' L' → next (a.put o.dst x) w') → o.wp P a w next Q
section
variable {P : Program} {o : Oper} {a : Act} {base : Nat} {w : World} {S : SSet} {L : LMap} {G : Nat → Option Blk}
theorem OpGoal.value {w' : World} {S' : SSet} {L' : LMap} {G' : Nat → Option Blk} {v : V} {x : Value} (hr : (execOp a.eval o).run P w = .ok (.value x) w')
    (hI : Inv base w' S' G' L' ∧ Step base w S L w' S' L') (hx : Rep w' S' L' v x) : OpGoal P o a base w S L G' v := by
  intro next Q h
  unfold Oper.wp
  rw [hr]
  exact h x w' S' L' hI.1 hx hI.2
theorem OpGoal.same {v : V} {x : Value} (hI : Inv base w S G L) (hr : (execOp a.eval o).run P w = .ok (.value x) w) (hx : Rep w S L v x) : OpGoal P o a base w S L G v :=
  .value hr ⟨hI, Step.refl ..⟩ hx
theorem OpGoal.skip {w' : World} {S' : SSet} {L' : LMap} {G' : Nat → Option Blk} (hr : (execOp a.eval o).run P w = .ok .skip w')
    (hI : Inv base w' S' G' L' ∧ Step base w S L w' S' L') : OpGoal P o a base w S L G' .und := by
  intro next Q h
  unfold Oper.wp
  rw [hr]
  exact h undef w' S' L' hI.1 (by simp [Rep]) hI.2
/-- The operands read as the reader has them. -/
def ArgRel (w : World) (S : SSet) (L : LMap) (ρ : Operand → Value) (ev : MArg → Option V) : Prop :=
  ∀ x m v, arg x = some m → ev m = some v → Rep w S L v (ρ x)
theorem ArgRel.list {ρ : Operand → Value} {ev : MArg → Option V} (h : ArgRel w S L ρ ev) : ∀ (xs : List Operand) (ms : List MArg) (vs : List V), args xs = some ms → evs ev ms = some vs → Reps w S L vs (xs.map ρ)
  | [], ms, vs, ha, he => by
    simp only [args, Option.some.injEq] at ha; subst ha
    simp only [evs, Option.some.injEq] at he; subst he
    simp [Reps]
  | x :: xs, ms, vs, ha, he => by
    simp only [args] at ha
    split at ha
    · rename_i m hm
      rw [Option.map_eq_some_iff] at ha
      obtain ⟨ms', hms, rfl⟩ := ha
      simp only [evs] at he
      split at he
      · rename_i v hv
        rw [Option.map_eq_some_iff] at he
        obtain ⟨vs', hvs, rfl⟩ := he
        simp only [List.map_cons, Reps]
        exact ⟨_, _, rfl, h x m v hm hv, ArgRel.list h xs ms' vs' hms hvs⟩
      · cases he
    · cases ha
/-! ### Constants -/
theorem ofCell_rep {x : Value} {v : V} (h : ofCell x = some v) : v.isCell = true ∧ Rep w S L v x := by
  unfold ofCell at h
  split at h <;> first | (cases h; done) | (simp only [Option.some.injEq] at h; subst h; exact ⟨rfl, by simp [Rep]⟩)
theorem ofCells_rep : ∀ {xs : List Value} {vs : List V}, ofCells xs = some vs → vs.all V.isCell = true ∧ Reps w S L vs xs
  | [], vs, h => by simp only [ofCells, Option.some.injEq] at h; subst h; simp [Reps]
  | x :: xs, vs, h => by
    simp only [ofCells] at h
    split at h
    · rename_i v hv
      rw [Option.map_eq_some_iff] at h
      obtain ⟨vs', hvs, rfl⟩ := h
      obtain ⟨h1, h2⟩ := ofCell_rep (w := w) (S := S) (L := L) hv
      obtain ⟨h3, h4⟩ := ofCells_rep hvs
      exact ⟨by simp [h1, h3], by simp only [Reps]; exact ⟨_, _, rfl, h2, h4⟩⟩
    · cases h
theorem ofValue_rep {x : Value} {v : V} (h : ofValue x = some v) : Rep w S L v x := by
  unfold ofValue at h
  split at h
  · rename_i cs
    rw [Option.map_eq_some_iff] at h
    obtain ⟨vs, hvs, rfl⟩ := h
    obtain ⟨h1, h2⟩ := ofCells_rep (w := w) (S := S) (L := L) hvs
    simp only [Rep]
    exact ⟨cs, rfl, h1, h2⟩
  · rename_i f a b
    split at h
    · rename_i hab
      simp only [Option.some.injEq] at h; subst h
      have ha : a.toList = [] := by simpa using hab.1
      have hb : b.toList = [] := by simpa using hab.2
      simp only [Rep, Reps]
      exact ⟨a, b, rfl, ha, hb⟩
    · cases h
  · exact (ofCell_rep h).2
theorem arg_rel {ρ : Operand → Value} {e : Env} (hc : ∀ v, ρ (.const v) = v) (hf : ∀ f, ρ (.func f) = .func (.func f) #[] #[]) (ht : ∀ t v, e.look t = some v → Rep w S L v (ρ (.tmp t))) : ArgRel w S L ρ e.arg := by
  intro x m v hx hv
  cases x with
  | tmp t => simp only [arg, Option.some.injEq] at hx; subst hx; exact ht t v hv
  | const c =>
    simp only [arg, Option.map_eq_some_iff] at hx
    obtain ⟨u, hu, rfl⟩ := hx
    simp only [Env.arg, Option.some.injEq] at hv; subst hv
    rw [hc]; exact ofValue_rep hu
  | global g => simp [arg] at hx
  | func f =>
    simp only [arg, Option.some.injEq] at hx; subst hx
    simp only [Env.arg, Option.some.injEq] at hv; subst hv
    rw [hf]; simp [Rep, Reps]
/-! ### What a value takes up -/
theorem rep_one {v : V} {x : Value} (h : Rep w S L v x) (hc : v.isCell = true) : x.oneCell' = true := by
  cases v <;> simp only [V.isCell, Bool.false_eq_true] at hc <;> simp only [Rep] at h
  case slc => obtain ⟨oa, c, rfl, -⟩ := h; rfl
  case ref => exact h.1
  case sub => exact h.1
  case ptr => obtain ⟨ad, rfl, -⟩ := h; rfl
  case map => exact h.1
  case dptr => obtain ⟨r, q, rfl, -⟩ := h; rfl
  case nils => obtain ⟨oa, rfl⟩ := h; rfl
  case fn => obtain ⟨vs, us, rfl, -⟩ := h; rfl
  all_goals subst h; rfl
theorem cells_one {x : Value} (h : x.oneCell' = true) : x.cells = #[x] := by cases x <;> first | rfl | cases h
theorem rep_cells {v : V} {x : Value} {cs : List V} (h : Rep w S L v x) (hc : v.cells? = some cs) : cs.all V.isCell = true ∧ Reps w S L cs x.cells.toList := by
  by_cases hv : v.isCell = true
  · have e : cs = [v] := by cases v <;> simp only [V.cells?, Option.some.injEq, reduceCtorEq] at hc <;> first | exact hc.symm | cases hv
    subst e
    rw [cells_one (rep_one h hv)]
    exact ⟨by simp [hv], by simp only [Reps]; exact ⟨x, [], rfl, h, rfl⟩⟩
  · cases v <;> simp only [V.cells?, Option.some.injEq, reduceCtorEq] at hc <;> first | exact absurd rfl hv | skip
    subst hc; simp only [Rep] at h; obtain ⟨vs, rfl, h1, h2⟩ := h; exact ⟨h1, h2⟩
theorem reps_one {vs : List V} {xs : List Value} (h : Reps w S L vs xs) (hc : vs.all V.isCell = true) : ∀ x ∈ xs, x.oneCell' = true := by
  intro x hx
  obtain ⟨i, hi⟩ := List.getElem?_of_mem hx
  obtain ⟨hl, hp⟩ := (Reps.iff vs xs).1 h
  have hlt : i < vs.length := by have := (List.getElem?_eq_some_iff.1 hi).1; omega
  have hv := List.getElem?_eq_getElem hlt
  exact rep_one (hp i _ x hv hi) (List.all_eq_true.1 hc _ (List.getElem_mem hlt))
end
end Go.Ev
namespace Go.Ev
variable [Consts]
set_option linter.unusedSectionVars false
open Go.RowKit
set_option linter.unusedSimpArgs false
set_option linter.unusedVariables false
section
variable {P : Program} {o : Oper} {a : Act} {base : Nat} {w : World} {S : SSet} {L : LMap} {G : Nat → Option Blk}
theorem add_lit (r o j : Nat) : (⟨r, o, none⟩ : Addr).add j = ⟨r, o + j, none⟩ := by unfold Addr.add; split <;> simp_all
/-- Cells one behind the other as a list. -/
theorem cells_list (ad : Addr) (cs : List V) (h : ∀ (j : Nat) (v : V), cs[j]? = some v → ∃ y, w.cell? (ad.add j) = some y ∧ Rep w S L v y) :
    ∃ ys : List Value, ys.length = cs.length ∧ (∀ (j : Nat) (y : Value), ys[j]? = some y → w.cell? (ad.add j) = some y) ∧ Reps w S L cs ys := by
  have key : ∀ j, j < cs.length → ∃ y, ((List.range cs.length).map fun j => (w.cell? (ad.add j)).getD undef)[j]? = some y ∧ w.cell? (ad.add j) = some y ∧ ∀ v, cs[j]? = some v → Rep w S L v y := by
    intro j hj
    obtain ⟨y, hy, hr⟩ := h j _ (List.getElem?_eq_getElem hj)
    refine ⟨y, by simp [hj, hy], hy, fun v hv => ?_⟩
    rw [List.getElem?_eq_getElem hj] at hv
    cases hv; exact hr
  refine ⟨(List.range cs.length).map fun j => (w.cell? (ad.add j)).getD undef, by simp, fun j y hy => ?_, ?_⟩
  · have hj : j < cs.length := by have := (List.getElem?_eq_some_iff.1 hy).1; simpa using this
    obtain ⟨y', h1, h2, -⟩ := key j hj
    rw [h1] at hy; cases hy; exact h2
  · rw [Reps.iff]
    refine ⟨by simp, fun i v x hv hx => ?_⟩
    have hj : i < cs.length := (List.getElem?_eq_some_iff.1 hv).1
    obtain ⟨y', h1, h2, h3⟩ := key i hj
    rw [h1] at hx; cases hx; exact h3 v hv
theorem run_isAgg {t : TypeId} {ag : Bool} (h : isAgg? P t = some ag) (w : World) : (isAgg t).run P w = .ok ag w := by
  unfold isAgg? at h
  unfold isAgg
  cases hu : P.underlying t with
  | none => rw [hu] at h; cases h
  | some d =>
    rw [hu] at h
    rw [Sem.run_bind, run_underlying hu]
    cases d <;> simp_all
theorem run_sizeOf {t : TypeId} {n : Nat} (h : size? P t = some n) (w : World) : (sizeOf t).run P w = .ok n w := by
  unfold size? at h
  unfold sizeOf typeInfo
  cases hu : P.info? t with
  | none => rw [hu] at h; cases h
  | some d => rw [hu] at h; simp at h; simp [hu, h]
/-- A variable's value: cells that read as cs from ad on. -/
theorem run_loadVar_cells {t : TypeId} {ag : Bool} {sz : Nat} (ha : isAgg? P t = some ag) (hs : size? P t = some sz) (ad : Addr) (cs : List V)
    (hall : cs.all V.isCell = true) (h : ∀ (j : Nat) (v : V), cs[j]? = some v → ∃ y, w.cell? (ad.add j) = some y ∧ Rep w S L v y) (o : Nat) :
    (ag = true → o + sz ≤ cs.length → ∃ x, (loadVar t (ad.add o)).run P w = .ok x w ∧ Rep w S L (.agg ((cs.drop o).take sz)) x) ∧
    (ag = false → ∀ v, cs[o]? = some v → ∃ x, (loadVar t (ad.add o)).run P w = .ok x w ∧ Rep w S L v x) := by
  constructor
  · rintro rfl hle
    obtain ⟨ys, hl, hc, hr⟩ := cells_list (w := w) (S := S) (L := L) (ad.add o) ((cs.drop o).take sz) (fun j v hv => by
      rw [List.getElem?_take] at hv
      split at hv
      · rw [List.getElem?_drop] at hv
        obtain ⟨y, hy, q⟩ := h _ v hv
        refine ⟨y, ?_, q⟩
        rw [← hy]
        congr 1
        unfold Addr.add
        split <;> split <;> simp_all <;> omega
      · cases hv)
    have hlen : ys.length = sz := by rw [hl]; simp; omega
    refine ⟨.agg ys.toArray, ?_, ?_⟩
    · have := run_loadCells_list (P := P) w (ad.add o) ys hc
      rw [hlen] at this
      unfold loadVar
      simp [run_isAgg ha, run_sizeOf hs, this]
    · simp only [Rep]
      refine ⟨_, rfl, ?_, by simpa using hr⟩
      rw [List.all_eq_true] at hall ⊢
      intro v hv
      exact hall v (List.mem_of_mem_drop (List.mem_of_mem_take hv))
  · rintro rfl v hv
    obtain ⟨y, hy, q⟩ := h o v hv
    refine ⟨y, ?_, q⟩
    unfold loadVar
    simp [run_isAgg ha, hy]
/-- A row's element as cells. -/
theorem Row.cells {g sz : Nat} {xs : List (List V)} (h : Row w S L g sz xs) {i : Nat} {c : List V} (hc : xs[i]? = some c) :
    c.length = sz ∧ c.all V.isCell = true ∧ ∀ (j : Nat) (v : V), c[j]? = some v → ∃ y, w.cell? ((⟨g, i * sz, none⟩ : Addr).add j) = some y ∧ Rep w S L v y := by
  obtain ⟨h1, h2⟩ := h i c hc
  refine ⟨h1, ?_, fun j v hv => ?_⟩
  · rw [List.all_eq_true]
    intro v hv
    obtain ⟨j, hj⟩ := List.getElem?_of_mem hv
    exact (h2 j v hj).1
  · rw [add_lit]; exact (h2 j v hv).2
theorem CellsAt.cells {r q : Nat} {c : List V} (h : CellsAt w S L r q c) : c.all V.isCell = true ∧ ∀ (j : Nat) (v : V), c[j]? = some v → ∃ y, w.cell? ((⟨r, q, none⟩ : Addr).add j) = some y ∧ Rep w S L v y := by
  rw [CellsAt.iff] at h
  refine ⟨?_, fun j v hv => ?_⟩
  · rw [List.all_eq_true]
    intro v hv
    obtain ⟨j, hj⟩ := List.getElem?_of_mem hv
    exact (h j v hj).1
  · rw [add_lit]; exact (h j v hv).2.2
/-- A live pointer's place. -/
theorem Inv.ptr (hI : Inv base w S G L) {b n i o : Nat} {x : Value} (hx : Rep w S L (.ptr b n i o) x) {sz : Nat} {xs : List (List V)} (hb : G b = some (.arr sz xs)) (hn : xs.length = n) {c : List V} (hc : xs[i]? = some c) :
    ∃ g l cap cur, L b = some l ∧ l.own = some g ∧ l.v = .slice (some ⟨g, 0, none⟩) l.n cap ∧ w.heap[g]? = some (.cells cur l.e (0, 0)) ∧ l.n = xs.length ∧ l.n ≤ cap ∧ cap ≤ maxLen ∧ cur.size = cap * sz ∧ Row w S L g sz xs ∧ x = .pointer (some ⟨g, i * sz + o, none⟩) := by
  simp only [Rep] at hx
  obtain ⟨ad, rfl, l, hl, hle, hx⟩ := hx
  obtain ⟨h1, h2, h3⟩ := hI.row hb hl
  obtain ⟨g, hg, rfl⟩ := hx (by omega)
  simp only [hg] at h3
  obtain ⟨cap, cur, e1, e2, e3, e4, e5, e6, e7, e8⟩ := h3
  exact ⟨g, l, cap, cur, hl, hg, e1, e3, h1, e4, e5, e6, e7, by rw [h2]⟩
end
end Go.Ev
namespace Go.Ev
variable [Consts]
set_option linter.unusedSectionVars false
open Go.RowKit
set_option linter.unusedSimpArgs false
set_option linter.unusedVariables false
section
variable {P : Program} {o : Oper} {a : Act} {base : Nat} {w : World} {S : SSet} {L : LMap} {G : Nat → Option Blk}
theorem q_move {x : Operand} {v : V} (hI : Inv base w S G L) (ho : o.op = .move x) (hx : Rep w S L v (a.eval x)) : OpGoal P o a base w S L G v :=
  OpGoal.same hI (by simp [execOp, ho]) hx
theorem q_assign {x : Operand} {v : V} (hI : Inv base w S G L) (ho : o.op = .assign x) (hx : Rep w S L v (a.eval x)) : OpGoal P o a base w S L G v :=
  OpGoal.same hI (by simp [execOp, ho]) hx
theorem q_pick {c x y : Operand} {b : Bool} {v u : V} (hI : Inv base w S G L) (ho : o.op = .pick c x y) (hc : Rep w S L (.bool b) (a.eval c)) (hx : Rep w S L v (a.eval x)) (hy : Rep w S L u (a.eval y)) :
    OpGoal P o a base w S L G (if b then v else u) := by
  simp only [Rep] at hc
  refine OpGoal.same (x := if b then a.eval x else a.eval y) hI (by simp [execOp, ho, hc, asBool]) ?_
  cases b <;> simpa
theorem q_fa {s : TypeId} {x : Operand} {f : Nat} {fs : Array Field} {fd : Field} {z : Nat} {v v' : V} (hI : Inv base w S G L) (ho : o.op = .fieldAddr s x f) (hs : P.underlying s = some (.struct fs)) (hf : fs[f]? = some fd)
    (hz : size? P fd.type = some z) (hz0 : z ≠ 0) (hx : Rep w S L v (a.eval x))
    (hv : (∃ b n i o, v = .ptr b n i o ∧ v' = .ptr b n i (o + fd.offset)) ∨ ∃ c o, v = .dptr c o ∧ v' = .dptr c (o + fd.offset)) : OpGoal P o a base w S L G v' := by
  have run : ∀ ad, a.eval x = .pointer (some ad) → (execOp a.eval o).run P w = .ok (.value (.pointer (some (ad.add fd.offset)))) w := by
    intro ad hx
    simp [execOp, ho, Instr.fieldAt, run_underlying hs, hf, hx, Instr.sureAddr, fieldPlace, run_sizeOf hz, hz0]
  rcases hv with ⟨b, n, i, q, rfl, rfl⟩ | ⟨c, q, rfl, rfl⟩
  · simp only [Rep] at hx
    obtain ⟨ad, e, l, hl, hle, h⟩ := hx
    refine OpGoal.same hI (run ad e) ?_
    simp only [Rep]
    refine ⟨_, rfl, l, hl, hle, fun hn => ?_⟩
    obtain ⟨r, hr, rfl⟩ := h hn
    exact ⟨r, hr, by rw [add_lit]; simp [Nat.add_assoc]⟩
  · simp only [Rep] at hx
    obtain ⟨r, q', e, h⟩ := hx
    refine OpGoal.same hI (run _ e) ?_
    simp only [Rep]
    exact ⟨r, q', by rw [add_lit]; simp [Nat.add_assoc], h⟩
theorem run_part {t : TypeId} {ag : Bool} {sz : Nat} (ha : isAgg? P t = some ag) (hs : size? P t = some sz) {cs : List V} {vs : Array Value} (hr : Reps w S L cs vs.toList) (hall : cs.all V.isCell = true) (off : Nat) :
    (ag = true → off + sz ≤ cs.length → ∃ x, (part t vs off).run P w = .ok x w ∧ Rep w S L (.agg ((cs.drop off).take sz)) x) ∧
    (ag = false → ∀ v, cs[off]? = some v → ∃ x, (part t vs off).run P w = .ok x w ∧ Rep w S L v x) := by
  constructor
  · rintro rfl hle
    refine ⟨.agg (vs.extract off (off + sz)), by simp [part, run_isAgg ha, run_sizeOf hs], ?_⟩
    simp only [Rep]
    refine ⟨_, rfl, ?_, ?_⟩
    · rw [List.all_eq_true] at hall ⊢
      intro v hv
      exact hall v (List.mem_of_mem_drop (List.mem_of_mem_take hv))
    · have := (hr.drop off).take sz
      rw [Array.toList_extract]
      simpa [List.extract] using this
  · rintro rfl v hv
    obtain ⟨x, hx, q⟩ := hr.at hv
    refine ⟨x, ?_, q⟩
    have hx' : vs[off]? = some x := by simpa using hx
    simp [part, run_isAgg ha, hx']
theorem q_fld {t : TypeId} {x : Operand} {f : Nat} {fs : Array Field} {fd : Field} {ag : Bool} {z : Nat} {c : List V} {v : V} (hI : Inv base w S G L) (ho : o.op = .field t x f) (hs : P.underlying t = some (.struct fs)) (hf : fs[f]? = some fd)
    (ha : isAgg? P fd.type = some ag) (hz : size? P fd.type = some z) (hx : Rep w S L (.agg c) (a.eval x))
    (hv : if ag then fd.offset + z ≤ c.length ∧ v = .agg ((c.drop fd.offset).take z) else c[fd.offset]? = some v) : OpGoal P o a base w S L G v := by
  simp only [Rep] at hx
  obtain ⟨vs, e, hall, hr⟩ := hx
  obtain ⟨h1, h2⟩ := run_part (P := P) ha hz hr hall fd.offset
  have run : ∀ x', (part fd.type vs fd.offset).run P w = .ok x' w → (execOp a.eval o).run P w = .ok (.value x') w := by
    intro x' hx'
    simp [execOp, ho, Instr.field, run_underlying hs, hf, e, asAgg, hx']
  cases ag with
  | true =>
    obtain ⟨hle, rfl⟩ := hv
    obtain ⟨x', hx', q⟩ := h1 rfl hle
    exact OpGoal.same hI (run x' hx') q
  | false =>
    obtain ⟨x', hx', q⟩ := h2 rfl v hv
    exact OpGoal.same hI (run x' hx') q
/-- Cells from a place on, read as a variable of a type. -/
theorem q_ld {t : TypeId} {x : Operand} {ag : Bool} {sz : Nat} {v : V} {c : List V} {ad : Addr} {q : Nat} (hI : Inv base w S G L) (ho : o.op = .load t x) (ha : isAgg? P t = some ag) (hs : size? P t = some sz)
    (hx : a.eval x = .pointer (some (ad.add q))) (hall : c.all V.isCell = true) (hc : ∀ (j : Nat) (v : V), c[j]? = some v → ∃ y, w.cell? (ad.add j) = some y ∧ Rep w S L v y)
    (hv : if ag then q + sz ≤ c.length ∧ v = .agg ((c.drop q).take sz) else c[q]? = some v) : OpGoal P o a base w S L G v := by
  obtain ⟨h1, h2⟩ := run_loadVar_cells (P := P) ha hs ad c hall hc q
  have run : ∀ x', (loadVar t (ad.add q)).run P w = .ok x' w → (execOp a.eval o).run P w = .ok (.value x') w := by
    intro x' hx'
    simp [execOp, ho, Instr.loadAt, hx, Instr.sureAddr, hx']
  cases ag with
  | true =>
    obtain ⟨hle, rfl⟩ := hv
    obtain ⟨x', hx', q⟩ := h1 rfl hle
    exact OpGoal.same hI (run x' hx') q
  | false =>
    obtain ⟨x', hx', q⟩ := h2 rfl v hv
    exact OpGoal.same hI (run x' hx') q
theorem q_nilc {x : Operand} {v : V} (hI : Inv base w S G L) (ho : o.op = .nilCheck x) (hx : Rep w S L v (a.eval x)) (hv : (∃ b n i o, v = .ptr b n i o) ∨ ∃ c o, v = .dptr c o) : OpGoal P o a base w S L G v := by
  have e : ∃ ad, a.eval x = .pointer (some ad) := by
    rcases hv with ⟨b, n, i, q, rfl⟩ | ⟨c, q, rfl⟩ <;> simp only [Rep] at hx
    · obtain ⟨ad, e, -⟩ := hx; exact ⟨ad, e⟩
    · obtain ⟨r, q', e, -⟩ := hx; exact ⟨_, e⟩
  obtain ⟨ad, e⟩ := e
  exact OpGoal.same hI (by simp [execOp, ho, e]) (e ▸ hx)
theorem q_ext {x : Operand} {i : Nat} {vs : List V} {v : V} (hI : Inv base w S G L) (ho : o.op = .extract x i) (hx : Rep w S L (.tup vs) (a.eval x)) (hv : vs[i]? = some v) : OpGoal P o a base w S L G v := by
  simp only [Rep] at hx
  obtain ⟨ys, e, h⟩ := hx
  obtain ⟨y, hy, q⟩ := h.at hv
  have hy' : ys[i]? = some y := by simpa using hy
  exact OpGoal.same hI (by simp [execOp, ho, e, Instr.extract, hy']) q
theorem q_un {op : UnOp} {t : TypeId} {x : Operand} {v u : V} (hI : Inv base w S G L) (ho : o.op = .unOp op t x) (hx : Rep w S L v (a.eval x)) (hv : evUn op v = some u) : OpGoal P o a base w S L G u := by
  have run : ∀ y, (Op.unary op (a.eval x)).run P w = .ok y w → (execOp a.eval o).run P w = .ok (.value y) w := fun y hy => by simp [execOp, ho, hy]
  unfold evUn at hv
  split at hv
  · simp only [Rep] at hx
    simp only [Option.some.injEq] at hv; subst hv
    exact OpGoal.same hI (run _ (by rw [hx]; rfl)) (by simp [Rep])
  · simp only [Rep] at hx
    simp only [intBin, Option.some.injEq] at hv; subst hv
    exact OpGoal.same hI (run _ (by rw [hx]; rfl)) (by simp [Rep])
  · simp only [Rep] at hx
    simp only [Option.some.injEq] at hv; subst hv
    exact OpGoal.same hI (run _ (by rw [hx]; rfl)) (by simp [Rep])
  · cases hv
theorem q_cvi {s d : TypeId} {x : Operand} {k j j' : IntKind} {n : Int} (hI : Inv base w S G L) (ho : o.op = .convert s d x) (hs : P.underlying s = some (.int j')) (hd : P.underlying d = some (.int k)) (hx : Rep w S L (.int j n) (a.eval x)) : OpGoal P o a base w S L G (.int k (k.wrap n)) := by
  simp only [Rep] at hx
  exact OpGoal.same hI (x := .int k (k.wrap n)) (by simp [execOp, ho, hx, convert, run_underlying hs, run_underlying hd, Conv.intToInt]) (by simp [Rep])
theorem q_cvs {s d : TypeId} {x : Operand} {b : ByteArray} (hI : Inv base w S G L) (ho : o.op = .convert s d x) (hs : P.underlying s = some .string) (hd : P.underlying d = some .string) (hx : Rep w S L (.str b) (a.eval x)) : OpGoal P o a base w S L G (.str b) := by
  simp only [Rep] at hx
  exact OpGoal.same hI (x := .string b) (by simp [execOp, ho, hx, convert, run_underlying hs, run_underlying hd]) (by simp [Rep])
theorem q_ixs {t : TypeId} {x i : Operand} {k : IntKind} {n : Int} {s : ByteArray} {u : UInt8} (hI : Inv base w S G L) (ho : o.op = .index t x i) (ht : P.underlying t = some .string) (hx : Rep w S L (.str s) (a.eval x)) (hi : Rep w S L (.int k n) (a.eval i))
    (h0 : 0 ≤ n) (hu : s.data.toList[n.toNat]? = some u) : OpGoal P o a base w S L G (.int .u8 u.toNat) := by
  simp only [Rep] at hx hi
  have hs : s[n.toNat]? = some u := by
    have : s.data[n.toNat]? = some u := by simpa using hu
    have h1 : n.toNat < s.size := (Array.getElem?_eq_some_iff.1 this).1
    rw [getElem?_pos s n.toNat h1]
    rw [getElem?_pos s.data n.toNat h1] at this
    exact this
  exact OpGoal.same hI (x := .int .u8 u.toNat) (by simp [execOp, ho, hx, hi, Instr.index, asIntOf, run_underlying ht, h0, hs]) (by simp [Rep])
theorem q_mfn {f : FuncId} {xs ys : Array Operand} {as bs : List V} (hI : Inv base w S G L) (ho : o.op = .makeFunc (.func f) xs ys) (ha : Reps w S L as (xs.toList.map a.eval)) (hb : Reps w S L bs (ys.toList.map a.eval)) : OpGoal P o a base w S L G (.fn f as bs) := by
  refine OpGoal.same hI (x := .func (.func f) (xs.map a.eval) (ys.map a.eval)) (by simp [execOp, ho, Instr.makeFunc]) ?_
  simp only [Rep]
  exact ⟨_, _, rfl, by simpa using ha, by simpa using hb⟩
end
end Go.Ev
namespace Go.Ev
variable [Consts]
set_option linter.unusedSectionVars false
open Go.RowKit
set_option linter.unusedSimpArgs false
set_option linter.unusedVariables false
section
variable {P : Program} {o : Oper} {a : Act} {base : Nat} {w : World} {S : SSet} {L : LMap} {G : Nat → Option Blk}
def toV : V → Value
  | .int k n => .int k n
  | .bool b => .bool b
  | .str s => .string s
  | _ => undef
theorem run_eqGuard (op : BinOp) (t : TypeId) (x y : Operand) (u v : Value) (h : u ≠ .nilIface) (h' : ∀ cs, u ≠ .agg cs) : (eqGuard op t x y u v).run P w = .ok () w := by
  unfold eqGuard
  cases op <;> cases u <;> cases v <;> first | rfl | exact absurd rfl h | exact absurd rfl (h' _)
theorem run_binInt {op : BinOp} {t : TypeId} {k : IntKind} {p q : Int} {u : V} (h : intBin op k p q = some u) : ∃ x, (binOp op t (.int k p) (.int k q)).run P w = .ok x w ∧ Rep w S L u x := by
  cases op <;> simp only [intBin, Option.some.injEq, reduceCtorEq] at h
  case quo =>
    split at h <;> simp only [Option.some.injEq, reduceCtorEq] at h
    subst h
    exact ⟨_, by simp only [binOp, ne_eq, not_true_eq_false, if_false, Op.intDiv]; rw [if_neg (by assumption)]; rfl, by simp [Rep]⟩
  case rem =>
    split at h <;> simp only [Option.some.injEq, reduceCtorEq] at h
    subst h
    exact ⟨_, by simp only [binOp, ne_eq, not_true_eq_false, if_false, Op.intDiv]; rw [if_neg (by assumption)]; rfl, by simp [Rep]⟩
  all_goals
    refine ⟨toV u, ?_, ?_⟩
    · subst h
      simp only [binOp, ne_eq, not_true_eq_false, if_false]; rfl
    · subst h
      simp only [Rep, toV]
theorem run_binStr {op : BinOp} {t : TypeId} {p q : ByteArray} {u : V} (h : strBin op p q = some u) : ∃ x, (binOp op t (.string p) (.string q)).run P w = .ok x w ∧ Rep w S L u x := by
  cases op <;> simp only [strBin, Option.some.injEq, reduceCtorEq] at h
  case add =>
    split at h <;> simp only [Option.some.injEq, reduceCtorEq] at h
    subst h
    refine ⟨.string (p ++ q), ?_, by simp [Rep]⟩
    simp only [binOp, Op.stringOp]
    rw [if_neg (by simp only [IntKind.max, IntKind.signed]; have : p.size + q.size ≤ 4611686018427387904 := by assumption
                   show ¬ ((p.size + q.size : Nat) : Int) > 9223372036854775807
                   omega)]
    rfl
  all_goals
    refine ⟨toV u, ?_, ?_⟩
    · subst h
      simp only [binOp]; rfl
    · subst h
      simp only [Rep, toV]
theorem run_equal {t : TypeId} {x y : Value} {r : Bool} (h : ∀ d, (Op.equalIn (d + 1) t x y).run P w = .ok r w) : (Op.equal t x y).run P w = .ok r w := h 9999
theorem q_bin {op : BinOp} {ek : EqK} {t yt : TypeId} {x y : Operand} {p q u : V} (hI : Inv base w S G L) (ho : o.op = .binOp op t x y yt) (hx : Rep w S L p (a.eval x)) (hy : Rep w S L q (a.eval y))
    (hb : ek = .bool → P.underlying t = some .bool) (hp : ek = .ptr → ∃ e, P.underlying t = some (.pointer e)) (hv : evBin op ek p q = some u) : OpGoal P o a base w S L G u := by
  have run : ∀ r, a.eval x ≠ .nilIface → (∀ cs, a.eval x ≠ .agg cs) → (binOp op t (a.eval x) (a.eval y)).run P w = .ok r w → (execOp a.eval o).run P w = .ok (.value r) w := fun r h1 h2 h => by
    simp [execOp, ho, run_eqGuard _ _ _ _ _ _ h1 h2, h]
  have fin : ∀ v w', a.eval x = v → a.eval y = w' → v ≠ .nilIface → (∀ cs, v ≠ .agg cs) → (∃ r, (binOp op t v w').run P w = .ok r w ∧ Rep w S L u r) → OpGoal P o a base w S L G u := by
    rintro v w' rfl rfl h1 h2 ⟨r, hr, hu⟩
    exact OpGoal.same hI (run r h1 h2 hr) hu
  unfold evBin at hv
  split at hv
  · rename_i k c k' d
    simp only [Rep] at hx hy
    refine fin _ _ hx hy (by simp) (by simp) ?_
    split at hv
    · split at hv <;> simp only [Option.some.injEq, reduceCtorEq] at hv
      refine ⟨toV u, ?_, by subst hv; simp only [Rep, toV]⟩
      subst hv
      rename_i h
      simp only [binOp, Op.shift, if_neg h]; rfl
    · split at hv <;> simp only [Option.some.injEq, reduceCtorEq] at hv
      refine ⟨toV u, ?_, by subst hv; simp only [Rep, toV]⟩
      subst hv
      rename_i h
      simp only [binOp, Op.shift, if_neg h]; rfl
    · split at hv
      · subst_vars
        exact run_binInt hv
      · cases hv
  · simp only [Rep] at hx hy
    exact fin _ _ hx hy (by simp) (by simp) (run_binStr hv)
  · rename_i c d
    simp only [Rep] at hx hy
    refine fin _ _ hx hy (by simp) (by simp) ?_
    have hu : ek = .bool → (Op.equal t (.bool c) (.bool d)).run P w = .ok (c == d) w := fun e => run_equal fun n => by
      simp [Op.equalIn, run_underlying (hb e)]
    split at hv <;> simp only [Option.some.injEq, reduceCtorEq] at hv
    · subst hv; exact ⟨.bool (c == d), by simp [binOp, hu rfl], by simp only [Rep]⟩
    · subst hv; exact ⟨.bool (!(c == d)), by simp [binOp, hu rfl], by simp only [Rep]⟩
  · simp only [Rep] at hx hy
    refine fin _ _ hx hy (by simp) (by simp) ?_
    have hu : ek = .ptr → (Op.equal t (.pointer none) (.pointer none)).run P w = .ok true w := fun e => run_equal fun n => by
      obtain ⟨e, h⟩ := hp e
      simp [Op.equalIn, run_underlying h]
    split at hv <;> simp only [Option.some.injEq, reduceCtorEq] at hv
    · subst hv; exact ⟨.bool true, by simp [binOp, hu rfl], by simp only [Rep]⟩
    · subst hv; exact ⟨.bool false, by simp [binOp, hu rfl], by simp only [Rep]⟩
  all_goals
    have hu : ∀ ad, ek = .ptr → (Op.equal t (.pointer (some ad)) (.pointer none)).run P w = .ok false w ∧ (Op.equal t (.pointer none) (.pointer (some ad))).run P w = .ok false w := fun ad e => by
      obtain ⟨e, h⟩ := hp e
      exact ⟨run_equal fun n => by simp [Op.equalIn, run_underlying h], run_equal fun n => by simp [Op.equalIn, run_underlying h]⟩
  · simp only [Rep] at hx hy
    obtain ⟨ad, hx, -⟩ := hx
    refine fin _ _ hx hy (by simp) (by simp) ?_
    split at hv <;> simp only [Option.some.injEq, reduceCtorEq] at hv
    · subst hv; exact ⟨.bool false, by simp [binOp, (hu ad rfl).1], by simp only [Rep]⟩
    · subst hv; exact ⟨.bool true, by simp [binOp, (hu ad rfl).1], by simp only [Rep]⟩
  · simp only [Rep] at hx hy
    obtain ⟨r, q, hx, -⟩ := hx
    refine fin _ _ hx hy (by simp) (by simp) ?_
    split at hv <;> simp only [Option.some.injEq, reduceCtorEq] at hv
    · subst hv; exact ⟨.bool false, by simp [binOp, (hu _ rfl).1], by simp only [Rep]⟩
    · subst hv; exact ⟨.bool true, by simp [binOp, (hu _ rfl).1], by simp only [Rep]⟩
  · simp only [Rep] at hx hy
    obtain ⟨ad, hy, -⟩ := hy
    refine fin _ _ hx hy (by simp) (by simp) ?_
    split at hv <;> simp only [Option.some.injEq, reduceCtorEq] at hv
    · subst hv; exact ⟨.bool false, by simp [binOp, (hu ad rfl).2], by simp only [Rep]⟩
    · subst hv; exact ⟨.bool true, by simp [binOp, (hu ad rfl).2], by simp only [Rep]⟩
  · simp only [Rep] at hx hy
    obtain ⟨r, q, hy, -⟩ := hy
    refine fin _ _ hx hy (by simp) (by simp) ?_
    split at hv <;> simp only [Option.some.injEq, reduceCtorEq] at hv
    · subst hv; exact ⟨.bool false, by simp [binOp, (hu _ rfl).2], by simp only [Rep]⟩
    · subst hv; exact ⟨.bool true, by simp [binOp, (hu _ rfl).2], by simp only [Rep]⟩
  · cases hv
end
end Go.Ev
namespace Go.Ev
variable [Consts]
set_option linter.unusedSectionVars false
open Go.RowKit
set_option linter.unusedSimpArgs false
set_option linter.unusedVariables false
section
variable {P : Program} {o : Oper} {a : Act} {base : Nat} {w : World} {S : SSet} {L : LMap} {G : Nat → Option Blk}
theorem run_ia {t e : TypeId} {x i : Operand} {sz : Nat} {ad : Addr} {len c : Nat} {k : IntKind} {n : Int} (ho : o.op = .indexAddr t x i) (ht : P.underlying t = some (.slice e)) (hs : size? P e = some sz) (hx : a.eval x = .slice (some ad) len c)
    (hi : a.eval i = .int k n) (h0 : 0 ≤ n) (h1 : n < len) : (execOp a.eval o).run P w = .ok (.value (.pointer (some (ad.add (n.toNat * sz))))) w := by
  simp [execOp, ho, Instr.indexAt, hx, hi, asIntOf, run_underlying ht, h0, h1, run_sizeOf hs]
theorem q_ia_slc {t e : TypeId} {x i : Operand} {sz : Nat} {k : IntKind} {n : Int} {xs : List (List V)} {c : List V} (hI : Inv base w S G L) (ho : o.op = .indexAddr t x i) (ht : P.underlying t = some (.slice e)) (hs : size? P e = some sz)
    (hx : Rep w S L (.slc xs) (a.eval x)) (hi : Rep w S L (.int k n) (a.eval i)) (h0 : 0 ≤ n) (hc : xs[n.toNat]? = some c) (hcl : c.length = sz) : OpGoal P o a base w S L G (.dptr c 0) := by
  simp only [Rep] at hx hi
  obtain ⟨oa, cp, e1, hle, h⟩ := hx
  have hlt : n.toNat < xs.length := (List.getElem?_eq_some_iff.1 hc).1
  rcases h with rfl | ⟨r, q, z, rfl, h⟩
  · simp at hlt
  · obtain ⟨h1, h2⟩ := (RowsAt.iff r z xs q).1 h _ c hc
    have hz : z = sz := by omega
    subst hz
    refine OpGoal.same hI (run_ia ho ht hs e1 hi h0 (by omega)) ?_
    simp only [Rep]
    exact ⟨r, q + n.toNat * z, by rw [add_lit]; rfl, h2⟩
/-- A live row's slice. -/
theorem Inv.ref (hI : Inv base w S G L) {b n : Nat} {x : Value} (hx : Rep w S L (.ref b n) x) {sz : Nat} {xs : List (List V)} (hb : G b = some (.arr sz xs)) (hn : xs.length = n) :
    ∃ l, L b = some l ∧ l.n = n ∧ l.sz = sz ∧ x = l.v ∧ BlkRep base w S L l (.arr sz xs) := by
  simp only [Rep] at hx
  obtain ⟨_, l, hl, hle, hx⟩ := hx
  have hr := hI.row hb hl
  obtain ⟨h1, h2, h3⟩ := hr
  exact ⟨l, hl, by omega, h2, hx (by omega), h1, h2, h3⟩
theorem q_ia_ref {t e : TypeId} {x i : Operand} {sz b m : Nat} {k : IntKind} {n : Int} {xs : List (List V)} (hI : Inv base w S G L) (ho : o.op = .indexAddr t x i) (ht : P.underlying t = some (.slice e)) (hs : size? P e = some sz)
    (hx : Rep w S L (.ref b m) (a.eval x)) (hb : G b = some (.arr sz xs)) (hm : xs.length = m) (hi : Rep w S L (.int k n) (a.eval i)) (h0 : 0 ≤ n) (hn : n < m) : OpGoal P o a base w S L G (.ptr b m n.toNat 0) := by
  obtain ⟨l, hl, h1, h2, e1, -, -, h3⟩ := hI.ref hx hb hm
  simp only [Rep] at hi
  cases hown : l.own with
  | none => rw [hown] at h3; obtain ⟨rfl, -⟩ := h3; simp at hm; omega
  | some g =>
    rw [hown] at h3
    obtain ⟨cap, cur, e2, -⟩ := h3
    rw [e2] at e1
    refine OpGoal.same hI (run_ia ho ht hs e1 hi h0 (by omega)) ?_
    simp only [Rep]
    exact ⟨_, rfl, l, hl, by omega, fun _ => ⟨g, hown, by rw [add_lit, h2]; simp⟩⟩
theorem q_ia_sub {t e : TypeId} {x i : Operand} {sz b m lo hi' : Nat} {k : IntKind} {n : Int} {xs : List (List V)} (hI : Inv base w S G L) (ho : o.op = .indexAddr t x i) (ht : P.underlying t = some (.slice e)) (hs : size? P e = some sz)
    (hx : Rep w S L (.sub b m lo hi') (a.eval x)) (hb : G b = some (.arr sz xs)) (hm : xs.length = m) (hi : Rep w S L (.int k n) (a.eval i)) (h0 : 0 ≤ n) (hn : n < hi' - lo) (hle : hi' ≤ m) : OpGoal P o a base w S L G (.ptr b m (lo + n.toNat) 0) := by
  simp only [Rep] at hi hx
  obtain ⟨_, l, hl, hlm, hx⟩ := hx
  obtain ⟨h1, h2, h3⟩ := hI.row hb hl
  obtain ⟨q1, q2, oa, c, e1, q3, q4⟩ := hx (by omega)
  obtain ⟨g, hown, rfl⟩ := q4 (by omega)
  refine OpGoal.same hI (run_ia ho ht hs e1 hi h0 (by omega)) ?_
  simp only [Rep]
  exact ⟨_, rfl, l, hl, by omega, fun _ => ⟨g, hown, by rw [add_lit, h2, Nat.add_mul]; simp⟩⟩
theorem q_iaa {t e : TypeId} {x i : Operand} {len sz : Nat} {k : IntKind} {n : Int} {v v' : V} (hI : Inv base w S G L) (ho : o.op = .indexAddr t x i) (ht : P.underlying t = some (.array len e)) (hs : size? P e = some sz)
    (hx : Rep w S L v (a.eval x)) (hi : Rep w S L (.int k n) (a.eval i)) (h0 : 0 ≤ n) (hn : n < len)
    (hv : (∃ b m j q, v = .ptr b m j q ∧ v' = .ptr b m j (q + n.toNat * sz)) ∨ ∃ c q, v = .dptr c q ∧ v' = .dptr c (q + n.toNat * sz)) : OpGoal P o a base w S L G v' := by
  simp only [Rep] at hi
  have run : ∀ ad, a.eval x = .pointer (some ad) → (execOp a.eval o).run P w = .ok (.value (.pointer (some (ad.add (n.toNat * sz))))) w := by
    intro ad hx
    simp [execOp, ho, Instr.indexAt, hx, hi, asIntOf, run_underlying ht, Instr.sureAddr, h0, hn, run_sizeOf hs]
  rcases hv with ⟨b, m, j, q, rfl, rfl⟩ | ⟨c, q, rfl, rfl⟩
  · simp only [Rep] at hx
    obtain ⟨ad, e, l, hl, hle, h⟩ := hx
    refine OpGoal.same hI (run ad e) ?_
    simp only [Rep]
    refine ⟨_, rfl, l, hl, hle, fun hn => ?_⟩
    obtain ⟨r, hr, rfl⟩ := h hn
    exact ⟨r, hr, by rw [add_lit]; simp [Nat.add_assoc]⟩
  · simp only [Rep] at hx
    obtain ⟨r, q', e, h⟩ := hx
    refine OpGoal.same hI (run _ e) ?_
    simp only [Rep]
    exact ⟨r, q', by rw [add_lit]; simp [Nat.add_assoc], h⟩
/-! ### Lengths -/
theorem q_len {t : TypeId} {x : Operand} {n : Nat} (hI : Inv base w S G L) (ho : o.op = .call { callee := .builtin .len, args := #[x], argTypes := #[t] })
    (h : (P.underlying t = some .string ∧ ∃ s, a.eval x = .string s ∧ s.size = n) ∨ (∃ e, P.underlying t = some (.slice e) ∧ ∃ oa c, a.eval x = .slice oa n c) ∨
      (∃ k e, P.underlying t = some (.map k e) ∧ ((a.eval x = .map none ∧ n = 0) ∨ ∃ r ms c, a.eval x = .map (some r) ∧ w.heap[r]? = some (.map ms c) ∧ ms.size = n))) : OpGoal P o a base w S L G (.int .i64 n) := by
  refine OpGoal.same hI (x := .int .i64 n) ?_ (by simp [Rep])
  rcases h with ⟨ht, s, hs, rfl⟩ | ⟨e, ht, oa, c, hx⟩ | ⟨k, e, ht, h⟩
  · simp [execOp, ho, resolve, invoke, builtin, Builtin.len_, run_underlying ht, hs, goInt]
  · simp [execOp, ho, resolve, invoke, builtin, Builtin.len_, run_underlying ht, hx, goInt]
  · rcases h with ⟨hx, rfl⟩ | ⟨r, ms, c, hx, hm, rfl⟩
    · simp [execOp, ho, resolve, invoke, builtin, Builtin.len_, run_underlying ht, hx, goInt]
    · have hg : (getObj r).run P w = .ok (.map ms c) w := by simp only [getObj, Sem.run, hm]
      simp [execOp, ho, resolve, invoke, builtin, Builtin.len_, run_underlying ht, hx, goInt, hg]
/-! ### Slices of texts and of slices -/
theorem bounds_some {k r : Nat} {v : Option V} (h : bounds k v = some r) : ∃ j n, v = some (.int j n) ∧ 0 ≤ n ∧ n ≤ k ∧ r = n.toNat := by
  unfold bounds at h
  split at h
  · split at h
    · rename_i h'
      simp only [Option.some.injEq] at h
      exact ⟨_, _, rfl, h'.1, h'.2, h.symm⟩
    · cases h
  · cases h
theorem run_sliceBound {j : IntKind} {n : Int} {y : Nat} {code : BoundsCode} (h0 : 0 ≤ n) (h1 : n ≤ y) : (Instr.sliceBound (.int j n) y code).run P w = .ok n.toNat w := by
  simp [Instr.sliceBound, asIntOf, h0, h1]
/-- The three bounds of a slice expression, as the reader has them. -/
theorem run_bounds {ev : MArg → Option V} (hρ : ArgRel w S L a.eval ev) {lo hi mx : Option Operand} {lo' hi' mx' : Option MArg} (h1 : argO lo = some lo') (h2 : argO hi = some hi') (h3 : argO mx = some mx')
    {cap' cap len d l h m : Nat} {isS : Bool} (hm : (mx' = none ∧ m = cap') ∨ ∃ m0, m0 ≤ cap' ∧ mx' ≠ none ∧ bnd ev m0 d mx' = some m) (hh : (hi' = none ∧ mx' = none ∧ h = len) ∨ ∃ h0 d, h0 ≤ m ∧ hi' ≠ none ∧ bnd ev h0 d hi' = some h) (hl : bnd ev h 0 lo' = some l) :
    (Instr.sliceBounds isS len cap' (lo.map a.eval) (hi.map a.eval) (mx.map a.eval)).run P w = .ok (l, h, m) w := by
  have one : ∀ (x : Option Operand) (x' : Option MArg), argO x = some x' → (x = none ∧ x' = none) ∨ ∃ y m, x = some y ∧ x' = some m ∧ arg y = some m := by
    intro x x' hx
    cases x with
    | none => simp only [argO, Option.some.injEq] at hx; exact .inl ⟨rfl, hx.symm⟩
    | some y => simp only [argO, Option.map_eq_some_iff] at hx; obtain ⟨m, hm, rfl⟩ := hx; exact .inr ⟨y, m, rfl, rfl, hm⟩
  have val : ∀ y m k r, arg y = some m → bounds k (ev m) = some r → ∀ K, k ≤ K → ∀ code, (Instr.sliceBound (a.eval y) K code).run P w = .ok r w := by
    intro y m k r hy hb K hK code
    obtain ⟨j, n, e, h0, h1, rfl⟩ := bounds_some hb
    have := hρ y m _ hy e
    simp only [Rep] at this
    rw [this]
    exact run_sliceBound h0 (by omega)
  have hM : (mx = none ∧ m = cap') ∨ ∃ y, mx = some y ∧ ∀ code, (Instr.sliceBound (a.eval y) cap' code).run P w = .ok m w := by
    rcases hm with ⟨rfl, rfl⟩ | ⟨m0, hle, hne, hb⟩
    · rcases one _ _ h3 with ⟨rfl, -⟩ | ⟨y, z, -, e, -⟩
      · exact .inl ⟨rfl, rfl⟩
      · cases e
    · rcases one _ _ h3 with ⟨-, rfl⟩ | ⟨y, z, rfl, rfl, hy⟩
      · exact absurd rfl hne
      · exact .inr ⟨y, rfl, val y z m0 m hy hb cap' hle⟩
  have hH : (hi = none ∧ mx = none ∧ h = len) ∨ ∃ y, hi = some y ∧ ∀ code, (Instr.sliceBound (a.eval y) m code).run P w = .ok h w := by
    rcases hh with ⟨rfl, rfl, rfl⟩ | ⟨m0, d', hle, hne, hb⟩
    · rcases one _ _ h2 with ⟨rfl, -⟩ | ⟨y, z, -, e, -⟩
      · rcases one _ _ h3 with ⟨rfl, -⟩ | ⟨y, z, -, e, -⟩
        · exact .inl ⟨rfl, rfl, rfl⟩
        · cases e
      · cases e
    · rcases one _ _ h2 with ⟨-, rfl⟩ | ⟨y, z, rfl, rfl, hy⟩
      · exact absurd rfl hne
      · exact .inr ⟨y, rfl, val y z m0 h hy hb m hle⟩
  have hL : (lo = none ∧ l = 0) ∨ ∃ y, lo = some y ∧ ∀ code, (Instr.sliceBound (a.eval y) h code).run P w = .ok l w := by
    rcases one _ _ h1 with ⟨rfl, rfl⟩ | ⟨y, z, rfl, rfl, hy⟩
    · simp only [bnd, Option.some.injEq] at hl; exact .inl ⟨rfl, hl.symm⟩
    · exact .inr ⟨y, rfl, val y z h l hy hl h (Nat.le_refl _)⟩
  clear one val hm hh hl
  unfold Instr.sliceBounds
  rcases hM with ⟨rfl, rfl⟩ | ⟨ym, rfl, em⟩ <;> rcases hH with ⟨rfl, hmx, rfl⟩ | ⟨yh, rfl, eh⟩ <;> rcases hL with ⟨rfl, rfl⟩ | ⟨yl, rfl, el⟩
  all_goals first
    | (cases hmx; done)
    | (simp; done)
    | (simp [em]; done)
    | (simp [eh]; done)
    | (simp [el]; done)
    | (simp [em, eh]; done)
    | (simp [em, el]; done)
    | (simp [eh, el]; done)
    | (simp [em, eh, el]; done)
theorem cut_extract (s : ByteArray) (l h : Nat) : s.extract l h = cut s l h := by
  have e : (s.extract l h).data = (cut s l h).data := by
    apply Array.ext'
    simp [cut, ByteArray.data_extract, Array.toList_extract, List.extract]
  cases hs : s.extract l h; cases hc : cut s l h
  rw [hs, hc] at e
  exact congrArg ByteArray.mk e
theorem q_sls {ev : MArg → Option V} (hρ : ArgRel w S L a.eval ev) {t : TypeId} {x : Operand} {lo hi : Option Operand} {lo' hi' : Option MArg} (h1 : argO lo = some lo') (h2 : argO hi = some hi') {s : ByteArray} {l h : Nat}
    (hI : Inv base w S G L) (ho : o.op = .slice t x lo hi none) (ht : P.underlying t = some .string) (hx : Rep w S L (.str s) (a.eval x)) (hh : bnd ev s.size s.size hi' = some h) (hl : bnd ev h 0 lo' = some l) : OpGoal P o a base w S L G (.str (cut s l h)) := by
  simp only [Rep] at hx
  have hb := run_bounds (P := P) hρ h1 h2 (show argO none = some none from rfl) (cap' := s.size) (cap := 0) (len := s.size) (d := 0) (l := l) (h := h) (m := s.size) (isS := false) (.inl ⟨rfl, rfl⟩) (by
    cases hi' with
    | none => simp only [bnd, Option.some.injEq] at hh; exact .inl ⟨rfl, rfl, hh.symm⟩
    | some y => exact .inr ⟨s.size, _, Nat.le_refl _, by simp, hh⟩) hl
  refine OpGoal.same hI (x := .string (s.extract l h)) ?_ (by simp only [Rep]; rw [cut_extract])
  simp only [Option.map_none] at hb
  simp [execOp, ho, Instr.sliceAt, Instr.slice, run_underlying ht, hx, hb]
/-- A slice of a slice. -/
theorem run_sll {ev : MArg → Option V} (hρ : ArgRel w S L a.eval ev) {t e : TypeId} {x : Operand} {lo hi mx : Option Operand} {lo' hi' mx' : Option MArg} (h1 : argO lo = some lo') (h2 : argO hi = some hi') (h3 : argO mx = some mx') {sz : Nat}
    (ho : o.op = .slice t x lo hi mx) (ht : P.underlying t = some (.slice e)) (hs : size? P e = some sz) {oa : Option Addr} {n c : Nat} (hx : a.eval x = .slice oa n c) (hnc : n ≤ c) {l h m : Nat}
    (hmh : ¬ (mx'.isSome ∧ hi'.isNone)) (hm : bnd ev n n mx' = some m) (hh : bnd ev m n hi' = some h) (hhm : h ≤ m) (hl : bnd ev h 0 lo' = some l) :
    ∃ m', (mx' = none → m' = c) ∧ (mx' ≠ none → m' = m) ∧ h ≤ m' ∧ (execOp a.eval o).run P w = .ok (.value (.slice (if m' = l then oa else oa.map (·.add (l * sz))) (h - l) (m' - l))) w := by
  have hb : ∀ M d, ((mx' = none ∧ M = c) ∨ ∃ m0, m0 ≤ c ∧ mx' ≠ none ∧ bnd ev m0 d mx' = some M) → ((hi' = none ∧ mx' = none ∧ h = n) ∨ ∃ h0 d, h0 ≤ M ∧ hi' ≠ none ∧ bnd ev h0 d hi' = some h) →
      (execOp a.eval o).run P w = .ok (.value (.slice (if M = l then oa else oa.map (·.add (l * sz))) (h - l) (M - l))) w := fun M d q1 q2 => by
    have hb := run_bounds (P := P) hρ h1 h2 h3 (cap' := c) (cap := 0) (len := n) (d := d) (l := l) (h := h) (m := M) (isS := true) q1 q2 hl
    simp [execOp, ho, Instr.sliceAt, Instr.slice, run_underlying ht, hx, hb, run_sizeOf hs]
  cases mx' with
  | none =>
    simp only [bnd, Option.some.injEq] at hm
    subst hm
    refine ⟨c, fun _ => rfl, fun q => absurd rfl q, by omega, hb c 0 (.inl ⟨rfl, rfl⟩) ?_⟩
    cases hi' with
    | none => simp only [bnd, Option.some.injEq] at hh; exact .inl ⟨rfl, rfl, hh.symm⟩
    | some y => exact .inr ⟨n, _, hnc, by simp, hh⟩
  | some z =>
    refine ⟨m, ⟨fun q => by simp at q, fun _ => rfl, hhm, hb m n (.inr ⟨n, hnc, by simp, hm⟩) ?_⟩⟩
    cases hi' with
    | none => exact absurd ⟨rfl, rfl⟩ hmh
    | some y => exact .inr ⟨m, _, Nat.le_refl _, by simp, hh⟩
end
end Go.Ev
