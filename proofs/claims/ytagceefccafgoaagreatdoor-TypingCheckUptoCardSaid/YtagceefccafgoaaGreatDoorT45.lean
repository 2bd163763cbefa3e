/- Format of the program, walked. Condition: the declarations are of bulk at most 1048576. -/
import Derived.Deep.WholeRow
import Derived.Laws.Tables
import Derived.Laws.Rows
import Derived.Test.YtagceefccafgoaaGreatDoorT44
set_option linter.all false
namespace Go.Ev.Ty
open Go.Ev Go.Proofs Go.RowKit
set_option linter.unusedVariables false
set_option linter.unusedSectionVars false
set_option maxHeartbeats 4000000
set_option maxRecDepth 100000
variable [Consts]
theorem rows_at {w : World} {S : SSet} {L : LMap} {r sz : Nat} : ∀ {xs : List (List V)} {o i : Nat} {c : List V}, RowsAt w S L r sz o xs → xs[i]? = some c → c.length = sz ∧ CellsAt w S L r (o + i * sz) c
  | x :: xs, o, 0, c, h, hc => by
    simp only [RowsAt] at h
    simp at hc
    subst hc
    simpa using h.1
  | x :: xs, o, i + 1, c, h, hc => by
    simp only [RowsAt] at h
    have := rows_at (i := i) (c := c) h.2 (by simpa using hc)
    refine ⟨this.1, ?_⟩
    rw [show o + (i + 1) * sz = o + sz + i * sz from by rw [Nat.add_mul]; omega]
    exact this.2
theorem cells_at {w : World} {S : SSet} {L : LMap} {r : Nat} : ∀ {c : List V} {o j : Nat} {v : V}, CellsAt w S L r o c → c[j]? = some v → v.isCell = true ∧ S r (o + j) ∧ ∃ y, w.cell? ⟨r, o + j, none⟩ = some y ∧ Rep w S L v y
  | x :: c, o, 0, v, h, hv => by
    simp only [CellsAt] at h
    simp at hv
    subst hv
    exact h.1
  | x :: c, o, j + 1, v, h, hv => by
    simp only [CellsAt] at h
    have := cells_at (j := j) (v := v) h.2 (by simpa using hv)
    rwa [show o + (j + 1) = o + 1 + j from by omega]
theorem agg42 : isAgg? Tryz.prog 42 = some true := by kernel_rfl
theorem size42 : size? Tryz.prog 42 = some 22 := by kernel_rfl
/-- A declaration of the list, loaded. -/
theorem load_decl {w : World} {S : SSet} {l : List D} {r o : Nat} (h : RowsAt w S noL r 22 o (l.map D.cells)) (i : Nat) (hi : i < l.length) :
    ∃ vs, (loadVar 42 ⟨r, o + i * 22, none⟩).run Tryz.prog w = .ok (.agg vs) w ∧ Rep w S noL (.agg l[i].cells) (.agg vs) ∧ vs.size = 22 ∧ vs.all (·.oneCell') = true := by
  have hc := (rows_at (i := i) (c := l[i].cells) h (by rw [List.getElem?_map, List.getElem?_eq_getElem hi]; rfl)).2
  have hall : l[i].cells.all V.isCell = true := by
    rw [List.all_eq_true]
    intro v hv
    obtain ⟨j, hj⟩ := List.getElem?_of_mem hv
    exact (cells_at hc hj).1
  obtain ⟨x, h1, h2⟩ := (run_loadVar_cells (P := Tryz.prog) (w := w) (S := S) (L := noL) agg42 size42 ⟨r, o + i * 22, none⟩ l[i].cells hall (fun j v hv => by
    obtain ⟨_, _, y, h1, h2⟩ := cells_at hc hv
    exact ⟨y, by rw [Addr.add_lit]; exact h1, h2⟩) 0).1 rfl (by simp)
  simp only [List.drop_zero, D.take] at h2
  have h3 := h2
  simp only [Rep] at h3
  obtain ⟨vs, rfl, -, h4⟩ := h3
  refine ⟨vs, by rw [Addr.add_lit] at h1; exact h1, h2, ?_, ?_⟩
  · have := h4.len; rw [D.len] at this; simpa using this.symm
  · rw [Array.all_eq_true_iff_forall_mem]
    intro v hv
    exact reps_one (vs := l[i].cells) h4 hall v (Array.mem_toList_iff.2 hv)
theorem infoSize42 : (Tryz.prog.info? 42).map (·.size) = some 22 := by kernel_rfl
section
variable {ops : Array Oper} {rest : List Oper} {op : Oper} {a : Act} {w : World} {Q : Exit → Act → World → Prop}
theorem wpl_load (hgd : op.guard = none) (t : TypeId) (x : Operand) (ho : op.op = .load t x) (ad : Addr) (hx : a.eval x = .pointer (some ad)) {v : Value} (hr : (loadVar t ad).run Tryz.prog w = .ok v w)
    (h : wpList Tryz.prog ops Q rest (a.put op.dst v) w) : wpList Tryz.prog ops Q (op :: rest) a w :=
  wpList_plain hgd fun _ hK => by
    unfold Oper.wp execOp
    simp only [ho, hx, Instr.loadAt, Instr.sureAddr, Sem.run_bind, Sem.run_pure, Result.andThen_ok, hr]
    exact hK _ _ h
theorem wpl_store42 (hgd : op.guard = none) (x y : Operand) (ho : op.op = .store 42 x y) {c vs : Array Value} (hx : a.eval x = .pointer (some ⟨w.heap.size, 0, none⟩)) (hy : a.eval y = .agg vs) (hc : c.size = 22) (hs : vs.size = 22) (h1 : vs.all (·.oneCell') = true)
    (h : wpList Tryz.prog ops Q rest (a.put op.dst undef) (w.alloc (.cells vs 42))) : wpList Tryz.prog ops Q (op :: rest) a (w.alloc (.cells c 42)) := by
  refine wpList_store_row hgd 42 x y ho w.heap.size vs hx hy 42 c (heap_alloc_last w _) (by rw [hs]; exact infoSize42) (by omega) h1 ?_
  rw [World.setRow_alloc_new]
  exact h
theorem wpl_load42 (hgd : op.guard = none) (x : Operand) (ho : op.op = .load 42 x) {vs : Array Value} (hx : a.eval x = .pointer (some ⟨w.heap.size, 0, none⟩)) (hs : vs.size = 22)
    (h : wpList Tryz.prog ops Q rest (a.put op.dst (.agg vs)) (w.alloc (.cells vs 42))) : wpList Tryz.prog ops Q (op :: rest) a (w.alloc (.cells vs 42)) :=
  wpList_load_row hgd 42 x ho w.heap.size hx 42 vs (0, 0) _ (heap_alloc_last w _) Tryz.underlying42 rfl (by rw [hs]; exact infoSize42) h
end
end Go.Ev.Ty
