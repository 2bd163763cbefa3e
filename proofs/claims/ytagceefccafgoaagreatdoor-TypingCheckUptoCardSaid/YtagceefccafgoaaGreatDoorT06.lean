/- Each operation: what the reader says of it holds in memory. Part seven: bytes as text, lesser and greater, maps. No condition. Each operation: what the reader says of it holds in memory. Part eight: new memory, written memory. No condition. Each operation: what the reader says of it holds in memory. Part nine: stores, append, make. No condition. -/
import Derived.Laws.BytesString
import Derived.Laws.MakeOwn
import Derived.Test.YtagceefccafgoaaGreatDoorT05
set_option linter.all false
namespace Go.Ev
variable [Consts]
set_option linter.unusedSectionVars false
open Go.RowKit
set_option linter.unusedSimpArgs false
set_option linter.unusedVariables false
section
variable {P : Program} {o : Oper} {a : Act} {base : Nat} {w : World} {S : SSet} {L : LMap} {G : Nat → Option Blk}
theorem foldl_push (ns : List Int) : ∀ s : ByteArray, ns.foldl (fun r n => r.push (UInt8.ofNat n.toNat)) s = ⟨(s.data.toList ++ ns.map (fun n => UInt8.ofNat n.toNat)).toArray⟩ := by
  induction ns with
  | nil => intro s; simp
  | cons n ns ih =>
    intro s
    rw [List.foldl_cons, ih]
    simp [ByteArray.push]
theorem flat_bytes (ns : List Int) : (ns.map (fun n => [V.int IntKind.u8 n])).flatten = ns.map (V.int .u8) := by
  induction ns with
  | nil => rfl
  | cons n ns ih => rw [List.map_cons, List.flatten_cons, ih]; rfl
theorem q_cvb {s d e : TypeId} {x : Operand} {v : V} {xs : List (List V)} {bs : List UInt8} {rd : Nat → Option Blk} (hrd : ∀ b k, rd b = some k → G b = some k) (hI : Inv base w S G L) (ho : o.op = .convert s d x) (hs : P.underlying s = some (.slice e))
    (he : P.underlying e = some (.int .u8)) (hd : P.underlying d = some .string) (hx : Rep w S L v (a.eval x)) (hstr : v.isStr = false) (hel : elems rd v = some xs) (hb : bytesOf xs = some bs) : OpGoal P o a base w S L G (.str ⟨bs.toArray⟩) := by
  obtain ⟨oa, c, e1, hc, hbe⟩ := elems_behind hI hrd hx hel hstr
  obtain ⟨ns, rfl, rfl⟩ := bytesOf_flat hb
  have run : ∀ r, (Conv.bytesToString (a.eval x)).run P w = .ok r w → (execOp a.eval o).run P w = .ok (.value r) w := fun r hr => by
    rw [e1] at hr
    simp only [List.length_map] at hr e1
    simp [execOp, ho, e1, run_convert_bytes_string w s d e _ _ _ hs he hd, hr]
  refine OpGoal.same hI (run (.string ⟨(ns.map (fun n => UInt8.ofNat n.toNat)).toArray⟩) ?_) (by simp [Rep])
  rw [e1]
  cases hns : ns with
  | nil =>
    cases oa with
    | none => simp [Conv.bytesToString]; rfl
    | some ad =>
      have := run_bytesToString (P := P) w ad 0 c [] (by simp [loadCells, loadCellsFrom])
      exact this
  | cons n0 ns0 =>
    rw [← hns]
    have hne : ns.map (fun n => [V.int IntKind.u8 n]) ≠ [] := by rw [hns]; simp
    have hok : okSz 1 (ns.map (fun n => [V.int IntKind.u8 n])) = true := by rw [hns]; rfl
    obtain ⟨-, -, ys, h1, h2, h3⟩ := hbe.list hok
    obtain ⟨ad, rfl, h4⟩ := h3 hne
    have hys : ys = ns.map (Value.int .u8) := by
      rw [flat_bytes, Reps.iff] at h2
      apply List.ext_getElem?
      intro i
      by_cases hi : i < ns.length
      · have hy : i < ys.length := by simp at h1; omega
        have := h2.2 i (.int .u8 ns[i]) ys[i] (by simp [hi]) (by simp [hy])
        simp only [Rep] at this
        simp [hi, hy, this]
      · rw [List.getElem?_eq_none (by simp at h1; omega), List.getElem?_eq_none (by simp; omega)]
    have hl := run_loadCells_list (P := P) w ad ys h4
    rw [hys] at hl
    have := run_bytesToString (P := P) w ad ns.length c ns (by rw [← hl]; simp)
    rw [foldl_push] at this
    simp only [List.length_map]
    rw [this]
    rfl
/-! ### Lesser and greater -/
theorem run_most {k : IntKind} {f : Int → Int → Bool} {m : Value → Value → Sem Value} (hm : ∀ q z : Int, (m (.int k q) (.int k z)).run P w = .ok (.int k (if f q z then z else q)) w) :
    ∀ (vs : List V) (xs : List Value) (q : Int) (r : V), Reps w S L vs xs → most f k q vs = some r → ∃ z, r = .int k z ∧ (xs.foldlM m (Value.int k q)).run P w = .ok (.int k z) w
  | [], xs, q, r, h, e => by
    simp only [Reps] at h; subst h
    simp only [most, Option.some.injEq] at e; subst e
    exact ⟨q, rfl, by simp [List.foldlM]⟩
  | v :: vs, xs, q, r, h, e => by
    simp only [Reps] at h
    obtain ⟨y, ys, rfl, hy, hys⟩ := h
    unfold most at e
    split at e
    · rename_i h'; cases h'
    · rename_i k' z ds h'
      cases h'
      split at e
      · rename_i hk
        subst hk
        simp only [Rep] at hy; subst hy
        obtain ⟨z', h1, h2⟩ := run_most hm vs ys _ r hys e
        exact ⟨z', h1, by simp only [List.foldlM_cons, Sem.run_bind, hm, Result.andThen_ok, h2]⟩
      · cases e
    · cases e
theorem q_min {args : Array Operand} {ts : Array TypeId} {vs : List V} {r : V} (hI : Inv base w S G L) (ho : o.op = .call { callee := .builtin .min, args := args, argTypes := ts }) (ha : Reps w S L vs (args.toList.map a.eval))
    (hv : most2 (fun x y => y < x) vs = some r) : OpGoal P o a base w S L G r := by
  unfold most2 at hv
  split at hv
  · rename_i k q vs'
    simp only [Reps] at ha
    obtain ⟨y, ys, e, hy, hys⟩ := ha
    simp only [Rep] at hy; subst hy
    obtain ⟨z, rfl, h⟩ := run_most (P := P) (w := w) (m := Builtin.min2) (fun q z => by simp [Builtin.min2]) _ _ _ _ hys hv
    refine OpGoal.same hI (x := .int k z) ?_ (by simp [Rep])
    simp [execOp, ho, resolve, invoke, builtin, Builtin.min_, e, h]
  · cases hv
theorem q_max {args : Array Operand} {ts : Array TypeId} {vs : List V} {r : V} (hI : Inv base w S G L) (ho : o.op = .call { callee := .builtin .max, args := args, argTypes := ts }) (ha : Reps w S L vs (args.toList.map a.eval))
    (hv : most2 (fun x y => x < y) vs = some r) : OpGoal P o a base w S L G r := by
  unfold most2 at hv
  split at hv
  · rename_i k q vs'
    simp only [Reps] at ha
    obtain ⟨y, ys, e, hy, hys⟩ := ha
    simp only [Rep] at hy; subst hy
    obtain ⟨z, rfl, h⟩ := run_most (P := P) (w := w) (m := Builtin.max2) (fun q z => by simp [Builtin.max2]) _ _ _ _ hys hv
    refine OpGoal.same hI (x := .int k z) ?_ (by simp [Rep])
    simp [execOp, ho, resolve, invoke, builtin, Builtin.max_, e, h]
  · cases hv
/-! ### Maps -/
/-- A type's kind of keys. -/
def KeyT (P : Program) (t : TypeId) (kk : Nat) : Prop := (kk = 0 ∧ ∃ k, P.underlying t = some (.int k)) ∨ (kk = 1 ∧ P.underlying t = some .string) ∨ (kk = 2 ∧ P.underlying t = some .bool)
theorem keyT_some {t : TypeId} {kk : Nat} (h : keyT P t = some kk) : KeyT P t kk := by
  unfold keyT at h
  split at h <;> simp only [Option.some.injEq, reduceCtorEq] at h
  · rename_i k hk; exact .inl ⟨h.symm, k, hk⟩
  · rename_i hk; exact .inr (.inl ⟨h.symm, hk⟩)
  · rename_i hk; exact .inr (.inr ⟨h.symm, hk⟩)
theorem run_checkKey {t : TypeId} {kk : Nat} (ht : KeyT P t kk) {k : V} {x : Value} (hk : keyK kk k = true) (hx : Rep w S L k x) (e : Bool) : (Instr.checkKey e 10000 t x).run P w = .ok () w := by
  have : ∀ n, (Instr.checkKey e (n + 1) t x).run P w = .ok () w := by
    intro n
    cases k <;> simp only [keyK, Bool.false_eq_true] at hk <;> simp only [Rep] at hx <;> subst hx <;> rcases ht with ⟨rfl, j, ht⟩ | ⟨rfl, ht⟩ | ⟨rfl, ht⟩ <;> first
      | (simp at hk; done)
      | simp [Instr.checkKey, run_underlying ht]
  exact this 9999
theorem ba_eq {a b : ByteArray} (h : (a == b) = true) : a = b := by
  cases a; cases b
  exact congrArg ByteArray.mk (eq_of_beq h)
theorem findNow_of {t : TypeId} {kk : Nat} (ht : KeyT P t kk) {k : V} {x : Value} (hk : keyK kk k = true) (hx : Rep w S L k x) : ∀ (es : List (V × V)) (ms : List MapEntry) (i : Nat) (r : Option (Nat × V)), Entries w S L es ms i → findK k es i = some r →
    ∃ d, P.underlying t = some d ∧ match r with
      | none => Instr.findNow d x ms i = some none
      | some (j, v) => ∃ m, Instr.findNow d x ms i = some (some (j, m.val)) ∧ i ≤ j ∧ ms[j - i]? = some m ∧ Rep w S L v m.val ∧ ∃ e, es[j - i]? = some e ∧ e.2 = v ∧ m.born = j ∧ Rep w S L k m.key
  | [], ms, i, r, h, hf => by
    simp only [Entries] at h; subst h
    simp only [findK, Option.some.injEq] at hf; subst hf
    rcases ht with ⟨-, j, ht⟩ | ⟨-, ht⟩ | ⟨-, ht⟩ <;> exact ⟨_, ht, rfl⟩
  | e :: es, ms, i, r, h, hf => by
    obtain ⟨m, rest, rfl, h1, h2, h3, h4, h5⟩ := h
    unfold findK at hf
    have key : ∀ b, keyEq k e.1 = some b → ∃ d, P.underlying t = some d ∧ Instr.sameNow d x m.key = some b ∧ (b = true → Rep w S L k m.key) := by
      intro b hb
      cases k <;> simp only [keyK, Bool.false_eq_true] at hk <;> cases he : e.1 <;> rw [he] at hb h2 <;> simp only [keyEq, reduceCtorEq] at hb <;> simp only [Rep] at hx h2 <;> subst hx <;> rcases ht with ⟨rfl, j, ht⟩ | ⟨rfl, ht⟩ | ⟨rfl, ht⟩ <;> first
        | (simp at hk; done)
        | skip
      · split at hb <;> simp only [Option.some.injEq, reduceCtorEq] at hb
        rename_i hkk
        subst hkk
        refine ⟨_, ht, by rw [h2]; simp [Instr.sameNow, hb], fun e => ?_⟩
        subst e
        simp only [beq_iff_eq] at hb
        simp only [Rep, h2, hb]
      · simp only [Option.some.injEq] at hb
        refine ⟨_, ht, by rw [h2]; simp [Instr.sameNow, hb], fun e => ?_⟩
        subst e
        simp only [beq_iff_eq] at hb
        simp only [Rep, h2, hb]
      · simp only [Option.some.injEq] at hb
        refine ⟨_, ht, by rw [h2]; simp [Instr.sameNow, hb], fun e => ?_⟩
        subst e
        simp only [Rep, h2, ba_eq hb]
    split at hf
    · rename_i hb
      simp only [Option.some.injEq] at hf; subst hf
      obtain ⟨d, hd, hs, hr⟩ := key true hb
      refine ⟨d, hd, m, by simp [Instr.findNow, hs], Nat.le_refl _, by simp, h3, e, by simp, rfl, h4, hr rfl⟩
    · rename_i hb
      obtain ⟨d, hd, hs, -⟩ := key false hb
      obtain ⟨d', hd', ih⟩ := findNow_of ht hk hx es rest (i + 1) r h5 hf
      rw [hd] at hd'; cases hd'
      refine ⟨d, hd, ?_⟩
      cases r with
      | none => simpa [Instr.findNow, hs] using ih
      | some p =>
        obtain ⟨j, v⟩ := p
        obtain ⟨m', q1, q2, q3, q4, e', q5, q6, q7, q8⟩ := ih
        refine ⟨m', by simpa [Instr.findNow, hs] using q1, by omega, ?_, q4, e', ?_, q6, q7, q8⟩
        · rw [show j - i = (j - (i + 1)) + 1 by omega]; simpa using q3
        · rw [show j - i = (j - (i + 1)) + 1 by omega]; simpa using q5
    · cases hf
theorem run_findKey {t : TypeId} {x : Value} {d : TypeDesc} {ms : List MapEntry} {r : Option (Nat × Value)} (hd : P.underlying t = some d) (hf : Instr.findNow d x ms 0 = some r) : (Instr.findKey t x ms).run P w = .ok r w := by
  simp [Instr.findKey, run_underlying hd, hf]
end
end Go.Ev
namespace Go.Ev
variable [Consts]
set_option linter.unusedSectionVars false
open Go.RowKit
set_option linter.unusedSimpArgs false
set_option linter.unusedVariables false
section
variable {P : Program} {o : Oper} {a : Act} {base : Nat} {w : World} {S : SSet} {L : LMap} {G : Nat → Option Blk}
theorem zero?_some {t : TypeId} {cs : List V} (h : zero? P t = some cs) : ∃ i z, P.info? t = some i ∧ i.zero = some z ∧ ofCells z.cells.toList = some cs := by
  unfold zero? at h
  split at h
  · rename_i i hi
    split at h
    · rename_i z hz; exact ⟨i, z, hi, hz, h⟩
    · cases h
  · cases h
theorem zeroV?_some {t : TypeId} {v : V} (h : zeroV? P t = some v) : ∃ i z, P.info? t = some i ∧ i.zero = some z ∧ ofValue z = some v := by
  unfold zeroV? at h
  split at h
  · rename_i i hi
    split at h
    · rename_i z hz; exact ⟨i, z, hi, hz, h⟩
    · cases h
  · cases h
theorem run_zeroValue {t : TypeId} {i : TypeInfo} {z : Value} (hi : P.info? t = some i) (hz : i.zero = some z) : (zeroValue t).run P w = .ok z w := by
  simp [zeroValue, typeInfo, hi, hz]
/-- One element as a new row. -/
theorem filled_one {cs : List V} {ys : Array Value} (hc : cs.all V.isCell = true) (hr : Reps w S L cs ys.toList) : Filled w S L cs.length [cs] ys := by
  refine filled_of (ys := ys.toList) (by simp) (by simpa using hc) (by simpa using hr) (fun j y hy => by simpa using hy)
theorem one_le_maxLen : (1 : Nat) ≤ maxLen := by unfold maxLen; omega
theorem new_one (hI : Inv base w S G L) {nb : Nat} (hnb : G nb = none) {cs : List V} {ys : Array Value} (e : TypeId) (hc : cs.all V.isCell = true) (hr : Reps w S L cs ys.toList) :
    ∃ L', (Inv base (w.alloc (.cells ys e)) S (upd G nb (.arr cs.length [cs])) L' ∧ Step base w S L (w.alloc (.cells ys e)) S L') ∧ Rep (w.alloc (.cells ys e)) S L' (.ptr nb 1 0 0) (.pointer (some ⟨w.heap.size, 0, none⟩)) := by
  have h := hI.newArr hnb 0 (sz := cs.length) (cap := 1) (xs := [cs]) (cur := ys) (e := e) (filled_one hc hr) (by simp) one_le_maxLen (by have := hr.len; simp at this ⊢; omega)
  refine ⟨_, h, ?_⟩
  simp only [Rep]
  exact ⟨_, rfl, _, upd_same .., Nat.le_refl _, fun _ => ⟨_, rfl, by simp⟩⟩
theorem e_new {t : TypeId} {cs : List V} {nb : Nat} (hI : Inv base w S G L) (hnb : G nb = none) (ho : o.op = .alloc t) (hz : zero? P t = some cs) : OpGoal P o a base w S L (upd G nb (.arr cs.length [cs])) (.ptr nb 1 0 0) := by
  obtain ⟨i, z, hi, hz, hcs⟩ := zero?_some hz
  obtain ⟨h1, h2⟩ := ofCells_rep (w := w) (S := S) (L := L) hcs
  obtain ⟨L', h, hr⟩ := new_one hI hnb t h1 h2
  refine OpGoal.value ?_ h hr
  simp [execOp, ho, Instr.alloc, run_zeroValue hi hz, newVar, newRow]
theorem e_box {t : TypeId} {x : Operand} {v : V} {cs : List V} {nb : Nat} (hI : Inv base w S G L) (hnb : G nb = none) (ho : o.op = .box t x) (hx : Rep w S L v (a.eval x)) (hc : v.cells? = some cs) : OpGoal P o a base w S L (upd G nb (.arr cs.length [cs])) (.ptr nb 1 0 0) := by
  obtain ⟨h1, h2⟩ := rep_cells hx hc
  obtain ⟨L', h, hr⟩ := new_one hI hnb t h1 h2
  refine OpGoal.value ?_ h hr
  simp [execOp, ho, Instr.box, newVar, newRow]
/-! ### Values that are built -/
theorem foldl_set (d : List Value) : ∀ (cur : Array Value) (off k : Nat), off + k + d.length ≤ cur.size →
    (d.zipIdx k).foldl (fun cs (p : Value × Nat) => cs.setIfInBounds (off + p.2) p.1) cur = (cur.toList.take (off + k) ++ d ++ cur.toList.drop (off + k + d.length)).toArray := by
  induction d with
  | nil => intro cur off k _; simp
  | cons x d ih =>
    intro cur off k hle
    simp only [List.zipIdx_cons, List.foldl_cons]
    rw [ih _ off (k + 1) (by simp at hle ⊢; omega)]
    have hlt : off + k < cur.size := by simp at hle; omega
    apply Array.ext'
    simp only [Array.toList_setIfInBounds]
    have e := list_seg_step cur.toList (off + k) x d (by simp at hle ⊢; omega)
    rw [show off + (k + 1) = off + k + 1 by omega]
    simpa using e
theorem reps_splice {c : List V} {ys : List Value} (h : Reps w S L c ys) {d : List V} {zs : List Value} (hd : Reps w S L d zs) {o sz : Nat} (hs : d.length = sz) : Reps w S L (splice c o sz d) (ys.take o ++ zs ++ ys.drop (o + zs.length)) := by
  unfold splice
  rw [← hd.len, hs]
  exact ((h.take o).append hd).append (h.drop _)
theorem all_splice {c d : List V} {o sz : Nat} (h : c.all V.isCell = true) (hd : d.all V.isCell = true) : (splice c o sz d).all V.isCell = true := by
  unfold splice
  rw [List.all_eq_true] at h hd ⊢
  intro v hv
  simp only [List.mem_append] at hv
  rcases hv with (hv | hv) | hv
  · exact h v (List.mem_of_mem_take hv)
  · exact hd v hv
  · exact h v (List.mem_of_mem_drop hv)
theorem fill_sound (place : Nat → Option (Nat × Nat)) : ∀ (ps : List (Nat × Nat × V)) (qs : List (Nat × Value)) (cells : List V) (cur : Array Value) (r : List V), fillBuild cells ps = some r → ps.length = qs.length →
    (∀ (i : Nat) (p : Nat × Nat × V) (q : Nat × Value), ps[i]? = some p → qs[i]? = some q → place q.1 = some (p.1, p.2.1) ∧ Rep w S L p.2.2 q.2) → cells.all V.isCell = true → Reps w S L cells cur.toList →
    ∃ cur', Instr.fill place cur qs = some cur' ∧ r.all V.isCell = true ∧ Reps w S L r cur'.toList
  | [], qs, cells, cur, r, hf, hl, _, ha, hr => by
    simp only [fillBuild, Option.some.injEq] at hf; subst hf
    obtain rfl : qs = [] := List.eq_nil_of_length_eq_zero (by simpa using hl.symm)
    exact ⟨cur, rfl, ha, hr⟩
  | (off, sz, v) :: ps, qs, cells, cur, r, hf, hl, hp, ha, hr => by
    cases qs with
    | nil => simp at hl
    | cons q qs =>
      obtain ⟨i, x⟩ := q
      obtain ⟨h1, h2⟩ := hp 0 _ _ rfl rfl
      simp only at h1 h2
      unfold fillBuild at hf
      split at hf
      · rename_i d hd
        split at hf
        · rename_i hsz
          obtain ⟨hc, hrd⟩ := rep_cells h2 hd
          have hlen := hr.len
          have hdl := hrd.len
          simp only [Array.length_toList] at hlen hdl
          have hfold := foldl_set x.cells.toList cur off 0 (by simp; omega)
          have hr' := reps_splice hr hrd (o := off) hsz.1
          obtain ⟨cur', q1, q2, q3⟩ := fill_sound place ps qs _ (cur.toList.take off ++ x.cells.toList ++ cur.toList.drop (off + x.cells.size)).toArray r hf (by simpa using hl) (fun i p q hi hj => hp (i + 1) p q (by simpa using hi) (by simpa using hj)) (all_splice ha hc) (by simpa using hr')
          refine ⟨cur', ?_, q2, q3⟩
          unfold Instr.fill
          simp only [h1]
          rw [if_neg (by simp; omega)]
          rw [← q1]
          congr 1
          simp only [Nat.add_zero] at hfold
          rw [← Array.foldl_toList, Array.toList_zipIdx]
          exact hfold.trans (by simp)
        · cases hf
      · cases hf
theorem run_mapM_sizes : ∀ (fs : List Field), fs.all (fun f => (size? P f.type).isSome) = true →
    (fs.mapM (m := Sem) fun f => do pure (f.offset, ← sizeOf f.type)).run P w = .ok (fs.map fun f => (f.offset, (size? P f.type).getD 0)) w
  | [], _ => by simp
  | f :: fs, h => by
    simp only [List.all_cons, Bool.and_eq_true] at h
    obtain ⟨n, hn⟩ := Option.isSome_iff_exists.1 h.1
    have ih := run_mapM_sizes fs h.2
    rw [List.mapM_cons]
    simp only [Sem.run_bind, run_sizeOf hn, Result.andThen_ok, ih, Sem.run_pure, List.map_cons, hn, Option.getD_some]
theorem parts_spec {fs : Array Field} : ∀ {ps : List (Nat × Operand)} {qs : List (Nat × Nat × MArg)}, parts P fs ps = some qs →
    qs.length = ps.length ∧ args (ps.map (·.2)) = some (qs.map (·.2.2)) ∧ ∀ (i : Nat) (p : Nat × Operand) (q : Nat × Nat × MArg), ps[i]? = some p → qs[i]? = some q → ∃ f, fs[p.1]? = some f ∧ q.1 = f.offset ∧ size? P f.type = some q.2.1
  | [], qs, h => by simp only [parts, Option.some.injEq] at h; subst h; exact ⟨rfl, rfl, fun i p q hp => by simp at hp⟩
  | (i, x) :: ps, qs, h => by
    unfold parts at h
    split at h
    · rename_i f ar hf har
      split at h
      · rename_i z hz
        rw [Option.map_eq_some_iff] at h
        obtain ⟨qs', hq, rfl⟩ := h
        obtain ⟨h1, h2, h3⟩ := parts_spec hq
        refine ⟨by simp [h1], by simp [args, har, h2], fun j p q hp hq => ?_⟩
        cases j with
        | zero => simp at hp hq; subst hp; subst hq; exact ⟨f, hf, rfl, hz⟩
        | succ j => exact h3 j p q (by simpa using hp) (by simpa using hq)
      · cases h
    · cases h
theorem partsA_spec {sz : Nat} : ∀ {ps : List (Nat × Operand)} {qs : List (Nat × Nat × MArg)}, partsA sz ps = some qs →
    qs.length = ps.length ∧ args (ps.map (·.2)) = some (qs.map (·.2.2)) ∧ ∀ (i : Nat) (p : Nat × Operand) (q : Nat × Nat × MArg), ps[i]? = some p → qs[i]? = some q → q.1 = p.1 * sz ∧ q.2.1 = sz
  | [], qs, h => by simp only [partsA, Option.some.injEq] at h; subst h; exact ⟨rfl, rfl, fun i p q hp => by simp at hp⟩
  | (i, x) :: ps, qs, h => by
    unfold partsA at h
    split at h
    · rename_i ar har
      rw [Option.map_eq_some_iff] at h
      obtain ⟨qs', hq, rfl⟩ := h
      obtain ⟨h1, h2, h3⟩ := partsA_spec hq
      refine ⟨by simp [h1], by simp [args, har, h2], fun j p q hp hq => ?_⟩
      cases j with
      | zero => simp at hp hq; subst hp; subst hq; exact ⟨rfl, rfl⟩
      | succ j => exact h3 j p q (by simpa using hp) (by simpa using hq)
    · cases h
theorem partsS_spec : ∀ {ps : List (Nat × Operand)} {qs : List (Nat × MArg)}, partsS ps = some qs →
    qs.length = ps.length ∧ args (ps.map (·.2)) = some (qs.map (·.2)) ∧ ∀ (i : Nat) (p : Nat × Operand) (q : Nat × MArg), ps[i]? = some p → qs[i]? = some q → q.1 = p.1
  | [], qs, h => by simp only [partsS, Option.some.injEq] at h; subst h; exact ⟨rfl, rfl, fun i p q hp => by simp at hp⟩
  | (i, x) :: ps, qs, h => by
    unfold partsS at h
    split at h
    · rename_i ar har
      rw [Option.map_eq_some_iff] at h
      obtain ⟨qs', hq, rfl⟩ := h
      obtain ⟨h1, h2, h3⟩ := partsS_spec hq
      refine ⟨by simp [h1], by simp [args, har, h2], fun j p q hp hq => ?_⟩
      cases j with
      | zero => simp at hp hq; subst hp; subst hq; rfl
      | succ j => exact h3 j p q (by simpa using hp) (by simpa using hq)
    · cases h
theorem q_build {ev : MArg → Option V} (hρ : ArgRel w S L a.eval ev) {t : TypeId} {ps : Array (Nat × Operand)} {qs : List (Nat × Nat × MArg)} {z r : List V} {vs : List V} {place : Nat → Option (Nat × Nat)}
    (hI : Inv base w S G L) (ho : o.op = .build t ps) (hz : zero? P t = some z) (hq : qs.length = ps.toList.length) (hargs : args (ps.toList.map (·.2)) = some (qs.map (·.2.2))) (hvs : evs ev (qs.map (·.2.2)) = some vs)
    (hplace : ∀ (i : Nat) (p : Nat × Operand) (q : Nat × Nat × MArg), ps.toList[i]? = some p → qs[i]? = some q → place p.1 = some (q.1, q.2.1))
    (hrun : ∀ i zv c, P.info? t = some i → i.zero = some zv → Instr.fill place zv.cells ((ps.map fun (i, x) => (i, a.eval x)).toList) = some c → (Instr.build t (ps.map fun (i, x) => (i, a.eval x))).run P w = .ok (.agg c) w)
    (hf : fillBuild z ((qs.zip vs).map fun p => (p.1.1, p.1.2.1, p.2)) = some r) : OpGoal P o a base w S L G (.agg r) := by
  obtain ⟨i, zv, hi, hz, hcs⟩ := zero?_some hz
  obtain ⟨h1, h2⟩ := ofCells_rep (w := w) (S := S) (L := L) hcs
  have hl := ArgRel.list hρ _ _ _ hargs hvs
  have hlen := hl.len
  simp only [List.length_map] at hlen
  obtain ⟨cur', q1, q2, q3⟩ := fill_sound (w := w) (S := S) (L := L) place ((qs.zip vs).map fun p => (p.1.1, p.1.2.1, p.2)) ((ps.map fun (i, x) => (i, a.eval x)).toList) z zv.cells r hf (by simp [hlen, hq]) (by
    intro j p q hp hq'
    simp only [List.getElem?_map, Option.map_eq_some_iff, Array.toList_map] at hp hq'
    obtain ⟨p0, hp0, rfl⟩ := hp
    obtain ⟨q0, hq0, rfl⟩ := hq'
    rw [List.getElem?_zip_eq_some] at hp0
    obtain ⟨hp1, hp2⟩ := hp0
    refine ⟨hplace j q0 p0.1 hq0 hp1, ?_⟩
    obtain ⟨x, hx, hr⟩ := hl.at hp2
    simp only [List.map_map, List.getElem?_map, hq0, Option.map_some, Function.comp, Option.some.injEq] at hx
    subst hx
    exact hr) h1 h2
  refine OpGoal.same hI (x := .agg cur') ?_ ?_
  · have := hrun i zv cur' hi hz q1
    simp [execOp, ho, this]
  · simp only [Rep]
    exact ⟨_, rfl, q2, q3⟩
theorem q_buildS {ev : MArg → Option V} (hρ : ArgRel w S L a.eval ev) {t : TypeId} {ps : Array (Nat × Operand)} {qs : List (Nat × Nat × MArg)} {fs : Array Field} {z r vs : List V} (hI : Inv base w S G L) (ho : o.op = .build t ps)
    (ht : P.underlying t = some (.struct fs)) (hfs : fs.toList.all (fun f => (size? P f.type).isSome) = true) (hz : zero? P t = some z) (hps : parts P fs ps.toList = some qs) (hvs : evs ev (qs.map (·.2.2)) = some vs)
    (hf : fillBuild z ((qs.zip vs).map fun p => (p.1.1, p.1.2.1, p.2)) = some r) : OpGoal P o a base w S L G (.agg r) := by
  obtain ⟨h1, h2, h3⟩ := parts_spec hps
  have hm : (fs.mapM (m := Sem) fun f => do pure (f.offset, ← sizeOf f.type)).run P w = .ok ((fs.toList.map fun f => (f.offset, (size? P f.type).getD 0)).toArray) w := by
    rw [Array.mapM_eq_mapM_toList]
    simp only [Sem.run_map, run_mapM_sizes fs.toList hfs, Result.andThen_ok]
  refine q_build hρ (place := fun i => ((fs.toList.map fun f => (f.offset, (size? P f.type).getD 0)).toArray)[i]?) hI ho hz h1 h2 hvs ?_ ?_ hf
  · intro i p q hp hq
    obtain ⟨f, hf, e1, e2⟩ := h3 i p q hp hq
    have hf' : fs.toList[p.1]? = some f := by simpa using hf
    simp [hf', hf, e1, e2]
  · intro i zv c hi hzv hc
    unfold Instr.build
    simp only [Sem.run_bind, run_zeroValue hi hzv, Result.andThen_ok, run_underlying ht, hm, hc, Sem.run_pure]
theorem q_buildA {ev : MArg → Option V} (hρ : ArgRel w S L a.eval ev) {t e : TypeId} {len sz : Nat} {ps : Array (Nat × Operand)} {qs : List (Nat × Nat × MArg)} {z r vs : List V} (hI : Inv base w S G L) (ho : o.op = .build t ps)
    (ht : P.underlying t = some (.array len e)) (hs : size? P e = some sz) (hz : zero? P t = some z) (hps : partsA sz ps.toList = some qs) (hvs : evs ev (qs.map (·.2.2)) = some vs)
    (hf : fillBuild z ((qs.zip vs).map fun p => (p.1.1, p.1.2.1, p.2)) = some r) : OpGoal P o a base w S L G (.agg r) := by
  obtain ⟨h1, h2, h3⟩ := partsA_spec hps
  refine q_build hρ (place := fun i => some (i * sz, sz)) hI ho hz h1 h2 hvs ?_ ?_ hf
  · intro i p q hp hq
    obtain ⟨e1, e2⟩ := h3 i p q hp hq
    rw [e1, e2]
  · intro i zv c hi hzv hc
    unfold Instr.build
    simp only [Sem.run_bind, run_zeroValue hi hzv, Result.andThen_ok, run_underlying ht, run_sizeOf hs, hc, Sem.run_pure]
/-! ### Slices that are built -/
/-- The cells of a row of the same element over and over. -/
theorem reps_many {z : List V} {zs : Array Value} (hr : Reps w S L z zs.toList) (hc : z.all V.isCell = true) (n : Nat) {sz : Nat} (hsz : z.length = sz) (h0 : 0 < sz) :
    Reps w S L (List.replicate n z).flatten ((Array.range (n * sz)).map (zs[· % zs.size]!)).toList ∧ (∀ d ∈ List.replicate n z, d.length = sz) ∧ (List.replicate n z).flatten.all V.isCell = true := by
  have hall : ∀ d ∈ List.replicate n z, d.length = sz := fun d hd => by rw [(List.mem_replicate.1 hd).2]; exact hsz
  have hzs : zs.size = sz := by have := hr.len; simp at this; omega
  refine ⟨?_, hall, ?_⟩
  · rw [Reps.iff]
    have hl := flatten_len hall
    refine ⟨by simp [hl], fun i v x hv hx => ?_⟩
    have hi : i < n * sz := by have := (List.getElem?_eq_some_iff.1 hv).1; rw [hl] at this; simpa using this
    have hq : i / sz < n := Nat.div_lt_of_lt_mul (by rw [Nat.mul_comm]; exact hi)
    have hm : i % sz < sz := Nat.mod_lt _ h0
    have hg := flatten_get hall (i := i / sz) (j := i % sz) (c := z) (by simp [hq]) hm
    rw [show i / sz * sz + i % sz = i by rw [Nat.mul_comm]; exact Nat.div_add_mod i sz] at hg
    rw [hg] at hv
    obtain ⟨y, hy, q⟩ := hr.at hv
    have hx' : x = zs[i % sz]! := by
      simp [hi, hzs] at hx
      exact hx.symm
    have hy' : y = zs[i % sz]! := by
      have : zs[i % sz]? = some y := by simpa using hy
      rw [getElem!_def, this]
    rw [hx', ← hy']; exact q
  · rw [List.all_eq_true]
    intro v hv
    rw [List.mem_flatten] at hv
    obtain ⟨d, hd, hv⟩ := hv
    rw [(List.mem_replicate.1 hd).2] at hv
    exact List.all_eq_true.1 hc v hv
theorem flatten_set {sz : Nat} : ∀ {xs : List (List V)}, (∀ d ∈ xs, d.length = sz) → ∀ {i : Nat} {c d : List V}, xs[i]? = some c → d.length = sz →
    (xs.set i d).flatten = xs.flatten.take (i * sz) ++ d ++ xs.flatten.drop (i * sz + sz)
  | [], _, i, c, d, hi, _ => by simp at hi
  | e :: es, hall, i, c, d, hi, hd => by
    have he : e.length = sz := hall e (by simp)
    cases i with
    | zero =>
      simp only [List.set_cons_zero, List.flatten_cons, Nat.zero_mul, List.take_zero, List.nil_append, Nat.zero_add]
      rw [List.drop_append_of_le_length (by omega), List.drop_of_length_le (by omega)]
      simp
    | succ i =>
      simp only [List.set_cons_succ, List.flatten_cons]
      rw [flatten_set (fun d hd => hall d (by simp [hd])) (by simpa using hi) hd]
      rw [Nat.add_mul, Nat.one_mul, show i * sz + sz = e.length + i * sz by omega, List.take_length_add_append]
      rw [show e.length + i * sz + sz = e.length + (i * sz + sz) by omega, List.drop_length_add_append]
      simp only [List.append_assoc, show e.length + i * sz = i * sz + sz by omega]
theorem fillRow_sound {sz : Nat} (place : Nat → Option (Nat × Nat)) (hpl : ∀ i, place i = some (i * sz, sz)) : ∀ (ps : List (Nat × V)) (qs : List (Nat × Value)) (xs : List (List V)) (cur : Array Value) (r : List (List V)), fillRow sz xs ps = some r → ps.length = qs.length →
    (∀ (i : Nat) (p : Nat × V) (q : Nat × Value), ps[i]? = some p → qs[i]? = some q → q.1 = p.1 ∧ Rep w S L p.2 q.2) → (∀ d ∈ xs, d.length = sz) → xs.flatten.all V.isCell = true → Reps w S L xs.flatten cur.toList →
    ∃ cur', Instr.fill place cur qs = some cur' ∧ r.length = xs.length ∧ (∀ d ∈ r, d.length = sz) ∧ r.flatten.all V.isCell = true ∧ Reps w S L r.flatten cur'.toList
  | [], qs, xs, cur, r, hf, hl, _, hz, ha, hr => by
    simp only [fillRow, Option.some.injEq] at hf; subst hf
    obtain rfl : qs = [] := List.eq_nil_of_length_eq_zero (by simpa using hl.symm)
    exact ⟨cur, rfl, rfl, hz, ha, hr⟩
  | (i, v) :: ps, qs, xs, cur, r, hf, hl, hp, hz, ha, hr => by
    cases qs with
    | nil => simp at hl
    | cons q qs =>
      obtain ⟨i', x⟩ := q
      obtain ⟨h1, h2⟩ := hp 0 _ _ rfl rfl
      simp only at h1 h2
      subst h1
      unfold fillRow at hf
      split at hf
      · rename_i d hd
        split at hf
        · rename_i hsz
          obtain ⟨hsz, hi⟩ := hsz
          obtain ⟨hc, hrd⟩ := rep_cells h2 hd
          have hlen := hr.len
          have hdl := hrd.len
          have hfl := flatten_len hz
          simp only [Array.length_toList] at hlen hdl
          have hmul : i' * sz + sz ≤ xs.length * sz := by
            have := Nat.mul_le_mul_right sz (show i' + 1 ≤ xs.length by omega)
            rwa [Nat.add_mul, Nat.one_mul] at this
          have hfold := foldl_set x.cells.toList cur (i' * sz) 0 (by simp; omega)
          have hset := flatten_set hz (List.getElem?_eq_getElem hi) hsz
          have hr' : Reps w S L (xs.set i' d).flatten (cur.toList.take (i' * sz) ++ x.cells.toList ++ cur.toList.drop (i' * sz + x.cells.size)) := by
            rw [hset]
            have := reps_splice hr hrd (o := i' * sz) hsz
            unfold splice at this
            simpa using this
          obtain ⟨cur', q1, q2, q3, q4, q5⟩ := fillRow_sound place hpl ps qs (xs.set i' d) (cur.toList.take (i' * sz) ++ x.cells.toList ++ cur.toList.drop (i' * sz + x.cells.size)).toArray r hf (by simpa using hl) (fun i p q hi hj => hp (i + 1) p q (by simpa using hi) (by simpa using hj))
            (fun e he => by rcases List.mem_or_eq_of_mem_set he with he | rfl <;> first | exact hz e he | exact hsz) (by
              rw [hset]
              have := all_splice ha hc (o := i' * sz) (sz := sz)
              unfold splice at this
              exact this) (by simpa using hr')
          refine ⟨cur', ?_, by simpa using q2, q3, q4, q5⟩
          unfold Instr.fill
          simp only [hpl]
          rw [if_neg (by simp; omega)]
          rw [← q1]
          congr 1
          simp only [Nat.add_zero] at hfold
          rw [← Array.foldl_toList, Array.toList_zipIdx]
          exact hfold.trans (by simp)
        · cases hf
      · cases hf
theorem row_new (hI : Inv base w S G L) {nb : Nat} (hnb : G nb = none) {sz n cap d : Nat} {xs : List (List V)} {ys : Array Value} {e : TypeId} (hn : xs.length = n) (hf : Filled w S L sz xs ys) (hc : n ≤ cap) (hm : cap ≤ maxLen) (hs : ys.size = cap * sz) :
    ∃ L', (Inv base ((w.drewN d).alloc (.cells ys e)) S (upd G nb (.arr sz xs)) L' ∧ Step base w S L ((w.drewN d).alloc (.cells ys e)) S L') ∧ Rep ((w.drewN d).alloc (.cells ys e)) S L' (.ref nb n) (.slice (some ⟨w.heap.size, 0, none⟩) n cap) := by
  subst hn
  have h := hI.newArr hnb d hf hc hm hs (e := e)
  refine ⟨_, h, ?_⟩
  simp only [Rep]
  exact ⟨rfl, _, upd_same .., Nat.le_refl _, fun _ => rfl⟩
theorem e_bsl {ev : MArg → Option V} (hρ : ArgRel w S L a.eval ev) {t e : TypeId} {len sz : Nat} {ps : Array (Nat × Operand)} {qs : List (Nat × MArg)} {z : List V} {r : List (List V)} {vs : List V} {nb : Nat} (hI : Inv base w S G L) (hnb : G nb = none)
    (ho : o.op = .buildSlice t len ps) (ht : P.underlying t = some (.slice e)) (hs : size? P e = some sz) (hz : zero? P e = some z) (hzl : z.length = sz) (h0 : 0 < sz) (hlen : len * sz ≤ 16777216) (hps : partsS ps.toList = some qs) (hvs : evs ev (qs.map (·.2)) = some vs)
    (hf : fillRow sz (List.replicate len z) ((qs.zip vs).map fun p => (p.1.1, p.2)) = some r) : OpGoal P o a base w S L (upd G nb (.arr sz r)) (.ref nb len) := by
  obtain ⟨h1, h2, h3⟩ := partsS_spec hps
  obtain ⟨i, zv, hi, hzv, hcs⟩ := zero?_some hz
  obtain ⟨c1, c2⟩ := ofCells_rep (w := w) (S := S) (L := L) hcs
  have hl := ArgRel.list hρ _ _ _ h2 hvs
  have hll := hl.len
  simp only [List.length_map] at hll
  obtain ⟨m1, m2, m3⟩ := reps_many c2 c1 len hzl h0
  obtain ⟨cur', q1, q2, q3, q4, q5⟩ := fillRow_sound (w := w) (S := S) (L := L) (fun i => some (i * sz, sz)) (fun _ => rfl) ((qs.zip vs).map fun p => (p.1.1, p.2)) ((ps.map fun (i, x) => (i, a.eval x)).toList) (List.replicate len z) ((Array.range (len * sz)).map (zv.cells[· % zv.cells.size]!)) r hf (by simp [hll, h1]) (by
    intro j p q hp hq'
    simp only [List.getElem?_map, Option.map_eq_some_iff, Array.toList_map] at hp hq'
    obtain ⟨p0, hp0, rfl⟩ := hp
    obtain ⟨q0, hq0, rfl⟩ := hq'
    rw [List.getElem?_zip_eq_some] at hp0
    obtain ⟨hp1, hp2⟩ := hp0
    refine ⟨(h3 j q0 p0.1 hq0 hp1).symm, ?_⟩
    obtain ⟨x, hx, hr⟩ := hl.at hp2
    simp only [List.map_map, List.getElem?_map, hq0, Option.map_some, Function.comp, Option.some.injEq] at hx
    subst hx
    exact hr) m2 m3 m1
  have hrl : r.length = len := by simpa using q2
  have hsize : cur'.size = len * sz := by have := q5.len; rw [flatten_len q3, hrl] at this; simpa using this.symm
  obtain ⟨L', h, hr⟩ := row_new hI hnb (d := 0) (e := e) hrl (filled_of q3 q4 q5 (fun j y hy => by simpa using hy)) (Nat.le_refl _) (by unfold maxLen; have : len ≤ len * sz := Nat.le_mul_of_pos_right _ h0; omega) hsize
  refine OpGoal.value (w' := w.alloc (.cells cur' e)) ?_ h hr
  by_cases hn : len * sz = 0
  · obtain rfl : len = 0 := by rcases Nat.mul_eq_zero.1 hn with h | h <;> omega
    have e0 : ∀ f : Nat → Value, (Array.range (0 * sz)).map f = #[] := fun f => Array.eq_empty_of_size_eq_zero (by simp)
    rw [e0] at q1
    simp only [execOp, ho, Instr.buildSlice, Sem.run_bind, run_underlying ht, Result.andThen_ok, run_sizeOf hs]
    rw [if_neg (by omega), if_pos hn]
    simp only [Sem.run_bind, Result.andThen_ok, Sem.run_pure, e0, q1]
    simp [newRow]
  · simp only [execOp, ho, Instr.buildSlice, Sem.run_bind, run_underlying ht, Result.andThen_ok, run_sizeOf hs]
    rw [if_neg (by omega), if_neg hn]
    simp only [Sem.run_bind, run_zeroValue hi hzv, Result.andThen_ok, Sem.run_pure, q1]
    simp [newRow, q1]
end
end Go.Ev
namespace Go.Ev
variable [Consts]
set_option linter.unusedSectionVars false
open Go.RowKit
set_option linter.unusedSimpArgs false
set_option linter.unusedVariables false
section
variable {P : Program} {o : Oper} {a : Act} {base : Nat} {w : World} {S : SSet} {L : LMap} {G : Nat → Option Blk}
/-- A live row as the cells that it begins with. -/
theorem Row.reps {g sz : Nat} {xs : List (List V)} {cur : Array Value} {e : TypeId} {fr : Nat × Nat} (h : Row w S L g sz xs) (hg : w.heap[g]? = some (.cells cur e fr)) (hle : xs.length * sz ≤ cur.size) :
    (∀ d ∈ xs, d.length = sz) ∧ xs.flatten.all V.isCell = true ∧ Reps w S L xs.flatten (cur.toList.take (xs.length * sz)) := by
  have hz : ∀ d ∈ xs, d.length = sz := fun d hd => by
    obtain ⟨i, hi⟩ := List.getElem?_of_mem hd
    exact (h i d hi).1
  have hf := flat_cells (C := fun k v => v.isCell = true ∧ ∃ y, w.cell? ⟨g, k, none⟩ = some y ∧ Rep w S L v y) xs 0 (fun i c hi => ⟨(h i c hi).1, fun j v hv => by simpa using (h i c hi).2 j v hv⟩)
  refine ⟨hz, ?_, ?_⟩
  · rw [List.all_eq_true]
    intro v hv
    obtain ⟨j, hj⟩ := List.getElem?_of_mem hv
    exact (hf j v hj).1
  · rw [Reps.iff]
    refine ⟨by rw [flatten_len hz]; simp; omega, fun i v x hv hx => ?_⟩
    obtain ⟨-, y, hy, q⟩ := hf i v hv
    have hi : i < xs.length * sz := by have := (List.getElem?_eq_some_iff.1 hv).1; rwa [flatten_len hz] at this
    rw [List.getElem?_take, if_pos hi] at hx
    have hc : cur[i]? = some y := by
      have := hy
      unfold World.cell? at this
      simpa [hg] using this
    have : x = y := by
      have hx' : cur[i]? = some x := by simpa using hx
      rw [hc] at hx'; exact (Option.some.inj hx').symm
    rw [this]; exact q
theorem flatten_splice {sz o k : Nat} {xs : List (List V)} (hz : ∀ d ∈ xs, d.length = sz) {i : Nat} {c d : List V} (hi : xs[i]? = some c) (hd : d.length = k) (hk : o + k ≤ sz) :
    (xs.set i (splice c o k d)).flatten = splice xs.flatten (i * sz + o) k d := by
  have hc : c.length = sz := hz c (List.mem_of_getElem? hi)
  have hs : (splice c o k d).length = sz := by unfold splice; simp; omega
  have hlt : i < xs.length := (List.getElem?_eq_some_iff.1 hi).1
  rw [flatten_set hz hi hs]
  have h0 := flatten_set hz hi hc
  rw [show xs.set i c = xs by
    apply List.ext_getElem?
    intro j
    rw [List.getElem?_set]
    split
    · rename_i e; subst e; simp [hlt] at hi ⊢; exact hi.symm
    · rfl] at h0
  have hfl := flatten_len hz
  have hmul : i * sz + sz ≤ xs.length * sz := by
    have := Nat.mul_le_mul_right sz (show i + 1 ≤ xs.length by omega)
    rwa [Nat.add_mul, Nat.one_mul] at this
  have hA : (xs.flatten.take (i * sz)).length = i * sz := by rw [List.length_take, hfl]; omega
  generalize xs.flatten.take (i * sz) = A at h0 hA
  generalize xs.flatten.drop (i * sz + sz) = B at h0
  rw [h0]
  unfold splice
  rw [← hA, List.append_assoc A c B, List.take_length_add_append, List.take_append_of_le_length (by omega)]
  rw [Nat.add_assoc, List.drop_length_add_append, List.drop_append_of_le_length (by omega)]
  simp [List.append_assoc]
/-- A piece set into a list and into what it begins. -/
theorem prefix_splice {α : Type} {ys C zs : List α} {q : Nat} (h : ys = C.take ys.length) (hq : q + zs.length ≤ ys.length) (j : Nat) (y : α) (hy : (ys.take q ++ zs ++ ys.drop (q + zs.length))[j]? = some y) :
    (C.take q ++ zs ++ C.drop (q + zs.length))[j]? = some y := by
  obtain ⟨t, ht⟩ : ∃ t, C = ys ++ t := ⟨C.drop ys.length, by conv => lhs; rw [← List.take_append_drop ys.length C, ← h]⟩
  rw [ht, List.take_append_of_le_length (by omega), List.drop_append_of_le_length (by omega), ← List.append_assoc, List.getElem?_append_left]
  · exact hy
  · exact (List.getElem?_eq_some_iff.1 hy).1
theorem setRow_eq (w : World) (g : Nat) {cur : Array Value} {e : TypeId} (cs : Array Value) (hg : w.heap[g]? = some (.cells cur e (0, 0))) : w.setRow g cs = { w with heap := w.heap.setIfInBounds g (.cells cs e (0, 0)) } := by
  unfold World.setRow
  congr 1
  apply Array.ext_getElem?
  intro i
  rw [Array.getElem?_modify, Array.getElem?_setIfInBounds]
  by_cases hi : g = i
  · subst hi
    rw [if_pos rfl, if_pos rfl, hg, if_pos (Array.getElem?_eq_some_iff.1 hg).1]
    rfl
  · rw [if_neg hi, if_neg hi]
theorem e_st {t : TypeId} {x y : Operand} {sz s b n i q : Nat} {v : V} {d c : List V} {xs : List (List V)} (hI : Inv base w S G L) (ho : o.op = .store t x y) (hs : size? P t = some sz) (hx : Rep w S L (.ptr b n i q) (a.eval x)) (hy : Rep w S L v (a.eval y))
    (hb : G b = some (.arr s xs)) (hn : xs.length = n) (hc : xs[i]? = some c) (hd : v.cells? = some d) (hdl : d.length = sz) (hle : q + sz ≤ c.length) : OpGoal P o a base w S L (upd G b (.arr s (xs.set i (splice c q sz d)))) .und := by
  obtain ⟨g, l, cap, cur, hl, hown, hv, hg, h1, h2, h3, h4, hrow, hxe⟩ := hI.ptr hx hb hn hc
  obtain ⟨hdc, hdr⟩ := rep_cells hy hd
  have hdl' := hdr.len
  have hcm : xs.length * s ≤ cur.size := by rw [h4]; exact Nat.mul_le_mul_right _ (by omega)
  obtain ⟨hz, hac, hreps⟩ := hrow.reps hg hcm
  have hcl : c.length = s := hz c (List.mem_of_getElem? hc)
  have hlt : i < xs.length := (List.getElem?_eq_some_iff.1 hc).1
  have hmul : i * s + s ≤ xs.length * s := by
    have := Nat.mul_le_mul_right s (show i + 1 ≤ xs.length by omega)
    rwa [Nat.add_mul, Nat.one_mul] at this
  simp only [Array.length_toList] at hdl'
  have hfit : i * s + q + (a.eval y).cells.toList.length ≤ cur.size := by simp; omega
  have hst := run_storeCells_at P g (i * s + q) l.e (a.eval y).cells.toList 0 cur w hg (by simpa using hfit) (reps_one hdr hdc)
  rw [setRow_eq w g _ hg] at hst
  have hfs := flatten_splice hz hc hdl (by omega : q + sz ≤ s)
  have hr2 := reps_splice hreps hdr (o := i * s + q) hdl
  rw [← hfs] at hr2
  have hac2 : (xs.set i (splice c q sz d)).flatten.all V.isCell = true := by rw [hfs]; exact all_splice hac hdc
  have hsl : (splice c q sz d).length = s := by unfold splice; simp; omega
  have hz2 : ∀ e ∈ xs.set i (splice c q sz d), e.length = s := fun e he => by rcases List.mem_or_eq_of_mem_set he with he | rfl <;> first | exact hz e he | exact hsl
  have hpre : cur.toList.take (xs.length * s) = cur.toList.take (cur.toList.take (xs.length * s)).length := by
    congr 1; simp; omega
  refine OpGoal.skip (w' := _) (S' := S) ?_ (hI.writeArr hb hl hown hv (xs' := xs.set i (splice c q sz d)) (.inl (by simp)) (by simp; omega) h3 (cur' := (cur.toList.take (i * s + q) ++ (a.eval y).cells.toList ++ cur.toList.drop (i * s + q + (a.eval y).cells.toList.length)).toArray) (by simp; omega) ?_)
  · simp only [Nat.add_zero] at hst
    simp [execOp, ho, Instr.storeAt, hxe, Instr.sureAddr, storeVar, run_sizeOf hs, show (a.eval y).cells.size = sz by omega, hst]
  · refine filled_of hz2 hac2 hr2 (fun j z hj => ?_)
    have := prefix_splice hpre (by simp; omega) j z hj
    simpa using this
/-! ### Append -/
theorem run_app_fit {t u e : TypeId} {i : TypeInfo} (ht : P.underlying t = some (.slice e)) (hu : (∃ e', P.underlying u = some (.slice e')) ∨ P.underlying u = some .string) (hi : P.info? e = some i) {oa : Option Addr} {n c m : Nat} {x : Value} {news : Array Value}
    (hlen : (Builtin.lenOf x).run P w = .ok m w) (hnews : (Builtin.firstCells i.size m x).run P w = .ok news w) (hfit : n + m ≤ c) (ty : TypeId) {w' : World}
    (hst : ∀ ad, oa = some ad → (storeCells (ad.add (n * i.size)) news.toList).run P w = .ok () w') (hno : oa = none → w' = w) :
    (Builtin.append_ #[t, u] ty #[.slice oa n c, x]).run P w = .ok (.slice oa (n + m) c) w' := by
  have hzero : ((match (#[t, u] : Array TypeId)[1]? with | some xType => do pure ((← underlying xType) matches .int _) | none => pure false) : Sem Bool).run P w = .ok false w := by
    rcases hu with ⟨e', hu⟩ | hu <;> simp [run_underlying hu]
  cases oa with
  | none =>
    have := hno rfl
    subst this
    simp [Builtin.append_, run_underlying ht, sizeOf, typeInfo, hi, hlen, hfit, hnews]
    rcases hu with ⟨e', hu⟩ | hu <;> simp [run_underlying hu, hlen, hfit, hnews]
  | some ad =>
    have h := hst ad rfl
    rcases hu with ⟨e', hu⟩ | hu <;> simp [Builtin.append_, run_underlying ht, run_underlying hu, sizeOf, typeInfo, hi, hlen, hfit, hnews, h]
theorem run_app_grow {t u e : TypeId} {i : TypeInfo} {z : Value} (ht : P.underlying t = some (.slice e)) (hu : (∃ e', P.underlying u = some (.slice e')) ∨ P.underlying u = some .string) (hi : P.info? e = some i) (hz : i.zero = some z) {oa : Option Addr} {n c m : Nat} {x : Value} {olds news : Array Value}
    (hlen : (Builtin.lenOf x).run P w = .ok m w) (holds : (Builtin.firstCells i.size n (.slice oa n c)).run P w.drew = .ok olds w.drew) (hnews : (Builtin.firstCells i.size m x).run P w.drew = .ok news w.drew) (hg : c < n + m)
    (h63 : n + m ≤ 1099511627776) (hfit : Builtin.nextslicecap (n + m) c * i.bytes ≤ 281474976710656) (ty : TypeId) :
    (Builtin.append_ #[t, u] ty #[.slice oa n c, x]).run P w = .ok (.slice (some ⟨w.heap.size, 0, none⟩) (n + m) (grownCap w (n + m) c e))
      (w.drew.alloc (.cells (olds ++ news ++ Builtin.zeroCells z.cells (grownCap w (n + m) c e - (n + m))) e)) := by
  have hn : ¬ (n + m ≤ c) := by omega
  have h63' : ¬ (9223372036854775807 < ((n : Int) + (m : Int))) := by omega
  have h48' : ¬ (281474976710656 < Builtin.nextslicecap (n + m) c * i.bytes) := by omega
  rcases hu with ⟨e', hu⟩ | hu <;>
    simp [Builtin.append_, run_underlying ht, run_underlying hu, sizeOf, typeInfo, zeroValue, hi, hz, hlen, hn, h63', h48', Question.forced, holds, hnews, newRow, grownCap]
end
end Go.Ev
