/- What functions of typing answer: empty, put, add, each. No condition. What functions of typing answer: each. No condition. What functions of typing answer: byzantine. No condition. What functions of typing answer: decl. No condition. -/
import Derived.Test.YtagceefccafgoaaGreatDoorT27
import Derived.Test.YtagceefccafgoaaGreatDoorT33
set_option linter.all false
namespace Go.Ev.Ty
open Go.Ev
variable [GF]
set_option maxRecDepth 100000
set_option linter.unusedSimpArgs false
set_option linter.unusedVariables false
def Sc.empty : Sc := ⟨[], [], 0, 0, 0, false, false, [], [], []⟩
theorem s14 : CallT pg 14 [] [] (fun v σ' => v = scP ∧ σ' = scS Sc.empty) := by
  refine CallT.go rfl (show _ = some m14 from rfl) ?_
  unfold m14
  simp [Sc.empty]
/-- The scope is sound: no kind is 0, and each name with a kind has its declaration. -/
structure Sc.WF (s : Sc) : Prop where
  nz : ∀ p, p ∈ s.kinds → p.2 ≠ 0
  same : s.decls.map (·.1) = s.kinds.map (·.1)
theorem idx_none {α : Type} (n : ByteArray) : ∀ (l : List (ByteArray × α)) (i : Nat), idx n l i = none ↔ n ∉ l.map (·.1)
  | [], i => by simp [idx]
  | (x, v) :: l, i => by
    simp only [idx, List.map_cons, List.mem_cons, not_or]
    by_cases h : x = n
    · simp [h]
    · have h' : ¬ n = x := fun e => h e.symm
      simp [h, h', idx_none n l (i + 1)]
theorem find_zero {s : Sc} (h : s.WF) (n : ByteArray) : find n s.kinds = 0 ↔ n ∉ s.kinds.map (·.1) := by
  have := h.nz
  revert this
  generalize s.kinds = l
  intro hz
  induction l with
  | nil => simp [find]
  | cons p l ih =>
    obtain ⟨x, k⟩ := p
    have hk : k ≠ 0 := hz (x, k) (List.mem_cons_self ..)
    have := ih fun p hp => hz p (List.mem_cons_of_mem _ hp)
    simp only [find, List.map_cons, List.mem_cons, not_or]
    by_cases h : x = n
    · simp [h, hk]
    · have h' : ¬ n = x := fun e => h e.symm
      simp [h, h', this]
/-- scope.put. -/
def Sc.put (s : Sc) (n : ByteArray) (k : Int) (d : D) : Sc := if find n s.kinds = 0 then { s with kinds := s.kinds ++ [(n, k)], decls := s.decls ++ [(n, d)] } else s
theorem Sc.put_wf {s : Sc} (h : s.WF) (n : ByteArray) {k : Int} (hk : k ≠ 0) (d : D) : (s.put n k d).WF := by
  unfold Sc.put
  split
  · exact ⟨fun p hp => by simp at hp; rcases hp with hp | rfl; exact h.nz p hp; exact hk, by simp [h.same]⟩
  · exact h
theorem s33 (s : Sc) (h : s.WF) (n : ByteArray) (k : Int) (d : D) (junk : Store) : CallT pg 33 [scP, .str n, iV k, .agg d.cells] (scS s ++ junk) (fun v σ' => ∃ more, σ' = scS (s.put n k d) ++ (junk ++ more)) := by
  refine CallT.go rfl (show _ = some m33 from rfl) ?_
  have hf := find_idx n s.kinds 0
  have hfs := findK_str (fun k => iV k) n s.kinds 0
  have hfd := findK_str (fun d : D => V.agg d.cells) n s.decls 0
  unfold m33 Sc.put
  by_cases h0 : find n s.kinds = 0
  · have hn := (find_zero h n).1 h0
    have hi : idx n s.kinds 0 = none := (idx_none n _ 0).2 hn
    have hj : idx n s.decls 0 = none := (idx_none n _ 0).2 (by rw [h.same]; exact hn)
    simp [keyK, entries, hfs, hfd, hi, hj, h0]
  · cases hi : idx n s.kinds 0 with
    | none => rw [hi] at hf; exact absurd hf h0
    | some q =>
      rw [hi] at hf
      simp at hf
      rw [hf] at h0
      simp [keyK, entries, hfs, hi, hf, h0]
/-- A store that begins with a scope and with some blocks. -/
def InSc (s : Sc) (J σ : Store) : Prop := ∃ more, σ = scS s ++ (J ++ more)
/-- The names of a site. -/
def Sc.puts (d : D) : Sc → List ByteArray → Sc
  | s, [] => s
  | s, n :: r => Sc.puts d { s.put n 2 d with servers := s.servers + 1 } r
/-- scope.add. -/
def Sc.add (s : Sc) (d : D) : Sc :=
  let s := if kindOf d.kind ≠ 0 then s.put d.name (kindOf d.kind) d else s
  if d.kind = 1 then Sc.puts d s d.names
  else if d.kind = 4 then { s with configs := s.configs + 1, others := true }
  else if d.kind = 6 then { s with clients := s.clients + 1, others := true }
  else if d.kind = 7 then { s with chain := true, others := true }
  else { s with others := true }
@[simp] theorem Sc.put_servers (s : Sc) (n : ByteArray) (k : Int) (d : D) : (s.put n k d).servers = s.servers := by unfold Sc.put; split <;> rfl
@[simp] theorem Sc.put_configs (s : Sc) (n : ByteArray) (k : Int) (d : D) : (s.put n k d).configs = s.configs := by unfold Sc.put; split <;> rfl
@[simp] theorem Sc.put_clients (s : Sc) (n : ByteArray) (k : Int) (d : D) : (s.put n k d).clients = s.clients := by unfold Sc.put; split <;> rfl
theorem s16 (s : Sc) (h : s.WF) (d : D) (junk : Store) (hn : d.names.length < 4294967296) (hs : 0 ≤ s.servers ∧ s.servers < 4294967296) (hc : 0 ≤ s.configs ∧ s.configs < 4294967296) (hcl : 0 ≤ s.clients ∧ s.clients < 4294967296) :
    CallT pg 16 [scP, .agg d.cells] (scS s ++ junk) (fun v σ' => ∃ more, σ' = scS (s.add d) ++ (junk ++ more)) := by
  refine CallT.go rfl (show _ = some m16 from rfl) ?_
  have c27 := s27 d
  -- behind the name
  have hput : ∃ s1, s1 = (if kindOf d.kind ≠ 0 then s.put d.name (kindOf d.kind) d else s) := ⟨_, rfl⟩
  obtain ⟨s1, hs1⟩ := hput
  have hw1 : s1.WF := by rw [hs1]; split; exact Sc.put_wf h _ (by assumption) d; exact h
  have hsv : s1.servers = s.servers ∧ s1.configs = s.configs ∧ s1.clients = s.clients := by rw [hs1]; split <;> simp
  have hadd : s.add d = (if d.kind = 1 then Sc.puts d s1 d.names
    else if d.kind = 4 then { s1 with configs := s1.configs + 1, others := true }
    else if d.kind = 6 then { s1 with clients := s1.clients + 1, others := true }
    else if d.kind = 7 then { s1 with chain := true, others := true }
    else { s1 with others := true }) := by unfold Sc.add; rw [← hs1]
  have hloop : ∀ junk1 : Store, d.kind = 1 → loopW pg m16_l0 [(0, scP), (3, .ptr (junk.length + 6) 1 0 0), (22, strsV d.names), (23, iV d.names.length), (24, iV 0)] (scS s1 ++ (junk ++ [some (.arr 22 [d.cells])] ++ junk1))
      (fun y e σ => y = .exit 1 ∧ ∃ more, σ = scS (Sc.puts d s1 d.names) ++ (junk ++ more)) := by
    intro junk1 hk
    refine loop_go (M := pg) m16_l0.eq_def d.names (by omega) (fun i e σ => ∃ s2 : Sc, e = [(0, scP), (3, .ptr (junk.length + 6) 1 0 0), (22, strsV d.names), (23, iV d.names.length), (24, iV i)] ∧ InSc s2 (junk ++ [some (.arr 22 [d.cells])]) σ ∧ s2.WF ∧ s2.servers = s.servers + i ∧ Sc.puts d s2 (d.names.drop i) = Sc.puts d s1 d.names) _ ?_ ?_ ⟨s1, rfl, ⟨junk1, by simp⟩, hw1, by simp [hsv.1], by simp⟩
    · rintro e σ ⟨s2, rfl, ⟨more, rfl⟩, _, _, he⟩
      simp [Sc.puts] at he
      subst he
      simp
    · rintro i n r e σ ⟨s2, rfl, ⟨more, rfl⟩, hwf, hsv2, he⟩ hd hlt hx' hd' hw
      rw [hd] at he
      simp only [Sc.puts] at he
      simp [hlt, hx']
      refine sharedK_of (s33 s2 hwf n 2 d (junk ++ (some (.arr 22 [d.cells]) :: more))) ?_
      rintro v σ' ⟨more', rfl⟩
      have hws := wrap_int (z := s2.servers + 1) (by clear hw; omega) (by clear hw; omega)
      simp [hws, hw]
      refine ⟨{ s2.put n 2 d with servers := s2.servers + 1 }, ⟨more ++ more', by simp⟩, ?_, by simp [hsv2]; omega, by rw [hd']; exact he⟩
      have := Sc.put_wf hwf n (k := 2) (by decide) d
      exact ⟨this.nz, this.same⟩
  unfold m16
  rw [hadd]
  have hwc := wrap_int (z := s.configs + 1) (by omega) (by omega)
  have hwl := wrap_int (z := s.clients + 1) (by omega) (by omega)
  by_cases h1 : d.kind = 1
  · rw [h1] at c27 hs1
    simp [kindOf] at hs1
    simp [h1, callK_eq c27, kindOf]
    refine sharedK_of (s33 s h d.name 1 d (junk ++ [some (.arr 22 [d.cells])])) ?_
    rintro v σ' ⟨more, rfl⟩
    rw [← hs1]
    simp [h1]
    refine loopK_of (by simpa using hloop more h1) ?_
    rintro y e σ ⟨rfl, more, rfl⟩
    simp
  by_cases h4 : d.kind = 4
  · rw [h4] at c27 hs1
    simp [kindOf] at hs1
    simp [h4, callK_eq c27, kindOf]
    refine sharedK_of (s33 s h d.name 5 d (junk ++ [some (.arr 22 [d.cells])])) ?_
    rintro v σ' ⟨more, rfl⟩
    rw [← hs1]
    simp [h4, hsv.2.1, hwc]
  by_cases h6 : d.kind = 6
  · rw [h6] at c27 hs1
    simp [kindOf] at hs1
    simp [h6, callK_eq c27, kindOf]
    refine sharedK_of (s33 s h d.name 6 d (junk ++ [some (.arr 22 [d.cells])])) ?_
    rintro v σ' ⟨more, rfl⟩
    rw [← hs1]
    simp [h6, hsv.2.2, hwl]
  by_cases h7 : d.kind = 7
  · rw [h7] at c27 hs1
    simp [kindOf] at hs1
    subst hs1
    simp [h7, callK_eq c27, kindOf]
  by_cases h2 : d.kind = 2
  · rw [h2] at c27 hs1
    simp [kindOf] at hs1
    simp [h2, callK_eq c27, kindOf]
    refine sharedK_of (s33 s h d.name 3 d (junk ++ [some (.arr 22 [d.cells])])) ?_
    rintro v σ' ⟨more, rfl⟩
    rw [← hs1]
    simp [h2]
  by_cases h3 : d.kind = 3
  · rw [h3] at c27 hs1
    simp [kindOf] at hs1
    simp [h3, callK_eq c27, kindOf]
    refine sharedK_of (s33 s h d.name 4 d (junk ++ [some (.arr 22 [d.cells])])) ?_
    rintro v σ' ⟨more, rfl⟩
    rw [← hs1]
    simp [h3]
  simp [kindOf, h1, h2, h3, h4, h6] at hs1
  subst hs1
  simp [h1, h2, h3, h4, h6, h7, callK_eq c27, kindOf]
end Go.Ev.Ty
namespace Go.Ev.Ty
open Go.Ev
variable [GF]
set_option maxRecDepth 100000
set_option linter.unusedSimpArgs false
set_option linter.unusedVariables false
/-- Names that were seen. -/
def tr : List ByteArray → List (ByteArray × Bool)
  | [] => []
  | n :: l => (n, true) :: tr l
theorem tr_append : ∀ a b : List ByteArray, tr (a ++ b) = tr a ++ tr b
  | [], b => rfl
  | n :: a, b => by simp [tr, tr_append a b]
theorem idx_tr (n : ByteArray) : ∀ (l : List ByteArray) (i : Nat), (isIn n l = true ∧ ∃ j, idx n (tr l) i = some (j, true)) ∨ (isIn n l = false ∧ idx n (tr l) i = none)
  | [], i => .inr ⟨rfl, rfl⟩
  | x :: l, i => by
    by_cases h : x = n
    · exact .inl ⟨by simp [isIn, h], i, by simp [tr, idx, h]⟩
    · have := idx_tr n l (i + 1)
      simp only [isIn] at this
      simpa [tr, idx, isIn, h] using this
theorem isIn_append (n : ByteArray) (a b : List ByteArray) : isIn n (a ++ b) = (isIn n a || isIn n b) := by simp [isIn]
theorem s32w (s : Sc) (l ws : List ByteArray) (k : Int) (junk : Store) (hl : l.length < 4611686018427387904) (hs : s.witness = tr ws) :
    CallT pg 32 [scP, strsV l, iV k, .map 2] (scS s ++ junk) (fun v σ' => v = iV (allOk s.kinds ws k [] l) ∧ ∃ seen, InSc { s with witness := seen } junk σ' ∧ (allOk s.kinds ws k [] l = 0 → seen = tr (ws ++ l))) := by
  refine CallT.go rfl (show _ = some m32 from rfl) ?_
  generalize hA : allOk s.kinds ws k [] l = A
  have loop := loop_go (M := pg) m32_l0.eq_def l hl (fun i e σ => e = [(0, scP), (2, iV k), (3, .map 2), (12, strsV l), (13, iV l.length), (14, iV i)] ∧ InSc { s with witness := tr (ws ++ l.take i) } junk σ ∧ allOk s.kinds ws k (l.take i) (l.drop i) = A)
    (fun y e σ => ∃ seen, InSc { s with witness := seen } junk σ ∧ (A = 0 → seen = tr (ws ++ l)) ∧ ((y = .exit 0 ∧ A = 0) ∨ (y = .ret ∧ e = [(8, iV A)])))
    (by
      rintro e σ ⟨rfl, hi, h⟩
      simp [allOk] at h
      simp at hi
      simp [← h]
      exact hi)
    (by
      rintro i x r e σ ⟨rfl, ⟨more, rfl⟩, h⟩ hd hlt hx' hd' hw
      have ht1 : l.take (i + 1) = l.take i ++ [x] := by rw [List.take_add_one]; simp [hlt, hx']
      simp only [hd, allOk] at h
      have hfs := findK_str (fun b => V.bool b) x (tr (ws ++ l.take i)) 0
      have hin := isIn_append x ws (l.take i)
      simp [hlt, hx']
      refine sharedK_of (s30_1 { s with witness := tr (ws ++ l.take i) } (junk ++ (more ++ [some (.arr 1 [[iV k]])])) x _ k (by simp) (by omega)) ?_
      rintro v σ' ⟨rfl, rfl⟩
      by_cases hm : must s.kinds x k k = 0
      · simp [hm] at h
        rcases idx_tr x (ws ++ l.take i) 0 with ⟨h1, j, h2⟩ | ⟨h1, h2⟩
        · rw [hin] at h1
          rw [h2] at hfs
          have h3 : isIn x (l.take i) = true ∨ isIn x ws = true := by simp only [Bool.or_eq_true] at h1; exact h1.symm
          simp [h3] at h
          subst h
          simp [hm, keyK, entries, hfs]
          exact ⟨_, ⟨more ++ [some (.arr 1 [[iV k]])], by simp; rfl⟩⟩
        · rw [hin] at h1
          rw [h2] at hfs
          have h3 : ¬ (isIn x (l.take i) = true ∨ isIn x ws = true) := by simp only [Bool.or_eq_false_iff] at h1; simp [h1.1, h1.2]
          simp only [h3, if_false] at h
          subst h
          simp [hm, keyK, entries, hfs, hw, ht1, hd']
          exact ⟨more ++ [some (.arr 1 [[iV k]])], by simp [← List.append_assoc, tr_append, tr]⟩
      · simp [hm] at h
        subst h
        simp [hm]
        exact ⟨_, ⟨more ++ [some (.arr 1 [[iV k]])], by simp; rfl⟩⟩)
    (e := [(0, scP), (2, iV k), (3, .map 2), (12, strsV l), (13, iV l.length), (14, iV 0)]) (σ := scS s ++ junk) ⟨rfl, ⟨[], by simp [← hs]⟩, by simpa using hA⟩
  unfold m32
  simp
  refine loopK_of loop ?_
  rintro y e σ ⟨seen, hi, hz, ⟨rfl, h⟩ | ⟨rfl, rfl⟩⟩
  · simp [h]
    rw [hz h] at hi
    exact hi
  · simp
    exact ⟨seen, hi, hz⟩
theorem s32c (s : Sc) (l ws : List ByteArray) (k : Int) (junk : Store) (hl : l.length < 4611686018427387904) (hs : s.conveyed = tr ws) :
    CallT pg 32 [scP, strsV l, iV k, .map 3] (scS s ++ junk) (fun v σ' => v = iV (allOk s.kinds ws k [] l) ∧ ∃ seen, InSc { s with conveyed := seen } junk σ' ∧ (allOk s.kinds ws k [] l = 0 → seen = tr (ws ++ l))) := by
  refine CallT.go rfl (show _ = some m32 from rfl) ?_
  generalize hA : allOk s.kinds ws k [] l = A
  have loop := loop_go (M := pg) m32_l0.eq_def l hl (fun i e σ => e = [(0, scP), (2, iV k), (3, .map 3), (12, strsV l), (13, iV l.length), (14, iV i)] ∧ InSc { s with conveyed := tr (ws ++ l.take i) } junk σ ∧ allOk s.kinds ws k (l.take i) (l.drop i) = A)
    (fun y e σ => ∃ seen, InSc { s with conveyed := seen } junk σ ∧ (A = 0 → seen = tr (ws ++ l)) ∧ ((y = .exit 0 ∧ A = 0) ∨ (y = .ret ∧ e = [(8, iV A)])))
    (by
      rintro e σ ⟨rfl, hi, h⟩
      simp [allOk] at h
      simp at hi
      simp [← h]
      exact hi)
    (by
      rintro i x r e σ ⟨rfl, ⟨more, rfl⟩, h⟩ hd hlt hx' hd' hw
      have ht1 : l.take (i + 1) = l.take i ++ [x] := by rw [List.take_add_one]; simp [hlt, hx']
      simp only [hd, allOk] at h
      have hfs := findK_str (fun b => V.bool b) x (tr (ws ++ l.take i)) 0
      have hin := isIn_append x ws (l.take i)
      simp [hlt, hx']
      refine sharedK_of (s30_1 { s with conveyed := tr (ws ++ l.take i) } (junk ++ (more ++ [some (.arr 1 [[iV k]])])) x _ k (by simp) (by omega)) ?_
      rintro v σ' ⟨rfl, rfl⟩
      by_cases hm : must s.kinds x k k = 0
      · simp [hm] at h
        rcases idx_tr x (ws ++ l.take i) 0 with ⟨h1, j, h2⟩ | ⟨h1, h2⟩
        · rw [hin] at h1
          rw [h2] at hfs
          have h3 : isIn x (l.take i) = true ∨ isIn x ws = true := by simp only [Bool.or_eq_true] at h1; exact h1.symm
          simp [h3] at h
          subst h
          simp [hm, keyK, entries, hfs]
          exact ⟨_, ⟨more ++ [some (.arr 1 [[iV k]])], by simp; rfl⟩⟩
        · rw [hin] at h1
          rw [h2] at hfs
          have h3 : ¬ (isIn x (l.take i) = true ∨ isIn x ws = true) := by simp only [Bool.or_eq_false_iff] at h1; simp [h1.1, h1.2]
          simp only [h3, if_false] at h
          subst h
          simp [hm, keyK, entries, hfs, hw, ht1, hd']
          exact ⟨more ++ [some (.arr 1 [[iV k]])], by simp [← List.append_assoc, tr_append, tr]⟩
      · simp [hm] at h
        subst h
        simp [hm]
        exact ⟨_, ⟨more ++ [some (.arr 1 [[iV k]])], by simp; rfl⟩⟩)
    (e := [(0, scP), (2, iV k), (3, .map 3), (12, strsV l), (13, iV l.length), (14, iV 0)]) (σ := scS s ++ junk) ⟨rfl, ⟨[], by simp [← hs]⟩, by simpa using hA⟩
  unfold m32
  simp
  refine loopK_of loop ?_
  rintro y e σ ⟨seen, hi, hz, ⟨rfl, h⟩ | ⟨rfl, rfl⟩⟩
  · simp [h]
    rw [hz h] at hi
    exact hi
  · simp
    exact ⟨seen, hi, hz⟩
end Go.Ev.Ty
namespace Go.Ev.Ty
open Go.Ev
variable [GF]
set_option maxRecDepth 100000
set_option linter.unusedSimpArgs false
set_option linter.unusedVariables false
/-- Whether a fault is Byzantine, given what the names mean. -/
def fB (B : ByteArray → Bool) (f : FT) : Bool := if f.op = 2 then decide (0 < f.byz) else if f.op = 3 then decide (0 < f.byzNames.length) else if f.op = 4 then true else if f.op = 6 then B f.name else false
def anyB (B : ByteArray → Bool) : List FT → Bool
  | [] => false
  | f :: l => if fB B f then true else anyB B l
/-- What is remembered is right. -/
def Memo (B : ByteArray → Bool) (b : List (ByteArray × Bool)) : Prop := ∀ p, p ∈ b → p.2 = B p.1
/-- Names of models in order. -/
def Ranked (s : Sc) (B : ByteArray → Bool) (rk : ByteArray → Nat) (G : ByteArray → Prop) : Prop :=
  ∀ n, G n → ∃ d j, idx n s.decls 0 = some (j, d) ∧ d.faults.length < 4611686018427387904 ∧ B n = anyB B d.faults ∧ ∀ f, f ∈ d.faults → f.op = 6 → G f.name ∧ rk f.name < rk n
theorem idx_get {α : Type} (n : ByteArray) : ∀ (l : List (ByteArray × α)) (i j : Nat) (v : α), idx n l i = some (j, v) → i ≤ j ∧ l[j - i]? = some (n, v)
  | [], i, j, v, h => by simp [idx] at h
  | (x, w) :: l, i, j, v, h => by
    simp only [idx] at h
    split at h
    · rename_i e
      simp only [Option.some.injEq, Prod.mk.injEq] at h
      obtain ⟨rfl, rfl⟩ := h
      subst e
      simp
    · have := idx_get n l (i + 1) j v h
      refine ⟨by omega, ?_⟩
      have e : j - i = (j - (i + 1)) + 1 := by omega
      rw [e, List.getElem?_cons_succ]; exact this.2
section
variable (s : Sc) (B : ByteArray → Bool) (rk : ByteArray → Nat) (G : ByteArray → Prop)
/-- What byzantine is to answer. -/
def B31 (m : Nat) : Prop := ∀ (n : ByteArray) (b : List (ByteArray × Bool)) (junk : Store), G n → rk n < m → Memo B b →
  CallT pg 31 [scP, .str n] (scS { s with byz := b } ++ junk) (fun v σ' => v = .bool (B n) ∧ ∃ b', Memo B b' ∧ InSc { s with byz := b' } junk σ')
theorem s65 (m : Nat) (ih : B31 s B rk G m) (f : FT) (hf : f.op = 6 → G f.name ∧ rk f.name < m) (b : List (ByteArray × Bool)) (hb : Memo B b) (J : Store) (j : Nat) (hj : J[j]? = some (some (.arr 1 [[scP]]))) :
    CallT pg 65 [.agg f.cells, .ptr (j + 6) 1 0 0] (scS { s with byz := b } ++ J) (fun v σ' => v = .bool (fB B f) ∧ ∃ b', Memo B b' ∧ InSc { s with byz := b' } J σ') := by
  refine CallT.go rfl (show _ = some m65 from rfl) ?_
  have hj' := get_more hj
  unfold m65 fB
  by_cases o2 : f.op = 2
  · by_cases hp : 0 < f.byz <;> simp [o2, hp] <;> exact ⟨b, hb, _, rfl⟩
  by_cases o3 : f.op = 3
  · by_cases hp : 0 < f.byzNames.length <;> simp [o3, hp] <;> exact ⟨b, hb, _, rfl⟩
  by_cases o4 : f.op = 4
  · simp [o4]; exact ⟨b, hb, _, rfl⟩
  by_cases o6 : f.op = 6
  · simp [o6, hj']
    refine sharedK_of (ih f.name b (J ++ [some (.arr 6 [f.cells])]) (hf o6).1 (hf o6).2 hb) ?_
    rintro v σ' ⟨rfl, b', hb', more, rfl⟩
    simp
    exact ⟨b', hb', some (.arr 6 [f.cells]) :: more, by simp⟩
  simp [o2, o3, o4, o6]; exact ⟨b, hb, _, rfl⟩
theorem s93 (m : Nat) (ih : B31 s B rk G m) (l : List FT) (hl : l.length < 4611686018427387904) (hf : ∀ f, f ∈ l → f.op = 6 → G f.name ∧ rk f.name < m) (b : List (ByteArray × Bool)) (hb : Memo B b) (J : Store) (j : Nat) (hj : J[j]? = some (some (.arr 1 [[scP]]))) :
    CallT pg 93 [faultsV l, .fn 65 [] [.ptr (j + 6) 1 0 0]] (scS { s with byz := b } ++ J) (fun v σ' => ∃ p : Int, v = iV p ∧ decide (0 ≤ p) = anyB B l ∧ ∃ b', Memo B b' ∧ InSc { s with byz := b' } J σ') := by
  refine CallT.go rfl (show _ = some m93 from rfl) ?_
  generalize hA : anyB B l = A
  have loop := loop_go (M := pg) m93_l0.eq_def l hl (fun i e σ => e = [(0, faultsV l), (1, .fn 65 [] [.ptr (j + 6) 1 0 0]), (7, iV l.length), (8, iV i)] ∧ (∃ b', Memo B b' ∧ InSc { s with byz := b' } J σ) ∧ anyB B (l.drop i) = A)
    (fun y e σ => (∃ b', Memo B b' ∧ InSc { s with byz := b' } J σ) ∧ ((y = .exit 0 ∧ A = false) ∨ (y = .ret ∧ A = true ∧ ∃ i : Nat, e = [(4, iV i)])))
    (by rintro e σ ⟨rfl, hi, h⟩; simp [anyB] at h; subst h; simp; exact hi)
    (by
      rintro i f r e σ ⟨rfl, ⟨b', hb', more, rfl⟩, h⟩ hd hlt hx' hd' hw
      simp only [hd, anyB] at h
      simp [hlt, hx']
      refine sharedK_of (s65 s B rk G m ih f (hf f (by rw [← hx']; exact List.getElem_mem hlt)) b' hb' (J ++ more) j (get_more hj _)) ?_
      rintro v σ' ⟨rfl, b2, hb2, more2, rfl⟩
      cases hB : fB B f
      · rw [hB] at h
        simp at h
        simp [hw, hd', h]
        exact ⟨b2, hb2, more ++ more2, by simp⟩
      · rw [hB] at h
        simp at h
        simp [h]
        exact ⟨⟨b2, hb2, more ++ more2, by simp⟩, i, rfl⟩)
    (e := [(0, faultsV l), (1, .fn 65 [] [.ptr (j + 6) 1 0 0]), (7, iV l.length), (8, iV 0)]) (σ := scS { s with byz := b } ++ J) ⟨rfl, ⟨b, hb, [], by simp⟩, by simpa using hA⟩
  unfold m93
  simp
  refine loopK_of loop ?_
  rintro y e σ ⟨hi, ⟨rfl, h⟩ | ⟨rfl, h, i, rfl⟩⟩
  · simp [h]; exact hi
  · simp [h]; exact hi
theorem s64 (m : Nat) (ih : B31 s B rk G m) (l : List FT) (hl : l.length < 4611686018427387904) (hf : ∀ f, f ∈ l → f.op = 6 → G f.name ∧ rk f.name < m) (b : List (ByteArray × Bool)) (hb : Memo B b) (J : Store) (j : Nat) (hj : J[j]? = some (some (.arr 1 [[scP]]))) :
    CallT pg 64 [faultsV l, .fn 65 [] [.ptr (j + 6) 1 0 0]] (scS { s with byz := b } ++ J) (fun v σ' => v = .bool (anyB B l) ∧ ∃ b', Memo B b' ∧ InSc { s with byz := b' } J σ') := by
  refine CallT.go rfl (show _ = some m64 from rfl) ?_
  unfold m64
  simp
  refine sharedK_of (s93 s B rk G m ih l hl hf b hb J j hj) ?_
  rintro v σ' ⟨p, rfl, hp, b', hb', more, rfl⟩
  simp [hp]
  exact ⟨b', hb', more, rfl⟩
theorem s31 (hR : Ranked s B rk G) : ∀ m, B31 s B rk G m := by
  intro m
  induction m with
  | zero => intro n b junk hG h; omega
  | succ m ih =>
    intro n b junk hG hrk hb
    refine CallT.go rfl (show _ = some m31 from rfl) ?_
    have hfb := findK_str (fun v : Bool => V.bool v) n b 0
    have hfd := findK_str (fun d : D => V.agg d.cells) n s.decls 0
    obtain ⟨d, jd, hd, hdl, hBn, hfs⟩ := hR n hG
    rw [hd] at hfd
    unfold m31
    cases hi : idx n b 0 with
    | some q =>
      obtain ⟨q, v⟩ := q
      have hv : v = B n := by
        have := (idx_get n b 0 q v hi).2
        exact hb (n, v) (List.mem_of_getElem? this)
      rw [hi] at hfb
      simp [keyK, entries, hfb, hv]
      exact ⟨b, hb, _, rfl⟩
    | none =>
      rw [hi] at hfb
      simp [keyK, entries, hfb, hfd]
      refine sharedK_of (s64 s B rk G m ih d.faults hdl (fun f hf ho => by have := hfs f hf ho; exact ⟨this.1, by omega⟩) b hb (junk ++ [some (.arr 1 [[scP]])]) junk.length (by simp)) ?_
      rintro v σ' ⟨rfl, b', hb', more, rfl⟩
      have hfb' := findK_str (fun v : Bool => V.bool v) n b' 0
      cases hi' : idx n b' 0 with
      | none =>
        rw [hi'] at hfb'
        simp [keyK, entries, hfb', ← hBn]
        exact ⟨b' ++ [(n, B n)], fun p hp => by simp at hp; rcases hp with hp | rfl; exact hb' p hp; rfl, some (.arr 1 [[scP]]) :: more, by simp⟩
      | some q =>
        obtain ⟨q, v⟩ := q
        rw [hi'] at hfb'
        simp [keyK, entries, hfb', ← hBn]
        exact ⟨b'.set q (n, B n), fun p hp => by rcases List.mem_or_eq_of_mem_set hp with hp | rfl; exact hb' p hp; rfl, some (.arr 1 [[scP]]) :: more, by simp⟩
end
end Go.Ev.Ty
namespace Go.Ev.Ty
open Go.Ev
variable [GF]
set_option maxRecDepth 100000
set_option linter.unusedSimpArgs false
set_option linter.unusedVariables false
theorem look_kinds (n : ByteArray) (kinds : List (ByteArray × Int)) : ∃ r, findK (.str n) (kinds.map fun p => (V.str p.1, iV p.2)) 0 = some r ∧ (Option.map (fun x => x.2) r).getD (V.int .i64 0) = V.int .i64 (find n kinds) := by
  have hf := find_idx n kinds 0
  refine ⟨_, findK_str (fun k => iV k) n kinds 0, ?_⟩
  cases hi : idx n kinds 0 with
  | none => rw [hi] at hf; simp at hf; simp [hf]
  | some q => rw [hi] at hf; simp at hf; simp [hf]
/-- scope.decl. -/
def declErr (s : Sc) (ws cs : List ByteArray) (B : ByteArray → Bool) (d : D) : Int :=
  if d.kind = 1 ∧ s.others = true then 10
  else if kindOf d.kind ≠ 0 ∧ find d.name s.kinds ≠ 0 then 5
  else if d.kind = 1 then siteErr s.kinds d.name [] d.names
  else if d.kind = 2 then faultsErr s.kinds d.faults
  else if d.kind = 3 then termErr s.kinds d.term
  else if d.kind = 4 then (if 6 ≤ s.configs then 3 else if termErr s.kinds d.read ≠ 0 then termErr s.kinds d.read else if termErr s.kinds d.write ≠ 0 then termErr s.kinds d.write else if must s.kinds d.use 3 3 ≠ 0 then must s.kinds d.use 3 3 else if d.protocol = bCrash ∧ B d.use = true then 12 else 0)
  else if d.kind = 5 then allOk s.kinds ws 2 [] d.names
  else if d.kind = 6 then (if 6 ≤ s.clients then 3 else if d.use = ⟨#[]⟩ then 0 else must s.kinds d.use 3 3)
  else if d.kind = 7 then (if s.chain = true then 5 else allOk s.kinds cs 5 [] d.names)
  else 0
/-- What is behind it. -/
def PostD (s : Sc) (ws cs : List ByteArray) (B : ByteArray → Bool) (junk : Store) (err : Int) (d : D) (v : V) (σ : Store) : Prop :=
  v = iV err ∧ ∃ w c b, InSc { s with witness := w, conveyed := c, byz := b } junk σ ∧ Memo B b ∧ (err = 0 → w = (if d.kind = 5 then tr (ws ++ d.names) else s.witness) ∧ c = (if d.kind = 7 then tr (cs ++ d.names) else s.conveyed))
section
variable (s : Sc) (ws cs : List ByteArray) (B : ByteArray → Bool) (d : D) (junk : Store) (hS : s.servers = countK 2 s.kinds) (hD : Dec d) (hw : s.witness = tr ws) (hc : s.conveyed = tr cs) (hB : Memo B s.byz) (hk2 : countK 2 s.kinds < 4294967296)
theorem PostD.same {err : Int} (h5 : d.kind ≠ 5) (h7 : d.kind ≠ 7) (hB : Memo B s.byz) {more : Store} {v : V} {σ : Store} (hv : v = iV err) (hσ : σ = scS s ++ (junk ++ more)) : PostD s ws cs B junk err d v σ :=
  ⟨hv, s.witness, s.conveyed, s.byz, ⟨more, hσ⟩, hB, fun _ => by simp [h5, h7]⟩
include hS hD hB
theorem s15_3 (hk : d.kind = 3) : CallT pg 15 [scP, .agg d.cells] (scS s ++ junk) (PostD s ws cs B junk (declErr s ws cs B d) d) := by
  refine CallT.go rfl (show _ = some m15 from rfl) ?_
  have c27 := s27 d
  rw [hk] at c27
  obtain ⟨r, hr1, hr2⟩ := look_kinds d.name s.kinds
  unfold m15 declErr
  have fin := fun err v σ more => PostD.same s ws cs B d junk (err := err) (v := v) (σ := σ) (more := more) (by omega) (by omega) hB
  by_cases h0 : find d.name s.kinds = 0
  · simp [hk, kindOf, callK_eq c27, keyK, entries, hr1, hr2, h0]
    refine sharedK_of (s29 s hS _ d.term (junk ++ [some (.arr 22 [d.cells])]) (Nat.le_refl _) (by have := hD.term; omega)) ?_
    rintro v σ' ⟨rfl, more, rfl⟩
    simp
    exact fin _ _ _ (some (.arr 22 [d.cells]) :: more) rfl (by simp)
  · simp [hk, kindOf, callK_eq c27, keyK, entries, hr1, hr2, h0]
    exact fin _ _ _ [some (.arr 22 [d.cells])] rfl (by simp)
theorem s15_2 (hk : d.kind = 2) : CallT pg 15 [scP, .agg d.cells] (scS s ++ junk) (PostD s ws cs B junk (declErr s ws cs B d) d) := by
  refine CallT.go rfl (show _ = some m15 from rfl) ?_
  have c27 := s27 d
  rw [hk] at c27
  obtain ⟨r, hr1, hr2⟩ := look_kinds d.name s.kinds
  unfold m15 declErr
  have fin := fun err v σ more => PostD.same s ws cs B d junk (err := err) (v := v) (σ := σ) (more := more) (by omega) (by omega) hB
  by_cases h0 : find d.name s.kinds = 0
  case neg =>
    simp [hk, kindOf, callK_eq c27, keyK, entries, hr1, hr2, h0]
    exact fin _ _ _ [some (.arr 22 [d.cells])] rfl (by simp)
  have hfe : declErr s ws cs B d = faultsErr s.kinds d.faults := by unfold declErr; simp [hk, h0]
  generalize hA : faultsErr s.kinds d.faults = A at *
  have loop := loop_go (M := pg) m15_l1.eq_def d.faults (by have := hD.faults; omega) (fun i e σ => e = [(0, scP), (82, faultsV d.faults), (83, iV d.faults.length), (84, iV i)] ∧ InSc s junk σ ∧ faultsErr s.kinds (d.faults.drop i) = A)
    (fun y e σ => InSc s junk σ ∧ ((y = .exit 4 ∧ A = 0) ∨ (y = .ret ∧ e = [(4, iV A)])))
    (by rintro e σ ⟨rfl, hi, h⟩; simp [faultsErr] at h; subst h; simp; exact hi)
    (by
      rintro i f r e σ ⟨rfl, ⟨more, rfl⟩, h⟩ hdk hlt hx' hd' hw
      simp only [hdk, faultsErr] at h
      have hf := hD.fts f (by rw [← hx']; exact List.getElem_mem hlt)
      simp [hlt, hx']
      refine sharedK_of (s28 s hS f (junk ++ (more ++ [some (.arr 6 [f.cells])])) hf.1 hf.2.1 hf.2.2.1 hf.2.2.2) ?_
      rintro v σ' ⟨rfl, more', rfl⟩
      by_cases hz : faultErr s.kinds f = 0
      · simp [hz] at h
        simp [hz, hw, hd', h]
        exact ⟨more ++ (some (.arr 6 [f.cells]) :: more'), by simp⟩
      · simp [hz] at h
        subst h
        simp [hz]
        exact ⟨more ++ (some (.arr 6 [f.cells]) :: more'), by simp⟩)
    (e := [(0, scP), (82, faultsV d.faults), (83, iV d.faults.length), (84, iV 0)]) (σ := scS s ++ (junk ++ [some (.arr 22 [d.cells])])) ⟨rfl, ⟨_, rfl⟩, by simpa using hA⟩
  simp [hk, kindOf, callK_eq c27, keyK, entries, hr1, hr2, h0, hA]
  refine loopK_of loop ?_
  rintro y e σ ⟨⟨more, rfl⟩, ⟨rfl, h⟩ | ⟨rfl, rfl⟩⟩
  · simp
    exact fin _ _ _ more (by rw [h]) (by simp)
  · simp
    exact fin _ _ _ more rfl (by simp)
theorem s15_0 (hk1 : d.kind ≠ 1) (hk2 : d.kind ≠ 2) (hk3 : d.kind ≠ 3) (hk4 : d.kind ≠ 4) (hk5 : d.kind ≠ 5) (hk6 : d.kind ≠ 6) (hk7 : d.kind ≠ 7) : CallT pg 15 [scP, .agg d.cells] (scS s ++ junk) (PostD s ws cs B junk (declErr s ws cs B d) d) := by
  refine CallT.go rfl (show _ = some m15 from rfl) ?_
  have c27 := s27 d
  unfold m15 declErr
  simp [hk1, hk2, hk3, hk4, hk5, hk6, hk7, kindOf, callK_eq c27]
  exact PostD.same s ws cs B d junk (more := [some (.arr 22 [d.cells])]) (by omega) (by omega) hB rfl (by simp)
theorem s15_6 (hk : d.kind = 6) : CallT pg 15 [scP, .agg d.cells] (scS s ++ junk) (PostD s ws cs B junk (declErr s ws cs B d) d) := by
  refine CallT.go rfl (show _ = some m15 from rfl) ?_
  have c27 := s27 d
  rw [hk] at c27
  obtain ⟨r, hr1, hr2⟩ := look_kinds d.name s.kinds
  unfold m15 declErr
  have fin := fun err v σ more => PostD.same s ws cs B d junk (err := err) (v := v) (σ := σ) (more := more) (by omega) (by omega) hB
  by_cases h0 : find d.name s.kinds = 0
  case neg =>
    simp [hk, kindOf, callK_eq c27, keyK, entries, hr1, hr2, h0]
    exact fin _ _ _ [some (.arr 22 [d.cells])] rfl (by simp)
  by_cases h1 : 6 ≤ s.clients
  · simp [hk, kindOf, callK_eq c27, keyK, entries, hr1, hr2, h0, h1]
    exact fin _ _ _ [some (.arr 22 [d.cells])] rfl (by simp)
  by_cases h2 : d.use = ⟨#[]⟩
  · simp [hk, kindOf, callK_eq c27, keyK, entries, hr1, hr2, h0, h1, h2]
    exact fin _ _ _ [some (.arr 22 [d.cells])] rfl (by simp)
  simp [hk, kindOf, callK_eq c27, keyK, entries, hr1, hr2, h0, h1, h2]
  refine sharedK_of (s30_1 s (junk ++ [some (.arr 22 [d.cells]), some (.arr 1 [[iV 3]])]) d.use _ 3 (by simp) (by omega)) ?_
  rintro v σ' ⟨rfl, rfl⟩
  simp
  exact fin _ _ _ [some (.arr 22 [d.cells]), some (.arr 1 [[iV 3]])] rfl (by simp)
theorem s15_5 (hw : s.witness = tr ws) (hk : d.kind = 5) : CallT pg 15 [scP, .agg d.cells] (scS s ++ junk) (PostD s ws cs B junk (declErr s ws cs B d) d) := by
  refine CallT.go rfl (show _ = some m15 from rfl) ?_
  have c27 := s27 d
  rw [hk] at c27
  unfold m15 declErr
  simp [hk, kindOf, callK_eq c27]
  refine sharedK_of (s32w s d.names ws 2 (junk ++ [some (.arr 22 [d.cells])]) (by have := hD.names; omega) hw) ?_
  rintro v σ' ⟨rfl, seen, ⟨more, rfl⟩, hz⟩
  simp
  exact ⟨rfl, seen, s.conveyed, s.byz, ⟨some (.arr 22 [d.cells]) :: more, by simp⟩, hB, fun h => by simp [hk]; exact hz h⟩
theorem s15_7 (hc : s.conveyed = tr cs) (hk : d.kind = 7) : CallT pg 15 [scP, .agg d.cells] (scS s ++ junk) (PostD s ws cs B junk (declErr s ws cs B d) d) := by
  refine CallT.go rfl (show _ = some m15 from rfl) ?_
  have c27 := s27 d
  rw [hk] at c27
  unfold m15 declErr
  cases hch : s.chain
  · simp [hk, kindOf, callK_eq c27, hch]
    refine sharedK_of (by rw [← hch]; exact s32c s d.names cs 5 (junk ++ [some (.arr 22 [d.cells])]) (by have := hD.names; omega) hc) ?_
    rintro v σ' ⟨rfl, seen, ⟨more, rfl⟩, hz⟩
    simp
    exact ⟨rfl, s.witness, seen, s.byz, ⟨some (.arr 22 [d.cells]) :: more, by simp⟩, hB, fun h => by simp [hk]; exact hz h⟩
  · simp [hk, kindOf, callK_eq c27, hch]
    exact ⟨rfl, s.witness, s.conveyed, s.byz, ⟨[some (.arr 22 [d.cells])], by simp [hch]⟩, hB, fun h => by simp at h⟩
theorem s15_1 (hk2 : countK 2 s.kinds < 4294967296) (hk : d.kind = 1) : CallT pg 15 [scP, .agg d.cells] (scS s ++ junk) (PostD s ws cs B junk (declErr s ws cs B d) d) := by
  refine CallT.go rfl (show _ = some m15 from rfl) ?_
  have c27 := s27 d
  rw [hk] at c27
  obtain ⟨r, hr1, hr2⟩ := look_kinds d.name s.kinds
  unfold m15 declErr
  have fin := fun err v σ more => PostD.same s ws cs B d junk (err := err) (v := v) (σ := σ) (more := more) (by omega) (by omega) hB
  cases ho : s.others
  case true =>
    simp [hk, kindOf, callK_eq c27, ho]
    exact fin _ _ _ [some (.arr 22 [d.cells])] rfl (by simp [ho])
  by_cases h0 : find d.name s.kinds = 0
  case neg =>
    simp [hk, kindOf, callK_eq c27, keyK, entries, hr1, hr2, h0, ho]
    exact fin _ _ _ [some (.arr 22 [d.cells])] rfl (by simp [ho])
  generalize hA : siteErr s.kinds d.name [] d.names = A
  generalize hJ : junk ++ [some (.arr 22 [d.cells])] = J
  have hj : J[junk.length]? = some (some (.arr 22 [d.cells])) := by rw [← hJ]; simp
  have loop := loop_go (M := pg) m15_l2.eq_def d.names (by have := hD.names; omega) (fun i e σ => e = [(0, scP), (3, .ptr (junk.length + 6) 1 0 0), (41, strsV d.names), (42, iV d.names.length), (43, iV i)] ∧ σ = scS s ++ J ∧ siteErr s.kinds d.name (d.names.take i) (d.names.drop i) = A)
    (fun y e σ => σ = scS s ++ J ∧ ((y = .exit 1 ∧ A = 0) ∨ (y = .ret ∧ e = [(4, iV A)])))
    (by rintro e σ ⟨rfl, rfl, h⟩; simp [siteErr] at h; subst h; simp)
    (by
      rintro k n r e σ ⟨rfl, rfl, h⟩ hdk hltk hxk hdk' hwr
      have ht1 : d.names.take (k + 1) = d.names.take k ++ [n] := by rw [List.take_add_one]; simp [hltk, hxk]
      obtain ⟨q, hq1, hq2⟩ := look_kinds n s.kinds
      have c24 : CallP pg 24 [.slc ((d.names.map fun s => [V.str s]).take k), .str n] (.bool (isIn n (d.names.take k))) := by rw [← List.map_take]; exact s24 _ _ (by simp; have := hD.names; omega)
      have hkle : k ≤ d.names.length := by omega
      have hkle' : ¬ d.names.length < k := by omega
      have hkl : (d.names.take k).length = k := by simp; omega
      have hnl := hD.names
      have hws : IntKind.i64.wrap (s.servers + (k : Int)) = s.servers + (k : Int) := wrap_int (by clear hwr; omega) (by clear hwr; omega)
      simp only [hdk, siteErr, hkl] at h
      by_cases h1 : find n s.kinds = 0
      · by_cases h2 : n = d.name
        · simp [h1, ← h2] at h; subst h; simp [hltk, hxk, hwr, keyK, entries, hq1, hq2, h1, ← h2, hj]
        · cases h3 : isIn n (d.names.take k)
          · rw [h3] at c24
            simp [h1, h2, h3] at h
            by_cases h4 : 12 ≤ countK 2 s.kinds + k
            · have h4' : (12 : Int) ≤ s.servers + (k : Int) := by clear hwr hws; omega
              rw [if_pos h4] at h; subst h; simp [hltk, hxk, hwr, keyK, entries, hq1, hq2, h1, h2, hj, callK_eq c24, hkle, hkle', hws, h4']
            · have h4' : ¬ (12 : Int) ≤ s.servers + (k : Int) := by clear hwr hws; omega
              rw [if_neg h4] at h; subst h; simp [hltk, hxk, hwr, keyK, entries, hq1, hq2, h1, h2, hj, callK_eq c24, hkle, hkle', hws, h4', hdk', ht1]
          · rw [h3] at c24
            simp [h1, h2, h3] at h; subst h; simp [hltk, hxk, hwr, keyK, entries, hq1, hq2, h1, h2, hj, callK_eq c24, hkle, hkle']
      · simp [h1] at h; subst h; simp [hltk, hxk, hwr, keyK, entries, hq1, hq2, h1])
    (e := [(0, scP), (3, .ptr (junk.length + 6) 1 0 0), (41, strsV d.names), (42, iV d.names.length), (43, iV 0)]) (σ := scS s ++ J) ⟨rfl, rfl, by simpa using hA⟩
  simp [hk, kindOf, callK_eq c27, keyK, entries, hr1, hr2, h0, ho]
  rw [hJ]
  refine loopK_of (by rw [← ho]; exact loop) ?_
  rintro y e σ ⟨rfl, ⟨rfl, h⟩ | ⟨rfl, rfl⟩⟩
  · simp [hA, h]
    exact fin _ _ _ [some (.arr 22 [d.cells])] rfl (by simp [← hJ, ho])
  · simp [hA]
    exact fin _ _ _ [some (.arr 22 [d.cells])] rfl (by simp [← hJ, ho])
theorem s15_4 (rk : ByteArray → Nat) (G : ByteArray → Prop) (hR : Ranked s B rk G) (hG : must s.kinds d.use 3 3 = 0 → G d.use) (hk : d.kind = 4) : CallT pg 15 [scP, .agg d.cells] (scS s ++ junk) (PostD s ws cs B junk (declErr s ws cs B d) d) := by
  refine CallT.go rfl (show _ = some m15 from rfl) ?_
  have c27 := s27 d
  rw [hk] at c27
  obtain ⟨r, hr1, hr2⟩ := look_kinds d.name s.kinds
  generalize hE : declErr s ws cs B d = E
  unfold declErr at hE
  unfold m15
  have fin := fun err v σ more => PostD.same s ws cs B d junk (err := err) (v := v) (σ := σ) (more := more) (by omega) (by omega) hB
  by_cases h0 : find d.name s.kinds = 0
  case neg =>
    simp [hk, kindOf, h0] at hE
    subst hE
    simp [hk, kindOf, callK_eq c27, keyK, entries, hr1, hr2, h0]
    exact fin _ _ _ [some (.arr 22 [d.cells])] rfl (by simp)
  by_cases h1 : 6 ≤ s.configs
  · simp [hk, h0, h1] at hE
    subst hE
    simp [hk, kindOf, callK_eq c27, keyK, entries, hr1, hr2, h0, h1]
    exact fin _ _ _ [some (.arr 22 [d.cells])] rfl (by simp)
  generalize hJ : junk ++ [some (.arr 22 [d.cells]), some (.arr 5 [d.read.cells, d.write.cells])] = J
  have hj : ∀ x, (J ++ x)[junk.length + 1]? = some (some (.arr 5 [d.read.cells, d.write.cells])) := get_more (by rw [← hJ]; simp)
  have hj0 : ∀ x, (J ++ x)[junk.length]? = some (some (.arr 22 [d.cells])) := get_more (by rw [← hJ]; simp)
  have w1 : IntKind.i64.wrap 1 = 1 := by decide
  have w2 : IntKind.i64.wrap 2 = 2 := by decide
  let P : Post := fun y e σ => ∃ more, σ = scS s ++ (J ++ more) ∧ ((y = .exit 6 ∧ termErr s.kinds d.read = 0 ∧ termErr s.kinds d.write = 0 ∧ e = [(0, scP), (3, .ptr (junk.length + 6) 1 0 0), (112, .ref (junk.length + 7) 2), (113, iV 2), (114, iV 2), (115, .bool false)]) ∨
    (y = .ret ∧ ∃ er, e = [(4, iV er)] ∧ er ≠ 0 ∧ er = if termErr s.kinds d.read ≠ 0 then termErr s.kinds d.read else termErr s.kinds d.write))
  have l2 : ∀ more, termErr s.kinds d.read = 0 → termErr s.kinds d.write = 0 → loopW pg m15_l0 [(0, scP), (3, .ptr (junk.length + 6) 1 0 0), (112, .ref (junk.length + 7) 2), (113, iV 2), (114, iV 2)] (scS s ++ (J ++ more)) P := by
    intro more hr hw
    refine loopW_go m15_l0.eq_def ?_
    simp
    exact ⟨more, rfl, .inl ⟨rfl, hr, hw, rfl⟩⟩
  have l1 : ∀ more, termErr s.kinds d.read = 0 → loopW pg m15_l0 [(0, scP), (3, .ptr (junk.length + 6) 1 0 0), (112, .ref (junk.length + 7) 2), (113, iV 2), (114, iV 1)] (scS s ++ (J ++ more)) P := by
    intro more hr
    refine loopW_go m15_l0.eq_def ?_
    simp [hj]
    refine sharedK_of (s29 s hS _ d.write (J ++ (more ++ [some (.arr 5 [d.write.cells])])) (Nat.le_refl _) (by have := hD.write; omega)) ?_
    rintro v σ' ⟨rfl, more', rfl⟩
    by_cases hz : termErr s.kinds d.write = 0
    · simp [hz, w2]
      simpa using l2 (more ++ (some (.arr 5 [d.write.cells]) :: more')) hr hz
    · simp [hz]
      exact ⟨more ++ (some (.arr 5 [d.write.cells]) :: more'), by simp, .inr ⟨rfl, _, rfl, hz, by simp [hr]⟩⟩
  have l0 : ∀ more, loopW pg m15_l0 [(0, scP), (3, .ptr (junk.length + 6) 1 0 0), (112, .ref (junk.length + 7) 2), (113, iV 2), (114, iV 0)] (scS s ++ (J ++ more)) P := by
    intro more
    refine loopW_go m15_l0.eq_def ?_
    simp [hj]
    refine sharedK_of (s29 s hS _ d.read (J ++ (more ++ [some (.arr 5 [d.read.cells])])) (Nat.le_refl _) (by have := hD.read; omega)) ?_
    rintro v σ' ⟨rfl, more', rfl⟩
    by_cases hz : termErr s.kinds d.read = 0
    · simp [hz, w1]
      simpa using l1 (more ++ (some (.arr 5 [d.read.cells]) :: more')) hz
    · simp [hz]
      exact ⟨more ++ (some (.arr 5 [d.read.cells]) :: more'), by simp, .inr ⟨rfl, _, rfl, hz, by simp [hz]⟩⟩
  have l0' := l0 []
  simp only [List.append_nil] at l0'
  simp [hk, kindOf, callK_eq c27, keyK, entries, hr1, hr2, h0, h1]
  rw [hJ]
  refine loopK_of l0' ?_
  rintro y e σ ⟨more, rfl, ⟨rfl, hr, hw, rfl⟩ | ⟨rfl, er, rfl, hne, her⟩⟩
  case inr =>
    have hres : E = er := by
      by_cases hr : termErr s.kinds d.read = 0
      · simp [hr] at her; subst her; simp [hk, h0, h1, hr, hne] at hE; exact hE.symm
      · simp [hr] at her; subst her; simp [hk, h0, h1, hr] at hE; exact hE.symm
    simp
    exact fin _ _ _ ([some (.arr 22 [d.cells]), some (.arr 5 [d.read.cells, d.write.cells])] ++ more) (by rw [hres]) (by simp [← hJ])
  simp [hj0]
  refine sharedK_of (s30_1 s (J ++ (more ++ [some (.arr 1 [[iV 3]])])) d.use _ 3 (by simp) (by omega)) ?_
  rintro v σ' ⟨rfl, rfl⟩
  by_cases hm : must s.kinds d.use 3 3 = 0
  case neg =>
    simp [hk, h0, h1, hr, hw, hm] at hE
    subst hE
    simp [hm]
    exact fin _ _ _ ([some (.arr 22 [d.cells]), some (.arr 5 [d.read.cells, d.write.cells])] ++ (more ++ [some (.arr 1 [[iV 3]])])) rfl (by simp [← hJ])
  by_cases hp : d.protocol = bCrash
  · have hp' : d.protocol = ⟨#[99, 114, 97, 115, 104]⟩ := hp
    simp [hm, hj0, hp']
    refine sharedK_of (s31 s B rk G hR (rk d.use + 1) d.use s.byz (J ++ (more ++ [some (.arr 1 [[iV 3]])])) (hG hm) (by omega) hB) ?_
    rintro v σ' ⟨rfl, b', hb', more', rfl⟩
    simp [hk, h0, h1, hr, hw, hm, hp] at hE
    cases hBu : B d.use
    all_goals
      simp [hBu] at hE
      subst hE
      simp
      exact ⟨rfl, s.witness, s.conveyed, b', ⟨[some (.arr 22 [d.cells]), some (.arr 5 [d.read.cells, d.write.cells])] ++ (more ++ (some (.arr 1 [[iV 3]]) :: more')), by simp [← hJ]⟩, hb', fun _ => by simp [hk]⟩
  · have hp' : ¬ d.protocol = ⟨#[99, 114, 97, 115, 104]⟩ := hp
    simp [hk, h0, h1, hr, hw, hm, hp] at hE
    subst hE
    simp [hm, hj0, hp']
    exact fin _ _ _ ([some (.arr 22 [d.cells]), some (.arr 5 [d.read.cells, d.write.cells])] ++ (more ++ [some (.arr 1 [[iV 3]])])) rfl (by simp [← hJ])
end
end Go.Ev.Ty
