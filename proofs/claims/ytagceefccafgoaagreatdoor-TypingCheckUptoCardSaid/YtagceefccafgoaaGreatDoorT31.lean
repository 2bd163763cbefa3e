/- What the program's own checks answer: declarations. No condition. What functions of typing answer: the scope, is, term, fault. No condition. The program's own texts: lists, terms. No condition. -/
import Derived.Test.YtagceefccafgoaaGreatDoorT25
import Derived.Test.YtagceefccafgoaaGreatDoorT29
import Derived.Test.YtagceefccafgoaaGreatDoorT30
set_option linter.all false
namespace Go.Ev.Ty
open Go.Ev
variable [GF]
set_option maxRecDepth 100000
set_option linter.unusedSimpArgs false
set_option linter.unusedVariables false
theorem opsW_cutJ {M : Prog} {os : List MO} {l : List Nat} {k : List Fr} {Q : Post} {e e' : Env} {σ : Store} {b : Option Blk} (h1 : ∀ k Q, (∀ J : Store, go M k Q e' (b :: J)) → opsW M os l k Q e σ) (h2 : ∀ J : Store, go M k Q e' (b :: J)) : opsW M os l k Q e σ := h1 k Q h2
theorem s82 (f : FT) (hb : f.byzNames.length < 4294967296) (hc : f.crashNames.length < 4294967296) (σ : Store) : CallT pg 82 [.agg f.cells] σ (fun v σ' => v = .bool (!isFault f) ∧ ∃ J, σ' = σ ++ J) := by
  refine CallT.go rfl (show _ = some m82 from rfl) ?_
  unfold m82
  simp [callK_eq (s83 f hb hc)]
theorem s93b (l : List FT) (hl : l.length < 4294967296) (hf : ∀ f, f ∈ l → f.byzNames.length < 4294967296 ∧ f.crashNames.length < 4294967296) (σ : Store) :
    CallT pg 93 [faultsV l, .fn 82 [] []] σ (fun v σ' => v = iV (posP (fun f => !isFault f) l 0) ∧ ∃ J, σ' = σ ++ J) := by
  refine CallT.go rfl (show _ = some m93 from rfl) ?_
  generalize hA : posP (fun f => !isFault f) l 0 = A
  have loop := loop_go (M := pg) m93_l0.eq_def l (by omega) (fun i e τ => e = [(0, faultsV l), (1, .fn 82 [] []), (7, iV l.length), (8, iV i)] ∧ (∃ J, τ = σ ++ J) ∧ posP (fun f => !isFault f) (l.drop i) i = A)
    (fun y e τ => (∃ J, τ = σ ++ J) ∧ ((y = .exit 0 ∧ A = -1) ∨ (y = .ret ∧ e = [(4, iV A)])))
    (by rintro e τ ⟨rfl, hj, h⟩; simp [posP] at h; subst h; simp; exact hj)
    (by
      rintro i f r e τ ⟨rfl, ⟨J, rfl⟩, h⟩ hd hlt hx' hd' hw
      simp only [hd, posP] at h
      have hff := hf f (by rw [← hx']; exact List.getElem_mem hlt)
      simp [hlt, hx']
      refine sharedK_of (s82 f hff.1 hff.2 _) ?_
      rintro v τ' ⟨rfl, J', rfl⟩
      by_cases a : isFault f = true
      · simp [a] at h
        simp [a, hw, hd', h]
      · simp [a] at h
        subst h
        simp [a])
    (e := [(0, faultsV l), (1, .fn 82 [] []), (7, iV l.length), (8, iV 0)]) (σ := σ) ⟨rfl, ⟨[], by simp⟩, by simpa using hA⟩
  unfold m93
  simp
  refine loopK_of loop ?_
  rintro y e τ ⟨⟨J, rfl⟩, ⟨rfl, h⟩ | ⟨rfl, rfl⟩⟩
  · simp [h]
  · simp
theorem s64b (l : List FT) (hl : l.length < 4294967296) (hf : ∀ f, f ∈ l → f.byzNames.length < 4294967296 ∧ f.crashNames.length < 4294967296) (σ : Store) :
    CallT pg 64 [faultsV l, .fn 82 [] []] σ (fun v σ' => v = .bool (l.any fun f => !isFault f) ∧ ∃ J, σ' = σ ++ J) := by
  refine CallT.go rfl (show _ = some m64 from rfl) ?_
  rw [← posP_any _ l 0]
  unfold m64
  simp
  refine sharedK_of (s93b l hl hf σ) ?_
  rintro v σ' ⟨rfl, J, rfl⟩
  simp
theorem allFaults_any : ∀ l : List FT, allFaults l = !(l.any fun t => !isFault t)
  | [] => rfl
  | s :: l => by
    have := allFaults_any l
    by_cases h : isFault s = true
    · simp [allFaults, h, this]
    · simp [allFaults, h]
def fieldsOf (k : Int) : Int := if k = 1 then 3 else if k = 2 then 5 else if k = 3 then 9 else if k = 4 then 17 else if k = 5 then 2 else if k = 6 then 33 else if k = 7 then 2 else 0
theorem s79 (k : Int) : CallP pg 79 [iV k] (iV (fieldsOf k)) := by
  refine CallP.go rfl (show _ = some m79 from rfl) ?_
  unfold fieldsOf m79
  by_cases k1 : k = 1
  case pos => simp [k1]
  by_cases k2 : k = 2
  case pos => simp [k2]
  by_cases k3 : k = 3
  case pos => simp [k3]
  by_cases k4 : k = 4
  case pos => simp [k4]
  by_cases k5 : k = 5
  case pos => simp [k5]
  by_cases k6 : k = 6
  case pos => simp [k6]
  by_cases k7 : k = 7
  case pos => simp [k7]
  simp [k1, k2, k3, k4, k5, k6, k7]
def w1 (N L F : Bool) (d : D) : Bool := (N == decide (d.name = ⟨#[]⟩)) || (L == decide (d.names.length = 0)) || (F == decide (d.faults.length = 0))
def w2 (d : D) : Bool := (!decide (d.name = ⟨#[]⟩) && !isName d.name) || (!decide (d.use = ⟨#[]⟩) && !isName d.use) || !allN d.names || !allFaults d.faults
def w4 (d : D) : Bool := (decide (d.protocol = bCrash) || decide (d.protocol = bByz)) && isTerm d.read && isTerm d.write && !decide (d.use = ⟨#[]⟩)
def w5 (U : Bool) (d : D) : Bool := decide (d.protocol = ⟨#[]⟩) && blankT d.read && blankT d.write && (U || decide (d.use = ⟨#[]⟩))
def ownDecl (N L F T P U : Bool) (d : D) : Bool := if w1 N L F d then false else if w2 d then false else if bad2 T d then false else if P then w4 d else w5 U d
theorem ownDecl_eq (N L F T P U : Bool) (d : D) (hPU : P = true → U = false) : ownDecl N L F T P (P || U) d = (allFaults d.faults && declRest N L F T P (P || U) d) := by
  unfold ownDecl declRest w1 w2 w4 w5 bad1 bad3 good4 good5
  generalize decide (d.name = ⟨#[]⟩) = a
  generalize decide (d.names.length = 0) = b
  generalize decide (d.faults.length = 0) = c
  generalize isName d.name = e
  generalize isName d.use = f
  generalize allN d.names = g
  generalize allFaults d.faults = h
  generalize bad2 T d = i
  generalize (decide (d.protocol = bCrash) || decide (d.protocol = bByz)) = j
  generalize decide (d.protocol = ⟨#[]⟩) = k
  generalize isTerm d.read = l
  generalize isTerm d.write = m
  generalize blankT d.read = n
  generalize blankT d.write = o
  by_cases u : d.use = ⟨#[]⟩
  · simp only [u, decide_true, if_true]
    cases P <;> cases h <;> cases i <;> cases g <;> cases a <;> cases e <;> simp_all <;> try (cases j <;> simp_all)
  · simp only [u, decide_false, if_false]
    cases P <;> cases h <;> cases i <;> cases g <;> cases f <;> cases a <;> cases e <;> simp_all <;> try (cases N <;> cases L <;> cases F <;> cases b <;> cases c <;> simp_all) <;> try exact Bool.and_comm _ _
set_option maxHeartbeats 8000000 in
theorem s58a (d : D) (fl : Int) (N L F T P U : Bool) (c79 : CallP pg 79 [iV d.kind] (iV fl)) (h0 : ¬ fl = 0)
    (hN : (IntKind.i64.wrap (((fl % 2 ^ IntKind.i64.bits).toNat &&& 1 % 2 ^ IntKind.i64.bits : Nat) : Int) = 0) = (N = false)) (hL : (IntKind.i64.wrap (((fl % 2 ^ IntKind.i64.bits).toNat &&& 2 % 2 ^ IntKind.i64.bits : Nat) : Int) = 0) = (L = false)) (hF : (IntKind.i64.wrap (((fl % 2 ^ IntKind.i64.bits).toNat &&& 4 % 2 ^ IntKind.i64.bits : Nat) : Int) = 0) = (F = false)) (hT : (IntKind.i64.wrap (((fl % 2 ^ IntKind.i64.bits).toNat &&& 8 % 2 ^ IntKind.i64.bits : Nat) : Int) = 0) = (T = false)) (hP : (IntKind.i64.wrap (((fl % 2 ^ IntKind.i64.bits).toNat &&& 16 % 2 ^ IntKind.i64.bits : Nat) : Int) = 0) = (P = false)) (hU : (IntKind.i64.wrap (((fl % 2 ^ IntKind.i64.bits).toNat &&& 32 % 2 ^ IntKind.i64.bits : Nat) : Int) = 0) = (U = false))
    (hn : d.names.length < 4294967296) (hfl : d.faults.length < 4294967296) (hf : ∀ f, f ∈ d.faults → f.byzNames.length < 4294967296 ∧ f.crashNames.length < 4294967296) (ht : d.term.size < 4294967295) (hr : d.read.size < 4294967295) (hw : d.write.size < 4294967295) :
    CallP pg 58 [.agg d.cells] (.bool (ownDecl N L F T P U d)) := by
  refine CallP.go rfl (show _ = some m58 from rfl) ?_
  have e1 : d.term.weights.length < 4294967296 ∧ d.term.kids.length < 4294967296 := by have := d.term.size_eq; have := sizes_len d.term.kids; omega
  have e2 : d.read.weights.length < 4294967296 ∧ d.read.kids.length < 4294967296 := by have := d.read.size_eq; have := sizes_len d.read.kids; omega
  have e3 : d.write.weights.length < 4294967296 ∧ d.write.kids.length < 4294967296 := by have := d.write.size_eq; have := sizes_len d.write.kids; omega
  have c80n := s80 d.name
  have c80u := s80 d.use
  have c81 := s81 d.names (by omega)
  have ct := s84 _ d.term (Nat.le_refl _) (by omega)
  have cr := s84 _ d.read (Nat.le_refl _) (by omega)
  have cw := s84 _ d.write (Nat.le_refl _) (by omega)
  have cbt := s85 d.term e1.1 e1.2
  have cbr := s85 d.read e2.1 e2.2
  have cbw := s85 d.write e3.1 e3.2
  have c64 := s64b d.faults hfl hf
  have haf : allFaults d.faults = !(d.faults.any fun t => !isFault t) := allFaults_any _
  generalize (d.faults.any fun t => !isFault t) = A at *
  unfold m58 ownDecl
  simp only [esc_block_exit, esc_code_exit, esc_nil, if_true, go_reg, go_seq, go_cond, go_block, go_skip, Env.arg, Env.look, condK_true, condK_false, if_false, Nat.reduceEqDiff, reduceCtorEq, Bool.false_eq_true]
  refine opsW_cut (e' := [(1, .ptr 0 1 0 0)]) (σ' := [some (.arr 22 [d.cells])]) (by intro k Q hk; simpa using hk) ?_
  simp only [esc_block_exit, esc_code_exit, esc_nil, if_true, go_reg, go_seq, go_cond, go_block, go_skip, Env.arg, Env.look, condK_true, condK_false, if_false, Nat.reduceEqDiff, reduceCtorEq, Bool.false_eq_true]
  refine opsW_cut (e' := [(1, .ptr 0 1 0 0), (3, iV fl)]) (σ' := [some (.arr 22 [d.cells])]) (by intro k Q hk; simpa [callK_eq c79] using hk) ?_
  simp only [esc_block_exit, esc_code_exit, esc_nil, if_true, go_reg, go_seq, go_cond, go_block, go_skip, Env.arg, Env.look, condK_true, condK_false, if_false, Nat.reduceEqDiff, reduceCtorEq, Bool.false_eq_true]
  refine opsW_cut (e' := [(1, .ptr 0 1 0 0), (3, iV fl), (37, .bool (w1 N L F d))]) (σ' := [some (.arr 22 [d.cells])]) ?_ ?_
  · intro k Q hk
    by_cases z : d.name = ⟨#[]⟩
    · cases N
      case true =>
        simpa [w1, z, h0, hN, hL, hF, hT, hP, hU, callK_eq c80n, callK_eq c80u, callK_eq c81, callK_eq ct, callK_eq cbt, callK_eq cr, callK_eq cw, callK_eq cbr, callK_eq cbw] using hk
      by_cases zl : d.names.length = 0
      · cases L
        case true =>
          simpa [w1, z, zl, h0, hN, hL, hF, hT, hP, hU, callK_eq c80n, callK_eq c80u, callK_eq c81, callK_eq ct, callK_eq cbt, callK_eq cr, callK_eq cw, callK_eq cbr, callK_eq cbw] using hk
        by_cases zf : d.faults.length = 0
        · cases F
          · simpa [w1, z, zl, zf, h0, hN, hL, hF, hT, hP, hU, callK_eq c80n, callK_eq c80u, callK_eq c81, callK_eq ct, callK_eq cbt, callK_eq cr, callK_eq cw, callK_eq cbr, callK_eq cbw] using hk
          · simpa [w1, z, zl, zf, h0, hN, hL, hF, hT, hP, hU, callK_eq c80n, callK_eq c80u, callK_eq c81, callK_eq ct, callK_eq cbt, callK_eq cr, callK_eq cw, callK_eq cbr, callK_eq cbw] using hk
        · have pf : 0 < d.faults.length := by omega
          cases F
          · simpa [w1, z, zl, zf, pf, h0, hN, hL, hF, hT, hP, hU, callK_eq c80n, callK_eq c80u, callK_eq c81, callK_eq ct, callK_eq cbt, callK_eq cr, callK_eq cw, callK_eq cbr, callK_eq cbw] using hk
          · simpa [w1, z, zl, zf, pf, h0, hN, hL, hF, hT, hP, hU, callK_eq c80n, callK_eq c80u, callK_eq c81, callK_eq ct, callK_eq cbt, callK_eq cr, callK_eq cw, callK_eq cbr, callK_eq cbw] using hk
      · have pl : 0 < d.names.length := by omega
        cases L
        case false =>
          simpa [w1, z, zl, pl, h0, hN, hL, hF, hT, hP, hU, callK_eq c80n, callK_eq c80u, callK_eq c81, callK_eq ct, callK_eq cbt, callK_eq cr, callK_eq cw, callK_eq cbr, callK_eq cbw] using hk
        by_cases zf : d.faults.length = 0
        · cases F
          · simpa [w1, z, zl, pl, zf, h0, hN, hL, hF, hT, hP, hU, callK_eq c80n, callK_eq c80u, callK_eq c81, callK_eq ct, callK_eq cbt, callK_eq cr, callK_eq cw, callK_eq cbr, callK_eq cbw] using hk
          · simpa [w1, z, zl, pl, zf, h0, hN, hL, hF, hT, hP, hU, callK_eq c80n, callK_eq c80u, callK_eq c81, callK_eq ct, callK_eq cbt, callK_eq cr, callK_eq cw, callK_eq cbr, callK_eq cbw] using hk
        · have pf : 0 < d.faults.length := by omega
          cases F
          · simpa [w1, z, zl, pl, zf, pf, h0, hN, hL, hF, hT, hP, hU, callK_eq c80n, callK_eq c80u, callK_eq c81, callK_eq ct, callK_eq cbt, callK_eq cr, callK_eq cw, callK_eq cbr, callK_eq cbw] using hk
          · simpa [w1, z, zl, pl, zf, pf, h0, hN, hL, hF, hT, hP, hU, callK_eq c80n, callK_eq c80u, callK_eq c81, callK_eq ct, callK_eq cbt, callK_eq cr, callK_eq cw, callK_eq cbr, callK_eq cbw] using hk
    · cases N
      case false =>
        simpa [w1, z, h0, hN, hL, hF, hT, hP, hU, callK_eq c80n, callK_eq c80u, callK_eq c81, callK_eq ct, callK_eq cbt, callK_eq cr, callK_eq cw, callK_eq cbr, callK_eq cbw] using hk
      by_cases zl : d.names.length = 0
      · cases L
        case true =>
          simpa [w1, z, zl, h0, hN, hL, hF, hT, hP, hU, callK_eq c80n, callK_eq c80u, callK_eq c81, callK_eq ct, callK_eq cbt, callK_eq cr, callK_eq cw, callK_eq cbr, callK_eq cbw] using hk
        by_cases zf : d.faults.length = 0
        · cases F
          · simpa [w1, z, zl, zf, h0, hN, hL, hF, hT, hP, hU, callK_eq c80n, callK_eq c80u, callK_eq c81, callK_eq ct, callK_eq cbt, callK_eq cr, callK_eq cw, callK_eq cbr, callK_eq cbw] using hk
          · simpa [w1, z, zl, zf, h0, hN, hL, hF, hT, hP, hU, callK_eq c80n, callK_eq c80u, callK_eq c81, callK_eq ct, callK_eq cbt, callK_eq cr, callK_eq cw, callK_eq cbr, callK_eq cbw] using hk
        · have pf : 0 < d.faults.length := by omega
          cases F
          · simpa [w1, z, zl, zf, pf, h0, hN, hL, hF, hT, hP, hU, callK_eq c80n, callK_eq c80u, callK_eq c81, callK_eq ct, callK_eq cbt, callK_eq cr, callK_eq cw, callK_eq cbr, callK_eq cbw] using hk
          · simpa [w1, z, zl, zf, pf, h0, hN, hL, hF, hT, hP, hU, callK_eq c80n, callK_eq c80u, callK_eq c81, callK_eq ct, callK_eq cbt, callK_eq cr, callK_eq cw, callK_eq cbr, callK_eq cbw] using hk
      · have pl : 0 < d.names.length := by omega
        cases L
        case false =>
          simpa [w1, z, zl, pl, h0, hN, hL, hF, hT, hP, hU, callK_eq c80n, callK_eq c80u, callK_eq c81, callK_eq ct, callK_eq cbt, callK_eq cr, callK_eq cw, callK_eq cbr, callK_eq cbw] using hk
        by_cases zf : d.faults.length = 0
        · cases F
          · simpa [w1, z, zl, pl, zf, h0, hN, hL, hF, hT, hP, hU, callK_eq c80n, callK_eq c80u, callK_eq c81, callK_eq ct, callK_eq cbt, callK_eq cr, callK_eq cw, callK_eq cbr, callK_eq cbw] using hk
          · simpa [w1, z, zl, pl, zf, h0, hN, hL, hF, hT, hP, hU, callK_eq c80n, callK_eq c80u, callK_eq c81, callK_eq ct, callK_eq cbt, callK_eq cr, callK_eq cw, callK_eq cbr, callK_eq cbw] using hk
        · have pf : 0 < d.faults.length := by omega
          cases F
          · simpa [w1, z, zl, pl, zf, pf, h0, hN, hL, hF, hT, hP, hU, callK_eq c80n, callK_eq c80u, callK_eq c81, callK_eq ct, callK_eq cbt, callK_eq cr, callK_eq cw, callK_eq cbr, callK_eq cbw] using hk
          · simpa [w1, z, zl, pl, zf, pf, h0, hN, hL, hF, hT, hP, hU, callK_eq c80n, callK_eq c80u, callK_eq c81, callK_eq ct, callK_eq cbt, callK_eq cr, callK_eq cw, callK_eq cbr, callK_eq cbw] using hk
  by_cases b1 : w1 N L F d = true
  case pos => simp [b1]
  simp only [Bool.not_eq_true] at b1
  rw [b1]
  simp only [esc_block_exit, esc_code_exit, esc_nil, if_true, go_reg, go_seq, go_cond, go_block, go_skip, Env.arg, Env.look, condK_true, condK_false, if_false, Nat.reduceEqDiff, reduceCtorEq, Bool.false_eq_true]
  refine opsW_cutJ (e' := [(1, .ptr 0 1 0 0), (3, iV fl), (68, .bool (w2 d))]) (b := some (.arr 22 [d.cells])) ?_ ?_
  · intro k Q hk
    by_cases z : d.name = ⟨#[]⟩
    · skip
      by_cases u : d.use = ⟨#[]⟩
      · skip
        by_cases g : allN d.names = true
        case neg =>
          simpa [w2, z, u, g, h0, hN, hL, hF, hT, hP, hU, callK_eq c80n, callK_eq c80u, callK_eq c81, callK_eq ct, callK_eq cbt, callK_eq cr, callK_eq cw, callK_eq cbr, callK_eq cbw] using hk []
        simp [z, u, g, h0, hN, hL, hF, hT, hP, hU, callK_eq c80n, callK_eq c80u, callK_eq c81, callK_eq ct, callK_eq cbt, callK_eq cr, callK_eq cw, callK_eq cbr, callK_eq cbw]
        refine sharedK_of (c64 _) ?_
        rintro v σ' ⟨rfl, J, rfl⟩
        simpa [w2, z, u, g, haf] using hk J
      · by_cases v : isName d.use = true
        case neg =>
          simpa [w2, z, u, v, h0, hN, hL, hF, hT, hP, hU, callK_eq c80n, callK_eq c80u, callK_eq c81, callK_eq ct, callK_eq cbt, callK_eq cr, callK_eq cw, callK_eq cbr, callK_eq cbw] using hk []
        by_cases g : allN d.names = true
        case neg =>
          simpa [w2, z, u, v, g, h0, hN, hL, hF, hT, hP, hU, callK_eq c80n, callK_eq c80u, callK_eq c81, callK_eq ct, callK_eq cbt, callK_eq cr, callK_eq cw, callK_eq cbr, callK_eq cbw] using hk []
        simp [z, u, v, g, h0, hN, hL, hF, hT, hP, hU, callK_eq c80n, callK_eq c80u, callK_eq c81, callK_eq ct, callK_eq cbt, callK_eq cr, callK_eq cw, callK_eq cbr, callK_eq cbw]
        refine sharedK_of (c64 _) ?_
        rintro v σ' ⟨rfl, J, rfl⟩
        simpa [w2, z, u, v, g, haf] using hk J
    · by_cases n : isName d.name = true
      case neg =>
        simpa [w2, z, n, h0, hN, hL, hF, hT, hP, hU, callK_eq c80n, callK_eq c80u, callK_eq c81, callK_eq ct, callK_eq cbt, callK_eq cr, callK_eq cw, callK_eq cbr, callK_eq cbw] using hk []
      by_cases u : d.use = ⟨#[]⟩
      · skip
        by_cases g : allN d.names = true
        case neg =>
          simpa [w2, z, n, u, g, h0, hN, hL, hF, hT, hP, hU, callK_eq c80n, callK_eq c80u, callK_eq c81, callK_eq ct, callK_eq cbt, callK_eq cr, callK_eq cw, callK_eq cbr, callK_eq cbw] using hk []
        simp [z, n, u, g, h0, hN, hL, hF, hT, hP, hU, callK_eq c80n, callK_eq c80u, callK_eq c81, callK_eq ct, callK_eq cbt, callK_eq cr, callK_eq cw, callK_eq cbr, callK_eq cbw]
        refine sharedK_of (c64 _) ?_
        rintro v σ' ⟨rfl, J, rfl⟩
        simpa [w2, z, n, u, g, haf] using hk J
      · by_cases v : isName d.use = true
        case neg =>
          simpa [w2, z, n, u, v, h0, hN, hL, hF, hT, hP, hU, callK_eq c80n, callK_eq c80u, callK_eq c81, callK_eq ct, callK_eq cbt, callK_eq cr, callK_eq cw, callK_eq cbr, callK_eq cbw] using hk []
        by_cases g : allN d.names = true
        case neg =>
          simpa [w2, z, n, u, v, g, h0, hN, hL, hF, hT, hP, hU, callK_eq c80n, callK_eq c80u, callK_eq c81, callK_eq ct, callK_eq cbt, callK_eq cr, callK_eq cw, callK_eq cbr, callK_eq cbw] using hk []
        simp [z, n, u, v, g, h0, hN, hL, hF, hT, hP, hU, callK_eq c80n, callK_eq c80u, callK_eq c81, callK_eq ct, callK_eq cbt, callK_eq cr, callK_eq cw, callK_eq cbr, callK_eq cbw]
        refine sharedK_of (c64 _) ?_
        rintro v σ' ⟨rfl, J, rfl⟩
        simpa [w2, z, n, u, v, g, haf] using hk J
  intro J
  by_cases b2 : w2 d = true
  case pos => simp [b2]
  simp only [Bool.not_eq_true] at b2
  rw [b2]
  simp only [esc_block_exit, esc_code_exit, esc_nil, if_true, go_reg, go_seq, go_cond, go_block, go_skip, Env.arg, Env.look, condK_true, condK_false, if_false, Nat.reduceEqDiff, reduceCtorEq, Bool.false_eq_true]
  refine opsW_cut (e' := [(1, .ptr 0 1 0 0), (3, iV fl), (88, .bool (bad2 T d))]) (σ' := some (.arr 22 [d.cells]) :: J) ?_ ?_
  · intro k Q hk
    cases T
    · by_cases a : blankT d.term = true
      · simpa [bad2, a, h0, hN, hL, hF, hT, hP, hU, callK_eq c80n, callK_eq c80u, callK_eq c81, callK_eq ct, callK_eq cbt, callK_eq cr, callK_eq cw, callK_eq cbr, callK_eq cbw] using hk
      · simpa [bad2, a, h0, hN, hL, hF, hT, hP, hU, callK_eq c80n, callK_eq c80u, callK_eq c81, callK_eq ct, callK_eq cbt, callK_eq cr, callK_eq cw, callK_eq cbr, callK_eq cbw] using hk
    · by_cases a : isTerm d.term = true
      · simpa [bad2, a, h0, hN, hL, hF, hT, hP, hU, callK_eq c80n, callK_eq c80u, callK_eq c81, callK_eq ct, callK_eq cbt, callK_eq cr, callK_eq cw, callK_eq cbr, callK_eq cbw] using hk
      · simpa [bad2, a, h0, hN, hL, hF, hT, hP, hU, callK_eq c80n, callK_eq c80u, callK_eq c81, callK_eq ct, callK_eq cbt, callK_eq cr, callK_eq cw, callK_eq cbr, callK_eq cbw] using hk
  by_cases b3 : bad2 T d = true
  case pos => simp [b3]
  simp only [Bool.not_eq_true] at b3
  rw [b3]
  simp only [Bool.false_eq_true, if_false]
  cases P
  · unfold w5
    by_cases q0 : d.protocol = ⟨#[]⟩
    case neg => simp [h0, hN, hL, hF, hT, hP, hU, callK_eq c80n, callK_eq c80u, callK_eq c81, callK_eq ct, callK_eq cbt, callK_eq cr, callK_eq cw, callK_eq cbr, callK_eq cbw, q0]
    by_cases q1 : blankT d.read = true
    case neg => simp [h0, hN, hL, hF, hT, hP, hU, callK_eq c80n, callK_eq c80u, callK_eq c81, callK_eq ct, callK_eq cbt, callK_eq cr, callK_eq cw, callK_eq cbr, callK_eq cbw, q0, q1]
    by_cases q2 : blankT d.write = true
    case neg => simp [h0, hN, hL, hF, hT, hP, hU, callK_eq c80n, callK_eq c80u, callK_eq c81, callK_eq ct, callK_eq cbt, callK_eq cr, callK_eq cw, callK_eq cbr, callK_eq cbw, q0, q1, q2]
    cases U
    all_goals simp [h0, hN, hL, hF, hT, hP, hU, callK_eq c80n, callK_eq c80u, callK_eq c81, callK_eq ct, callK_eq cbt, callK_eq cr, callK_eq cw, callK_eq cbr, callK_eq cbw, q0, q1, q2]
  · unfold w4 bCrash bByz
    by_cases p1 : d.protocol = ⟨#[99, 114, 97, 115, 104]⟩
    · skip
      by_cases q0 : isTerm d.read = true
      case neg => simp [h0, hN, hL, hF, hT, hP, hU, callK_eq c80n, callK_eq c80u, callK_eq c81, callK_eq ct, callK_eq cbt, callK_eq cr, callK_eq cw, callK_eq cbr, callK_eq cbw, p1, q0]
      by_cases q1 : isTerm d.write = true
      case neg => simp [h0, hN, hL, hF, hT, hP, hU, callK_eq c80n, callK_eq c80u, callK_eq c81, callK_eq ct, callK_eq cbt, callK_eq cr, callK_eq cw, callK_eq cbr, callK_eq cbw, p1, q0, q1]
      simp [h0, hN, hL, hF, hT, hP, hU, callK_eq c80n, callK_eq c80u, callK_eq c81, callK_eq ct, callK_eq cbt, callK_eq cr, callK_eq cw, callK_eq cbr, callK_eq cbw, p1, q0, q1]
    by_cases p2 : d.protocol = ⟨#[98, 121, 122, 97, 110, 116, 105, 110, 101]⟩
    · skip
      by_cases q0 : isTerm d.read = true
      case neg => simp [h0, hN, hL, hF, hT, hP, hU, callK_eq c80n, callK_eq c80u, callK_eq c81, callK_eq ct, callK_eq cbt, callK_eq cr, callK_eq cw, callK_eq cbr, callK_eq cbw, p1, p2, q0]
      by_cases q1 : isTerm d.write = true
      case neg => simp [h0, hN, hL, hF, hT, hP, hU, callK_eq c80n, callK_eq c80u, callK_eq c81, callK_eq ct, callK_eq cbt, callK_eq cr, callK_eq cw, callK_eq cbr, callK_eq cbw, p1, p2, q0, q1]
      simp [h0, hN, hL, hF, hT, hP, hU, callK_eq c80n, callK_eq c80u, callK_eq c81, callK_eq ct, callK_eq cbt, callK_eq cr, callK_eq cw, callK_eq cbr, callK_eq cbw, p1, p2, q0, q1]
    simp [p1, p2, h0, hN, hL, hF, hT, hP, hU, callK_eq c80n, callK_eq c80u, callK_eq c81, callK_eq ct, callK_eq cbt, callK_eq cr, callK_eq cw, callK_eq cbr, callK_eq cbw]
end Go.Ev.Ty
namespace Go.Ev.Ty
open Go.Ev
variable [GF]
set_option maxRecDepth 100000
set_option linter.unusedSimpArgs false
set_option linter.unusedVariables false
/-- Where a name stands in a list of pairs, and what with. -/
def idx {α : Type} (n : ByteArray) : List (ByteArray × α) → Nat → Option (Nat × α)
  | [], _ => none
  | (x, v) :: l, i => if x = n then some (i, v) else idx n l (i + 1)
theorem bytes_beq0 (a b : ByteArray) : (a == b) = true ↔ a = b := by
  obtain ⟨x⟩ := a
  obtain ⟨y⟩ := b
  constructor
  · intro h
    have e : x = y := by simpa using (show (x == y) = true from h)
    rw [e]
  · intro h
    rw [h]
    exact show (y == y) = true by simp
@[simp] theorem keyEq_str (a b : ByteArray) : keyEq (.str a) (.str b) = some (decide (a = b)) := by
  unfold keyEq
  simp only [Option.some.injEq]
  rw [Bool.eq_iff_iff]; simp [bytes_beq0]
theorem findK_str {α : Type} (f : α → V) (n : ByteArray) : ∀ (l : List (ByteArray × α)) (i : Nat), findK (.str n) (l.map fun p => (V.str p.1, f p.2)) i = some ((idx n l i).map fun q => (q.1, f q.2))
  | [], i => rfl
  | (x, v) :: l, i => by
    simp only [List.map_cons, findK, keyEq_str, idx, findK_str f n l (i + 1)]
    by_cases h : n = x
    · simp [h]
    · have h' : ¬ x = n := fun e => h e.symm
      simp [h, h']
theorem find_idx (n : ByteArray) : ∀ (l : List (ByteArray × Int)) (i : Nat), find n l = match idx n l i with | some q => q.2 | none => 0
  | [], i => rfl
  | (x, k) :: l, i => by
    simp only [find, idx]
    by_cases h : x = n
    · simp [h]
    · simp only [h, if_false]; exact find_idx n l (i + 1)
/-- The scope. -/
structure Sc where
  kinds : List (ByteArray × Int)
  decls : List (ByteArray × D)
  servers : Int
  configs : Int
  clients : Int
  others : Bool
  chain : Bool
  witness : List (ByteArray × Bool)
  conveyed : List (ByteArray × Bool)
  byz : List (ByteArray × Bool)
abbrev mapI (l : List (ByteArray × Int)) : Blk := .mp (l.map fun p => (V.str p.1, iV p.2))
abbrev mapB (l : List (ByteArray × Bool)) : Blk := .mp (l.map fun p => (V.str p.1, V.bool p.2))
abbrev mapD (l : List (ByteArray × D)) : Blk := .mp (l.map fun p => (V.str p.1, V.agg p.2.cells))
/-- Its blocks, which are the first. -/
abbrev scS (s : Sc) : Store := [some (mapI s.kinds), some (mapD s.decls), some (mapB s.witness), some (mapB s.conveyed), some (mapB s.byz),
  some (.arr 10 [[.map 0, .map 1, iV s.servers, iV s.configs, iV s.clients, .bool s.others, .bool s.chain, .map 2, .map 3, .map 4]])]
abbrev scP : V := .ptr 5 1 0 0
def memK (k : Int) : List Int → Bool
  | [] => false
  | x :: l => if k = x then true else memK k l
def posK (k : Int) : List Int → Nat → Int
  | [], _ => -1
  | x :: l, i => if k = x then i else posK k l (i + 1)
theorem posK_mem (k : Int) : ∀ (l : List Int) (i : Nat), decide (0 ≤ posK k l i) = memK k l
  | [], i => rfl
  | x :: l, i => by
    simp only [posK, memK]
    split
    · simp
    · exact posK_mem k l (i + 1)
@[simp] theorem deepByss_ints (rd : Nat → Option Blk) (f : List (List V) → Option (List (List V))) (l : List Int) : deepByss rd f (l.map fun w => [iV w]) = some (l.map fun w => [iV w]) :=
  deepByss_map (fun _ => rfl) l
theorem s92 (l : List Int) (k : Int) (hl : l.length < 4611686018427387904) : CallP pg 92 [intsV l, iV k] (iV (posK k l 0)) := by
  refine CallP.go rfl (show _ = some m92 from rfl) ?_
  generalize hA : posK k l 0 = A
  have loop := loop_go (M := pg) m92_l0.eq_def l hl (fun i e σ => e = [(0, intsV l), (1, iV k), (7, iV l.length), (8, iV i)] ∧ σ = [] ∧ posK k (l.drop i) i = A)
    (fun x e σ => (x = .exit 0 ∧ A = -1 ∧ σ = []) ∨ (x = .ret ∧ ret m92.results (iV A) e σ))
    (by rintro e σ ⟨rfl, rfl, h⟩; simp [posK] at h; simp [← h])
    (by
      rintro i x r e σ ⟨rfl, rfl, h⟩ hd hlt hx' hd' hw
      simp only [hd, posK] at h
      by_cases hq : k = x <;> simp [hq] at h <;> subst h <;> simp [hx', hlt, hq, hw, m92, hd'])
    (e := [(0, intsV l), (1, iV k), (7, iV l.length), (8, iV 0)]) (σ := []) ⟨rfl, rfl, hA⟩
  unfold m92
  simp
  refine loopK_of loop ?_
  rintro x e σ (⟨rfl, h, rfl⟩ | ⟨rfl, h⟩)
  · simp [h]
  · exact ⟨trivial, h⟩
theorem s63 (l : List Int) (k : Int) (hl : l.length < 4611686018427387904) : CallP pg 63 [intsV l, iV k] (.bool (memK k l)) := by
  refine CallP.go rfl (show _ = some m63 from rfl) ?_
  rw [← posK_mem k l 0]
  unfold m63
  simp [callK_eq (s92 l k hl)]
/-- slices.Contains over texts. -/
def posS (s : ByteArray) : List ByteArray → Nat → Int
  | [], _ => -1
  | x :: l, i => if s = x then i else posS s l (i + 1)
theorem posS_mem (s : ByteArray) : ∀ (l : List ByteArray) (i : Nat), decide (0 ≤ posS s l i) = isIn s l
  | [], i => rfl
  | x :: l, i => by
    by_cases h : s = x
    · simp [posS, isIn, h]
    · have h' : ¬ x = s := fun e => h e.symm
      have := posS_mem s l (i + 1)
      simp only [isIn] at this
      simp only [posS, isIn, List.any_cons, h, if_false, h', decide_false, Bool.false_or, this]
theorem s53 (l : List ByteArray) (s : ByteArray) (hl : l.length < 4611686018427387904) : CallP pg 53 [strsV l, .str s] (iV (posS s l 0)) := by
  refine CallP.go rfl (show _ = some m53 from rfl) ?_
  generalize hA : posS s l 0 = A
  have loop := loop_go (M := pg) m53_l0.eq_def l hl (fun i e σ => e = [(0, strsV l), (1, .str s), (7, iV l.length), (8, iV i)] ∧ σ = [] ∧ posS s (l.drop i) i = A)
    (fun x e σ => (x = .exit 0 ∧ A = -1 ∧ σ = []) ∨ (x = .ret ∧ ret m53.results (iV A) e σ))
    (by rintro e σ ⟨rfl, rfl, h⟩; simp [posS] at h; simp [← h])
    (by
      rintro i x r e σ ⟨rfl, rfl, h⟩ hd hlt hx' hd' hw
      simp only [hd, posS] at h
      by_cases hq : s = x <;> simp [hq] at h <;> subst h <;> simp [hx', hlt, hq, hw, m53, hd'])
    (e := [(0, strsV l), (1, .str s), (7, iV l.length), (8, iV 0)]) (σ := []) ⟨rfl, rfl, hA⟩
  unfold m53
  simp
  refine loopK_of loop ?_
  rintro x e σ (⟨rfl, h, rfl⟩ | ⟨rfl, h⟩)
  · simp [h]
  · exact ⟨trivial, h⟩
theorem s24 (l : List ByteArray) (s : ByteArray) (hl : l.length < 4611686018427387904) : CallP pg 24 [strsV l, .str s] (.bool (isIn s l)) := by
  refine CallP.go rfl (show _ = some m24 from rfl) ?_
  rw [← posS_mem s l 0]
  unfold m24
  simp [callK_eq (s53 l s hl)]
theorem s27 (d : D) : CallP pg 27 [.agg d.cells] (iV (kindOf d.kind)) := by
  refine CallP.go rfl (show _ = some m27 from rfl) ?_
  unfold m27 kindOf
  have hk : ∀ a b : Int, keyEq (.int .i64 a) (.int .i64 b) = some (decide (a = b)) := fun a b => by simp [keyEq]
  by_cases h1 : d.kind = 1
  · simp [h1, keyK, entries, findK, hk]
  by_cases h2 : d.kind = 2
  · simp [h2, keyK, entries, findK, hk]
  by_cases h3 : d.kind = 3
  · simp [h3, keyK, entries, findK, hk]
  by_cases h4 : d.kind = 4
  · simp [h4, keyK, entries, findK, hk]
  by_cases h6 : d.kind = 6 <;> simp [h1, h2, h3, h4, h6, keyK, entries, findK, hk]
/-- scope.is. -/
def isErr (kinds : List (ByteArray × Int)) (n : ByteArray) (ks : List Int) : Int := if find n kinds = 0 then 4 else if memK (find n kinds) ks then 0 else 11
theorem s30 (s : Sc) (junk : Store) (n : ByteArray) (b : Nat) (ks : List Int) (hk : ks.length < 4611686018427387904) (hb : (scS s ++ junk)[b]? = some (some (.arr 1 (ks.map fun k => [iV k])))) (hb6 : 6 ≤ b) :
    CallT pg 30 [scP, .str n, .ref b ks.length] (scS s ++ junk) (fun v σ' => v = iV (isErr s.kinds n ks) ∧ σ' = scS s ++ junk) := by
  refine CallT.go rfl (show _ = some m30 from rfl) ?_
  have c63 := s63 ks (find n s.kinds) hk
  have hf := find_idx n s.kinds 0
  have hfs := findK_str (fun k => iV k) n s.kinds 0
  simp at hb
  unfold m30 isErr
  cases hi : idx n s.kinds 0 with
  | none =>
    rw [hi] at hf
    simp at hf
    simp [keyK, entries, hfs, hi, hf]
  | some q =>
    rw [hi] at hf
    simp at hf
    by_cases h0 : find n s.kinds = 0
    · simp [keyK, entries, hfs, hi, ← hf, h0]
    · cases hm : memK (find n s.kinds) ks <;> rw [hm] at c63 <;> simp [keyK, entries, hfs, hi, ← hf, h0, hb, callK_eq c63, hm]
end Go.Ev.Ty
namespace Go.Ev.Ty
open Go.Ev
variable [GF]
set_option maxRecDepth 100000
set_option linter.unusedSimpArgs false
set_option linter.unusedVariables false
theorem gs_new3 (σ : Store) (x y : Option Blk) (p : ByteArray) : Grown 1 (([p] : List ByteArray).map fun s => [V.str s]) (.ref (σ.length + 2) 1) (σ ++ [x, y, some (.arr 1 [[V.str p]])]) := .inr ⟨_, rfl, by simp, by simp⟩
theorem gs_new2 (σ : Store) (x : Option Blk) (p : ByteArray) : Grown 1 (([p] : List ByteArray).map fun s => [V.str s]) (.ref (σ.length + 1) 1) (σ ++ [x, some (.arr 1 [[V.str p]])]) := .inr ⟨_, rfl, by simp, by simp⟩
theorem gs_set {σ : Store} {b : Nat} (acc : List ByteArray) (p : ByteArray) (x : List (Option Blk)) (hb : b < σ.length) : Grown 1 ((acc ++ [p]).map fun s => [V.str s]) (.ref b (acc.length + 1)) ((σ ++ x).set b (some (.arr 1 (acc.map (fun s => [V.str s]) ++ [[V.str p]])))) := by
  simpa using grown_set (sz := 1) (rows := (acc ++ [p]).map fun s => [V.str s]) x hb
theorem strs_map : ∀ l : List ByteArray, strs (l.map fun s => [V.str s]) = some (l.map fun s => s.data.toList)
  | [] => rfl
  | s :: l => by simp [strs, strs_map l]
theorem toList_app (a b : ByteArray) : (a ++ b).data.toList = a.data.toList ++ b.data.toList := by simp
theorem joinB_sep (sep : ByteArray) : ∀ l : List ByteArray, joinB sep.data.toList (l.map fun s => s.data.toList) = (sepT sep l).data.toList
  | [] => rfl
  | [x] => rfl
  | x :: y :: l => by
    have := joinB_sep sep (y :: l)
    simp only [List.map_cons] at this
    simp only [List.map_cons, joinB, sepT, toList_app, this]
theorem mkStr_toList (s : ByteArray) : mkStr s.data.toList = .str s := by
  obtain ⟨⟨l⟩⟩ := s; rfl
theorem s89 (l : List ByteArray) (sep : ByteArray) (hl : l.length ≤ 140737488355328) (hs : (sepT sep l).size ≤ 140737488355328) : CallP pg 89 [strsV l, .str sep] (.str (sepT sep l)) :=
  CallP.nat (g := natJoin) rfl (by simp only [natJoin, strs_map, joinB_sep, mkStr_toList, len_data, List.length_map, hl, hs, and_self, if_true])
theorem s89n (sep : ByteArray) : CallP pg 89 [.nils, .str sep] (.str ⟨#[]⟩) := CallP.nat (g := natJoin) rfl rfl
theorem s87 (l : List ByteArray) (hl : l.length ≤ 140737488355328) (hs : (listT l).size ≤ 140737488355328) : CallP pg 87 [strsV l] (.str (listT l)) := by
  have c := s89 l bComma hl hs
  refine CallP.go rfl (show _ = some m87 from rfl) ?_
  unfold m87
  simp [callK_eq c, listT]
set_option maxHeartbeats 2000000 in
theorem s122 (ks : List T) (sep : ByteArray) (or : Bool) (loose : List Int) (hlo : loose.length < 100) (hm : ∀ k : Int, memK k loose = decide (k = 4 ∨ (or = false ∧ k = 3))) (hl : ks.length < 4294967296)
    (hs : ∀ k, k ∈ ks → (termT k).size ≤ 4294967296) (hz : (sepT sep (ks.map fun k => wrapT or k.op (termT k))).size ≤ 140737488355328)
    (hk : ∀ k, k ∈ ks → CallP pg 90 [.agg k.cells] (.str (termT k))) : CallP pg 122 [termsV ks, .str sep, intsV loose] (.str (sepT sep (ks.map fun k => wrapT or k.op (termT k)))) := by
  refine CallP.go rfl (show _ = some m122 from rfl) ?_
  have w1 : IntKind.i64.wrap 1 = 1 := by decide
  generalize hL : ks.map (fun k => wrapT or k.op (termT k)) = L at *
  have hLl : L.length = ks.length := by rw [← hL]; simp
  have loop := loop_go (M := pg) m122_l0.eq_def ks (by omega) (fun i e σ => ∃ v acc, e = [(1, .str sep), (2, intsV loose), (7, v), (11, termsV ks), (12, iV ks.length), (13, iV i)] ∧ Grown 1 (acc.map fun s => [.str s]) v σ ∧ acc.length ≤ i ∧ acc ++ L.drop i = L)
    (fun y e σ => y = .exit 0 ∧ ∃ v, e.look 7 = some v ∧ e.look 1 = some (.str sep) ∧ Grown 1 (L.map fun s => [.str s]) v σ)
    (by
      rintro e σ ⟨v, acc, rfl, hg, ha, h⟩
      rw [List.drop_of_length_le (by omega), List.append_nil] at h
      subst h
      simpa using hg)
    (by
      rintro i k r e σ ⟨v, acc, rfl, hg, ha, h⟩ hd hlt hx' hd' hw
      have hlt2 : i < L.length := by rw [hLl]; exact hlt
      have hLi : L[i] = wrapT or k.op (termT k) := by simp only [← hL, List.getElem_map, hx']
      rw [List.drop_eq_getElem_cons hlt2, hLi] at h
      have hkm : k ∈ ks := by rw [← hx']; exact List.getElem_mem hlt
      have c90 := hk k hkm
      have hsz := hs k hkm
      have c63 := s63 loose k.op (by omega)
      rw [hm] at c63
      have hcons : ∀ x : ByteArray, acc ++ x :: L.drop (i + 1) = (acc ++ [x]) ++ L.drop (i + 1) := fun x => by simp
      rw [hcons] at h
      have hbd := bd17 (n := acc.length + 1) (by clear hw; omega)
      by_cases o4 : k.op = 4 ∨ (or = false ∧ k.op = 3)
      · have hwr : wrapT or k.op (termT k) = bOpen ++ termT k ++ bClose := by unfold wrapT; rw [if_pos o4]
        rw [hwr] at h
        simp only [o4, decide_true] at c63
        have hb0 : 1 + (termT k).size ≤ 4611686018427387904 := by clear hw; omega
        have hb1 : 1 + (termT k).size ≤ 4611686018427387903 := by clear hw; omega
        rcases hg with ⟨rfl, hg⟩ | ⟨b, rfl, hb, hg⟩
        · simp at hg; subst hg
          simp [hlt, hx', hw, callK_eq c90, callK_eq c63, hb0, hb1, hbd]
          exact ⟨[_], gs_new3 .., by simp, h⟩
        · have hgx := get_more hg
          simp [hlt, hx', hw, callK_eq c90, callK_eq c63, hb0, hb1, hgx, hbd]
          exact ⟨_, gs_set _ _ _ hb, by simp; exact ha, h⟩
      · have hwr : wrapT or k.op (termT k) = termT k := by unfold wrapT; rw [if_neg o4]
        rw [hwr] at h
        simp only [o4, decide_false] at c63
        rcases hg with ⟨rfl, hg⟩ | ⟨b, rfl, hb, hg⟩
        · simp at hg; subst hg
          simp [hlt, hx', hw, callK_eq c90, callK_eq c63]
          exact ⟨[_], gs_new3 .., by simp, h⟩
        · have hgx := get_more hg
          simp [hlt, hx', hw, callK_eq c90, callK_eq c63, hgx, hbd]
          exact ⟨_, gs_set _ _ _ hb, by simp; exact ha, h⟩)
    (e := [(1, .str sep), (2, intsV loose), (7, .nils), (11, termsV ks), (12, iV ks.length), (13, iV 0)]) (σ := []) ⟨.nils, [], rfl, .inl ⟨rfl, rfl⟩, by simp, by simpa using hL⟩
  unfold m122
  simp
  refine loopK_of loop ?_
  rintro y e σ ⟨rfl, v, h7, h1, hg⟩
  rcases hg with ⟨rfl, hg⟩ | ⟨b, rfl, hb, hg⟩
  · have c0 : CallP pg 89 [.slc [], .str sep] (.str ⟨#[]⟩) := s89 [] sep (by decide) (by show 0 ≤ _; omega)
    simp at hg; subst hg; simp [h7, h1, callK_eq (s89n sep), callK_eq c0, sepT]
  · simp [h7, h1, hg, callK_eq (s89 L sep (by omega) hz)]
end Go.Ev.Ty
