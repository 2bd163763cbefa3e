/- Code: what the reader says of it holds of the program; functions and calls. Condition: the tape may order each region in any way. Functions and calls. Condition: each function of the reader is the program's, as put by 'convF'. Regions whose order is drawn, part one: operations and their effects. No condition. -/
import Derived.Deep.LoopGhost
import Derived.Test.YtagceefccafgoaaGreatDoorT10
set_option linter.all false
namespace Go.Ev
variable [Consts]
set_option linter.unusedSectionVars false
open Go.RowKit
set_option linter.unusedSimpArgs false
set_option linter.unusedVariables false
def MExit.to : MExit → Exit
  | .normal => .normal
  | .exit id => .exit id
  | .ret => .ret
section
variable {P : Program} {nt base : Nat} {cf : FuncId → List V → Option V} {cs : CallS} {n : Nat} {anns : List Ann}
/-- Regions whose order is drawn. -/
def DrawSound (P : Program) (nt : Nat) (cf : FuncId → List V → Option V) (cs : CallS) : Prop :=
  ∀ (base : Nat) (id : Nat) (ops : Array Oper) (an : Ann) (l : List MO), convDr P nt ops an = some l →
    ∀ (w : World) (S : SSet) (L : LMap) (e e' : Env) (σ σ' : Store) (a : Act) (Q : Exit → Act → World → Prop), StRel nt base w S L e σ a → evReg cf cs l e σ = some (e', σ') →
      (∀ a' w' S' L', StRel nt base w' S' L' e' σ' a' → Step base w S L w' S' L' → Q .normal a' w') → (Code.region id ops true).wp P Q a w
theorem code_sound (hcf : CfSound P cf) (hcs : CsSound P cs) (hd : DrawSound P nt cf cs) : ∀ (c : Code) {w : World} {S : SSet} {L : LMap} {e e' : Env} {σ σ' : Store} {a : Act} {x : MExit} {Q : Exit → Act → World → Prop},
    StRel nt base w S L e σ a → evCode cf cs n (convC P nt anns c) e σ = some (x, e', σ') → (∀ a' w' S' L', StRel nt base w' S' L' e' σ' a' → Step base w S L w' S' L' → Q x.to a' w') → c.wp P Q a w := by
  intro c
  induction c with
  | skip =>
    intro w S L e e' σ σ' a x Q hst hr hk
    simp only [convC, evCode, Option.some.injEq, Prod.mk.injEq] at hr
    obtain ⟨rfl, rfl, rfl⟩ := hr
    exact wp_skip (hk a w S L hst (Step.refl ..))
  | region id ops draw =>
    intro w S L e e' σ σ' a x Q hst hr hk
    simp only [convC, convReg] at hr
    have fin : ∀ (l : List MO) (kp : Option (List Nat)) (Z : Prop), evCode cf cs n (.reg l kp) e σ = some (x, e', σ') →
        (∀ e1, evReg cf cs l e σ = some (e1, σ') → (∀ a' w' S' L', StRel nt base w' S' L' e1 σ' a' → Step base w S L w' S' L' → Q .normal a' w') → Z) → Z := by
      intro l kp Z h hz
      simp only [evCode] at h
      split at h <;> first | (cases h; done) | skip
      rename_i e1 σ1 h1
      simp only [Option.some.injEq, Prod.mk.injEq] at h
      obtain ⟨rfl, h2, rfl⟩ := h
      refine hz e1 h1 fun a' w' S' L' hs hstep => hk a' w' S' L' ?_ hstep
      subst h2
      cases kp with
      | none => exact hs
      | some l => exact hs.keep l
    split at hr
    · rename_i hdraw
      subst hdraw
      split at hr
      · rename_i l hl
        exact fin l _ _ hr fun e1 h1 hk1 => hd base id ops _ l hl w S L e e1 σ σ' a Q hst h1 hk1
      · simp only [evCode, reduceCtorEq] at hr
    · rename_i hdraw
      have hdraw' : draw = false := by simpa using hdraw
      subst hdraw'
      split at hr
      · rename_i l hl
        exact fin l _ _ hr fun e1 h1 hk1 => wp_region (reg_seq hcf hcs Q hl hst h1 hk1)
      · simp only [evCode, reduceCtorEq] at hr
  | seq c d ihc ihd =>
    intro w S L e e' σ σ' a x Q hst hr hk
    simp only [convC, evCode] at hr
    refine wp_seq ?_
    split at hr
    · rename_i e1 σ1 h1
      exact ihc hst h1 fun a' w' S' L' hs hstep => ihd hs hr fun a'' w'' S'' L'' hs' hstep' => hk a'' w'' S'' L'' hs' (hstep.trans hstep')
    · rename_i hne
      refine ihc hst hr fun a' w' S' L' hs hstep => ?_
      have := hk a' w' S' L' hs hstep
      cases x
      · exact absurd hr (hne _ _)
      · exact this
      · exact this
  | cond c t f iht ihf =>
    intro w S L e e' σ σ' a x Q hst hr hk
    simp only [convC] at hr
    split at hr
    · rename_i m hm
      simp only [evCode] at hr
      split at hr <;> first | (cases hr; done) | skip
      · rename_i hb
        have := hst.rho c m _ hm hb
        simp only [Rep] at this
        exact wp_cond_true this (iht hst hr hk)
      · rename_i hb
        have := hst.rho c m _ hm hb
        simp only [Rep] at this
        exact wp_cond_false this (ihf hst hr hk)
    · simp only [evCode, reduceCtorEq] at hr
  | block id c ih =>
    intro w S L e e' σ σ' a x Q hst hr hk
    simp only [convC, evCode] at hr
    refine wp_block ?_
    split at hr
    · rename_i j e1 σ1 h1
      simp only [Option.some.injEq, Prod.mk.injEq] at hr
      obtain ⟨rfl, rfl, rfl⟩ := hr
      refine ih hst h1 fun a' w' S' L' hs hstep => ?_
      have := hk a' w' S' L' hs hstep
      show (if j = id then Q .normal a' w' else Q (.exit j) a' w')
      split at this <;> simp_all [MExit.to]
    · rename_i hne
      refine ih hst hr fun a' w' S' L' hs hstep => ?_
      have := hk a' w' S' L' hs hstep
      cases x
      · exact this
      · exact absurd hr (hne _ _ _)
      · exact this
  | loop c ih =>
    intro w S L e e' σ σ' a x Q hst hr hk
    simp only [convC, evCode] at hr
    refine wp_loop_ghost (fun k a1 w1 => ∃ e1 σ1 S1 L1, StRel nt base w1 S1 L1 e1 σ1 a1 ∧ Step base w S L w1 S1 L1 ∧ evLoop (evCode cf cs n (convC P nt anns c)) k e1 σ1 = some (x, e', σ')) n ⟨e, σ, S, L, hst, Step.refl .., hr⟩ ?_
    rintro k a1 w1 ⟨e1, σ1, S1, L1, hs1, hstep1, h1⟩
    cases k with
    | zero => simp only [evLoop, reduceCtorEq] at h1
    | succ k =>
      simp only [evLoop] at h1
      split at h1
      · rename_i e2 σ2 h2
        exact ih hs1 h2 fun a' w' S' L' hs hstep => ⟨k, by omega, e2, σ2, S', L', hs, hstep1.trans hstep, h1⟩
      · rename_i hne
        refine ih hs1 h1 fun a' w' S' L' hs hstep => ?_
        have := hk a' w' S' L' hs (hstep1.trans hstep)
        cases x
        · exact absurd h1 (hne _ _)
        · exact this
        · exact this
  | exit id =>
    intro w S L e e' σ σ' a x Q hst hr hk
    simp only [convC, evCode, Option.some.injEq, Prod.mk.injEq] at hr
    obtain ⟨rfl, rfl, rfl⟩ := hr
    exact wp_exit (hk a w S L hst (Step.refl ..))
  | ret =>
    intro w S L e e' σ σ' a x Q hst hr hk
    simp only [convC, evCode, Option.some.injEq, Prod.mk.injEq] at hr
    obtain ⟨rfl, rfl, rfl⟩ := hr
    exact wp_ret (hk a w S L hst (Step.refl ..))
  | _ =>
    intro w S L e e' σ σ' a x Q hst hr hk
    simp only [convC, evCode, reduceCtorEq] at hr
/-! ### Functions -/
theorem params_look : ∀ (vs : List V) (i t : Nat) (v : V), (params vs i).look t = some v → i ≤ t ∧ vs[t - i]? = some v
  | [], i, t, v, h => by simp [params, Env.look] at h
  | u :: us, i, t, v, h => by
    simp only [params, Env.look] at h
    split at h
    · rename_i hit
      simp only [Option.some.injEq] at h
      subst hit; subst h
      exact ⟨Nat.le_refl _, by simp⟩
    · rename_i hit
      obtain ⟨h1, h2⟩ := params_look us (i + 1) t v h
      exact ⟨by omega, by rw [show t - i = (t - (i + 1)) + 1 by omega]; simpa using h2⟩
/-- The results out of the slots. -/
theorem results_sound {w : World} {S : SSet} {L : LMap} {e : Env} {σ : Store} {a : Act} (hst : StRel nt base w S L e σ a) : ∀ (rs : List ResultVar) (ts : List TypeId) (ms : List (MRes × Nat)) (vs : List V), convRes P rs ts = some ms → evRes σ.rd e ms = some vs →
    ∃ xs, (rs.mapM (m := Sem) fun | .tmp t => pure (a.tmps.getD t undef) | .cell b t => do loadVar t (← asAddr (a.tmps.getD b undef))).run P w = .ok xs w ∧ Reps w S L vs xs
  | [], ts, ms, vs, h, he => by
    simp only [convRes, Option.some.injEq] at h; subst h
    simp only [evRes, Option.some.injEq] at he; subst he
    exact ⟨[], by simp, by simp [Reps]⟩
  | .tmp t :: rs, ts, ms, vs, h, he => by
    simp only [convRes, Option.map_eq_some_iff] at h
    obtain ⟨ms', h', rfl⟩ := h
    simp only [evRes] at he
    split at he <;> first | (cases he; done) | skip
    rename_i v hv
    rw [Option.map_eq_some_iff] at he
    obtain ⟨vs', he', rfl⟩ := he
    obtain ⟨xs, h1, h2⟩ := results_sound hst rs _ ms' vs' h' he'
    refine ⟨a.tmps.getD t undef :: xs, ?_, by simp only [Reps]; exact ⟨_, _, rfl, hst.env t v hv, h2⟩⟩
    rw [List.mapM_cons]
    simp only [Sem.run_bind, Sem.run_pure, Result.andThen_ok, h1]
  | .cell b t :: rs, ts, ms, vs, h, he => by
    simp only [convRes] at h
    split at h <;> first | (cases h; done) | skip
    rename_i ag sz ha hs
    rw [Option.map_eq_some_iff] at h
    obtain ⟨ms', h', rfl⟩ := h
    simp only [evRes] at he
    split at he <;> first | (cases he; done) | skip
    rename_i v f hv
    rw [Option.map_eq_some_iff] at he
    obtain ⟨vs', he', rfl⟩ := he
    obtain ⟨xs, h1, h2⟩ := results_sound hst rs _ ms' vs' h' he'
    have hload : ∃ x, (do loadVar t (← asAddr (a.tmps.getD b undef)) : Sem Value).run P w = .ok x w ∧ Rep w S L v x := by
      have fin : ∀ (c : List V) (q : Nat) (ad : Addr), a.tmps.getD b undef = .pointer (some (ad.add q)) → c.all V.isCell = true → (∀ (j : Nat) (v : V), c[j]? = some v → ∃ y, w.cell? (ad.add j) = some y ∧ Rep w S L v y) →
          (if ag then (if q + sz ≤ c.length then some (V.agg ((c.drop q).take sz), Eff.nop) else none) else (c[q]?).map (·, Eff.nop)) = some (v, f) → ∃ x, (do loadVar t (← asAddr (a.tmps.getD b undef)) : Sem Value).run P w = .ok x w ∧ Rep w S L v x := by
        intro c q ad hx hall hc h
        obtain ⟨l1, l2⟩ := run_loadVar_cells (P := P) ha hs ad c hall hc q
        have run : ∀ x, (loadVar t (ad.add q)).run P w = .ok x w → (do loadVar t (← asAddr (a.tmps.getD b undef)) : Sem Value).run P w = .ok x w := fun x h => by
          rw [hx]; simp [asAddr, h]
        cases ag
        · simp only [Bool.false_eq_true, if_false, Option.map_eq_some_iff, Prod.mk.injEq] at h
          obtain ⟨v', h1, rfl, -⟩ := h
          obtain ⟨x, q1, q2⟩ := l2 rfl _ h1
          exact ⟨x, run x q1, q2⟩
        · simp only [if_true] at h
          split at h <;> simp only [Option.some.injEq, Prod.mk.injEq, reduceCtorEq] at h
          obtain ⟨rfl, -⟩ := h
          obtain ⟨x, q1, q2⟩ := l1 rfl (by assumption)
          exact ⟨x, run x q1, q2⟩
      simp only [evalOp, Env.arg] at hv
      split at hv
      · rename_i c q hx
        have hr := hst.env b _ hx
        simp only [Rep] at hr
        obtain ⟨r, q', e1, hr⟩ := hr
        obtain ⟨p1, p2⟩ := hr.cells
        exact fin c q ⟨r, q', none⟩ (by rw [e1, add_lit]) p1 p2 hv
      · rename_i b' n i q hx
        split at hv <;> first | (cases hv; done) | skip
        rename_i s xs' hb
        split at hv <;> first | (cases hv; done) | skip
        rename_i hn
        split at hv <;> first | (cases hv; done) | skip
        rename_i c hci
        obtain ⟨g, l, cap, cur, -, -, -, -, -, -, -, -, hrow, e1⟩ := hst.inv.ptr (hst.env b _ hx) hb hn hci
        obtain ⟨p1, p2, p3⟩ := hrow.cells hci
        exact fin c q ⟨g, i * s, none⟩ (by rw [e1, add_lit]) p2 p3 hv
      · cases hv
    obtain ⟨x, q1, q2⟩ := hload
    refine ⟨x :: xs, ?_, by simp only [Reps]; exact ⟨_, _, rfl, q2, h2⟩⟩
    rw [List.mapM_cons]
    simp only [Sem.run_bind, Result.andThen_ok, h1, Sem.run_pure] at q1 ⊢
    rw [q1]
    simp only [Result.andThen_ok, h1]
end
end Go.Ev
namespace Go.Ev
variable [Consts]
set_option linter.unusedSectionVars false
open Go.RowKit
set_option linter.unusedSimpArgs false
set_option linter.unusedVariables false
/-- Results, one or many. -/
def oneV : List Value → Value
  | [x] => x
  | xs => .tuple xs.toArray
theorem oneV_eq (xs : Array Value) : (if h : xs.size = 1 then xs[0] else Value.tuple xs) = oneV xs.toList := by
  obtain ⟨l⟩ := xs
  match l with
  | [] => rfl
  | [x] => rfl
  | x :: y :: l => simp [oneV]
/-! ### What a pure call hands back -/
theorem tup_exps {B : Nat} {w : World} {S : SSet} : ∀ {vs : List V} {xs : List Value} {T : Nat → Prop}, Reps w S noL vs xs → Exps B w S vs xs T
  | [], xs, T, h => by simpa only [Reps, Exps] using h
  | v :: vs, xs, T, h => by
    simp only [Reps] at h
    obtain ⟨y, ys, rfl, h1, h2⟩ := h
    cases v
    case lst => simp only [Rep] at h1
    all_goals exact ⟨y, ys, rfl, h1, tup_exps h2⟩
theorem exps_rel {B : Nat} {w : World} {S S' : SSet} {σ : Store} {L : LMap} {o : List Nat} (hI : Inv B w S σ.rd L) (hS : ∀ r q, S' r q ↔ S r q ∨ ∃ b l, L b = some l ∧ l.own = some r ∧ b ∉ o) :
    ∀ {vs : List (V × Nat)} {us : List V} {xs : List Value} {done : List Nat}, exps σ.rd (fun b => if o.contains b then none else σ.rd b) vs = some us → Reps w S L (vs.map (·.1)) xs → (∀ b ∈ owns (vs.map (·.1)), b ∈ o) → (owns (vs.map (·.1))).Nodup → (∀ b ∈ owns (vs.map (·.1)), b ∉ done) →
      Exps B w S' us xs (fun g => g < B ∨ ∃ b ∈ done, ∃ l, L b = some l ∧ l.own = some g)
  | [], us, xs, done, h, hr, _, _, _ => by
    simp only [exps, Option.some.injEq] at h; subst h
    simpa only [List.map_nil, Reps, Exps] using hr
  | (v, z) :: vs, us, xs, done, h, hr, ho, hn, hd => by
    simp only [List.map_cons, Reps] at hr
    obtain ⟨x, rest, rfl, hx, hrest⟩ := hr
    have hidLe : ∀ b k, (fun b => if o.contains b then none else σ.rd b) b = some k → σ.rd b = some k := by
      intro b k hb
      simp only at hb
      split at hb
      · cases hb
      · exact hb
    have hidOwn : ∀ b k l g, (fun b => if o.contains b then none else σ.rd b) b = some k → L b = some l → l.own = some g → ∀ q, S' g q := by
      intro b k l g hb hl hg q
      simp only at hb
      split at hb
      · cases hb
      · rename_i hc
        exact (hS g q).2 (.inr ⟨b, l, hl, hg, by simpa using hc⟩)
    have hSS : ∀ r q, S r q → S' r q := fun r q s => (hS r q).2 (.inl s)
    have other : (∀ b n, v ≠ .ref b n) → v ≠ .nils → (match toPlain (fun b => if o.contains b then none else σ.rd b) v with
        | some u => (exps σ.rd (fun b => if o.contains b then none else σ.rd b) vs).map (u :: ·)
        | none => none) = some us → Exps B w S' us (x :: rest) (fun g => g < B ∨ ∃ b ∈ done, ∃ l, L b = some l ∧ l.own = some g) := by
      intro h1 h2 h
      split at h <;> first | (cases h; done) | skip
      rename_i u hu
      rw [Option.map_eq_some_iff] at h
      obtain ⟨us', hus, rfl⟩ := h
      have hru := deep_rel hI hSS hidLe hidOwn hu hx
      have howns : owns (v :: vs.map (·.1)) = owns (vs.map (·.1)) := by cases v <;> first | rfl | exact absurd rfl (h1 _ _)
      rw [List.map_cons, howns] at ho hn hd
      have ih := exps_rel hI hS hus hrest ho hn hd
      cases u
      case lst => simp only [Rep] at hru
      all_goals exact ⟨x, rest, rfl, hru, ih⟩
    cases v
    case ref b n =>
      simp only [exps] at h
      split at h <;> first | (cases h; done) | skip
      rename_i sz ys hb
      split at h <;> first | (cases h; done) | skip
      rename_i hlen
      split at h <;> first | (cases h; done) | skip
      rename_i zs hzs
      rw [Option.map_eq_some_iff] at h
      obtain ⟨us', hus, rfl⟩ := h
      simp only [List.map_cons, owns, List.nodup_cons, List.mem_cons, forall_eq_or_imp] at ho hn hd
      obtain ⟨l, hl, hln, hlz, rfl, hblk⟩ := hI.ref hx hb hlen
      have hdr := deepByss_rel hI hSS hidLe hidOwn (deepCells_rel hI hSS hidLe hidOwn 20) ys zs hzs
      have hne : ∀ g, l.own = some g → ∀ q, ¬ S' g q := by
        intro g hg q hs
        rcases (hS g q).1 hs with hs | ⟨b', l', hl', hg', hb'⟩
        · exact (hI.own_lt hl hg).2.2 q hs
        · exact hb' (hI.apart b b' l l' g hl hl' hg hg' ▸ ho.1)
      have ih := exps_rel hI hS (done := b :: done) hus hrest ho.2 hn.2 (fun c hc hcd => by
        rcases List.mem_cons.1 hcd with rfl | hcd
        · exact hn.1 hc
        · exact hd.2 c hc hcd)
      refine ⟨l, rest, rfl, ?_, by rw [hdr.len]; omega, ?_, ?_, ?_⟩
      · obtain ⟨-, -, h3⟩ := hblk
        cases hown : l.own with
        | none => rw [hown] at h3; obtain ⟨-, oa, e⟩ := h3; rw [e]; rfl
        | some g => rw [hown] at h3; obtain ⟨cap, cur, e, -⟩ := h3; rw [e]; rfl
      · obtain ⟨h1, h2, h3⟩ := hblk
        refine ⟨by rw [hdr.len]; exact h1, h2, ?_⟩
        cases hown : l.own with
        | none =>
          rw [hown] at h3
          obtain ⟨rfl, oa, e⟩ := h3
          exact ⟨List.eq_nil_of_length_eq_zero hdr.len, oa, e⟩
        | some g =>
          rw [hown] at h3
          obtain ⟨cap, cur, e1, e2, e3, e4, e5, e6, e7, -⟩ := h3
          exact ⟨cap, cur, e1, e2, e3, e4, e5, e6, hdr.row e7, hne g hown⟩
      · rintro g hg (hlt | ⟨b', hb', l', hl', hg'⟩)
        · have := (hI.own_lt hl hg).1; omega
        · exact hd.1 (hI.apart b b' l l' g hl hl' hg hg' ▸ hb')
      · refine Exps.mono (Keeps.refl _ _ _) (fun _ _ _ s => s) (fun g => ?_) ih
        rintro ((hlt | ⟨b', hb', l', hl', hg'⟩) | hg)
        · exact .inl hlt
        · exact .inr ⟨b', List.mem_cons_of_mem _ hb', l', hl', hg'⟩
        · exact .inr ⟨b, List.mem_cons_self .., l, hl, hg⟩
    case nils =>
      simp only [exps] at h
      rw [Option.map_eq_some_iff] at h
      obtain ⟨us', hus, rfl⟩ := h
      simp only [List.map_cons, owns] at ho hn hd
      have ih := exps_rel hI hS hus hrest ho hn hd
      simp only [Rep] at hx
      obtain ⟨oa, rfl⟩ := hx
      refine ⟨⟨none, .slice oa 0 0, 0, z, 0⟩, rest, rfl, rfl, rfl, ⟨rfl, rfl, rfl, oa, rfl⟩, (fun g hg => by cases hg), ?_⟩
      refine Exps.mono (Keeps.refl _ _ _) (fun _ _ _ s => s) (fun g => ?_) ih
      rintro (h | h)
      · exact h
      · cases h
    all_goals exact other (by simp) (by simp) (by simp only [exps] at h; exact h)
theorem export_rel {B : Nat} {w : World} {S : SSet} {σ : Store} {L : LMap} (hI : Inv B w S σ.rd L) {vs : List (V × Nat)} {r : V} {xs : List Value} (h : export_ σ vs = some r) (hr : Reps w S L (vs.map (·.1)) xs) :
    ∃ S', (∀ r o, S r o → S' r o) ∧ (∀ r o, S' r o → S r o ∨ B ≤ r) ∧ (∀ r o, S' r o → r < w.heap.size) ∧ ExpRep B w S' r (oneV xs) := by
  unfold export_ at h
  simp only at h
  split at h <;> first | (cases h; done) | skip
  rename_i hnd
  rw [Option.map_eq_some_iff] at h
  obtain ⟨us, hus, rfl⟩ := h
  let S' : SSet := fun r q => S r q ∨ ∃ b l, L b = some l ∧ l.own = some r ∧ b ∉ owns (vs.map (·.1))
  have hS : ∀ r q, S' r q ↔ S r q ∨ ∃ b l, L b = some l ∧ l.own = some r ∧ b ∉ owns (vs.map (·.1)) := fun _ _ => Iff.rfl
  have hE := exps_rel hI hS (done := []) hus hr (fun _ h => h) hnd (fun _ _ h => by cases h)
  have hE' : Exps B w S' us xs (fun g => g < B) := Exps.mono (Keeps.refl _ _ _) (fun _ _ _ s => s) (fun g h => .inl h) hE
  refine ⟨S', fun r q s => .inl s, fun r q s => ?_, fun r q s => ?_, ?_⟩
  · rcases s with s | ⟨b, l, hl, hg, -⟩
    · exact .inl s
    · exact .inr (hI.own_lt hl hg).1
  · rcases s with s | ⟨b, l, hl, hg, -⟩
    · exact hI.stable r q s
    · exact (hI.own_lt hl hg).2.1
  · match us, hE' with
    | [], h => obtain rfl : xs = [] := h; exact ⟨#[], rfl, rfl⟩
    | [u], h =>
      cases u
      case lst sz ys =>
        obtain ⟨l, rest, rfl, h1, h2, h3, h4, rfl⟩ := h
        exact ⟨l, [], rfl, h1, h2, h3, h4, rfl⟩
      case tup ts =>
        obtain ⟨x, rest, rfl, h1, rfl⟩ := h
        simp only [Rep] at h1
        obtain ⟨ys, rfl, h1⟩ := h1
        exact ⟨ys, rfl, tup_exps h1⟩
      all_goals
        obtain ⟨x, rest, rfl, h1, rfl⟩ := h
        exact h1
    | u :: u' :: us', h =>
      have hl : ∃ x y zs, xs = x :: y :: zs := by
        have two : ∀ {v : V} {vs : List V} {xs : List Value} {T : Nat → Prop}, Exps B w S' (v :: vs) xs T → ∃ x rest T', xs = x :: rest ∧ Exps B w S' vs rest T' := by
          intro v vs xs T h
          cases v
          case lst => obtain ⟨l, rest, e, -, -, -, -, h⟩ := h; exact ⟨_, rest, _, e, h⟩
          all_goals obtain ⟨x, rest, e, -, h⟩ := h; exact ⟨x, rest, _, e, h⟩
        obtain ⟨x, rest, T', rfl, h'⟩ := two h
        obtain ⟨y, rest', T'', rfl, -⟩ := two h'
        exact ⟨x, y, rest', rfl⟩
      obtain ⟨x, y, zs, rfl⟩ := hl
      exact ⟨(x :: y :: zs).toArray, rfl, h⟩
end Go.Ev
namespace Go.Ev
variable [Consts]
set_option linter.unusedSectionVars false
open Go.RowKit
set_option linter.unusedSimpArgs false
set_option linter.unusedVariables false
section
variable {cf : FuncId → List V → Option V} {rd rd' : Nat → Option Blk} {nb nb' : Nat} {ev : MArg → Option V} {m : MOp} {v : V} {f : Eff}
theorem indep_rd (h : m.indep = true) (rd' : Nat → Option Blk) : evalOp cf rd nb ev m = evalOp cf rd' nb ev m := by
  cases m <;> first | rfl | (simp [MOp.indep, MOp.free] at h; done)
theorem free_indep (h : m.free = true) : m.indep = true := by
  cases m <;> first | rfl | (simp [MOp.free] at h; done)
theorem free_quiet (h : m.free = true) : m.loud = false ∧ m.alloc = false := by
  cases m <;> first | exact ⟨rfl, rfl⟩ | (simp [MOp.free] at h; done)
theorem loud_alloc (h : m.loud = true) : m.alloc = false ∧ m.free = false ∧ m.indep = false := by
  cases m <;> first | exact ⟨rfl, rfl, rfl⟩ | (simp [MOp.loud] at h; done)
theorem indep_class (h : m.indep = true) : m.alloc = true ∨ m.free = true := by
  cases m <;> first | exact .inl rfl | exact .inr rfl | (simp [MOp.indep, MOp.free] at h; done)
theorem evalOp_loud {b : Nat} {k : Blk} (h : evalOp cf rd nb ev m = some (v, .set b k)) : m.loud = true := by
  cases m <;> first | rfl | exfalso
  all_goals
    simp only [evalOp] at h
    repeat' (split at h)
    all_goals first
      | (cases h; done)
      | (simp only [Option.some.injEq, Prod.mk.injEq, Option.map_eq_some_iff, reduceCtorEq, and_false, exists_false] at h; done)
      | (simp only [Option.some.injEq, Prod.mk.injEq] at h; obtain ⟨-, h⟩ := h; split at h <;> cases h; done)
theorem evalOp_news {ks : List Blk} (h : evalOp cf rd nb ev m = some (v, .news ks)) : m.alloc = true ∨ m.loud = true := by
  cases m <;> first | exact .inl rfl | exact .inr rfl | exfalso
  all_goals
    simp only [evalOp] at h
    repeat' (split at h)
    all_goals first
      | (cases h; done)
      | (simp only [Option.some.injEq, Prod.mk.injEq, Option.map_eq_some_iff, reduceCtorEq, and_false, exists_false] at h; done)
theorem imps_blocks : ∀ (vs : List V) (nb : Nat), (∀ j, j < (imps nb vs).2.length → nb + j ∈ (imps nb vs).1.filterMap blockOf)
  | [], nb, j, h => by simp [imps] at h
  | v :: vs, nb, j, h => by
    by_cases hl : ∃ sz xs, v = .lst sz xs
    · obtain ⟨sz, xs, rfl⟩ := hl
      simp only [imps, List.length_cons] at h ⊢
      cases j with
      | zero => simp [blockOf]
      | succ j =>
        have := imps_blocks vs (nb + 1) j (by omega)
        rw [show nb + 1 + j = nb + (j + 1) by omega] at this
        rw [List.filterMap_cons]
        simp only [blockOf]
        exact List.mem_cons_of_mem _ this
    · have e : imps nb (v :: vs) = (v :: (imps nb vs).1, (imps nb vs).2) := by
        cases v <;> first | rfl | exact absurd ⟨_, _, rfl⟩ hl
      rw [e] at h ⊢
      have := imps_blocks vs nb j h
      rw [List.filterMap_cons]
      split
      · exact this
      · exact List.mem_cons_of_mem _ this
theorem imp_blocks (v : V) (nb j : Nat) (h : j < (imp nb v).2.length) : nb + j ∈ blocksOf (imp nb v).1 := by
  cases v
  case lst sz xs => simp [imp] at h; subst h; simp [imp, blocksOf, blockOf]
  case tup vs => simpa [imp, blocksOf] using imps_blocks vs nb j (by simpa [imp] using h)
  all_goals simp [imp] at h
theorem alloc_blocks {ks : List Blk} (hm : m.alloc = true) (h : evalOp cf rd nb ev m = some (v, .news ks)) : ∀ j, j < ks.length → nb + j ∈ blocksOf v := by
  intro j hj
  cases m <;> first | (simp [MOp.alloc] at hm; done) | skip
  case callp g as =>
    simp only [evalOp] at h
    split at h <;> first | (cases h; done) | skip
    split at h <;> first | (cases h; done) | skip
    split at h <;> first | (cases h; done) | skip
    split at h <;> simp only [Option.some.injEq, Prod.mk.injEq, reduceCtorEq] at h
    rename_i r _ _
    obtain ⟨rfl, h⟩ := h
    split at h <;> simp only [Eff.news.injEq, reduceCtorEq] at h
    rename_i ks' hne
    rw [← h] at hj
    exact imp_blocks _ nb j hj
  all_goals
    simp only [evalOp] at h
    repeat' (split at h)
    all_goals first
      | (cases h; done)
      | skip
    all_goals
      simp only [Option.some.injEq, Prod.mk.injEq, Option.map_eq_some_iff, Eff.news.injEq] at h
    all_goals first
      | (obtain ⟨rfl, rfl⟩ := h; simp at hj; subst hj; simp [blocksOf, blockOf]; done)
      | (obtain ⟨d, -, rfl, rfl⟩ := h; simp at hj; subst hj; simp [blocksOf, blockOf]; done)
theorem news_ne {ks : List Blk} {g : MArg} {as : List MArg} (h : evalOp cf rd nb ev (.callp g as) = some (v, .news ks)) : ks ≠ [] := by
  simp only [evalOp] at h
  split at h <;> first | (cases h; done) | skip
  split at h <;> first | (cases h; done) | skip
  split at h <;> first | (cases h; done) | skip
  split at h <;> simp only [Option.some.injEq, Prod.mk.injEq, reduceCtorEq] at h
  obtain ⟨-, h⟩ := h
  split at h <;> simp only [Eff.news.injEq, reduceCtorEq] at h
  rename_i ks' hne
  subst h
  exact fun e => hne e
theorem imps_nb : ∀ (vs : List V) (nb nb' : Nat), (imps nb vs).2 = [] → imps nb' vs = imps nb vs
  | [], _, _, _ => rfl
  | v :: vs, nb, nb', h => by
    by_cases hl : ∃ sz xs, v = .lst sz xs
    · obtain ⟨sz, xs, rfl⟩ := hl
      simp [imps] at h
    · have e : ∀ n, imps n (v :: vs) = (v :: (imps n vs).1, (imps n vs).2) := by
        intro n
        cases v <;> first | rfl | exact absurd ⟨_, _, rfl⟩ hl
      rw [e] at h ⊢
      rw [e, imps_nb vs nb nb' h]
theorem imp_nb (v : V) (nb nb' : Nat) (h : (imp nb v).2 = []) : imp nb' v = imp nb v := by
  cases v
  case lst sz xs => simp [imp] at h
  case tup vs => simp only [imp] at h ⊢; rw [imps_nb vs nb nb' h]
  all_goals rfl
theorem nop_nb (nb' : Nat) (h : evalOp cf rd nb ev m = some (v, .nop)) : evalOp cf rd nb' ev m = some (v, .nop) := by
  cases m
  case callp g as =>
    simp only [evalOp] at h ⊢
    split at h <;> first | (cases h; done) | skip
    split at h <;> first | (cases h; done) | skip
    split at h <;> first | (cases h; done) | skip
    split at h <;> simp only [Option.some.injEq, Prod.mk.injEq, reduceCtorEq] at h
    rename_i r hr hc
    obtain ⟨rfl, h⟩ := h
    split at h <;> simp only [reduceCtorEq] at h
    rename_i he
    simp only [*, if_true]
    rw [imp_nb r nb nb' he, he]
  all_goals simp only [evalOp] at h ⊢
  all_goals first
    | with_reducible exact h
    | (exfalso
       repeat' (split at h)
       all_goals first
         | (cases h; done)
         | (simp only [Option.some.injEq, Prod.mk.injEq, Option.map_eq_some_iff, reduceCtorEq, and_false, exists_false] at h; done))
    | (repeat' (split at h)
       all_goals first
         | (cases h; done)
         | (simp only [Option.some.injEq, Prod.mk.injEq, Option.map_eq_some_iff, reduceCtorEq, and_false, exists_false] at h; done))
end
/- What is the same is equal. -/
mutual
theorem V.same_eq : ∀ {a b : V}, a.same b = true → a = b
  | .int k a, b, h => by
    cases b <;> simp [V.same] at h
    obtain ⟨rfl, rfl⟩ := h; rfl
  | .bool a, b, h => by cases b <;> simp [V.same] at h; subst h; rfl
  | .str a, b, h => by
    cases b <;> simp [V.same] at h
    rename_i c
    cases a; cases c; simp at h; rw [h]
  | .agg a, b, h => by
    cases b <;> simp only [V.same, Bool.false_eq_true] at h
    rw [sames_eq h]
  | .tup a, b, h => by
    cases b <;> simp only [V.same, Bool.false_eq_true] at h
    rw [sames_eq h]
  | .slc a, b, h => by
    cases b <;> simp only [V.same, Bool.false_eq_true] at h
    rw [samess_eq h]
  | .lst _ _, b, h => by cases b <;> simp [V.same] at h
  | .ref _ _, b, h => by
    cases b <;> simp [V.same] at h
    obtain ⟨rfl, rfl⟩ := h; rfl
  | .sub _ _ _ _, b, h => by
    cases b <;> simp [V.same] at h
    obtain ⟨⟨⟨rfl, rfl⟩, rfl⟩, rfl⟩ := h; rfl
  | .ptr _ _ _ _, b, h => by
    cases b <;> simp [V.same] at h
    obtain ⟨⟨⟨rfl, rfl⟩, rfl⟩, rfl⟩ := h; rfl
  | .dptr a _, b, h => by
    cases b <;> simp only [V.same, Bool.and_eq_true, beq_iff_eq, Bool.false_eq_true] at h
    rw [sames_eq h.1, h.2]
  | .nils, b, h => by cases b <;> simp [V.same] at h; rfl
  | .nilp, b, h => by cases b <;> simp [V.same] at h; rfl
  | .nilm, b, h => by cases b <;> simp [V.same] at h; rfl
  | .nili, b, h => by cases b <;> simp [V.same] at h; rfl
  | .und, b, h => by cases b <;> simp [V.same] at h
  | .map _, b, h => by cases b <;> simp [V.same] at h; subst h; rfl
  | .fn _ _ _, b, h => by cases b <;> simp [V.same] at h
theorem sames_eq : ∀ {a b : List V}, sames a b = true → a = b
  | [], b, h => by cases b <;> simp [sames] at h; rfl
  | x :: xs, b, h => by
    cases b <;> simp only [sames, Bool.and_eq_true, Bool.false_eq_true] at h
    rw [V.same_eq h.1, sames_eq h.2]
theorem samess_eq : ∀ {a b : List (List V)}, samess a b = true → a = b
  | [], b, h => by cases b <;> simp [samess] at h; rfl
  | x :: xs, b, h => by
    cases b <;> simp only [samess, Bool.and_eq_true, Bool.false_eq_true] at h
    rw [sames_eq h.1, samess_eq h.2]
end
end Go.Ev
