/- Regions in the order of the text. No condition. -/
import Derived.Test.YtagceefccafgoaaGreatDoorT09
set_option linter.all false
namespace Go.Ev
variable [Consts]
set_option linter.unusedSectionVars false
open Go.RowKit
set_option linter.unusedSimpArgs false
set_option linter.unusedVariables false
theorem evalOp_set {cf : FuncId → List V → Option V} {rd : Nat → Option Blk} {nb : Nat} {ev : MArg → Option V} {m : MOp} {v : V} {b : Nat} {k : Blk} (h : evalOp cf rd nb ev m = some (v, .set b k)) : ∃ k', rd b = some k' := by
  cases m
  case st sz a x =>
    simp only [evalOp] at h
    split at h <;> first | (cases h; done) | skip
    split at h <;> first | (cases h; done) | skip
    rename_i hb _
    split at h <;> first | (cases h; done) | skip
    split at h <;> first | (cases h; done) | skip
    split at h <;> simp only [Option.some.injEq, Prod.mk.injEq, Eff.set.injEq, reduceCtorEq] at h
    obtain ⟨-, rfl, -⟩ := h
    exact ⟨_, hb⟩
  case app sz by' str s x =>
    simp only [evalOp] at h
    split at h <;> first | (cases h; done) | skip
    split at h <;> first | (cases h; done) | skip
    split at h <;> first | (cases h; done) | skip
    split at h <;> first | (cases h; done) | skip
    split at h
    · split at h <;> simp only [Option.some.injEq, Prod.mk.injEq, reduceCtorEq, and_false] at h
    · split at h <;> first | (cases h; done) | skip
      rename_i hb
      split at h <;> simp only [Option.some.injEq, Prod.mk.injEq, Eff.set.injEq, reduceCtorEq] at h
      obtain ⟨-, rfl, -⟩ := h
      exact ⟨_, hb⟩
    · cases h
  case mupd kk m k x =>
    simp only [evalOp] at h
    split at h <;> first | (cases h; done) | skip
    split at h <;> first | (cases h; done) | skip
    split at h <;> first | (cases h; done) | skip
    rename_i hb
    split at h <;> simp only [Option.some.injEq, Prod.mk.injEq, Eff.set.injEq, reduceCtorEq] at h
    · obtain ⟨-, rfl, -⟩ := h; exact ⟨_, hb⟩
    · obtain ⟨-, rfl, -⟩ := h; exact ⟨_, hb⟩
  case ment kk z m k =>
    simp only [evalOp] at h
    split at h <;> first | (cases h; done) | skip
    split at h <;> first | (cases h; done) | skip
    split at h <;> first | (cases h; done) | skip
    rename_i hb
    split at h <;> simp only [Option.some.injEq, Prod.mk.injEq, Eff.set.injEq, reduceCtorEq, and_false] at h
    obtain ⟨-, rfl, -⟩ := h; exact ⟨_, hb⟩
  case mst m s x =>
    simp only [evalOp] at h
    split at h <;> first | (cases h; done) | skip
    split at h <;> first | (cases h; done) | skip
    rename_i hb
    split at h <;> first | (cases h; done) | skip
    split at h <;> simp only [Option.some.injEq, Prod.mk.injEq, Eff.set.injEq, reduceCtorEq] at h
    obtain ⟨-, rfl, -⟩ := h; exact ⟨_, hb⟩
  case callp f args =>
    simp only [evalOp] at h
    split at h <;> first | (cases h; done) | skip
    split at h <;> first | (cases h; done) | skip
    split at h <;> first | (cases h; done) | skip
    split at h <;> simp only [Option.some.injEq, Prod.mk.injEq, reduceCtorEq] at h
    obtain ⟨-, h⟩ := h
    split at h <;> cases h
  all_goals
    simp only [evalOp] at h
    repeat' (split at h)
    all_goals first
      | (cases h; done)
      | (simp only [Option.some.injEq, Prod.mk.injEq, Option.map_eq_some_iff, reduceCtorEq, and_false, exists_false] at h; done)
theorem rd_none (σ : Store) (j : Nat) : σ.rd (σ.length + j) = none := by
  unfold Store.rd
  rw [List.getElem?_eq_none (by omega)]
  rfl
theorem rd_lt {σ : Store} {b : Nat} {k : Blk} (h : σ.rd b = some k) : b < σ.length := by
  unfold Store.rd at h
  by_cases hb : b < σ.length
  · exact hb
  · rw [List.getElem?_eq_none (by omega)] at h; cases h
theorem apply_rd {σ : Store} {f : Eff} (h : ∀ b k, f = .set b k → ∃ k', σ.rd b = some k') : (apply σ f).rd = applyG σ.rd σ.length f := by
  funext c
  cases f with
  | nop => rfl
  | news ks =>
    simp only [apply, applyG, Store.rd]
    by_cases hc : σ.length ≤ c
    · rw [if_pos hc, List.getElem?_append_right hc, List.getElem?_map]
      cases ks[c - σ.length]? with
      | none => simp [List.getElem?_eq_none hc]
      | some k => rfl
    · rw [if_neg hc, List.getElem?_append_left (by omega)]
  | set b k =>
    obtain ⟨k', hk⟩ := h b k rfl
    have hb := rd_lt hk
    simp only [apply, applyG, upd, Store.rd, List.getElem?_set]
    by_cases hc : c = b
    · subst hc; simp [hb]
    · rw [if_neg (Ne.symm hc), if_neg hc]
theorem Env.look_put (e : Env) (d : Nat) (v : V) (t : Nat) : (e.put (some d) v).look t = if d = t then some v else e.look t := rfl
theorem Env.look_keep : ∀ (l : List Nat) (e : Env) (t : Nat) (v : V), (e.keep l).look t = some v → e.look t = some v
  | [], e, t, v, h => by simp [Env.keep, Env.look] at h
  | s :: l, e, t, v, h => by
    simp only [Env.keep] at h
    split at h
    · rename_i u hu
      simp only [Env.look] at h
      split at h
      · rename_i hst
        simp only [Option.some.injEq] at h
        subst hst; subst h; exact hu
      · exact Env.look_keep l e t v h
    · exact Env.look_keep l e t v h
/-- Slots, store and memory agree. -/
structure StRel (nt base : Nat) (w : World) (S : SSet) (L : LMap) (e : Env) (σ : Store) (a : Act) : Prop where
  inv : Inv base w S σ.rd L
  env : ∀ t v, e.look t = some v → Rep w S L v (a.tmps.getD t undef)
  size : nt ≤ a.tmps.size
  defers : a.defers = []
theorem StRel.keep {nt base : Nat} {w : World} {S : SSet} {L : LMap} {e : Env} {σ : Store} {a : Act} (h : StRel nt base w S L e σ a) (l : List Nat) : StRel nt base w S L (e.keep l) σ a :=
  ⟨h.inv, fun t v ht => h.env t v (Env.look_keep l e t v ht), h.size, h.defers⟩
theorem StRel.put {nt base : Nat} {w w' : World} {S S' : SSet} {L L' : LMap} {e : Env} {σ σ' : Store} {a : Act} (h : StRel nt base w S L e σ a) (hs : Step base w S L w' S' L') (hi : Inv base w' S' σ'.rd L') {dst : Option Nat} (hd : dst.any (fun d => nt ≤ d) = false) {v : V} {x : Value} (hx : Rep w' S' L' v x) :
    StRel nt base w' S' L' (e.put dst v) σ' (a.put dst x) := by
  cases dst with
  | none => exact ⟨hi, fun t u ht => Rep.mono hs.keeps _ _ (h.env t u ht), h.size, h.defers⟩
  | some d =>
    have hd' : d < a.tmps.size := by have := h.size; simp at hd; omega
    refine ⟨hi, fun t u ht => ?_, by simpa [Act.put] using h.size, h.defers⟩
    rw [Env.look_put] at ht
    by_cases htd : d = t
    · subst htd
      simp only [if_true, Option.some.injEq] at ht; subst ht
      simp only [Act.put, Array.getD_eq_getD_getElem?, Array.getElem?_setIfInBounds_self_of_lt hd', Option.getD_some]
      exact hx
    · rw [if_neg htd] at ht
      have := Rep.mono hs.keeps _ _ (h.env t u ht)
      simpa only [Act.put, Array.getD_eq_getD_getElem?, Array.getElem?_setIfInBounds_ne htd] using this
theorem StRel.rho {nt base : Nat} {w : World} {S : SSet} {L : LMap} {e : Env} {σ : Store} {a : Act} (h : StRel nt base w S L e σ a) : ArgRel w S L a.eval e.arg :=
  arg_rel (fun _ => rfl) (fun _ => rfl) h.env
section
variable {P : Program} {nt base : Nat} {w : World} {S : SSet} {L : LMap} {cf : FuncId → List V → Option V} {cs : CallS} {ops : Array Oper}
theorem conv_true {o : Oper} {m : MOp} (h : conv? P true o = some m) : conv? P false o = some m ∨ ∃ fx as ts fm ams, o.op = .call { callee := .value fx, args := as, argTypes := ts } ∧ arg fx = some fm ∧ args as.toList = some ams ∧ m = .calls fm ams := by
  cases ho : o.op
  case call c =>
    obtain ⟨callee, as, ts⟩ := c
    cases callee
    case value fx =>
      unfold conv? at h
      rw [ho] at h
      simp only at h
      split at h <;> simp only [if_true, Option.some.injEq, reduceCtorEq] at h
      rename_i fm ams h1 h2
      exact .inr ⟨fx, as, ts, fm, ams, rfl, h1, h2, h.symm⟩
    case builtin b => cases b <;> exact .inl (by unfold conv? at h ⊢; rw [ho] at h ⊢; exact h)
    all_goals exact .inl (by unfold conv? at h ⊢; rw [ho] at h ⊢; exact h)
  case makeFunc fn xs ys => cases fn <;> exact .inl (by unfold conv? at h ⊢; rw [ho] at h ⊢; exact h)
  case makeMap t r => cases r <;> exact .inl (by unfold conv? at h ⊢; rw [ho] at h ⊢; exact h)
  all_goals exact .inl (by unfold conv? at h ⊢; rw [ho] at h ⊢; exact h)
/-- An operation carried out. -/
theorem run_sound {o : Oper} {a : Act} {e e' : Env} {σ σ' : Store} {mo : MO} {sh : Bool} (hop : mo.op = conv P sh o) (hdst : mo.dst = o.dst) (hh : mo.hide = []) (hvi : mo.vis = none) (hd : o.dst.any (fun d => nt ≤ d) = false) (hcf : CfSound P cf) (hcs : CsSound P cs) (hst : StRel nt base w S L e σ a)
    (hr : runMO cf cs mo e σ = some (e', σ')) (next : Act → World → Prop) (Q : Exit → Act → World → Prop)
    (hk : ∀ a' w' S' L', StRel nt base w' S' L' e' σ' a' → Step base w S L w' S' L' → next a' w') : o.wp P a w next Q := by
  have plain : ∀ m, conv? P false o = some m → mo.op = m → o.wp P a w next Q := by
    intro m hm hmo
    have hr' : ∃ v f, evalOp cf σ.rd σ.length e.arg m = some (v, f) ∧ e' = e.put mo.dst v ∧ σ' = apply σ f := by
      have hgo : ∀ (h : (match evalOp cf (hideRd e mo.hide σ.rd) σ.length (visE e mo.vis) m with
          | some (v, f) => if checks cf (apply σ f).rd (e.put mo.dst v) mo.chk then some (e.put mo.dst v, apply σ f) else none
          | none => none) = some (e', σ')), ∃ v f, evalOp cf σ.rd σ.length e.arg m = some (v, f) ∧ e' = e.put mo.dst v ∧ σ' = apply σ f := by
        intro h
        rw [hh, hvi] at h
        simp only [hideRd, visE] at h
        split at h <;> first | (cases h; done) | skip
        rename_i v f hv
        split at h <;> simp only [Option.some.injEq, Prod.mk.injEq, reduceCtorEq] at h
        exact ⟨v, f, hv, h.1.symm, h.2.symm⟩
      unfold runMO at hr
      rw [hmo] at hr
      cases m
      case calls f as =>
        exfalso
        unfold conv? at hm
        cases ho : o.op <;> rw [ho] at hm <;> simp only [Option.map_eq_some_iff, reduceCtorEq, and_false, exists_false] at hm
        all_goals (repeat' (split at hm)) <;> simp only [Option.map_eq_some_iff, Option.some.injEq, Bool.false_eq_true, if_false, reduceCtorEq, and_false, exists_false] at hm <;> contradiction
      all_goals exact hgo hr
    obtain ⟨v, f, hv, rfl, rfl⟩ := hr'
    have H : OpIn P o a base w S L σ.rd cf σ.rd σ.length e.arg f := ⟨hst.inv, fun _ _ h => h, fun _ _ j _ => rd_none σ j, hst.rho, hcf⟩
    refine op_sound H hm hv next Q fun x w' S' L' hI hx hs => ?_
    rw [← apply_rd (fun b k hf => by subst hf; exact evalOp_set hv)] at hI
    have := hst.put (σ' := apply σ f) hs hI (dst := o.dst) hd hx
    rw [← hdst] at this ⊢
    exact hk _ w' S' L' this hs
  unfold conv at hop
  cases sh with
  | false =>
    cases hc : conv? P false o with
    | none => rw [hc] at hop; simp only [Option.getD_none] at hop; unfold runMO at hr; rw [hop] at hr; simp [evalOp] at hr
    | some m => rw [hc] at hop; exact plain m hc hop
  | true =>
    cases hc : conv? P true o with
    | none => rw [hc] at hop; simp only [Option.getD_none] at hop; unfold runMO at hr; rw [hop] at hr; simp [evalOp] at hr
    | some m =>
      rw [hc] at hop
      rcases conv_true hc with h | ⟨fx, as, ts, fm, ams, ho, h1, h2, rfl⟩
      · exact plain m h hop
      · unfold runMO at hr
        rw [hop] at hr
        simp only [Option.getD_some, hvi, visE] at hr
        split at hr <;> first | (cases hr; done) | skip
        rename_i f fst cap vs hf hvs
        split at hr <;> first | (cases hr; done) | skip
        rename_i v σ1 hv
        split at hr <;> simp only [Option.some.injEq, Prod.mk.injEq, reduceCtorEq] at hr
        obtain ⟨rfl, rfl⟩ := hr
        refine e_calls hcs hst.rho hst.inv ho h1 h2 hf hvs hv next Q fun x w' S' L' hI hx hs => ?_
        have := hst.put (σ' := σ1) hs hI (dst := o.dst) hd hx
        rw [← hdst] at this ⊢
        exact hk _ w' S' L' this hs
/-- An operation in its region. -/
theorem convMO_some {an : Ann} {i : Nat} {mo : MO} (h : convMO P nt ops an i = some mo) : ∃ o g, ops[i]? = some o ∧ guard? ops o.guard = some g ∧ o.dst.any (fun d => nt ≤ d) = false ∧ mo = { dst := o.dst, guard := g, op := conv P (an.sh.contains i) o, vis := none, hide := [], chk := [] } := by
  unfold convMO at h
  split at h <;> first | (cases h; done) | skip
  rename_i o ho
  split at h <;> first | (cases h; done) | skip
  rename_i g hg
  split at h <;> simp only [Option.some.injEq, reduceCtorEq] at h
  rename_i hd
  exact ⟨o, g, ho, hg, by simpa using hd, h.symm⟩
/-- A gate reads as the reader has it. -/
theorem gate_sound {w : World} {S : SSet} {L : LMap} {a : Act} {j t : Nat} {want b : Bool} {v : V} {o : Oper} (hgo : o.guard = some (j, want)) (ht : (ops[j]?).bind (·.dst) = some t) (hr : Rep w S L v (a.tmps.getD t undef)) (hv : gate want v = some b) : Region.wanted o (yielded ops a.tmps) = b := by
  rw [Array.getD_eq_getD_getElem?] at hr
  cases v <;> simp only [gate, Option.some.injEq, reduceCtorEq] at hv
  · simp only [Rep] at hr
    rename_i c
    have hx : a.tmps[t]? = some (.bool c) := by
      cases hq : a.tmps[t]? with
      | none => rw [hq] at hr; simp [undef] at hr
      | some y => rw [hq] at hr; simp at hr; rw [hr]
    simp [Region.wanted, hgo, yielded, ht, hx, ← hv]
  · simp only [Rep] at hr
    subst hv
    cases hq : a.tmps[t]? with
    | none => simp [Region.wanted, hgo, yielded, ht, hq]
    | some y =>
      rw [hq] at hr
      simp only [Option.getD_some] at hr
      subst hr
      simp [Region.wanted, hgo, yielded, ht, hq, undef]
/-- A guard reads as the reader has it. -/
theorem guard_sound {o : Oper} {g : Option (Nat × Bool)} {e : Env} {σ : Store} {a : Act} (hg : guard? ops o.guard = some g) (hst : StRel nt base w S L e σ a) :
    (g = none → Region.wanted o (yielded ops a.tmps) = true) ∧ ∀ t want b, g = some (t, want) → (e.look t).bind (gate want) = some b → Region.wanted o (yielded ops a.tmps) = b := by
  unfold guard? at hg
  split at hg
  · rename_i hgo
    simp only [Option.some.injEq] at hg; subst hg
    exact ⟨fun _ => by simp [Region.wanted, hgo], fun t want b h => by cases h⟩
  · rename_i j w' hgo
    split at hg <;> simp only [Option.some.injEq, reduceCtorEq] at hg
    rename_i t ht
    subst hg
    refine ⟨(fun h => by cases h), fun t' want b h hb => ?_⟩
    simp only [Option.some.injEq, Prod.mk.injEq] at h
    obtain ⟨rfl, rfl⟩ := h
    rw [Option.bind_eq_some_iff] at hb
    obtain ⟨v, hv, hb⟩ := hb
    exact gate_sound hgo ht (hst.env t _ hv) hb
theorem step_seq {an : Ann} {i : Nat} {rest : List Nat} {mo : MO} {a : Act} {e e' : Env} {σ σ' : Store} (hmo : convMO P nt ops an i = some mo) (hcf : CfSound P cf) (hcs : CsSound P cs) (hst : StRel nt base w S L e σ a)
    (hr : stepMO cf cs mo e σ = some (e', σ')) (Q : Exit → Act → World → Prop)
    (hk : ∀ a' w' S' L', StRel nt base w' S' L' e' σ' a' → Step base w S L w' S' L' → wpOps P ops Q rest a' w') : wpOps P ops Q (i :: rest) a w := by
  obtain ⟨o, g, ho, hg, hd, rfl⟩ := convMO_some hmo
  obtain ⟨g1, g2⟩ := guard_sound hg hst
  have run : ∀ {e' σ'}, runMO cf cs { dst := o.dst, guard := g, op := conv P (an.sh.contains i) o, vis := none, hide := [], chk := [] } e σ = some (e', σ') → (∀ a' w' S' L', StRel nt base w' S' L' e' σ' a' → Step base w S L w' S' L' → wpOps P ops Q rest a' w') → o.wp P a w (wpOps P ops Q rest) Q :=
    fun h hk => run_sound (sh := an.sh.contains i) rfl rfl rfl rfl hd hcf hcs hst h _ _ hk
  simp only [wpOps, ho]
  unfold stepMO at hr
  cases g with
  | none =>
    simp only at hr
    rw [if_pos (g1 rfl)]
    exact .inl (run hr hk)
  | some tw =>
    obtain ⟨t, want⟩ := tw
    simp only at hr
    split at hr <;> first | (cases hr; done) | skip
    · rename_i hb
      rw [g2 t want true rfl hb]
      simp only [if_true]
      exact .inl (run hr hk)
    · rename_i hb
      rw [g2 t want false rfl hb]
      simp only [Bool.false_eq_true, if_false]
      simp only [Option.some.injEq, Prod.mk.injEq] at hr
      obtain ⟨rfl, rfl⟩ := hr
      exact hk _ _ S L (hst.put (Step.refl ..) hst.inv hd (by simp [Rep])) (Step.refl ..)
theorem reg_seq {an : Ann} (hcf : CfSound P cf) (hcs : CsSound P cs) (Q : Exit → Act → World → Prop) : ∀ {is : List Nat} {mos : List MO} {a : Act} {w : World} {S : SSet} {L : LMap} {e e' : Env} {σ σ' : Store}, convMOs P nt ops an is = some mos → StRel nt base w S L e σ a →
    evReg cf cs mos e σ = some (e', σ') → (∀ a' w' S' L', StRel nt base w' S' L' e' σ' a' → Step base w S L w' S' L' → Q .normal a' w') → wpOps P ops Q is a w
  | [], mos, a, w, S, L, e, e', σ, σ', hm, hst, hr, hk => by
    simp only [convMOs, Option.some.injEq] at hm; subst hm
    simp only [evReg, Option.some.injEq, Prod.mk.injEq] at hr
    obtain ⟨rfl, rfl⟩ := hr
    exact hk a w S L hst (Step.refl ..)
  | i :: is, mos, a, w, S, L, e, e', σ, σ', hm, hst, hr, hk => by
    simp only [convMOs] at hm
    split at hm <;> first | (cases hm; done) | skip
    rename_i mo hmo
    rw [Option.map_eq_some_iff] at hm
    obtain ⟨mos', hms, rfl⟩ := hm
    simp only [evReg] at hr
    split at hr <;> first | (cases hr; done) | skip
    rename_i e1 σ1 h1
    exact step_seq hmo hcf hcs hst h1 Q fun a' w' S' L' hst' hs' => reg_seq hcf hcs Q hms hst' hr fun a'' w'' S'' L'' hst'' hs'' => hk a'' w'' S'' L'' hst'' (hs'.trans hs'')
end
end Go.Ev
