/- All operations in one law. No condition. All operations in one law, part two. No condition. All operations in one law, part three. No condition. -/
import Derived.Test.YtagceefccafgoaaGreatDoorT08
set_option linter.all false
namespace Go.Ev
variable [Consts]
set_option linter.unusedSectionVars false
open Go.RowKit
set_option linter.unusedSimpArgs false
set_option linter.unusedVariables false
section
variable {P : Program} {o : Oper} {a : Act} {base : Nat} {w : World} {S : SSet} {L : LMap} {G : Nat → Option Blk}
theorem upd_self {G : Nat → Option Blk} {b : Nat} {k : Blk} (h : G b = some k) : upd G b k = G := by
  funext c
  by_cases hc : c = b
  · subst hc; rw [upd_same, h]
  · rw [upd_ne _ _ hc]
theorem OpGoal.congr {G' G'' : Nat → Option Blk} {v : V} (h : OpGoal P o a base w S L G' v) (e : G' = G'') : OpGoal P o a base w S L G'' v := e ▸ h
/-- What goes into the law, in one. -/
structure OpIn (P : Program) (o : Oper) (a : Act) (base : Nat) (w : World) (S : SSet) (L : LMap) (G : Nat → Option Blk) (cf : FuncId → List V → Option V) (rd : Nat → Option Blk) (nb : Nat) (ev : MArg → Option V) (f : Eff) : Prop where
  inv : Inv base w S G L
  rd : ∀ b k, rd b = some k → G b = some k
  nb : ∀ ks, f = .news ks → ∀ j, j < ks.length → G (nb + j) = none
  rho : ArgRel w S L a.eval ev
  cf : CfSound P cf
theorem OpIn.nb0 {cf : FuncId → List V → Option V} {rd : Nat → Option Blk} {nb : Nat} {ev : MArg → Option V} {k : Blk} (h : OpIn P o a base w S L G cf rd nb ev (.news [k])) : G nb = none := by simpa using h.nb _ rfl 0 (by simp)
variable {cf : FuncId → List V → Option V} {rd : Nat → Option Blk} {nb : Nat} {ev : MArg → Option V}
theorem u_build {t : TypeId} {ps : Array (Nat × Operand)} (ho : o.op = .build t ps) {m : MOp} {v : V} {f : Eff} (H : OpIn P o a base w S L G cf rd nb ev f) (hc : conv? P false o = some m) (he : evalOp cf rd nb ev m = some (v, f)) : OpGoal P o a base w S L (applyG G nb f) v := by
  unfold conv? at hc
  rw [ho] at hc
  simp only at hc
  split at hc
  · rename_i fs z hu hz
    split at hc <;> first | (cases hc; done) | skip
    rename_i hfs
    rw [Option.map_eq_some_iff] at hc
    obtain ⟨qs, hq, rfl⟩ := hc
    simp only [evalOp] at he
    split at he <;> first | (cases he; done) | skip
    rename_i vs hvs
    rw [Option.map_eq_some_iff] at he
    obtain ⟨r, hr, e⟩ := he
    simp only [Prod.mk.injEq] at e
    obtain ⟨rfl, rfl⟩ := e
    exact q_buildS H.rho H.inv ho hu hfs hz hq hvs hr
  · rename_i len e z hu hz
    split at hc <;> first | (cases hc; done) | skip
    rename_i sz hs
    rw [Option.map_eq_some_iff] at hc
    obtain ⟨qs, hq, rfl⟩ := hc
    simp only [evalOp] at he
    split at he <;> first | (cases he; done) | skip
    rename_i vs hvs
    rw [Option.map_eq_some_iff] at he
    obtain ⟨r, hr, e⟩ := he
    simp only [Prod.mk.injEq] at e
    obtain ⟨rfl, rfl⟩ := e
    exact q_buildA H.rho H.inv ho hu hs hz hq hvs hr
  · cases hc
theorem u_buildSlice {t : TypeId} {len : Nat} {ps : Array (Nat × Operand)} (ho : o.op = .buildSlice t len ps) {m : MOp} {v : V} {f : Eff} (H : OpIn P o a base w S L G cf rd nb ev f) (hc : conv? P false o = some m) (he : evalOp cf rd nb ev m = some (v, f)) : OpGoal P o a base w S L (applyG G nb f) v := by
  unfold conv? at hc
  rw [ho] at hc
  simp only at hc
  split at hc <;> first | (cases hc; done) | skip
  rename_i e hel
  split at hc <;> first | (cases hc; done) | skip
  rename_i sz z ps' hs hz hps
  split at hc <;> first | (cases hc; done) | skip
  rename_i hcond
  simp only [Option.some.injEq] at hc; subst hc
  simp only [evalOp] at he
  split at he <;> first | (cases he; done) | skip
  rename_i vs hvs
  rw [Option.map_eq_some_iff] at he
  obtain ⟨r, hr, e'⟩ := he
  simp only [Prod.mk.injEq] at e'
  obtain ⟨rfl, rfl⟩ := e'
  have ht : P.underlying t = some (.slice e) := by
    unfold elem? at hel
    split at hel <;> simp only [Option.some.injEq, reduceCtorEq] at hel
    rename_i e' h; rw [h, hel]
  rw [applyG_one]
  exact e_bsl H.rho H.inv H.nb0 ho ht hs hz hcond.2.1 hcond.2.2 hcond.1 hps hvs hr
theorem elem?_some {t e : TypeId} (h : elem? P t = some e) : P.underlying t = some (.slice e) := by
  unfold elem? at h
  split at h <;> simp only [Option.some.injEq, reduceCtorEq] at h
  rename_i e' h'; rw [h', h]
theorem u_load {t : TypeId} {x : Operand} (ho : o.op = .load t x) {m : MOp} {v : V} {f : Eff} (H : OpIn P o a base w S L G cf rd nb ev f) (hc : conv? P false o = some m) (he : evalOp cf rd nb ev m = some (v, f)) : OpGoal P o a base w S L (applyG G nb f) v := by
  unfold conv? at hc
  rw [ho] at hc
  simp only at hc
  split at hc <;> first | (cases hc; done) | skip
  rename_i ag sz ar ha hs har
  simp only [Option.some.injEq] at hc; subst hc
  have fin : ∀ (c : List V) (q : Nat), (if ag then (if q + sz ≤ c.length then some (V.agg ((c.drop q).take sz), Eff.nop) else none) else (c[q]?).map (·, Eff.nop)) = some (v, f) → f = .nop ∧ if ag then q + sz ≤ c.length ∧ v = .agg ((c.drop q).take sz) else c[q]? = some v := by
    intro c q h
    cases ag
    · simp only [Bool.false_eq_true, if_false, Option.map_eq_some_iff, Prod.mk.injEq] at h ⊢
      obtain ⟨v', h1, rfl, rfl⟩ := h
      exact ⟨rfl, h1⟩
    · simp only [if_true] at h ⊢
      split at h <;> simp only [Option.some.injEq, Prod.mk.injEq, reduceCtorEq] at h
      exact ⟨h.2.symm, by assumption, h.1.symm⟩
  simp only [evalOp] at he
  split at he
  · rename_i c q hx
    obtain ⟨rfl, hv⟩ := fin c q he
    have hr := H.rho x ar _ har hx
    simp only [Rep] at hr
    obtain ⟨r, q', e, hr⟩ := hr
    obtain ⟨h1, h2⟩ := hr.cells
    exact q_ld H.inv ho ha hs (ad := ⟨r, q', none⟩) (q := q) (by rw [e, add_lit]) h1 h2 hv
  · rename_i b n i q hx
    split at he <;> first | (cases he; done) | skip
    rename_i s xs hb
    split at he <;> first | (cases he; done) | skip
    rename_i hn
    split at he <;> first | (cases he; done) | skip
    rename_i c hci
    obtain ⟨rfl, hv⟩ := fin c q he
    obtain ⟨g, l, cap, cur, -, -, -, -, -, -, -, -, hrow, e⟩ := H.inv.ptr (H.rho x ar _ har hx) (H.rd _ _ hb) hn hci
    obtain ⟨h1, h2, h3⟩ := hrow.cells hci
    exact q_ld H.inv ho ha hs (ad := ⟨g, i * s, none⟩) (q := q) (by rw [e, add_lit]) h2 h3 hv
  · cases he
theorem u_store {t : TypeId} {x y : Operand} (ho : o.op = .store t x y) {m : MOp} {v : V} {f : Eff} (H : OpIn P o a base w S L G cf rd nb ev f) (hc : conv? P false o = some m) (he : evalOp cf rd nb ev m = some (v, f)) : OpGoal P o a base w S L (applyG G nb f) v := by
  unfold conv? at hc
  rw [ho] at hc
  simp only at hc
  split at hc <;> first | (cases hc; done) | skip
  rename_i sz ax ay hs hax hay
  simp only [Option.some.injEq] at hc; subst hc
  simp only [evalOp] at he
  split at he <;> first | (cases he; done) | skip
  rename_i b n i q v' hx hy
  split at he <;> first | (cases he; done) | skip
  rename_i s xs d hb hd
  split at he <;> first | (cases he; done) | skip
  rename_i hcond
  split at he <;> first | (cases he; done) | skip
  rename_i c hci
  split at he <;> first | (cases he; done) | skip
  rename_i hle
  simp only [Option.some.injEq, Prod.mk.injEq] at he
  obtain ⟨rfl, rfl⟩ := he
  exact e_st H.inv ho hs (H.rho x ax _ hax hx) (H.rho y ay _ hay hy) (H.rd _ _ hb) hcond.1 hci hd hcond.2 hle
theorem u_binOp {op : BinOp} {t yt : TypeId} {x y : Operand} (ho : o.op = .binOp op t x y yt) {m : MOp} {v : V} {f : Eff} (H : OpIn P o a base w S L G cf rd nb ev f) (hc : conv? P false o = some m) (he : evalOp cf rd nb ev m = some (v, f)) : OpGoal P o a base w S L (applyG G nb f) v := by
  unfold conv? at hc
  rw [ho] at hc
  simp only at hc
  split at hc <;> first | (cases hc; done) | skip
  rename_i ax ay hax hay
  have fin : ∀ ek, (ek = EqK.bool → P.underlying t = some .bool) → (ek = .ptr → ∃ e, P.underlying t = some (.pointer e)) → m = .bin op ek ax ay → OpGoal P o a base w S L (applyG G nb f) v := by
    rintro ek h1 h2 rfl
    simp only [evalOp] at he
    split at he <;> first | (cases he; done) | skip
    rename_i p q hp hq
    rw [Option.map_eq_some_iff] at he
    obtain ⟨r, hr, e⟩ := he
    simp only [Prod.mk.injEq] at e
    obtain ⟨rfl, rfl⟩ := e
    exact q_bin H.inv ho (H.rho x ax _ hax hp) (H.rho y ay _ hay hq) h1 h2 hr
  split at hc <;> simp only [Option.some.injEq] at hc
  · rename_i h; exact fin .bool (fun _ => h) (fun e => by cases e) hc.symm
  · rename_i e h; exact fin .ptr (fun e => by cases e) (fun _ => ⟨e, h⟩) hc.symm
  · exact fin .no (fun e => by cases e) (fun e => by cases e) hc.symm
end
end Go.Ev
namespace Go.Ev
variable [Consts]
set_option linter.unusedSectionVars false
open Go.RowKit
set_option linter.unusedSimpArgs false
set_option linter.unusedVariables false
section
variable {P : Program} {o : Oper} {a : Act} {base : Nat} {w : World} {S : SSet} {L : LMap} {G : Nat → Option Blk}
variable {cf : FuncId → List V → Option V} {rd : Nat → Option Blk} {nb : Nat} {ev : MArg → Option V}
theorem u_convert {s d : TypeId} {x : Operand} (ho : o.op = .convert s d x) {m : MOp} {v : V} {f : Eff} (H : OpIn P o a base w S L G cf rd nb ev f) (hc : conv? P false o = some m) (he : evalOp cf rd nb ev m = some (v, f)) : OpGoal P o a base w S L (applyG G nb f) v := by
  unfold conv? at hc
  rw [ho] at hc
  simp only at hc
  split at hc
  · rename_i j k ax hs hd hax
    simp only [Option.some.injEq] at hc; subst hc
    simp only [evalOp] at he
    split at he <;> simp only [Option.some.injEq, Prod.mk.injEq, reduceCtorEq] at he
    rename_i k' n hx
    obtain ⟨rfl, rfl⟩ := he
    exact q_cvi H.inv ho hs hd (H.rho x ax _ hax hx)
  · rename_i ax hs hd hax
    simp only [Option.some.injEq] at hc; subst hc
    simp only [evalOp] at he
    split at he <;> simp only [Option.some.injEq, Prod.mk.injEq, reduceCtorEq] at he
    rename_i b hx
    obtain ⟨rfl, rfl⟩ := he
    exact q_cvs H.inv ho hs hd (H.rho x ax _ hax hx)
  · rename_i e ax hs hd hax
    split at hc <;> first | (cases hc; done) | skip
    rename_i he8
    simp only [Option.some.injEq] at hc; subst hc
    simp only [evalOp] at he
    split at he <;> first | (cases he; done) | skip
    rename_i v' hns hx
    split at he <;> first | (cases he; done) | skip
    rename_i xs hxs
    rw [Option.map_eq_some_iff] at he
    obtain ⟨bs, hbs, e'⟩ := he
    simp only [Prod.mk.injEq] at e'
    obtain ⟨rfl, rfl⟩ := e'
    have hstr : v'.isStr = false := by cases v' <;> first | rfl | exact absurd rfl (hns _)
    exact q_cvb H.rd H.inv ho hs he8 hd (H.rho x ax _ hax hx) hstr hxs hbs
  · cases hc
theorem u_makeSlice {t : TypeId} {x y : Operand} (ho : o.op = .makeSlice t x y) {m : MOp} {v : V} {f : Eff} (H : OpIn P o a base w S L G cf rd nb ev f) (hc : conv? P false o = some m) (he : evalOp cf rd nb ev m = some (v, f)) : OpGoal P o a base w S L (applyG G nb f) v := by
  unfold conv? at hc
  rw [ho] at hc
  simp only at hc
  split at hc <;> first | (cases hc; done) | skip
  rename_i e hel
  split at hc <;> first | (cases hc; done) | skip
  rename_i sz by' z ax ay hs hb hz hax hay
  split at hc <;> first | (cases hc; done) | skip
  rename_i h0
  simp only [Option.some.injEq] at hc; subst hc
  simp only [evalOp] at he
  split at he <;> first | (cases he; done) | skip
  rename_i k l k' c hx hy
  split at he <;> simp only [Option.some.injEq, Prod.mk.injEq, reduceCtorEq] at he
  rename_i hcond
  obtain ⟨rfl, rfl⟩ := he
  rw [applyG_one]
  exact e_mk H.inv H.nb0 ho (elem?_some hel) hs hb hz h0 (H.rho x ax _ hax hx) (H.rho y ay _ hay hy) hcond.1 hcond.2.1 hcond.2.2.1 hcond.2.2.2
theorem u_slice {t : TypeId} {x : Operand} {lo hi mx : Option Operand} (ho : o.op = .slice t x lo hi mx) {m : MOp} {v : V} {f : Eff} (H : OpIn P o a base w S L G cf rd nb ev f) (hc : conv? P false o = some m) (he : evalOp cf rd nb ev m = some (v, f)) : OpGoal P o a base w S L (applyG G nb f) v := by
  unfold conv? at hc
  rw [ho] at hc
  simp only at hc
  split at hc
  · rename_i ax lo' hi' ht hax h1 h2 h3
    simp only [Option.some.injEq] at hc; subst hc
    have hmx : mx = none := by
      cases mx with
      | none => rfl
      | some y => simp only [argO, Option.map_eq_some_iff] at h3; obtain ⟨_, _, e⟩ := h3; cases e
    subst hmx
    simp only [evalOp] at he
    split at he <;> first | (cases he; done) | skip
    rename_i s hx
    split at he <;> first | (cases he; done) | skip
    rename_i h hh
    split at he <;> first | (cases he; done) | skip
    rename_i l hl
    simp only [Option.some.injEq, Prod.mk.injEq] at he
    obtain ⟨rfl, rfl⟩ := he
    exact q_sls H.rho h1 h2 H.inv ho ht (H.rho x ax _ hax hx) hh hl
  · rename_i e ax lo' hi' mx' ht hax h1 h2 h3
    rw [Option.map_eq_some_iff] at hc
    obtain ⟨sz, hs, rfl⟩ := hc
    simp only [evalOp] at he
    split at he <;> first | (cases he; done) | skip
    rename_i hmh
    cases hx : ev ax with
    | none => rw [hx] at he; cases he
    | some v' =>
      rw [hx] at he
      have := q_sll H.rho H.rd h1 h2 h3 H.inv ho ht hs (H.rho x ax _ hax hx) hmh (u := v) (f := f) (by cases v' <;> exact he)
      obtain ⟨rfl, h⟩ := this
      exact h
  · cases hc
theorem u_fieldAddr {s : TypeId} {x : Operand} {i : Nat} (ho : o.op = .fieldAddr s x i) {m : MOp} {v : V} {f : Eff} (H : OpIn P o a base w S L G cf rd nb ev f) (hc : conv? P false o = some m) (he : evalOp cf rd nb ev m = some (v, f)) : OpGoal P o a base w S L (applyG G nb f) v := by
  unfold conv? at hc
  rw [ho] at hc
  simp only at hc
  split at hc <;> first | (cases hc; done) | skip
  rename_i fs ax hs hax
  split at hc <;> first | (cases hc; done) | skip
  rename_i fd hfd
  split at hc <;> first | (cases hc; done) | skip
  rename_i z hz
  split at hc <;> first | (cases hc; done) | skip
  rename_i hz0
  simp only [Option.some.injEq] at hc; subst hc
  simp only [evalOp] at he
  split at he <;> simp only [Option.some.injEq, Prod.mk.injEq, reduceCtorEq] at he
  · rename_i b n j q hx
    obtain ⟨rfl, rfl⟩ := he
    exact q_fa H.inv ho hs hfd hz hz0 (H.rho x ax _ hax hx) (.inl ⟨_, _, _, _, rfl, rfl⟩)
  · rename_i c q hx
    obtain ⟨rfl, rfl⟩ := he
    exact q_fa H.inv ho hs hfd hz hz0 (H.rho x ax _ hax hx) (.inr ⟨_, _, rfl, rfl⟩)
theorem u_field {t : TypeId} {x : Operand} {i : Nat} (ho : o.op = .field t x i) {m : MOp} {v : V} {f : Eff} (H : OpIn P o a base w S L G cf rd nb ev f) (hc : conv? P false o = some m) (he : evalOp cf rd nb ev m = some (v, f)) : OpGoal P o a base w S L (applyG G nb f) v := by
  unfold conv? at hc
  rw [ho] at hc
  simp only at hc
  split at hc <;> first | (cases hc; done) | skip
  rename_i fs ax hs hax
  split at hc <;> first | (cases hc; done) | skip
  rename_i fd hfd
  split at hc <;> first | (cases hc; done) | skip
  rename_i ag z ha hz
  simp only [Option.some.injEq] at hc; subst hc
  simp only [evalOp] at he
  split at he <;> first | (cases he; done) | skip
  rename_i c hx
  cases ag
  · simp only [Bool.false_eq_true, if_false, Option.map_eq_some_iff, Prod.mk.injEq] at he
    obtain ⟨v', h1, rfl, rfl⟩ := he
    exact q_fld H.inv ho hs hfd ha hz (H.rho x ax _ hax hx) (by simpa using h1)
  · simp only [if_true] at he
    split at he <;> simp only [Option.some.injEq, Prod.mk.injEq, reduceCtorEq] at he
    obtain ⟨rfl, rfl⟩ := he
    exact q_fld H.inv ho hs hfd ha hz (H.rho x ax _ hax hx) (by simp only [if_true]; exact ⟨by assumption, trivial⟩)
theorem u_indexAddr {t : TypeId} {x y : Operand} (ho : o.op = .indexAddr t x y) {m : MOp} {v : V} {f : Eff} (H : OpIn P o a base w S L G cf rd nb ev f) (hc : conv? P false o = some m) (he : evalOp cf rd nb ev m = some (v, f)) : OpGoal P o a base w S L (applyG G nb f) v := by
  unfold conv? at hc
  rw [ho] at hc
  simp only at hc
  split at hc
  · rename_i e ax ay ht hax hay
    rw [Option.map_eq_some_iff] at hc
    obtain ⟨sz, hs, rfl⟩ := hc
    simp only [evalOp] at he
    split at he
    · rename_i xs k i hx hy
      split at he <;> first | (cases he; done) | skip
      rename_i h0
      split at he <;> first | (cases he; done) | skip
      rename_i c hci
      split at he <;> simp only [Option.some.injEq, Prod.mk.injEq, reduceCtorEq] at he
      rename_i hcl
      obtain ⟨rfl, rfl⟩ := he
      exact q_ia_slc H.inv ho ht hs (H.rho x ax _ hax hx) (H.rho y ay _ hay hy) h0 hci hcl
    · rename_i b n k i hx hy
      split at he <;> first | (cases he; done) | skip
      rename_i s xs hb
      split at he <;> simp only [Option.some.injEq, Prod.mk.injEq, reduceCtorEq] at he
      rename_i hcond
      obtain ⟨rfl, rfl⟩ := he
      obtain ⟨c1, rfl, c3, c4⟩ := hcond
      exact q_ia_ref H.inv ho ht hs (H.rho x ax _ hax hx) (H.rd _ _ hb) c1 (H.rho y ay _ hay hy) c3 c4
    · rename_i b n lo hi k i hx hy
      split at he <;> first | (cases he; done) | skip
      rename_i s xs hb
      split at he <;> simp only [Option.some.injEq, Prod.mk.injEq, reduceCtorEq] at he
      rename_i hcond
      obtain ⟨rfl, rfl⟩ := he
      obtain ⟨c1, rfl, c3, c4, c5⟩ := hcond
      exact q_ia_sub H.inv ho ht hs (H.rho x ax _ hax hx) (H.rd _ _ hb) c1 (H.rho y ay _ hay hy) c3 c4 c5
    · cases he
  · rename_i len e ax ay ht hax hay
    split at hc <;> first | (cases hc; done) | skip
    rename_i sz hs
    simp only [Option.some.injEq] at hc; subst hc
    simp only [evalOp] at he
    split at he
    · rename_i b n j q k i hx hy
      split at he <;> simp only [Option.some.injEq, Prod.mk.injEq, reduceCtorEq] at he
      rename_i hcond
      obtain ⟨rfl, rfl⟩ := he
      exact q_iaa H.inv ho ht hs (H.rho x ax _ hax hx) (H.rho y ay _ hay hy) hcond.1 hcond.2 (.inl ⟨_, _, _, _, rfl, rfl⟩)
    · rename_i c q k i hx hy
      split at he <;> simp only [Option.some.injEq, Prod.mk.injEq, reduceCtorEq] at he
      rename_i hcond
      obtain ⟨rfl, rfl⟩ := he
      exact q_iaa H.inv ho ht hs (H.rho x ax _ hax hx) (H.rho y ay _ hay hy) hcond.1 hcond.2 (.inr ⟨_, _, rfl, rfl⟩)
    · cases he
  · cases hc
theorem u_index {t : TypeId} {x y : Operand} (ho : o.op = .index t x y) {m : MOp} {v : V} {f : Eff} (H : OpIn P o a base w S L G cf rd nb ev f) (hc : conv? P false o = some m) (he : evalOp cf rd nb ev m = some (v, f)) : OpGoal P o a base w S L (applyG G nb f) v := by
  unfold conv? at hc
  rw [ho] at hc
  simp only at hc
  split at hc <;> first | (cases hc; done) | skip
  rename_i ax ay ht hax hay
  simp only [Option.some.injEq] at hc; subst hc
  simp only [evalOp] at he
  split at he <;> first | (cases he; done) | skip
  rename_i s k i hx hy
  split at he <;> first | (cases he; done) | skip
  rename_i h0
  rw [Option.map_eq_some_iff] at he
  obtain ⟨b, hb, e'⟩ := he
  simp only [Prod.mk.injEq] at e'
  obtain ⟨rfl, rfl⟩ := e'
  exact q_ixs H.inv ho ht (H.rho x ax _ hax hx) (H.rho y ay _ hay hy) h0 hb
theorem u_lookup {t : TypeId} {x y : Operand} {ok : Bool} (ho : o.op = .lookup t x y ok) {m : MOp} {v : V} {f : Eff} (H : OpIn P o a base w S L G cf rd nb ev f) (hc : conv? P false o = some m) (he : evalOp cf rd nb ev m = some (v, f)) : OpGoal P o a base w S L (applyG G nb f) v := by
  unfold conv? at hc
  rw [ho] at hc
  simp only at hc
  split at hc <;> first | (cases hc; done) | skip
  rename_i kt e ax ay ht hax hay
  split at hc <;> first | (cases hc; done) | skip
  rename_i kk z hk hz
  simp only [Option.some.injEq] at hc; subst hc
  simp only [evalOp] at he
  split at he <;> first | (cases he; done) | skip
  rename_i vm k hx hy
  split at he <;> first | (cases he; done) | skip
  rename_i hkk
  split at he <;> first | (cases he; done) | skip
  rename_i es hes
  split at he <;> first | (cases he; done) | skip
  rename_i r hf
  simp only [Option.some.injEq, Prod.mk.injEq] at he
  obtain ⟨rfl, rfl⟩ := he
  exact q_mlook H.rd H.inv ho ht hk hz (H.rho x ax _ hax hx) (H.rho y ay _ hay hy) (by simpa using hkk) hes hf
theorem u_mupd {t : TypeId} {x y z : Operand} (ho : o.op = .mapUpdate t x y z ∨ o.op = .insert t x y z) {m : MOp} {v : V} {f : Eff} (H : OpIn P o a base w S L G cf rd nb ev f) (hc : conv? P false o = some m) (he : evalOp cf rd nb ev m = some (v, f)) : OpGoal P o a base w S L (applyG G nb f) v := by
  have hc' : (match P.underlying t, arg x, arg y, arg z with
    | some (.map kt _), some m, some k, some x => (keyT P kt).map fun kk => MOp.mupd kk m k x
    | _, _, _, _ => none) = some m := by
    unfold conv? at hc
    rcases ho with ho | ho <;> rw [ho] at hc <;> exact hc
  clear hc
  split at hc' <;> first | (cases hc'; done) | skip
  rename_i kt e ax ay az ht hax hay haz
  rw [Option.map_eq_some_iff] at hc'
  obtain ⟨kk, hk, rfl⟩ := hc'
  simp only [evalOp] at he
  split at he <;> first | (cases he; done) | skip
  rename_i b k v' hx hy hz
  split at he <;> first | (cases he; done) | skip
  rename_i hkk
  split at he <;> first | (cases he; done) | skip
  rename_i es hb
  have hkk' : keyK kk k = true := by simpa using hkk
  split at he <;> simp only [Option.some.injEq, Prod.mk.injEq, reduceCtorEq] at he
  · rename_i i u hf
    obtain ⟨rfl, rfl⟩ := he
    exact e_mupd H.rd H.inv ho ht hk (H.rho x ax _ hax hx) (H.rho y ay _ hay hy) (H.rho z az _ haz hz) hkk' hb hf
  · rename_i hf
    obtain ⟨rfl, rfl⟩ := he
    exact e_mupd H.rd H.inv ho ht hk (H.rho x ax _ hax hx) (H.rho y ay _ hay hy) (H.rho z az _ haz hz) hkk' hb hf
theorem u_ment {t : TypeId} {x y : Operand} (ho : o.op = .mapEntry t x y) {m : MOp} {v : V} {f : Eff} (H : OpIn P o a base w S L G cf rd nb ev f) (hc : conv? P false o = some m) (he : evalOp cf rd nb ev m = some (v, f)) : OpGoal P o a base w S L (applyG G nb f) v := by
  unfold conv? at hc
  rw [ho] at hc
  simp only at hc
  split at hc <;> first | (cases hc; done) | skip
  rename_i kt e ax ay ht hax hay
  split at hc <;> first | (cases hc; done) | skip
  rename_i kk z hk hz
  simp only [Option.some.injEq] at hc; subst hc
  simp only [evalOp] at he
  split at he <;> first | (cases he; done) | skip
  rename_i b k hx hy
  split at he <;> first | (cases he; done) | skip
  rename_i hkk
  split at he <;> first | (cases he; done) | skip
  rename_i es hb
  have hkk' : keyK kk k = true := by simpa using hkk
  split at he <;> simp only [Option.some.injEq, Prod.mk.injEq, reduceCtorEq] at he
  · rename_i i u hf
    obtain ⟨rfl, rfl⟩ := he
    exact e_ment H.rd H.inv ho ht hk hz (H.rho x ax _ hax hx) (H.rho y ay _ hay hy) hkk' hb hf
  · rename_i hf
    obtain ⟨rfl, rfl⟩ := he
    exact e_ment H.rd H.inv ho ht hk hz (H.rho x ax _ hax hx) (H.rho y ay _ hay hy) hkk' hb hf
theorem u_mst {t : TypeId} {x y z : Operand} (ho : o.op = .entryStore t x y z) {m : MOp} {v : V} {f : Eff} (H : OpIn P o a base w S L G cf rd nb ev f) (hc : conv? P false o = some m) (he : evalOp cf rd nb ev m = some (v, f)) : OpGoal P o a base w S L (applyG G nb f) v := by
  unfold conv? at hc
  rw [ho] at hc
  simp only at hc
  split at hc <;> first | (cases hc; done) | skip
  rename_i ax ay az hax hay haz
  simp only [Option.some.injEq] at hc; subst hc
  simp only [evalOp] at he
  split at he <;> first | (cases he; done) | skip
  rename_i b k i v' hx hy hz
  split at he <;> first | (cases he; done) | skip
  rename_i es hb
  split at he <;> first | (cases he; done) | skip
  rename_i h0
  split at he <;> simp only [Option.some.injEq, Prod.mk.injEq, reduceCtorEq] at he
  rename_i e hes
  obtain ⟨rfl, rfl⟩ := he
  exact e_mst H.rd H.inv ho (H.rho x ax _ hax hx) (H.rho y ay _ hay hy) (H.rho z az _ haz hz) hb h0 hes
end
end Go.Ev
namespace Go.Ev
variable [Consts]
set_option linter.unusedSectionVars false
open Go.RowKit
set_option linter.unusedSimpArgs false
set_option linter.unusedVariables false
section
variable {P : Program} {o : Oper} {a : Act} {base : Nat} {w : World} {S : SSet} {L : LMap} {G : Nat → Option Blk}
variable {cf : FuncId → List V → Option V} {rd : Nat → Option Blk} {nb : Nat} {ev : MArg → Option V}
theorem arr1 {α : Type} {as : Array α} {x : α} (h : as.toList = [x]) : as = #[x] := Array.toList_inj.1 h
theorem arr2 {α : Type} {as : Array α} {x y : α} (h : as.toList = [x, y]) : as = #[x, y] := Array.toList_inj.1 h
theorem u_len {as : Array Operand} {ts : Array TypeId} (ho : o.op = .call { callee := .builtin .len, args := as, argTypes := ts }) {m : MOp} {v : V} {f : Eff} (H : OpIn P o a base w S L G cf rd nb ev f) (hc : conv? P false o = some m) (he : evalOp cf rd nb ev m = some (v, f)) : OpGoal P o a base w S L (applyG G nb f) v := by
  unfold conv? at hc
  rw [ho] at hc
  simp only at hc
  split at hc <;> first | (cases hc; done) | skip
  rename_i x t hx ht
  rw [arr1 hx, arr1 ht] at ho
  have fin : ∀ k ax, arg x = some ax → m = .len k ax → (k = 0 → P.underlying t = some .string) → (k = 1 → ∃ e, P.underlying t = some (.slice e)) → (k = 2 → ∃ e e', P.underlying t = some (.map e e')) → OpGoal P o a base w S L (applyG G nb f) v := by
    rintro k ax hax rfl h0 h1 h2
    simp only [evalOp] at he
    split at he <;> first | (cases he; done) | skip
    rename_i vx hvx
    split at he <;> simp only [Option.some.injEq, Prod.mk.injEq, reduceCtorEq] at he
    rename_i n hn
    obtain ⟨rfl, rfl⟩ := he
    have hr := H.rho x ax _ hax hvx
    show OpGoal P o a base w S L G (.int .i64 n)
    refine q_len H.inv ho ?_
    unfold lenOf at hn
    split at hn
    · simp only [Option.some.injEq] at hn; subst hn
      simp only [Rep] at hr
      exact .inl ⟨h0 rfl, _, hr, rfl⟩
    · simp only [Option.some.injEq] at hn; subst hn
      simp only [Rep] at hr
      obtain ⟨e, he⟩ := h1 rfl
      obtain ⟨oa, c, e1, -⟩ := hr
      exact .inr (.inl ⟨e, he, oa, c, e1⟩)
    · simp only [Option.some.injEq] at hn; subst hn
      simp only [Rep] at hr
      obtain ⟨e, he⟩ := h1 rfl
      obtain ⟨oa, e1⟩ := hr
      exact .inr (.inl ⟨e, he, oa, 0, e1⟩)
    · rename_i b n'
      split at hn <;> first | (cases hn; done) | skip
      rename_i s xs hb
      split at hn <;> simp only [Option.some.injEq, reduceCtorEq] at hn
      rename_i hlen
      subst hn
      obtain ⟨e, he⟩ := h1 rfl
      obtain ⟨oa, c, e1, -⟩ := elems_behind H.inv H.rd hr (xs := xs) (by simp only [elems, hb, hlen, if_true]) rfl
      rw [hlen] at e1
      exact .inr (.inl ⟨e, he, oa, c, e1⟩)
    · rename_i b n' lo hi
      split at hn <;> first | (cases hn; done) | skip
      rename_i s xs hb
      split at hn <;> simp only [Option.some.injEq, reduceCtorEq] at hn
      rename_i hlen
      subst hn
      obtain ⟨e, he⟩ := h1 rfl
      simp only [Rep] at hr
      obtain ⟨_, l, hl, hle, hx'⟩ := hr
      obtain ⟨q1, q2, q3⟩ := H.inv.row (H.rd _ _ hb) hl
      obtain ⟨-, -, oa, c, e1, -⟩ := hx' (by omega)
      exact .inr (.inl ⟨e, he, oa, c, e1⟩)
    · simp only [Option.some.injEq] at hn; subst hn
      simp only [Rep] at hr
      obtain ⟨e, e', he⟩ := h2 rfl
      exact .inr (.inr ⟨e, e', he, .inl ⟨hr, rfl⟩⟩)
    · rename_i b
      split at hn <;> simp only [Option.some.injEq, reduceCtorEq] at hn
      rename_i es hb
      subst hn
      obtain ⟨e, e', he⟩ := h2 rfl
      obtain ⟨l, g, ms, -, -, e1, e2, e3⟩ := H.inv.mapAt hr (H.rd _ _ hb)
      have := e3.len
      exact .inr (.inr ⟨e, e', he, .inr ⟨g, ms, _, e1, e2, by simpa using this.symm⟩⟩)
    · cases hn
  split at hc <;> simp only [Option.some.injEq, reduceCtorEq] at hc
  · rename_i ax hu hax
    exact fin 0 ax hax hc.symm (fun _ => hu) (fun e => by cases e) (fun e => by cases e)
  · rename_i e ax hu hax
    exact fin 1 ax hax hc.symm (fun e => by cases e) (fun _ => ⟨e, hu⟩) (fun e => by cases e)
  · rename_i k e ax hu hax
    exact fin 2 ax hax hc.symm (fun e => by cases e) (fun e => by cases e) (fun _ => ⟨k, e, hu⟩)
theorem u_append {as : Array Operand} {ts : Array TypeId} (ho : o.op = .call { callee := .builtin .append, args := as, argTypes := ts }) {m : MOp} {v : V} {f : Eff} (H : OpIn P o a base w S L G cf rd nb ev f) (hc : conv? P false o = some m) (he : evalOp cf rd nb ev m = some (v, f)) : OpGoal P o a base w S L (applyG G nb f) v := by
  unfold conv? at hc
  rw [ho] at hc
  simp only at hc
  split at hc <;> first | (cases hc; done) | skip
  rename_i x y t u hx ht
  rw [arr2 hx, arr2 ht] at ho
  split at hc <;> first | (cases hc; done) | skip
  rename_i e ax ay hel hax hay
  split at hc <;> first | (cases hc; done) | skip
  rename_i sz by' z hs hb hz
  split at hc <;> first | (cases hc; done) | skip
  rename_i hcond
  have fin : ∀ str, ((∃ e', P.underlying u = some (.slice e')) ∨ P.underlying u = some .string) → m = .app sz by' str ax ay → OpGoal P o a base w S L (applyG G nb f) v := by
    rintro str hu rfl
    simp only [evalOp] at he
    split at he <;> first | (cases he; done) | skip
    rename_i vs vx hvs hvx
    split at he <;> first | (cases he; done) | skip
    split at he <;> first | (cases he; done) | skip
    rename_i ys hys
    split at he <;> first | (cases he; done) | skip
    rename_i hok
    have h := e_app (nb := nb) H.inv H.rd ho (elem?_some hel) hu hs hb hz hcond.1 hcond.2 (H.rho x ax _ hax hvs) (H.rho y ay _ hay hvx) hys (by simpa using hok)
    split at he
    · split at he <;> simp only [Option.some.injEq, Prod.mk.injEq, reduceCtorEq] at he
      rename_i hbd
      obtain ⟨rfl, rfl⟩ := he
      rw [applyG_one]
      exact h.1 rfl H.nb0 hbd
    · rename_i b n
      split at he <;> first | (cases he; done) | skip
      rename_i s xs hbl
      split at he <;> simp only [Option.some.injEq, Prod.mk.injEq, reduceCtorEq] at he
      rename_i hbd
      obtain ⟨rfl, rfl⟩ := he
      obtain ⟨c1, rfl, c3⟩ := hbd
      exact h.2 b n xs rfl hbl c1 c3
    · cases he
  split at hc <;> simp only [Option.some.injEq, reduceCtorEq] at hc
  · rename_i e' hu; exact fin false (.inl ⟨e', hu⟩) hc.symm
  · rename_i hu; exact fin true (.inr hu) hc.symm
theorem u_call {fx : Operand} {as : Array Operand} {ts : Array TypeId} (ho : o.op = .call { callee := .value fx, args := as, argTypes := ts }) {m : MOp} {v : V} {f : Eff} (H : OpIn P o a base w S L G cf rd nb ev f) (hc : conv? P false o = some m) (he : evalOp cf rd nb ev m = some (v, f)) : OpGoal P o a base w S L (applyG G nb f) v := by
  unfold conv? at hc
  rw [ho] at hc
  simp only at hc
  split at hc <;> first | (cases hc; done) | skip
  rename_i fm ams hfm hams
  simp only [Bool.false_eq_true, if_false, Option.some.injEq] at hc; subst hc
  simp only [evalOp] at he
  split at he <;> first | (cases he; done) | skip
  rename_i g fst cap vs hf hvs
  split at he <;> first | (cases he; done) | skip
  rename_i us hus
  split at he <;> first | (cases he; done) | skip
  rename_i r hr
  split at he <;> simp only [Option.some.injEq, Prod.mk.injEq, reduceCtorEq] at he
  rename_i hfr
  obtain ⟨rfl, rfl⟩ := he
  have h := e_callp H.cf H.rd H.rho H.inv (fun j hj => by
    cases himp : (imp nb r).2 with
    | nil => rw [himp] at hj; simp at hj
    | cons k ks => rw [himp] at hj; exact H.nb (k :: ks) (by rw [himp]) j hj) ho hfm hams hf hvs hus hr (by simpa using hfr)
  refine h.congr ?_
  cases himp : (imp nb r).2 with
  | nil => rw [applyG_nil]; rfl
  | cons k ks => rfl
/-- **All operations.** -/
theorem op_sound {m : MOp} {v : V} {f : Eff} (H : OpIn P o a base w S L G cf rd nb ev f) (hc : conv? P false o = some m) (he : evalOp cf rd nb ev m = some (v, f)) : OpGoal P o a base w S L (applyG G nb f) v := by
  cases ho : o.op
  case move x =>
    unfold conv? at hc; rw [ho] at hc; simp only [Option.map_eq_some_iff] at hc
    obtain ⟨ax, hax, rfl⟩ := hc
    simp only [evalOp, Option.map_eq_some_iff, Prod.mk.injEq] at he
    obtain ⟨u, hu, rfl, rfl⟩ := he
    exact q_move H.inv ho (H.rho x ax _ hax hu)
  case assign x =>
    unfold conv? at hc; rw [ho] at hc; simp only [Option.map_eq_some_iff] at hc
    obtain ⟨ax, hax, rfl⟩ := hc
    simp only [evalOp, Option.map_eq_some_iff, Prod.mk.injEq] at he
    obtain ⟨u, hu, rfl, rfl⟩ := he
    exact q_assign H.inv ho (H.rho x ax _ hax hu)
  case pick c x y =>
    unfold conv? at hc; rw [ho] at hc; simp only at hc
    split at hc <;> simp only [Option.some.injEq, reduceCtorEq] at hc
    rename_i ac ax ay hac hax hay
    subst hc
    simp only [evalOp] at he
    split at he <;> simp only [Option.some.injEq, Prod.mk.injEq, reduceCtorEq] at he
    rename_i b u v' h1 h2 h3
    obtain ⟨rfl, rfl⟩ := he
    exact q_pick H.inv ho (H.rho c ac _ hac h1) (H.rho x ax _ hax h2) (H.rho y ay _ hay h3)
  case alloc t =>
    unfold conv? at hc; rw [ho] at hc; simp only [Option.map_eq_some_iff] at hc
    obtain ⟨z, hz, rfl⟩ := hc
    simp only [evalOp, Option.some.injEq, Prod.mk.injEq] at he
    obtain ⟨rfl, rfl⟩ := he
    rw [applyG_one]
    exact e_new H.inv H.nb0 ho hz
  case box t x =>
    unfold conv? at hc; rw [ho] at hc; simp only [Option.map_eq_some_iff] at hc
    obtain ⟨ax, hax, rfl⟩ := hc
    simp only [evalOp] at he
    split at he <;> first | (cases he; done) | skip
    rename_i u hu
    rw [Option.map_eq_some_iff] at he
    obtain ⟨d, hd, e⟩ := he
    simp only [Prod.mk.injEq] at e
    obtain ⟨rfl, rfl⟩ := e
    rw [applyG_one]
    exact e_box H.inv H.nb0 ho (H.rho x ax _ hax hu) hd
  case build t ps => exact u_build ho H hc he
  case buildSlice t len ps => exact u_buildSlice ho H hc he
  case load t x => exact u_load ho H hc he
  case store t x y => exact u_store ho H hc he
  case nilCheck x =>
    unfold conv? at hc; rw [ho] at hc; simp only [Option.map_eq_some_iff] at hc
    obtain ⟨ax, hax, rfl⟩ := hc
    simp only [evalOp] at he
    split at he <;> simp only [Option.some.injEq, Prod.mk.injEq, reduceCtorEq] at he
    · rename_i b n i q hx
      obtain ⟨rfl, rfl⟩ := he
      exact q_nilc H.inv ho (H.rho x ax _ hax hx) (.inl ⟨_, _, _, _, rfl⟩)
    · rename_i c q hx
      obtain ⟨rfl, rfl⟩ := he
      exact q_nilc H.inv ho (H.rho x ax _ hax hx) (.inr ⟨_, _, rfl⟩)
  case binOp op t x y yt => exact u_binOp ho H hc he
  case unOp op t x =>
    unfold conv? at hc; rw [ho] at hc; simp only [Option.map_eq_some_iff] at hc
    obtain ⟨ax, hax, rfl⟩ := hc
    simp only [evalOp] at he
    split at he <;> first | (cases he; done) | skip
    rename_i u hu
    rw [Option.map_eq_some_iff] at he
    obtain ⟨d, hd, e⟩ := he
    simp only [Prod.mk.injEq] at e
    obtain ⟨rfl, rfl⟩ := e
    exact q_un H.inv ho (H.rho x ax _ hax hu) hd
  case convert s d x => exact u_convert ho H hc he
  case makeFunc fn xs ys =>
    unfold conv? at hc; rw [ho] at hc
    cases fn <;> simp only [reduceCtorEq] at hc
    split at hc <;> simp only [Option.some.injEq, reduceCtorEq] at hc
    rename_i as bs has hbs
    subst hc
    simp only [evalOp] at he
    split at he <;> simp only [Option.some.injEq, Prod.mk.injEq, reduceCtorEq] at he
    rename_i vs us hvs hus
    obtain ⟨rfl, rfl⟩ := he
    exact q_mfn H.inv ho (ArgRel.list H.rho _ _ _ has hvs) (ArgRel.list H.rho _ _ _ hbs hus)
  case makeMap t r =>
    unfold conv? at hc; rw [ho] at hc
    cases r <;> simp only [reduceCtorEq] at hc
    split at hc <;> simp only [Option.some.injEq, reduceCtorEq] at hc
    rename_i k e ht
    subst hc
    simp only [evalOp, Option.some.injEq, Prod.mk.injEq] at he
    obtain ⟨rfl, rfl⟩ := he
    rw [applyG_one]
    exact e_mmap H.inv H.nb0 ho ht
  case makeSlice t x y => exact u_makeSlice ho H hc he
  case slice t x lo hi mx => exact u_slice ho H hc he
  case fieldAddr s x i => exact u_fieldAddr ho H hc he
  case field t x i => exact u_field ho H hc he
  case indexAddr t x y => exact u_indexAddr ho H hc he
  case index t x y => exact u_index ho H hc he
  case lookup t x y ok => exact u_lookup ho H hc he
  case mapUpdate t x y z => exact u_mupd (.inl ho) H hc he
  case insert t x y z => exact u_mupd (.inr ho) H hc he
  case mapEntry t x y => exact u_ment ho H hc he
  case entryStore t x y z => exact u_mst ho H hc he
  case extract x i =>
    unfold conv? at hc; rw [ho] at hc; simp only [Option.map_eq_some_iff] at hc
    obtain ⟨ax, hax, rfl⟩ := hc
    simp only [evalOp] at he
    split at he <;> first | (cases he; done) | skip
    rename_i vs hx
    rw [Option.map_eq_some_iff] at he
    obtain ⟨d, hd, e⟩ := he
    simp only [Prod.mk.injEq] at e
    obtain ⟨rfl, rfl⟩ := e
    exact q_ext H.inv ho (H.rho x ax _ hax hx) hd
  case call c =>
    obtain ⟨callee, as, ts⟩ := c
    cases callee
    case value fx => exact u_call ho H hc he
    case invoke => unfold conv? at hc; rw [ho] at hc; simp only [reduceCtorEq] at hc
    case builtin b =>
      cases b
      case len => exact u_len ho H hc he
      case append => exact u_append ho H hc he
      case min =>
        unfold conv? at hc; rw [ho] at hc; simp only [Option.map_eq_some_iff] at hc
        obtain ⟨ams, hams, rfl⟩ := hc
        simp only [evalOp] at he
        split at he <;> first | (cases he; done) | skip
        rename_i vs hvs
        rw [Option.map_eq_some_iff] at he
        obtain ⟨r, hr, e⟩ := he
        simp only [Prod.mk.injEq] at e
        obtain ⟨rfl, rfl⟩ := e
        exact q_min H.inv ho (ArgRel.list H.rho _ _ _ hams hvs) hr
      case max =>
        unfold conv? at hc; rw [ho] at hc; simp only [Option.map_eq_some_iff] at hc
        obtain ⟨ams, hams, rfl⟩ := hc
        simp only [evalOp] at he
        split at he <;> first | (cases he; done) | skip
        rename_i vs hvs
        rw [Option.map_eq_some_iff] at he
        obtain ⟨r, hr, e⟩ := he
        simp only [Prod.mk.injEq] at e
        obtain ⟨rfl, rfl⟩ := e
        exact q_max H.inv ho (ArgRel.list H.rho _ _ _ hams hvs) hr
      all_goals (unfold conv? at hc; rw [ho] at hc; simp only [reduceCtorEq] at hc)
  all_goals (unfold conv? at hc; rw [ho] at hc; simp only [reduceCtorEq] at hc)
end
end Go.Ev
