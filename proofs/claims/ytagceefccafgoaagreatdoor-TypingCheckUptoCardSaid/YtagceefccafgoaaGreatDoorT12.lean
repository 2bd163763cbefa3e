/- Regions whose order is drawn, part two: an operation goes ahead of others to which nothing binds it. No condition. Regions whose order is drawn, part three: whatever order is drawn, the region does what the reader says. No condition. Regions whose order is drawn, part four: every draw. Condition: the program may be carried out in any order that its regions allow. -/
import Derived.Test.YtagceefccafgoaaGreatDoorT11
set_option linter.all false
namespace Go.Ev
variable [Consts]
set_option linter.unusedSectionVars false
open Go.RowKit
set_option linter.unusedSimpArgs false
set_option linter.unusedVariables false
abbrev EF := Nat → Option V
def EF.put (E : EF) (d : Option Nat) (v : V) : EF := match d with
  | some d => fun t => if d = t then some v else E t
  | none => E
def EF.vis (E : EF) (l : List Nat) : MArg → Option V
  | .t n => if l.contains n then E n else none
  | .c v => some v
theorem EF.vis_congr {E E' : EF} {l : List Nat} (h : ∀ t, t ∈ l → E' t = E t) : E'.vis l = E.vis l := by
  funext x
  cases x with
  | t n =>
    simp only [EF.vis]
    split
    · rename_i hc; exact h n (by simpa using hc)
    · rfl
  | c v => rfl
theorem EF.put_out {E : EF} {d : Option Nat} {v : V} {t : Nat} (h : ∀ e, d = some e → e ≠ t) : E.put d v t = E t := by
  cases d with
  | none => rfl
  | some d => simp only [EF.put, if_neg (h d rfl)]
theorem EF.put_comm {E : EF} {d e : Option Nat} {u v : V} (h : ∀ t, d = some t → e ≠ some t) : (E.put d u).put e v = (E.put e v).put d u := by
  cases d with
  | none => rfl
  | some d =>
    cases e with
    | none => rfl
    | some e =>
      have hne : d ≠ e := fun h' => h d rfl (by rw [h'])
      funext t
      simp only [EF.put]
      by_cases h1 : e = t
      · subst h1; simp [hne]
      · simp [h1]
/-- What came of an operation. -/
inductive GE where
  | skip
  | eff (nb : Nat) (f : Eff)
  | st (σ σ' : Store)
structure It where
  r : Raw
  v : V
  ge : GE
def It.blks (x : It) (b : Nat) : Prop := ∃ nb ks, x.ge = .eff nb (.news ks) ∧ nb ≤ b ∧ b < nb + ks.length
def It.app (x : It) (G : Nat → Option Blk) : Nat → Option Blk := match x.ge with
  | .skip => G
  | .eff nb f => applyG G nb f
  | .st _ σ' => σ'.rd
def Raw.guardOn (x : Raw) (E : EF) (on : Bool) : Prop := match x.guard with
  | none => on = true
  | some (t, want) => ∃ v, E.vis x.vis (.t t) = some v ∧ gate want v = some on
section
variable (A : Nat → Nat → Bool) (all : List It) (cf : FuncId → List V → Option V) (cs : CallS)
def Avoid (x : It) (rd : Nat → Option Blk) : Prop := ∀ z, z ∈ all → z.r.op.alloc = true → A x.r.i z.r.i = false → ∀ b, z.blks b → rd b = none
/-- It gives what it gave. -/
def ItEv (E : EF) (G : Nat → Option Blk) (x : It) : Prop := match x.ge with
  | .skip => x.r.guardOn E false ∧ x.v = .und
  | .eff nb f => x.r.guardOn E true ∧ (∃ rd, (∀ b k, rd b = some k → G b = some k) ∧ Avoid A all x rd ∧ evalOp cf rd nb (E.vis x.r.vis) x.r.op = some (x.v, f)) ∧ ∀ b, x.blks b → G b = none
  | .st σ σ' => x.r.guardOn E true ∧ G = σ.rd ∧ ∃ f as g fst cap vs, x.r.op = .calls f as ∧ E.vis x.r.vis f = some (.fn g fst cap) ∧ evs (E.vis x.r.vis) as = some vs ∧ cs g (fst ++ vs ++ cap) σ = some (x.v, σ')
/-- Nothing binds x to come behind y. -/
structure Loose (y x : It) : Prop where
  quiet : y.r.op.loud = true → x.r.op.free = true
  calls : x.r.op.isCalls = true → y.r.op.alloc = false
  vis1 : ∀ d, x.r.dst = some d → d ∉ y.r.vis
  vis2 : ∀ d, y.r.dst = some d → d ∉ x.r.vis
  chk : x.r.op.loud = true → y.r.op.indep = true ∨ (y.r.dst.isSome = true ∧ ∀ z, z ∈ all → (∀ d, z.r.dst = some d → d ∉ y.r.vis) ∨ A y.r.i z.r.i = true)
structure Pair (y x : It) : Prop where
  dst : ∀ d, y.r.dst = some d → x.r.dst ≠ some d
  idx : y.r.i ≠ x.r.i
  anc : A y.r.i x.r.i = false
  disj : ∀ b, y.blks b → ¬x.blks b
  ok : A x.r.i y.r.i = true ∨ Loose A all y x
def It.nop (x : It) : Prop := ∀ G, x.app G = G
def Good : List It → EF → (Nat → Option Blk) → List It → Prop
  | _, _, _, [] => True
  | pre, E, G, x :: l => ItEv A all cf cs E G x ∧
    (x.r.op.loud = true → x.ge ≠ .skip → ∀ c, c ∈ pre → A x.r.i c.r.i = false → c.r.op.indep = false → ItEv A all cf cs (E.put x.r.dst x.v) (x.app G) c ∧ c.nop) ∧
    Good (pre ++ [x]) (E.put x.r.dst x.v) (x.app G) l
end
section
variable {A : Nat → Nat → Bool} {all : List It} {cf : FuncId → List V → Option V} {cs : CallS} {E E' : EF} {G G' : Nat → Option Blk} {x y c : It}
structure Sane (x : It) : Prop where
  set : ∀ nb b k, x.ge = .eff nb (.set b k) → x.r.op.loud = true
  news : ∀ nb ks, x.ge = .eff nb (.news ks) → x.r.op.alloc = true ∨ x.r.op.loud = true
  st : ∀ σ σ', x.ge = .st σ σ' → x.r.op.isCalls = true ∧ x.r.op.loud = true
theorem ItEv.sane (h : ItEv A all cf cs E G x) : Sane x := by
  unfold ItEv at h
  refine ⟨fun nb b k e => ?_, fun nb ks e => ?_, fun σ σ' e => ?_⟩
  · rw [e] at h; obtain ⟨-, ⟨rd, -, -, h⟩, -⟩ := h; exact evalOp_loud h
  · rw [e] at h; obtain ⟨-, ⟨rd, -, -, h⟩, -⟩ := h; exact evalOp_news h
  · rw [e] at h; obtain ⟨-, -, f, as, g, fst, cap, vs, h, -⟩ := h; rw [h]; exact ⟨rfl, rfl⟩
theorem Sane.quiet (h : Sane x) (hq : x.r.op.loud = false) : x.nop ∨ (x.r.op.alloc = true ∧ ∃ nb ks, x.ge = .eff nb (.news ks)) := by
  cases hx : x.ge with
  | skip => exact .inl fun G => by simp [It.app, hx]
  | eff nb f =>
    cases f with
    | nop => exact .inl fun G => by simp [It.app, hx, applyG]
    | news ks =>
      rcases h.news nb ks hx with h' | h'
      · exact .inr ⟨h', nb, ks, rfl⟩
      · rw [hq] at h'; cases h'
    | set b k => have := h.set nb b k hx; rw [hq] at this; cases this
  | st σ σ' => have := (h.st σ σ' hx).2; rw [hq] at this; cases this
theorem Sane.free (h : Sane x) (hf : x.r.op.free = true) : x.nop := by
  obtain ⟨h1, h2⟩ := free_quiet hf
  rcases h.quiet h1 with h' | ⟨h', -⟩
  · exact h'
  · rw [h2] at h'; cases h'
theorem Sane.noBlks (h : Sane x) (hl : x.r.op.loud = false) (ha : x.r.op.alloc = false) (b : Nat) : ¬x.blks b := by
  rintro ⟨nb, ks, e, -⟩
  rcases h.news nb ks e with h' | h'
  · rw [ha] at h'; cases h'
  · rw [hl] at h'; cases h'
theorem app_skip (e : x.ge = .skip) : x.app G = G := by simp only [It.app, e]
theorem app_nop {nb : Nat} (e : x.ge = .eff nb .nop) : x.app G = G := by simp only [It.app, e, applyG]
theorem app_set {nb b : Nat} {k : Blk} (e : x.ge = .eff nb (.set b k)) : x.app G = upd G b k := by simp only [It.app, e, applyG]
theorem app_st {σ σ' : Store} (e : x.ge = .st σ σ') : x.app G = σ'.rd := by simp only [It.app, e]
theorem app_news {nb : Nat} {ks : List Blk} (e : x.ge = .eff nb (.news ks)) {b : Nat} (h : ¬x.blks b) : x.app G b = G b := by
  simp only [It.app, e, applyG]
  split
  · rename_i hb
    split
    · rename_i k hk
      exact absurd ⟨nb, ks, e, hb, by have := (List.getElem?_eq_some_iff.1 hk).1; omega⟩ h
    · rfl
  · rfl
theorem app_news_in {nb : Nat} {ks : List Blk} (e : x.ge = .eff nb (.news ks)) {b : Nat} (h : x.blks b) : ∃ k, ∀ G, x.app G b = some k := by
  obtain ⟨nb', ks', e', h1, h2⟩ := h
  rw [e] at e'; cases e'
  refine ⟨ks[b - nb]'(by omega), fun G => ?_⟩
  simp only [It.app, e, applyG, if_pos h1]
  rw [List.getElem?_eq_getElem (by omega)]
theorem move (h : ItEv A all cf cs E G c) (hE : ∀ t, t ∈ c.r.vis → E' t = E t) (hst : c.r.op.isCalls = true → G' = G) (hb : (∀ b, c.blks b → G b = none) → ∀ b, c.blks b → G' b = none)
    (hrd : c.r.op.indep = true ∨ ∀ rd, (∀ b k, rd b = some k → G b = some k) → Avoid A all c rd → ∀ b k, rd b = some k → G' b = some k) : ItEv A all cf cs E' G' c := by
  have hv : E'.vis c.r.vis = E.vis c.r.vis := EF.vis_congr hE
  have hg : ∀ on, c.r.guardOn E on → c.r.guardOn E' on := by
    intro on; unfold Raw.guardOn; rw [hv]; exact id
  unfold ItEv at h ⊢
  cases hge : c.ge <;> rw [hge] at h <;> simp only at h ⊢
  · exact ⟨hg _ h.1, h.2⟩
  · obtain ⟨h1, ⟨rd, h2, h3, h4⟩, h5⟩ := h
    refine ⟨hg _ h1, ?_, hb h5⟩
    rw [hv]
    rcases hrd with hi | hrd
    · exact ⟨fun _ => none, fun b k h => (by cases h), fun z _ _ _ b _ => rfl, by rw [← h4]; exact indep_rd hi _⟩
    · exact ⟨rd, hrd rd h2 h3, h3, h4⟩
  · obtain ⟨h1, h2, f, as, g, fst, cap, vs, h3, h4⟩ := h
    refine ⟨hg _ h1, ?_, f, as, g, fst, cap, vs, h3, ?_⟩
    · rw [hst (by rw [h3]; rfl)]; exact h2
    · rw [hv]; exact h4
/-- Ahead of the one that stood before it. -/
theorem ahead (hy : ItEv A all cf cs E G y) (hx : ItEv A all cf cs (E.put y.r.dst y.v) (y.app G) x) (hl : Loose A all y x) (ha : A x.r.i y.r.i = false) (hm : y ∈ all) : ItEv A all cf cs E G x := by
  have sy := hy.sane
  have sx := hx.sane
  refine move hx (fun t ht => (EF.put_out fun e he h' => hl.vis2 e he (h' ▸ ht)).symm) (fun hc => ?_) (fun h b hb => ?_) ?_
  · have hq : y.r.op.loud = false := by
      cases hq : y.r.op.loud with
      | false => rfl
      | true => have := hl.quiet hq; cases hop : x.r.op <;> simp [hop, MOp.isCalls, MOp.free] at hc this
    rcases sy.quiet hq with h | ⟨h, -⟩
    · exact (h G).symm
    · rw [hl.calls hc] at h; cases h
  · have h1 := h b hb
    cases hq : y.r.op.loud with
    | true => exact absurd hb (sx.noBlks (free_quiet (hl.quiet hq)).1 (free_quiet (hl.quiet hq)).2 b)
    | false =>
      rcases sy.quiet hq with h | ⟨-, nb, ks, e⟩
      · rw [h G] at h1; exact h1
      · by_cases hyb : y.blks b
        · obtain ⟨k, hk⟩ := app_news_in e hyb
          rw [hk G] at h1; cases h1
        · rw [app_news e hyb] at h1; exact h1
  · cases hq : y.r.op.loud with
    | true => exact .inl (free_indep (hl.quiet hq))
    | false =>
      refine .inr fun rd h1 h2 b k hk => ?_
      have h3 := h1 b k hk
      rcases sy.quiet hq with h | ⟨hal, nb, ks, e⟩
      · rw [h G] at h3; exact h3
      · by_cases hyb : y.blks b
        · rw [h2 y hm hal ha b hyb] at hk; cases hk
        · rw [app_news e hyb] at h3; exact h3
/-- Both ways to the same. -/
theorem app_comm (hy : ItEv A all cf cs E G y) (hx : ItEv A all cf cs E G x) (hp : ∀ b, y.blks b → ¬x.blks b) (hl : Loose A all y x) (ha : A x.r.i y.r.i = false) (hm : y ∈ all) : x.app (y.app G) = y.app (x.app G) := by
  have sy := hy.sane
  have sx := hx.sane
  cases hq : y.r.op.loud with
  | true =>
    have h := sx.free (hl.quiet hq)
    rw [h, h]
  | false =>
    rcases sy.quiet hq with h | ⟨hal, nb, ks, e⟩
    · rw [h, h]
    · funext b
      cases hxe : x.ge with
      | skip => rw [app_skip hxe, app_skip hxe]
      | st σ σ' => have := hl.calls (sx.st σ σ' hxe).1; rw [hal] at this; cases this
      | eff nb' f =>
        cases f with
        | nop => rw [app_nop hxe, app_nop hxe]
        | news ks' =>
          by_cases h1 : y.blks b
          · rw [app_news hxe (hp b h1)]
            obtain ⟨k, hk⟩ := app_news_in e h1
            rw [hk, hk]
          · rw [app_news e h1]
            by_cases h2 : x.blks b
            · obtain ⟨k, hk⟩ := app_news_in hxe h2
              rw [hk, hk]
            · rw [app_news hxe h2, app_news hxe h2, app_news e h1]
        | set b' k =>
          have hb' : ¬y.blks b' := by
            intro h1
            unfold ItEv at hx
            rw [hxe] at hx
            obtain ⟨-, ⟨rd, -, h2, h3⟩, -⟩ := hx
            obtain ⟨k', h4⟩ := evalOp_set h3
            rw [h2 y hm hal ha b' h1] at h4; cases h4
          have ex : ∀ G, x.app G = upd G b' k := fun G => app_set hxe
          rw [ex, ex]
          by_cases h1 : b = b'
          · subst h1; rw [upd_same, app_news e hb', upd_same]
          · rw [upd_ne _ _ h1]
            by_cases h2 : y.blks b
            · obtain ⟨k, hk⟩ := app_news_in e h2
              rw [hk, hk]
            · rw [app_news e h2, app_news e h2, upd_ne _ _ h1]
/-- What is checked behind x stays so without y. -/
theorem chk_ahead (hy : ItEv A all cf cs E G y) (hx : ItEv A all cf cs E G x) (hl : Loose A all y x) (ha : A x.r.i y.r.i = false) (hm : y ∈ all) (hcy : A c.r.i y.r.i = false) (hlx : x.r.op.loud = true) (hv : ∀ d, y.r.dst = some d → d ∉ c.r.vis) (hcx : Loose A all c x)
    (h : ItEv A all cf cs ((E.put y.r.dst y.v).put x.r.dst x.v) (x.app (y.app G)) c) : ItEv A all cf cs (E.put x.r.dst x.v) (x.app G) c := by
  have sy := hy.sane
  have sx := hx.sane
  have sc := h.sane
  have hq : y.r.op.loud = false := by
    cases hq : y.r.op.loud with
    | false => rfl
    | true => have := (loud_alloc hlx).2.1; rw [hl.quiet hq] at this; cases this
  have hqc : c.r.op.loud = false := by
    cases hq : c.r.op.loud with
    | false => rfl
    | true => have := (loud_alloc hlx).2.1; rw [hcx.quiet hq] at this; cases this
  have key : ∀ b, ¬y.blks b → x.app (y.app G) b = x.app G b := by
    intro b hb
    rcases sy.quiet hq with h | ⟨hal, nb, ks, e⟩
    · rw [h]
    · cases hxe : x.ge with
      | skip => rw [app_skip hxe, app_skip hxe]; exact app_news e hb
      | st σ σ' => rw [app_st hxe, app_st hxe]
      | eff nb' f =>
        cases f with
        | nop => rw [app_nop hxe, app_nop hxe]; exact app_news e hb
        | news ks' =>
          by_cases h2 : x.blks b
          · obtain ⟨k, hk⟩ := app_news_in hxe h2
            rw [hk, hk]
          · rw [app_news hxe h2, app_news hxe h2, app_news e hb]
        | set b' k =>
          rw [app_set hxe, app_set hxe]
          by_cases h1 : b = b'
          · subst h1; rw [upd_same, upd_same]
          · rw [upd_ne _ _ h1, upd_ne _ _ h1]; exact app_news e hb
  refine move h (fun t ht => ?_) (fun hc => ?_) (fun h b hb => ?_) (.inr fun rd h1 h2 b k hk => ?_)
  · cases hd : x.r.dst with
    | none => exact (EF.put_out fun e he h' => hv e he (h' ▸ ht)).symm
    | some d =>
      simp only [EF.put]
      by_cases hdt : d = t
      · simp [hdt]
      · rw [if_neg hdt, if_neg hdt]
        exact (EF.put_out (E := E) fun e he h' => hv e he (h' ▸ ht)).symm
  · cases hop : c.r.op <;> simp [hop, MOp.isCalls, MOp.loud] at hc hqc
  · have h1 := h b hb
    by_cases hyb : y.blks b
    · rcases sy.quiet hq with h' | ⟨hal, nb, ks, e⟩
      · rw [h'] at h1; exact h1
      · exfalso
        obtain ⟨k, hk⟩ := app_news_in e hyb
        cases hxe : x.ge with
        | skip => rw [app_skip hxe, hk] at h1; cases h1
        | st σ σ' => have := hl.calls (sx.st σ σ' hxe).1; rw [hal] at this; cases this
        | eff nb' f =>
          cases f with
          | nop => rw [app_nop hxe, hk] at h1; cases h1
          | news ks' =>
            by_cases h2 : x.blks b
            · obtain ⟨k, hk⟩ := app_news_in hxe h2
              rw [hk] at h1; cases h1
            · rw [app_news hxe h2, hk] at h1; cases h1
          | set b' k =>
            rw [app_set hxe] at h1
            by_cases h2 : b = b'
            · subst h2; rw [upd_same] at h1; cases h1
            · rw [upd_ne _ _ h2, hk] at h1; cases h1
    · rw [← key b hyb]; exact h1
  · have h3 := h1 b k hk
    by_cases hyb : y.blks b
    · rcases sy.quiet hq with h' | ⟨hal, nb, ks, e⟩
      · rw [h'] at h3; exact h3
      · rw [h2 y hm hal hcy b hyb] at hk; cases hk
    · rw [← key b hyb]; exact h3
/-- Behind the one that went ahead of it. -/
theorem behind (hy : ItEv A all cf cs E G y) (hx : ItEv A all cf cs E G x) (hp : ∀ b, y.blks b → ¬x.blks b) (hl : Loose A all y x) (ha : A x.r.i y.r.i = false) (hyy : A y.r.i y.r.i = false) (hm : y ∈ all)
    (hc : x.r.op.loud = true → x.ge ≠ .skip → y.r.op.indep = false → ItEv A all cf cs ((E.put y.r.dst y.v).put x.r.dst x.v) (x.app (y.app G)) y ∧ y.nop) : ItEv A all cf cs (E.put x.r.dst x.v) (x.app G) y := by
  have sy := hy.sane
  have sx := hx.sane
  have hvis : ∀ t, t ∈ y.r.vis → E.put x.r.dst x.v t = E t := fun t ht => EF.put_out fun e he h' => hl.vis1 e he (h' ▸ ht)
  by_cases hlq : x.r.op.loud = true ∧ x.ge ≠ .skip
  · obtain ⟨hlx, hns⟩ := hlq
    have hq : y.r.op.loud = false := by
      cases hq : y.r.op.loud with
      | false => rfl
      | true => have := (loud_alloc hlx).2.1; rw [hl.quiet hq] at this; cases this
    cases hin : y.r.op.indep with
    | false =>
      obtain ⟨h1, h2⟩ := hc hlx hns hin
      rw [h2 G] at h1
      refine move h1 (fun t ht => ?_) (fun _ => rfl) (fun h => h) (.inr fun rd h _ => h)
      have hyd : ∀ d, y.r.dst = some d → d ∉ y.r.vis := by
        rcases hl.chk hlx with h | ⟨-, h⟩
        · rw [hin] at h; cases h
        · rcases h y hm with h | h
          · exact h
          · rw [hyy] at h; cases h
      cases hd : x.r.dst with
      | none => exact (EF.put_out fun e he h' => hyd e he (h' ▸ ht)).symm
      | some d =>
        simp only [EF.put]
        by_cases hdt : d = t
        · simp [hdt]
        · rw [if_neg hdt, if_neg hdt]
          exact (EF.put_out (E := E) fun e he h' => hyd e he (h' ▸ ht)).symm
    | true =>
      refine move hy hvis (fun h => ?_) (fun h b hb => ?_) (.inl hin)
      · cases hop : y.r.op <;> simp [hop, MOp.isCalls, MOp.loud] at h hq
      · have h1 := h b hb
        cases hxe : x.ge with
        | skip => exact absurd hxe hns
        | st σ σ' =>
          have := hl.calls (sx.st σ σ' hxe).1
          exact absurd hb (sy.noBlks hq this b)
        | eff nb' f =>
          cases f with
          | nop => rw [app_nop hxe]; exact h1
          | news ks' => rw [app_news hxe (hp b hb)]; exact h1
          | set b' k =>
            have hx' := hx
            unfold ItEv at hx'
            rw [hxe] at hx'
            obtain ⟨-, ⟨rd, h0, h2, h3⟩, -⟩ := hx'
            obtain ⟨k', h4⟩ := evalOp_set h3
            have h5 := h0 _ _ h4
            rw [app_set hxe, upd_ne _ _ (fun e => by subst e; rw [h1] at h5; cases h5)]
            exact h1
  · have hsim : x.nop ∨ (x.r.op.loud = false ∧ ∃ nb ks, x.ge = .eff nb (.news ks)) := by
      cases hlx : x.r.op.loud with
      | true =>
        have : x.ge = .skip := by
          cases hxe : x.ge <;> first | rfl | exact absurd ⟨hlx, by rw [hxe]; simp⟩ hlq
        exact .inl fun G => by simp [It.app, this]
      | false =>
        rcases sx.quiet hlx with h | ⟨-, h⟩
        · exact .inl h
        · exact .inr ⟨rfl, h⟩
    rcases hsim with h | ⟨hlx, nb, ks, e⟩
    · rw [h G]
      exact move hy hvis (fun _ => rfl) (fun h => h) (.inr fun rd h _ => h)
    · refine move hy hvis (fun h => ?_) (fun h b hb => ?_) (.inr fun rd h1 h2 b k hk => ?_)
      · have hq : y.r.op.loud = true := by cases hop : y.r.op <;> simp [hop, MOp.isCalls, MOp.loud] at h ⊢
        exact sx.free (hl.quiet hq) G
      · rw [app_news e (hp b hb)]; exact h b hb
      · have h3 := h1 b k hk
        by_cases hxb : x.blks b
        · unfold ItEv at hx
          rw [e] at hx
          rw [hx.2.2 b hxb] at h3; cases h3
        · rw [app_news e hxb]; exact h3
end
end Go.Ev
namespace Go.Ev
variable [Consts]
set_option linter.unusedSectionVars false
open Go.RowKit
set_option linter.unusedSimpArgs false
set_option linter.unusedVariables false
section
variable {A : Nat → Nat → Bool} {all : List It} {cf : FuncId → List V → Option V} {cs : CallS}
theorem Good.sub : ∀ {l pre pre' : List It} {E : EF} {G : Nat → Option Blk}, (∀ c, c ∈ pre' → c ∈ pre) → Good A all cf cs pre E G l → Good A all cf cs pre' E G l
  | [], _, _, _, _, _, _ => trivial
  | x :: l, pre, pre', E, G, hs, h => ⟨h.1, fun h1 h2 c hc h3 h4 => h.2.1 h1 h2 c (hs c hc) h3 h4, Good.sub (fun c hc => by
    simp only [List.mem_append, List.mem_singleton] at hc ⊢
    exact hc.imp_left (hs c)) h.2.2⟩
def finE (E : EF) (l : List It) : EF := l.foldl (fun E x => E.put x.r.dst x.v) E
def finG (G : Nat → Option Blk) (l : List It) : Nat → Option Blk := l.foldl (fun G x => x.app G) G
theorem Pair.loose {y x : It} (h : Pair A all y x) (ha : A x.r.i y.r.i = false) : Loose A all y x := by
  rcases h.ok with h | h
  · rw [ha] at h; cases h
  · exact h
theorem front {x : It} {l2 : List It} (hirr : ∀ z, z ∈ all → A z.r.i z.r.i = false) : ∀ (l1 : List It) (pre : List It) (E : EF) (G : Nat → Option Blk), (pre ++ (l1 ++ x :: l2)).Pairwise (Pair A all) → (∀ z, z ∈ pre ++ (l1 ++ x :: l2) → z ∈ all) → (∀ y, y ∈ l1 → A x.r.i y.r.i = false) →
    Good A all cf cs pre E G (l1 ++ x :: l2) →
    ItEv A all cf cs E G x ∧ (x.r.op.loud = true → x.ge ≠ .skip → ∀ c, c ∈ pre → A x.r.i c.r.i = false → c.r.op.indep = false → ItEv A all cf cs (E.put x.r.dst x.v) (x.app G) c ∧ c.nop) ∧
    Good A all cf cs (pre ++ [x]) (E.put x.r.dst x.v) (x.app G) (l1 ++ l2) ∧ finE (E.put x.r.dst x.v) (l1 ++ l2) = finE E (l1 ++ x :: l2) ∧ finG (x.app G) (l1 ++ l2) = finG G (l1 ++ x :: l2)
  | [], pre, E, G, hp, hm, ha, h => ⟨h.1, h.2.1, h.2.2, rfl, rfl⟩
  | y :: l1, pre, E, G, hp, hm, ha, h => by
    simp only [List.cons_append] at h hp hm ⊢
    obtain ⟨hy, cky, h⟩ := h
    have e : pre ++ [y] ++ (l1 ++ x :: l2) = pre ++ y :: (l1 ++ x :: l2) := by simp
    obtain ⟨hx1, ck, g, f1, f2⟩ := front hirr l1 (pre ++ [y]) (E.put y.r.dst y.v) (y.app G) (by rw [e]; exact hp) (by rw [e]; exact hm) (fun z hz => ha z (List.mem_cons_of_mem _ hz)) h
    have hay := ha y (List.mem_cons_self ..)
    have hym : y ∈ all := hm y (by simp)
    have hxm : x ∈ all := hm x (by simp)
    rw [List.pairwise_append] at hp
    obtain ⟨-, hp2, hp3⟩ := hp
    have pyx : Pair A all y x := (List.pairwise_cons.1 hp2).1 x (by simp)
    have pcy : ∀ c, c ∈ pre → Pair A all c y := fun c hc => hp3 c hc y (by simp)
    have pcx : ∀ c, c ∈ pre → Pair A all c x := fun c hc => hp3 c hc x (by simp)
    have lyx := pyx.loose hay
    have hx := ahead hy hx1 lyx hay hym
    have hcomm := app_comm hy hx pyx.disj lyx hay hym
    have ecomm : (E.put y.r.dst y.v).put x.r.dst x.v = (E.put x.r.dst x.v).put y.r.dst y.v := EF.put_comm pyx.dst
    refine ⟨hx, fun h1 h2 c hc h3 h4 => ?_, ⟨?_, fun h1 h2 c hc h3 h4 => ?_, ?_⟩, ?_, ?_⟩
    · obtain ⟨q1, q2⟩ := ck h1 h2 c (by simp [hc]) h3 h4
      have lcx := (pcx c hc).loose h3
      refine ⟨chk_ahead hy hx lyx hay hym (pcy c hc).anc h1 (fun d hd => ?_) lcx q1, q2⟩
      rcases lcx.chk h1 with h | ⟨-, h⟩
      · rw [h4] at h; cases h
      · rcases h y hym with h | h
        · exact h d hd
        · rw [(pcy c hc).anc] at h; cases h
    · exact behind hy hx pyx.disj lyx hay (hirr y hym) hym (fun h1 h2 h3 => ck h1 h2 y (by simp) hay h3)
    · simp only [List.mem_append, List.mem_singleton] at hc
      have hxf := lyx.quiet h1
      rcases hc with hc | rfl
      · obtain ⟨q1, q2⟩ := cky h1 h2 c hc h3 h4
        refine ⟨move q1 (fun t ht => ?_) (fun _ => by rw [hx.sane.free hxf G]) (by rw [hx.sane.free hxf G]; exact fun h => h) (.inr fun rd h _ => by rw [hx.sane.free hxf G]; exact h), q2⟩
        have hv : ∀ d, x.r.dst = some d → d ∉ c.r.vis := by
          rcases ((pcy c hc).loose h3).chk h1 with h | ⟨-, h⟩
          · rw [h4] at h; cases h
          · rcases h x hxm with h | h
            · exact h
            · rw [(pcx c hc).anc] at h; cases h
        cases hd : y.r.dst with
        | none => exact EF.put_out fun e he h' => hv e he (h' ▸ ht)
        | some d =>
          simp only [EF.put]
          by_cases hdt : d = t
          · simp [hdt]
          · rw [if_neg hdt, if_neg hdt]
            exact EF.put_out (E := E) fun e he h' => hv e he (h' ▸ ht)
      · rw [free_indep hxf] at h4; cases h4
    · rw [← ecomm, ← hcomm]
      exact g.sub fun c hc => by simp only [List.mem_append, List.mem_singleton] at hc ⊢; rcases hc with (h | h) | h <;> simp [h]
    · simp only [finE, List.foldl_cons] at f1 ⊢
      rw [← ecomm]; exact f1
    · simp only [finG, List.foldl_cons] at f2 ⊢
      rw [← hcomm]; exact f2
end
/-- Slots, store and memory agree. -/
structure StG (nt base : Nat) (w : World) (S : SSet) (L : LMap) (E : EF) (G : Nat → Option Blk) (a : Act) : Prop where
  inv : Inv base w S G L
  env : ∀ t v, E t = some v → Rep w S L v (a.tmps.getD t undef)
  size : nt ≤ a.tmps.size
  defers : a.defers = []
theorem StG.put {nt base : Nat} {w w' : World} {S S' : SSet} {L L' : LMap} {E : EF} {G G' : Nat → Option Blk} {a : Act} (h : StG nt base w S L E G a) (hs : Step base w S L w' S' L') (hi : Inv base w' S' G' L') {dst : Option Nat} (hd : dst.any (fun d => nt ≤ d) = false) {v : V} {x : Value} (hx : Rep w' S' L' v x) :
    StG nt base w' S' L' (E.put dst v) G' (a.put dst x) := by
  cases dst with
  | none => exact ⟨hi, fun t u ht => Rep.mono hs.keeps _ _ (h.env t u ht), h.size, h.defers⟩
  | some d =>
    have hd' : d < a.tmps.size := by have := h.size; simp at hd; omega
    refine ⟨hi, fun t u ht => ?_, by simpa [Act.put] using h.size, h.defers⟩
    simp only [EF.put] at ht
    by_cases htd : d = t
    · subst htd
      simp only [if_true, Option.some.injEq] at ht; subst ht
      simp only [Act.put, Array.getD_eq_getD_getElem?, Array.getElem?_setIfInBounds_self_of_lt hd', Option.getD_some]
      exact hx
    · rw [if_neg htd] at ht
      have := Rep.mono hs.keeps _ _ (h.env t u ht)
      simpa only [Act.put, Array.getD_eq_getD_getElem?, Array.getElem?_setIfInBounds_ne htd] using this
theorem StG.rho {nt base : Nat} {w : World} {S : SSet} {L : LMap} {E : EF} {G : Nat → Option Blk} {a : Act} (h : StG nt base w S L E G a) (l : List Nat) : ArgRel w S L a.eval (E.vis l) := by
  intro x m v hx hv
  cases x with
  | tmp t =>
    simp only [arg, Option.some.injEq] at hx; subst hx
    simp only [EF.vis] at hv
    split at hv
    · exact h.env t v hv
    · cases hv
  | const c =>
    simp only [arg, Option.map_eq_some_iff] at hx
    obtain ⟨u, hu, rfl⟩ := hx
    simp only [EF.vis, Option.some.injEq] at hv; subst hv
    exact ofValue_rep hu
  | func f =>
    simp only [arg, Option.some.injEq] at hx; subst hx
    simp only [EF.vis, Option.some.injEq] at hv; subst hv
    simp [Rep, Reps, Act.eval]
  | global g => simp [arg] at hx
section
variable {P : Program} {nt base : Nat} {w : World} {S : SSet} {L : LMap} {cf : FuncId → List V → Option V} {cs : CallS} {ops : Array Oper} {an : Ann}
variable {A : Nat → Nat → Bool} {all : List It} {E : EF} {G : Nat → Option Blk} {a : Act} {x : It}
theorem convRaw_some {i : Nat} {r : Raw} (h : convRaw P nt ops an i = some r) : ∃ o g, ops[i]? = some o ∧ guard? ops o.guard = some g ∧ o.dst.any (fun d => nt ≤ d) = false ∧ r = { i := i, dst := o.dst, guard := g, op := conv P (an.sh.contains i) o, vis := (g.map (·.1)).toList ++ tmpsOf (conv P (an.sh.contains i) o).args } := by
  unfold convRaw at h
  split at h <;> first | (cases h; done) | skip
  rename_i o ho
  split at h <;> first | (cases h; done) | skip
  rename_i g hg
  split at h <;> simp only [Option.some.injEq, reduceCtorEq] at h
  rename_i hd
  exact ⟨o, g, ho, hg, by simpa using hd, h.symm⟩
theorem guard_wanted {o : Oper} {r : Raw} {on : Bool} (hg : guard? ops o.guard = some r.guard) (hst : StG nt base w S L E G a) (h : r.guardOn E on) : Region.wanted o (yielded ops a.tmps) = on := by
  unfold guard? at hg
  unfold Raw.guardOn at h
  split at hg
  · rename_i hgo
    simp only [Option.some.injEq] at hg
    rw [← hg] at h
    simp [Region.wanted, hgo, h]
  · rename_i j w' hgo
    split at hg <;> simp only [Option.some.injEq, reduceCtorEq] at hg
    rename_i t ht
    rw [← hg] at h
    obtain ⟨v, hb, hon⟩ := h
    simp only [EF.vis] at hb
    split at hb <;> first | (cases hb; done) | skip
    exact gate_sound hgo ht (hst.env t _ hb) hon
theorem item_run (hr : convRaw P nt ops an x.r.i = some x.r) (hx : ItEv A all cf cs E G x) (hst : StG nt base w S L E G a) (hcf : CfSound P cf) (hcs : CsSound P cs) {Q : Exit → Act → World → Prop} {K : Act → World → Prop}
    (hk : ∀ a' w' S' L', StG nt base w' S' L' (E.put x.r.dst x.v) (x.app G) a' → Step base w S L w' S' L' → K a' w') : wpOp P ops Q x.r.i K a w := by
  obtain ⟨o, g, ho, hg, hd, hre⟩ := convRaw_some hr
  have hgr : guard? ops o.guard = some x.r.guard := by rw [hre]; exact hg
  have hdst : x.r.dst = o.dst := by rw [hre]
  have hop : x.r.op = conv P (an.sh.contains x.r.i) o := by rw [hre]
  unfold wpOp
  simp only [ho]
  unfold ItEv at hx
  cases hge : x.ge with
  | skip =>
    rw [hge] at hx
    rw [guard_wanted hgr hst hx.1]
    simp only [Bool.false_eq_true, if_false]
    refine hk _ _ S L ?_ (Step.refl ..)
    rw [app_skip hge, hdst, hx.2]
    exact hst.put (Step.refl ..) hst.inv hd (by simp [Rep])
  | eff nb f =>
    rw [hge] at hx
    obtain ⟨hon, ⟨rd, h1, h2, h3⟩, h4⟩ := hx
    rw [guard_wanted hgr hst hon]
    simp only [if_true]
    left
    have hm : conv? P false o = some x.r.op := by
      unfold conv at hop
      cases hc : conv? P (an.sh.contains x.r.i) o with
      | none => rw [hc] at hop; simp only [Option.getD_none] at hop; rw [hop] at h3; simp [evalOp] at h3
      | some m =>
        rw [hc] at hop
        simp only [Option.getD_some] at hop
        cases hsh : an.sh.contains x.r.i with
        | false => rw [hsh] at hc; rw [hc, hop]
        | true =>
          rw [hsh] at hc
          rcases conv_true hc with h | ⟨fx, as, ts, fm, ams, -, -, -, rfl⟩
          · rw [h, hop]
          · rw [hop] at h3; simp [evalOp] at h3
    have H : OpIn P o a base w S L G cf rd nb (E.vis x.r.vis) f := ⟨hst.inv, h1, fun ks hf j hj => h4 _ ⟨nb, ks, by rw [hge, hf], by omega, by omega⟩, hst.rho _, hcf⟩
    refine op_sound H hm h3 K Q fun y w' S' L' hI hy hs => ?_
    have e : x.app G = applyG G nb f := by simp only [It.app, hge]
    rw [← e] at hI
    have := hst.put hs hI (dst := o.dst) hd hy
    rw [← hdst] at this ⊢
    exact hk _ w' S' L' this hs
  | st σ σ' =>
    rw [hge] at hx
    obtain ⟨hon, rfl, f, as, g', fst, cap, vs, h1, h2, h3, h4⟩ := hx
    rw [guard_wanted hgr hst hon]
    simp only [if_true]
    left
    unfold conv at hop
    rw [h1] at hop
    cases hc : conv? P (an.sh.contains x.r.i) o with
    | none => rw [hc] at hop; simp at hop
    | some m =>
      rw [hc] at hop
      simp only [Option.getD_some] at hop
      subst hop
      have hsome : ∃ fx as' ts, o.op = .call { callee := .value fx, args := as', argTypes := ts } ∧ arg fx = some f ∧ args as'.toList = some as := by
        cases hsh : an.sh.contains x.r.i with
        | false =>
          rw [hsh] at hc
          exfalso
          unfold conv? at hc
          cases ho : o.op <;> rw [ho] at hc <;> simp only [Option.map_eq_some_iff, reduceCtorEq, and_false, exists_false] at hc
          all_goals (repeat' (split at hc)) <;> simp only [Option.map_eq_some_iff, Option.some.injEq, Bool.false_eq_true, if_false, reduceCtorEq, and_false, exists_false] at hc <;> contradiction
        | true =>
          rw [hsh] at hc
          rcases conv_true hc with h | ⟨fx, as', ts, fm, ams, ho', p1, p2, p3⟩
          · exfalso
            unfold conv? at h
            cases ho : o.op <;> rw [ho] at h <;> simp only [Option.map_eq_some_iff, reduceCtorEq, and_false, exists_false] at h
            all_goals (repeat' (split at h)) <;> simp only [Option.map_eq_some_iff, Option.some.injEq, Bool.false_eq_true, if_false, reduceCtorEq, and_false, exists_false] at h <;> contradiction
          · cases p3
            exact ⟨fx, as', ts, ho', p1, p2⟩
      obtain ⟨fx, as', ts, ho', p1, p2⟩ := hsome
      refine e_calls hcs (hst.rho x.r.vis) hst.inv ho' p1 p2 h2 h3 h4 K Q fun y w' S' L' hI hy hs => ?_
      have e : x.app σ.rd = σ'.rd := app_st hge
      rw [← e] at hI
      have := hst.put hs hI (dst := o.dst) hd hy
      rw [← hdst] at this ⊢
      exact hk _ w' S' L' this hs
end
end Go.Ev
namespace Go.Ev
variable [Consts]
set_option linter.unusedSectionVars false
open Go.RowKit
set_option linter.unusedSimpArgs false
set_option linter.unusedVariables false
theorem testBit_mask {t : Tab} : ∀ {ps : List Nat} {y : Nat}, (maskOf t ps).testBit y = true → y ∈ ps ∨ ∃ p, p ∈ ps ∧ t.anc p y = true
  | [], y, h => by simp [maskOf] at h
  | p :: ps, y, h => by
    simp only [maskOf, Nat.testBit_or, Bool.or_eq_true] at h
    rcases h with (h | h) | h
    · rw [Nat.testBit_two_pow] at h
      have : p = y := by simpa using h
      exact .inl (by simp [this])
    · exact .inr ⟨p, by simp, h⟩
    · rcases testBit_mask h with h | ⟨q, h1, h2⟩
      · exact .inl (by simp [h])
      · exact .inr ⟨q, by simp [h1], h2⟩
theorem mask_testBit {t : Tab} : ∀ {ps : List Nat} {p : Nat}, p ∈ ps → (maskOf t ps).testBit p = true
  | [], p, h => by simp at h
  | q :: ps, p, h => by
    simp only [maskOf, Nat.testBit_or, Bool.or_eq_true]
    rcases List.mem_cons.1 h with rfl | h
    · exact .inl (.inl (by rw [Nat.testBit_two_pow]; simp))
    · exact .inr (mask_testBit h)
section
variable {P : Program} {nt base : Nat} {cf : FuncId → List V → Option V} {cs : CallS} {ops : Array Oper} {an : Ann} {t : Tab} {all : List It}
/-- What is known of a region whose order is drawn. -/
structure Drawable (P : Program) (nt : Nat) (ops : Array Oper) (an : Ann) (t : Tab) (all : List It) : Prop where
  raw : ∀ x, x ∈ all → convRaw P nt ops an x.r.i = some x.r
  irr : ∀ x, x ∈ all → t.anc x.r.i x.r.i = false
  mask : ∀ x, x ∈ all → t.get x.r.i = maskOf t (preds ops x.r.i)
  lt : ∀ x, x ∈ all → ∀ p, p ∈ preds ops x.r.i → p < ops.size
  full : ∀ i, i < ops.size → ∃ x, x ∈ all ∧ x.r.i = i
  pair : all.Pairwise (Pair t.anc all)
theorem mem_ready' {md : Region.Mode} {listed : Array Bool} {i : Nat} : i ∈ Region.ready md ops listed ↔ i < ops.size ∧ listed.getD i true = false ∧ ∃ o, ops[i]? = some o ∧ ∀ e, e ∈ o.after → Region.binds md e = true → listed.getD e.on false = true := by
  unfold Region.ready
  rw [List.mem_filter, List.mem_range]
  refine and_congr_right fun hi => ?_
  rw [Bool.and_eq_true, Array.getElem?_eq_getElem hi]
  simp only [Bool.not_eq_true', Option.map_some, Option.getD_some, Option.some.injEq, exists_eq_left', Array.all_eq_true', Bool.or_eq_true]
  refine and_congr_right fun _ => ?_
  refine ⟨fun h e he hb => ?_, fun h e he => ?_⟩
  · rcases h e he with h | h
    · rw [hb] at h; cases h
    · exact h
  · cases hb : Region.binds md e with
    | false => exact .inl rfl
    | true => exact .inr (h e he hb)
theorem mem_preds {i p : Nat} {o : Oper} (ho : ops[i]? = some o) : p ∈ preds ops i ↔ ∃ e, e ∈ o.after ∧ Region.binds .any e = true ∧ e.on = p := by
  unfold preds
  rw [ho]
  simp only [List.mem_map, List.mem_filter, Array.mem_toList_iff]
  constructor
  · rintro ⟨e, ⟨h1, h2⟩, h3⟩; exact ⟨e, h1, h2, h3⟩
  · rintro ⟨e, h1, h2, h3⟩; exact ⟨e, ⟨h1, h2⟩, h3⟩
/-- Whatever is drawn. -/
theorem draw_any (hD : Drawable P nt ops an t all) (hcf : CfSound P cf) (hcs : CsSound P cs) {Q : Exit → Act → World → Prop} : ∀ (fuel : Nat) (l : List It) (listed : Array Bool) (E : EF) (G : Nat → Option Blk) (a : Act) (w : World) (S : SSet) (L : LMap),
    l.length ≤ fuel → l.Sublist all → listed.size = ops.size → (∀ i, i < ops.size → (listed.getD i true = false ↔ ∃ x, x ∈ l ∧ x.r.i = i)) → (∀ i y, i < ops.size → listed.getD i false = true → t.anc i y = true → listed.getD y false = true) →
    Good t.anc all cf cs [] E G l → StG nt base w S L E G a → (∀ a' w' S' L', StG nt base w' S' L' (finE E l) (finG G l) a' → Step base w S L w' S' L' → Q .normal a' w') → wpAny P .any ops Q fuel listed a w := by
  have lst : ∀ (listed : Array Bool) (i : Nat), i < listed.size → listed.getD i true = listed.getD i false := fun listed i h => by
    rw [Array.getD_eq_getD_getElem?, Array.getD_eq_getD_getElem?, Array.getElem?_eq_getElem h]; rfl
  have bnd : ∀ x, x ∈ all → x.r.i < ops.size := fun x hx => by
    obtain ⟨o, g, ho, -⟩ := convRaw_some (hD.raw x hx)
    exact (Array.getElem?_eq_some_iff.1 ho).1
  -- what is left has one that is ready
  have head : ∀ (x : It) (l : List It) (listed : Array Bool), (x :: l).Sublist all → listed.size = ops.size → (∀ i, i < ops.size → (listed.getD i true = false ↔ ∃ z, z ∈ x :: l ∧ z.r.i = i)) → x.r.i ∈ Region.ready .any ops listed := by
    intro x l listed hs hsz hl
    have hx : x ∈ all := hs.subset (List.mem_cons_self ..)
    obtain ⟨o, g, ho, -⟩ := convRaw_some (hD.raw x hx)
    refine mem_ready'.2 ⟨bnd x hx, (hl _ (bnd x hx)).2 ⟨x, List.mem_cons_self .., rfl⟩, o, ho, fun e he hb => ?_⟩
    have hp : e.on ∈ preds ops x.r.i := (mem_preds ho).2 ⟨e, he, hb, rfl⟩
    have hlt := hD.lt x hx _ hp
    have hanc : t.anc x.r.i e.on = true := by unfold Tab.anc; rw [hD.mask x hx]; exact mask_testBit hp
    cases hq : listed.getD e.on false with
    | true => rfl
    | false =>
      rw [← lst listed _ (by omega)] at hq
      obtain ⟨z, hz, hzi⟩ := (hl _ hlt).1 hq
      rw [← hzi] at hanc
      rcases List.mem_cons.1 hz with rfl | hz
      · rw [hD.irr _ hx] at hanc; cases hanc
      · have := (List.pairwise_cons.1 (hD.pair.sublist hs)).1 z hz
        rw [this.anc] at hanc; cases hanc
  intro fuel
  induction fuel with
  | zero =>
    intro l listed E G a w S L hn hs hsz hl hc hg hst hk
    have : l = [] := List.eq_nil_of_length_eq_zero (by omega)
    subst this
    refine ⟨?_, hk a w S L hst (Step.refl ..)⟩
    refine List.eq_nil_iff_forall_not_mem.2 fun i hi => ?_
    obtain ⟨h1, h2, -⟩ := mem_ready'.1 hi
    obtain ⟨x, hx, -⟩ := (hl i h1).1 h2
    cases hx
  | succ fuel ih =>
    intro l listed E G a w S L hn hs hsz hl hc hg hst hk
    refine ⟨fun hr => ?_, fun i hi => ?_⟩
    · cases l with
      | nil => exact hk a w S L hst (Step.refl ..)
      | cons x l => have := head x l listed hs hsz hl; rw [hr] at this; cases this
    · obtain ⟨h1, h2, o, ho, hpre⟩ := mem_ready'.1 hi
      obtain ⟨x, hx, rfl⟩ := (hl i h1).1 h2
      obtain ⟨l1, l2, rfl⟩ := List.append_of_mem hx
      have hxa : x ∈ all := hs.subset hx
      -- what x is bound behind is done
      have hdone : ∀ y, t.anc x.r.i y = true → listed.getD y false = true := by
        intro y hy
        unfold Tab.anc at hy
        rw [hD.mask x hxa] at hy
        rcases testBit_mask hy with h | ⟨p, h, h'⟩
        · obtain ⟨e, he, hb, rfl⟩ := (mem_preds ho).1 h; exact hpre e he hb
        · obtain ⟨e, he, hb, rfl⟩ := (mem_preds ho).1 h
          exact hc _ y (hD.lt x hxa _ h) (hpre e he hb) h'
      have hpend : ∀ y, y ∈ l1 ++ x :: l2 → listed.getD y.r.i false = false := fun y hy => by
        have hb := bnd y (hs.subset hy)
        rw [← lst listed _ (by omega)]
        exact (hl _ hb).2 ⟨y, hy, rfl⟩
      have hloose : ∀ y, y ∈ l1 → t.anc x.r.i y.r.i = false := fun y hy => by
        cases h : t.anc x.r.i y.r.i with
        | false => rfl
        | true =>
          have := hdone _ h
          rw [hpend y (by simp [hy])] at this; cases this
      obtain ⟨f1, -, f2, f3, f4⟩ := front hD.irr l1 [] E G (by simpa using hD.pair.sublist hs) (fun z hz => hs.subset (by simpa using hz)) hloose hg
      refine item_run (hD.raw x hxa) f1 hst hcf hcs fun a' w' S' L' hst' hstep => ?_
      have hsub : (l1 ++ l2).Sublist (l1 ++ x :: l2) := (List.sublist_cons_self x l2).append_left l1
      have hpw := hD.pair.sublist hs
      refine ih (l1 ++ l2) _ _ _ a' w' S' L' (by simp at hn ⊢; omega) (hsub.trans hs) (by simpa using hsz) (fun j hj => ?_) (fun j y hj hjl hjy => ?_) (f2.sub (fun c hc => by cases hc)) hst' (fun a'' w'' S'' L'' h1 h2 => hk a'' w'' S'' L'' (by rw [← f3, ← f4]; exact h1) (hstep.trans h2))
      · rw [Array.getD_eq_getD_getElem?, Array.getElem?_setIfInBounds]
        by_cases hji : x.r.i = j
        · subst hji
          rw [if_pos rfl, if_pos (by omega)]
          simp only [Option.getD_some, reduceCtorEq, false_iff, Bool.true_eq_false]
          rintro ⟨z, hz, hzi⟩
          rw [List.pairwise_append] at hpw
          obtain ⟨q1, q2, q3⟩ := hpw
          rcases List.mem_append.1 hz with hz | hz
          · exact (q3 z hz x (by simp)).idx hzi
          · exact ((List.pairwise_cons.1 q2).1 z hz).idx hzi.symm
        · rw [if_neg hji, ← Array.getD_eq_getD_getElem?, hl j hj]
          constructor
          · rintro ⟨z, hz, hzi⟩
            refine ⟨z, ?_, hzi⟩
            simp only [List.mem_append, List.mem_cons] at hz ⊢
            rcases hz with hz | rfl | hz
            · exact .inl hz
            · exact absurd hzi hji
            · exact .inr hz
          · rintro ⟨z, hz, hzi⟩
            exact ⟨z, hsub.subset hz, hzi⟩
      · have mono : ∀ y, listed.getD y false = true → (listed.setIfInBounds x.r.i true).getD y false = true := fun y hy => by
          rw [Array.getD_eq_getD_getElem?] at hy
          rw [Array.getD_eq_getD_getElem?, Array.getElem?_setIfInBounds]
          split
          · split
            · rfl
            · rename_i h1 h2
              rw [Array.getElem?_eq_none (by omega)] at hy
              exact hy
          · exact hy
        refine mono y ?_
        by_cases hji : x.r.i = j
        · subst hji; exact hdone y hjy
        · refine hc j y hj ?_ hjy
          rw [Array.getD_eq_getD_getElem?, Array.getElem?_setIfInBounds, if_neg hji, ← Array.getD_eq_getD_getElem?] at hjl
          exact hjl
end
end Go.Ev
