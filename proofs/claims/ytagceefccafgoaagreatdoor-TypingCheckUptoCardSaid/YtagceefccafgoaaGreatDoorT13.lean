/- Regions whose order is drawn, part five: what the reader carries out is good in every order. Condition: as in part four. Regions whose order is drawn, part six: they do what the reader says. Condition: P.follows .mixedOrders = true. Functions and calls: the reader's word on a call is the program's. Condition: each function of the reader is the program's, as put by 'convF'. -/
import Derived.Test.YtagceefccafgoaaGreatDoorT11
import Derived.Test.YtagceefccafgoaaGreatDoorT12
set_option linter.all false
namespace Go.Ev
variable [Consts]
set_option linter.unusedSectionVars false
open Go.RowKit
set_option linter.unusedSimpArgs false
set_option linter.unusedVariables false
theorem hideRd_le {e : Env} {hide : List Nat} {rd : Nat → Option Blk} {b : Nat} {k : Blk} (h : hideRd e hide rd b = some k) : rd b = some k := by
  unfold hideRd at h
  split at h
  · exact h
  · simp only at h
    split at h
    · cases h
    · exact h
theorem hideRd_out {e : Env} {hide : List Nat} {rd : Nat → Option Blk} {b d : Nat} {v : V} (hd : d ∈ hide) (hv : e.look d = some v) (hb : b ∈ blocksOf v) : hideRd e hide rd b = none := by
  unfold hideRd
  split
  · cases hd
  · have : hidden e hide b = true := by
      unfold hidden
      rw [List.any_eq_true]
      refine ⟨d, hd, ?_⟩
      rw [hv]
      simpa using hb
    simp [this]
theorem visE_vis (e : Env) (l : List Nat) : visE e (some l) = EF.vis e.look l := by
  funext x
  cases x <;> rfl
theorem look_put (e : Env) (d : Option Nat) (v : V) : (e.put d v).look = EF.put e.look d v := by
  funext t
  cases d with
  | none => rfl
  | some d => rfl
def Raw.guardE (x : Raw) (e : Env) (on : Bool) : Prop := match x.guard with
  | none => on = true
  | some (t, want) => ∃ v, e.look t = some v ∧ gate want v = some on
theorem guardE_on {x : Raw} {e : Env} {on : Bool} (hv : ∀ t w, x.guard = some (t, w) → t ∈ x.vis) (h : x.guardE e on) : x.guardOn e.look on := by
  unfold Raw.guardE at h
  unfold Raw.guardOn
  cases hg : x.guard with
  | none => rw [hg] at h; exact h
  | some tw =>
    obtain ⟨t, w⟩ := tw
    rw [hg] at h
    obtain ⟨b, h1, h2⟩ := h
    refine ⟨b, ?_, h2⟩
    have := hv _ _ hg
    simp only [EF.vis]
    rw [if_pos (by simpa using this)]
    exact h1
def It.sto (x : It) (σ : Store) : Store := match x.ge with
  | .skip => σ
  | .eff _ f => apply σ f
  | .st _ σ' => σ'
section
variable (t : Tab) (cf : FuncId → List V → Option V) (cs : CallS)
def Step1 (pre : List Raw) (e : Env) (σ : Store) (x : It) : Prop := match x.ge with
  | .skip => x.r.guardE e false ∧ x.v = .und
  | .eff nb f => x.r.guardE e true ∧ nb = σ.length ∧ evalOp cf (hideRd e (moOf t pre x.r).hide σ.rd) nb (visE e (some x.r.vis)) x.r.op = some (x.v, f) ∧ checks cf (apply σ f).rd (e.put x.r.dst x.v) (moOf t pre x.r).chk = true
  | .st σ0 σ' => x.r.guardE e true ∧ σ0 = σ ∧ (∃ f as g fst cap vs, x.r.op = .calls f as ∧ visE e (some x.r.vis) f = some (.fn g fst cap) ∧ evs (visE e (some x.r.vis)) as = some vs ∧ cs g (fst ++ vs ++ cap) σ = some (x.v, σ')) ∧ σ.length ≤ σ'.length ∧ checks cf σ'.rd (e.put x.r.dst x.v) (moOf t pre x.r).chk = true
def Ran : List Raw → Env → Store → List It → Env → Store → Prop
  | _, e, σ, [], e', σ' => e' = e ∧ σ' = σ
  | pre, e, σ, x :: l, e', σ' => Step1 t cf cs pre e σ x ∧ Ran (x.r :: pre) (e.put x.r.dst x.v) (x.sto σ) l e' σ'
end
section
variable {t : Tab} {cf : FuncId → List V → Option V} {cs : CallS}
theorem run_step {pre : List Raw} {r : Raw} {e e' : Env} {σ σ' : Store} (hg : r.guardE e true) (h : runMO cf cs (moOf t pre r) e σ = some (e', σ')) : ∃ x : It, x.r = r ∧ Step1 t cf cs pre e σ x ∧ e' = e.put r.dst x.v ∧ σ' = x.sto σ := by
  unfold runMO at h
  have hgo : ∀ m, r.op = m → (∀ f as, m ≠ .calls f as) → (match evalOp cf (hideRd e (moOf t pre r).hide σ.rd) σ.length (visE e (moOf t pre r).vis) m with
      | some (v, f) => if checks cf (apply σ f).rd (e.put (moOf t pre r).dst v) (moOf t pre r).chk then some (e.put (moOf t pre r).dst v, apply σ f) else none
      | none => none) = some (e', σ') → ∃ x : It, x.r = r ∧ Step1 t cf cs pre e σ x ∧ e' = e.put r.dst x.v ∧ σ' = x.sto σ := by
    intro m hm _ h
    split at h <;> first | (cases h; done) | skip
    rename_i v f hv
    split at h <;> simp only [Option.some.injEq, Prod.mk.injEq, reduceCtorEq] at h
    rename_i hc
    obtain ⟨rfl, rfl⟩ := h
    refine ⟨⟨r, v, .eff σ.length f⟩, rfl, ?_, rfl, rfl⟩
    simp only [Step1]
    exact ⟨hg, trivial, by rw [hm]; exact hv, hc⟩
  have hop : (moOf t pre r).op = r.op := rfl
  rw [hop] at h
  cases hm : r.op <;> rw [hm] at h
  case calls f as =>
    simp only at h
    split at h <;> first | (cases h; done) | skip
    rename_i g fst cap vs h1 h2
    split at h <;> first | (cases h; done) | skip
    rename_i v σ1 h3
    split at h <;> simp only [Option.some.injEq, Prod.mk.injEq, reduceCtorEq] at h
    rename_i hc
    obtain ⟨rfl, rfl⟩ := h
    refine ⟨⟨r, v, .st σ σ1⟩, rfl, ?_, rfl, rfl⟩
    simp only [Step1]
    exact ⟨hg, trivial, ⟨f, as, g, fst, cap, vs, hm, h1, h2, h3⟩, hc.1, hc.2⟩
  all_goals exact hgo _ hm (by intro f as; simp) h
theorem ran_of : ∀ {rs : List Raw} {pre : List Raw} {e e' : Env} {σ σ' : Store}, evReg cf cs (mosOf t pre rs) e σ = some (e', σ') → ∃ l : List It, l.map (·.r) = rs ∧ Ran t cf cs pre e σ l e' σ'
  | [], pre, e, e', σ, σ', h => by
    simp only [mosOf, evReg, Option.some.injEq, Prod.mk.injEq] at h
    exact ⟨[], rfl, h.1.symm, h.2.symm⟩
  | r :: rs, pre, e, e', σ, σ', h => by
    simp only [mosOf, evReg] at h
    split at h <;> first | (cases h; done) | skip
    rename_i e1 σ1 h1
    obtain ⟨l, hl, hr⟩ := ran_of h
    have hx : ∃ x : It, x.r = r ∧ Step1 t cf cs pre e σ x ∧ e1 = e.put r.dst x.v ∧ σ1 = x.sto σ := by
      unfold stepMO at h1
      have hgd : (moOf t pre r).guard = r.guard := rfl
      rw [hgd] at h1
      split at h1
      · rename_i hg
        exact run_step (by unfold Raw.guardE; rw [hg]) h1
      · rename_i t' want hg
        split at h1 <;> first | (cases h1; done) | skip
        · rename_i hb
          rw [Option.bind_eq_some_iff] at hb
          obtain ⟨b, hb, hbw⟩ := hb
          exact run_step (by unfold Raw.guardE; rw [hg]; exact ⟨b, hb, hbw⟩) h1
        · rename_i hb
          rw [Option.bind_eq_some_iff] at hb
          obtain ⟨b, hb, hbw⟩ := hb
          simp only [Option.some.injEq, Prod.mk.injEq] at h1
          refine ⟨⟨r, .und, .skip⟩, rfl, ?_, h1.1.symm, h1.2.symm⟩
          simp only [Step1]
          refine ⟨?_, trivial⟩
          unfold Raw.guardE; rw [hg]
          exact ⟨b, hb, hbw⟩
    obtain ⟨x, rfl, h2, rfl, rfl⟩ := hx
    exact ⟨x :: l, by rw [List.map_cons, hl], h2, hr⟩
theorem apply_len (σ : Store) (f : Eff) : σ.length ≤ (apply σ f).length := by
  cases f <;> simp [apply]
theorem Step1.len {pre : List Raw} {e : Env} {σ : Store} {x : It} (h : Step1 t cf cs pre e σ x) : σ.length ≤ (x.sto σ).length := by
  unfold Step1 at h
  unfold It.sto
  cases hge : x.ge <;> rw [hge] at h <;> simp only at h ⊢
  · exact Nat.le_refl _
  · exact apply_len _ _
  · exact h.2.2.2.1
theorem Step1.blks {pre : List Raw} {e : Env} {σ : Store} {x : It} (h : Step1 t cf cs pre e σ x) {b : Nat} (hb : x.blks b) : σ.length ≤ b ∧ b < (x.sto σ).length := by
  obtain ⟨nb, ks, hge, h1, h2⟩ := hb
  unfold Step1 at h
  unfold It.sto
  rw [hge] at h ⊢
  obtain ⟨-, rfl, -⟩ := h
  simp only [apply, List.length_append, List.length_map]
  exact ⟨h1, h2⟩
theorem Ran.blks : ∀ {l : List It} {pre : List Raw} {e e' : Env} {σ σ' : Store}, Ran t cf cs pre e σ l e' σ' → ∀ z, z ∈ l → ∀ b, z.blks b → σ.length ≤ b
  | [], _, _, _, _, _, _, z, hz, _, _ => by cases hz
  | x :: l, pre, e, e', σ, σ', h, z, hz, b, hb => by
    rcases List.mem_cons.1 hz with rfl | hz
    · exact (h.1.blks hb).1
    · exact Nat.le_trans h.1.len (Ran.blks h.2 z hz b hb)
theorem Ran.disj : ∀ {l : List It} {pre : List Raw} {e e' : Env} {σ σ' : Store}, Ran t cf cs pre e σ l e' σ' → l.Pairwise fun y x => ∀ b, y.blks b → ¬x.blks b
  | [], _, _, _, _, _, _ => List.Pairwise.nil
  | x :: l, pre, e, e', σ, σ', h => List.Pairwise.cons (fun z hz b hb hb' => by
      have h1 := (h.1.blks hb).2
      have h2 := Ran.blks h.2 z hz b hb'
      omega) (Ran.disj h.2)
/-- Where an operation's answer came from. -/
def Src (cf : FuncId → List V → Option V) (c : It) : Prop := match c.ge with
  | .skip => c.v = .und
  | .eff nb f => ∃ rd ev, evalOp cf rd nb ev c.r.op = some (c.v, f)
  | .st _ _ => c.r.op.isCalls = true
theorem Step1.src {pre : List Raw} {e : Env} {σ : Store} {x : It} (h : Step1 t cf cs pre e σ x) : Src cf x := by
  unfold Step1 at h
  unfold Src
  cases hge : x.ge <;> rw [hge] at h <;> simp only at h ⊢
  · exact h.2
  · exact ⟨_, _, h.2.2.1⟩
  · obtain ⟨-, -, ⟨f, as, -, -, -, -, h, -⟩, -⟩ := h
    rw [h]; rfl
theorem Src.blocks {c : It} (h : Src cf c) (ha : c.r.op.alloc = true) {b : Nat} (hb : c.blks b) : b ∈ blocksOf c.v := by
  obtain ⟨nb, ks, hge, h1, h2⟩ := hb
  unfold Src at h
  rw [hge] at h
  obtain ⟨rd, ev, h⟩ := h
  have := alloc_blocks ha h (b - nb) (by omega)
  rwa [show nb + (b - nb) = b by omega] at this
theorem Step1.app {pre : List Raw} {e : Env} {σ : Store} {x : It} (h : Step1 t cf cs pre e σ x) : x.app σ.rd = (x.sto σ).rd := by
  unfold Step1 at h
  unfold It.app It.sto
  cases hge : x.ge <;> rw [hge] at h <;> simp only at h ⊢
  rename_i nb f
  obtain ⟨-, rfl, h, -⟩ := h
  refine (apply_rd fun b k hf => ?_).symm
  subst hf
  obtain ⟨k', hk⟩ := evalOp_set h
  exact ⟨k', hideRd_le hk⟩
theorem callp_of {m : MOp} (h : m.alloc = true) (h' : m.indep = false) : ∃ g as, m = .callp g as := by
  cases m <;> first | exact ⟨_, _, rfl⟩ | (simp [MOp.alloc] at h; done) | (simp [MOp.indep] at h'; done)
theorem checks_mem : ∀ {l : List Chk} {rd : Nat → Option Blk} {e : Env}, checks cf rd e l = true → ∀ c, c ∈ l → check1 cf rd e c = true
  | [], _, _, _, c, hc => by cases hc
  | d :: l, rd, e, h, c, hc => by
    simp only [checks, Bool.and_eq_true] at h
    rcases List.mem_cons.1 hc with rfl | hc
    · exact h.1
    · exact checks_mem h.2 c hc
/-- What is known of the operations before. -/
structure Facts (t : Tab) (cf : FuncId → List V → Option V) (all preI : List It) (e : Env) : Prop where
  look : ∀ z, z ∈ preI → ∀ d, z.r.dst = some d → e.look d = some z.v
  src : ∀ z, z ∈ preI → Src cf z
  guard : ∀ c, c ∈ preI → (∀ z, z ∈ all → (∀ d, z.r.dst = some d → d ∉ c.r.vis) ∨ t.anc c.r.i z.r.i = true) → (c.ge = .skip → c.r.guardE e false) ∧ (c.ge ≠ .skip → c.r.guardE e true)
theorem guardE_put {c : Raw} {e : Env} {d : Option Nat} {v : V} {on : Bool} (hv : ∀ t w, c.guard = some (t, w) → t ∈ c.vis) (hd : ∀ s, d = some s → s ∉ c.vis) (h : c.guardE e on) : c.guardE (e.put d v) on := by
  unfold Raw.guardE at h ⊢
  cases hg : c.guard with
  | none => rw [hg] at h; exact h
  | some tw =>
    obtain ⟨t, w⟩ := tw
    rw [hg] at h
    obtain ⟨b, h1, h2⟩ := h
    refine ⟨b, ?_, h2⟩
    rw [look_put, EF.put_out fun s hs hst => hd s hs (hst ▸ hv _ _ hg)]
    exact h1
theorem Facts.step {all preI : List It} {e : Env} {pre : List Raw} {σ : Store} {x : It} {l : List It} (hF : Facts t cf all preI e) (h : Step1 t cf cs pre e σ x) (hall : all = preI ++ x :: l) (hp : all.Pairwise (Pair t.anc all)) (hirr : ∀ x, x ∈ all → t.anc x.r.i x.r.i = false) (hv : ∀ c, c ∈ all → ∀ t w, c.r.guard = some (t, w) → t ∈ c.r.vis) :
    Facts t cf all (preI ++ [x]) (e.put x.r.dst x.v) := by
  have hxm : x ∈ all := by rw [hall]; simp
  have pzx : ∀ z, z ∈ preI → Pair t.anc all z x := fun z hz => by
    rw [hall, List.pairwise_append] at hp
    have := hp.2.2 z hz x (by simp)
    rwa [← hall] at this
  refine ⟨fun z hz d hd => ?_, fun z hz => ?_, fun c hc hw => ?_⟩
  · rw [look_put]
    simp only [List.mem_append, List.mem_singleton] at hz
    rcases hz with hz | rfl
    · rw [EF.put_out fun s hs hst => (pzx z hz).dst d hd (by rw [hs, hst])]
      exact hF.look z hz d hd
    · rw [hd]; simp [EF.put]
  · simp only [List.mem_append, List.mem_singleton] at hz
    rcases hz with hz | rfl
    · exact hF.src z hz
    · exact h.src
  · simp only [List.mem_append, List.mem_singleton] at hc
    have hcm : c ∈ all := by rw [hall]; rcases hc with hc | rfl <;> simp [*]
    have hout : t.anc c.r.i x.r.i = false → ∀ d, x.r.dst = some d → d ∉ c.r.vis := fun ha => by
      rcases hw x hxm with h | h
      · exact h
      · rw [ha] at h; cases h
    rcases hc with hc | rfl
    · have ho := hout (pzx c hc).anc
      obtain ⟨q1, q2⟩ := hF.guard c hc hw
      exact ⟨fun h => guardE_put (hv c hcm) ho (q1 h), fun h => guardE_put (hv c hcm) ho (q2 h)⟩
    · have ho := hout (hirr _ hcm)
      unfold Step1 at h
      refine ⟨fun hs => ?_, fun hs => ?_⟩
      · rw [hs] at h; exact guardE_put (hv c hcm) ho h.1
      · cases hge : c.ge with
        | skip => exact absurd hge hs
        | eff nb f => rw [hge] at h; exact guardE_put (hv c hcm) ho h.1
        | st σ0 σ' => rw [hge] at h; exact guardE_put (hv c hcm) ho h.1
end
end Go.Ev
namespace Go.Ev
variable [Consts]
set_option linter.unusedSectionVars false
open Go.RowKit
set_option linter.unusedSimpArgs false
set_option linter.unusedVariables false
section
variable {t : Tab} {cf : FuncId → List V → Option V} {cs : CallS} {all : List It}
theorem mem_hideOf {pre : List Raw} {x z : Raw} {d : Nat} (hz : z ∈ pre) (ha : z.op.alloc = true) (hx : t.anc x.i z.i = false) (hd : z.dst = some d) : d ∈ hideOf t pre x := by
  unfold hideOf
  rw [List.mem_filterMap]
  exact ⟨z, hz, by simp [ha, hx, hd]⟩
/-- A block that an operation may not look at is not there for it. -/
theorem avoid_of {preI l : List It} {x : It} {e : Env} {σ : Store} (hall : ∀ z, z ∈ all → z ∈ preI ∨ (z.r.op.alloc = true → ∀ b, z.blks b → σ.length ≤ b)) (hF : Facts t cf all preI e) (halloc : ∀ z, z ∈ all → z.r.op.alloc = true → z.r.dst.isSome = true) (hsub : ∀ z, z ∈ preI → z ∈ all) {pre : List Raw} (hpre : ∀ z, z ∈ preI → z.r ∈ pre) :
    Avoid t.anc all x (hideRd e (hideOf t pre x.r) σ.rd) := by
  intro z hz ha hx b hb
  rcases hall z hz with h | h
  · obtain ⟨d, hd⟩ := Option.isSome_iff_exists.1 (halloc z hz ha)
    exact hideRd_out (mem_hideOf (hpre z h) ha hx hd) (hF.look z h d hd) ((hF.src z h).blocks ha hb)
  · have := h ha b hb
    cases hq : hideRd e (hideOf t pre x.r) σ.rd b with
    | none => rfl
    | some k => have := rd_lt (hideRd_le hq); omega
theorem good_of (hp : all.Pairwise (Pair t.anc all)) (hirr : ∀ x, x ∈ all → t.anc x.r.i x.r.i = false) (hv : ∀ c, c ∈ all → ∀ t w, c.r.guard = some (t, w) → t ∈ c.r.vis) (halloc : ∀ z, z ∈ all → z.r.op.alloc = true → z.r.dst.isSome = true) : ∀ (l preI : List It) (e e' : Env) (σ σ' : Store), all = preI ++ l → Facts t cf all preI e →
    Ran t cf cs (preI.map (·.r)).reverse e σ l e' σ' → Good t.anc all cf cs preI e.look σ.rd l ∧ finE e.look l = e'.look ∧ finG σ.rd l = σ'.rd
  | [], preI, e, e', σ, σ', hall, hF, h => by
    obtain ⟨rfl, rfl⟩ := h
    exact ⟨trivial, rfl, rfl⟩
  | x :: l, preI, e, e', σ, σ', hall, hF, h => by
    obtain ⟨h1, h2⟩ := h
    have hxm : x ∈ all := by rw [hall]; simp
    have hsub : ∀ z, z ∈ preI → z ∈ all := fun z hz => by rw [hall]; simp [hz]
    have hF1 := hF.step h1 hall hp hirr hv
    have e1 : (preI ++ [x]).map (·.r) = preI.map (·.r) ++ [x.r] := by simp
    have h2' : Ran t cf cs ((preI ++ [x]).map (·.r)).reverse (e.put x.r.dst x.v) (x.sto σ) l e' σ' := by rw [e1, List.reverse_append]; exact h2
    obtain ⟨g1, g2, g3⟩ := good_of hp hirr hv halloc l (preI ++ [x]) _ e' _ σ' (by rw [hall]; simp) hF1 h2'
    have happ := h1.app
    rw [look_put] at g1 g2
    rw [← happ] at g1 g3
    have hpre : ∀ z, z ∈ preI → z.r ∈ (preI.map (·.r)).reverse := fun z hz => by simp; exact ⟨z, hz, rfl⟩
    have hlater : ∀ z, z ∈ l → ∀ b, z.blks b → (x.sto σ).length ≤ b := fun z hz b hb => h2.blks z hz b hb
    have pzx : ∀ z, z ∈ preI → Pair t.anc all z x := fun z hz => by
      rw [hall, List.pairwise_append] at hp
      have := hp.2.2 z hz x (by simp)
      rwa [← hall] at this
    refine ⟨⟨?_, fun hl hns c hc ha hin => ?_, g1⟩, g2, g3⟩
    · unfold Step1 at h1
      unfold ItEv
      cases hge : x.ge <;> rw [hge] at h1 <;> simp only at h1 ⊢
      · exact ⟨guardE_on (hv x hxm) h1.1, h1.2⟩
      · rename_i nb f
        obtain ⟨q1, rfl, q2, -⟩ := h1
        refine ⟨guardE_on (hv x hxm) q1, ?_, fun b hb => ?_⟩
        · rw [visE_vis] at q2
          cases hfree : x.r.op.free with
          | true => exact ⟨fun _ => none, fun b k h => (by cases h), fun z _ _ _ b _ => rfl, by rw [← q2]; exact indep_rd (free_indep hfree) _⟩
          | false =>
            have hh : (moOf t (preI.map (·.r)).reverse x.r).hide = hideOf t (preI.map (·.r)).reverse x.r := by simp [moOf, hfree]
            rw [hh] at q2
            refine ⟨_, fun b k h => hideRd_le h, avoid_of (fun z hz => ?_) hF halloc hsub hpre (l := l), q2⟩
            rw [hall] at hz
            rcases List.mem_append.1 hz with hz | hz
            · exact .inl hz
            · refine .inr fun _ b hb => ?_
              rcases List.mem_cons.1 hz with rfl | hz
              · obtain ⟨nb', ks, hge', q3, -⟩ := hb
                rw [hge] at hge'; cases hge'; exact q3
              · have := hlater z hz b hb
                have hlen : σ.length ≤ (x.sto σ).length := by unfold It.sto; rw [hge]; exact apply_len _ _
                omega
        · obtain ⟨nb', ks, hge', q3, -⟩ := hb
          rw [hge] at hge'; cases hge'
          have := rd_none σ (b - σ.length)
          rwa [show σ.length + (b - σ.length) = b by omega] at this
      · rename_i σ0 σ1
        obtain ⟨q1, rfl, ⟨f, as, g, fst, cap, vs, q2, q3, q4, q5⟩, -⟩ := h1
        rw [visE_vis] at q3 q4
        exact ⟨guardE_on (hv x hxm) q1, rfl, f, as, g, fst, cap, vs, q2, q3, q4, q5⟩
    · -- behind a loud operation
      have lcx := (pzx c hc).loose ha
      have hcm := hsub c hc
      obtain ⟨hsome, hw⟩ : c.r.dst.isSome = true ∧ ∀ z, z ∈ all → (∀ d, z.r.dst = some d → d ∉ c.r.vis) ∨ t.anc c.r.i z.r.i = true := by
        rcases lcx.chk hl with h | h
        · rw [hin] at h; cases h
        · exact h
      obtain ⟨d, hd⟩ := Option.isSome_iff_exists.1 hsome
      have hcq : c.r.op.loud = false := by
        cases hq : c.r.op.loud with
        | false => rfl
        | true => have := (loud_alloc hl).2.1; rw [lcx.quiet hq] at this; cases this
      -- the check
      have hck : check1 cf (x.app σ.rd) (e.put x.r.dst x.v) { t := d, guard := c.r.guard, op := c.r.op, vis := c.r.vis, hide := hideOf t (preI.map (·.r)).reverse c.r } = true := by
        have hmem : { t := d, guard := c.r.guard, op := c.r.op, vis := c.r.vis, hide := hideOf t (preI.map (·.r)).reverse c.r } ∈ (moOf t (preI.map (·.r)).reverse x.r).chk := by
          simp only [moOf, hl, if_true, chkOf, List.mem_filterMap]
          exact ⟨c.r, hpre c hc, by simp [ha, hin, hd]⟩
        unfold Step1 at h1
        unfold It.sto at happ
        cases hge : x.ge <;> rw [hge] at h1 happ <;> simp only at h1 happ
        · exact absurd hge hns
        · rw [happ]; exact checks_mem h1.2.2.2 _ hmem
        · rw [happ]; exact checks_mem h1.2.2.2.2 _ hmem
      obtain ⟨gs, gn⟩ := hF1.guard c (by simp [hc]) hw
      have hlook := hF1.look c (by simp [hc]) d hd
      have hsrc := hF.src c hc
      unfold ItEv
      cases hge : c.ge with
      | skip =>
        refine ⟨⟨?_, ?_⟩, fun G => app_skip hge⟩
        · rw [← look_put]; exact guardE_on (hv c hcm) (gs hge)
        · unfold Src at hsrc; rw [hge] at hsrc; exact hsrc
      | st σ0 σ1 =>
        unfold Src at hsrc; rw [hge] at hsrc
        cases hop : c.r.op <;> simp [hop, MOp.isCalls, MOp.loud] at hsrc hcq
      | eff nb f =>
        have hg := gn (by rw [hge]; simp)
        have hgo : ∃ u, (e.put x.r.dst x.v).look d = some c.v ∧ evalOp cf (hideRd (e.put x.r.dst x.v) (hideOf t (preI.map (·.r)).reverse c.r) (x.app σ.rd)) 0 (visE (e.put x.r.dst x.v) (some c.r.vis)) c.r.op = some (u, .nop) ∧ c.v.same u = true ∧ ((match c.r.op with | .callp _ _ => (blocksOf c.v).isEmpty | _ => true) = true) := by
          unfold check1 at hck
          simp only at hck
          have hgo' : (match (e.put x.r.dst x.v).look d, evalOp cf (hideRd (e.put x.r.dst x.v) (hideOf t (preI.map (·.r)).reverse c.r) (x.app σ.rd)) 0 (visE (e.put x.r.dst x.v) (some c.r.vis)) c.r.op with
              | some v, some (u, .nop) => v.same u && (match c.r.op with | .callp _ _ => (blocksOf v).isEmpty | _ => true)
              | _, _ => false) = true := by
            unfold Raw.guardE at hg
            cases hgg : c.r.guard with
            | none => rw [hgg] at hck; exact hck
            | some tw =>
              obtain ⟨tt, want⟩ := tw
              rw [hgg] at hck hg
              obtain ⟨b, hb, hbw⟩ := hg
              simp only [hb, hbw, Option.bind_some] at hck
              exact hck
          rw [hlook] at hgo'
          split at hgo' <;> first | (cases hgo'; done) | skip
          rename_i v u hv' hu
          simp only [Option.some.injEq] at hv'; subst hv'
          rw [Bool.and_eq_true] at hgo'
          exact ⟨u, hlook, hu, hgo'.1, hgo'.2⟩
        obtain ⟨u, -, hu, hsame, hcallp⟩ := hgo
        have huv := V.same_eq hsame
        subst huv
        have hf : f = .nop := by
          unfold Src at hsrc; rw [hge] at hsrc
          obtain ⟨rd, ev, hsrc'⟩ := hsrc
          cases f with
          | nop => rfl
          | set b k => have := evalOp_loud hsrc'; rw [hcq] at this; cases this
          | news ks =>
            exfalso
            rcases evalOp_news hsrc' with h | h
            · obtain ⟨g, as, hop⟩ := callp_of h hin
              rw [hop] at hsrc' hcallp
              have hne := news_ne hsrc'
              have := alloc_blocks (m := .callp g as) rfl hsrc' 0 (List.length_pos_iff.2 hne)
              simp only [List.isEmpty_iff] at hcallp
              rw [hcallp] at this; cases this
            · rw [hcq] at h; cases h
        subst hf
        refine ⟨⟨?_, ⟨hideRd (e.put x.r.dst x.v) (hideOf t (preI.map (·.r)).reverse c.r) (x.app σ.rd), fun b k h => hideRd_le h, ?_, ?_⟩, ?_⟩, fun G => app_nop hge⟩
        · rw [← look_put]; exact guardE_on (hv c hcm) hg
        · rw [happ]
          have hpre1 : ∀ z, z ∈ preI → z.r ∈ (preI.map (·.r)).reverse := hpre
          intro z hz haz hcz b hb
          have hz' := hz
          rw [hall] at hz'
          rcases List.mem_append.1 hz' with hz' | hz'
          · obtain ⟨dz, hdz⟩ := Option.isSome_iff_exists.1 (halloc z hz haz)
            exact hideRd_out (mem_hideOf (hpre z hz') haz hcz hdz) (hF1.look z (by simp [hz']) dz hdz) ((hF.src z hz').blocks haz hb)
          · rcases List.mem_cons.1 hz' with rfl | hz'
            · rw [(loud_alloc hl).1] at haz; cases haz
            · have := hlater z hz' b hb
              cases hq : hideRd (e.put x.r.dst x.v) (hideOf t (preI.map (·.r)).reverse c.r) (x.sto σ).rd b with
              | none => rfl
              | some k => have := rd_lt (hideRd_le hq); omega
        · rw [← look_put, ← visE_vis]
          exact nop_nb nb hu
        · rintro b ⟨nb', ks, hge', -⟩
          rw [hge] at hge'; cases hge'
end
theorem okPairs_pw {t : Tab} {all : List Raw} : ∀ {l : List Raw}, okPairs t all l = true → l.Pairwise fun y x => okPair t all y x = true
  | [], _ => List.Pairwise.nil
  | y :: l, h => by
    simp only [okPairs, Bool.and_eq_true, List.all_eq_true] at h
    exact List.Pairwise.cons h.1 (okPairs_pw h.2)
theorem noDst_spec {d : Option Nat} {l : List Nat} (h : noDst d l = true) : ∀ e, d = some e → e ∉ l := by
  intro e he
  subst he
  simpa [noDst] using h
theorem convRaws_raw {P : Program} {nt : Nat} {ops : Array Oper} {an : Ann} : ∀ {is : List Nat} {rs : List Raw}, convRaws P nt ops an is = some rs → ∀ r, r ∈ rs → convRaw P nt ops an r.i = some r
  | [], rs, h, r, hr => by simp only [convRaws, Option.some.injEq] at h; subst h; cases hr
  | i :: is, rs, h, r, hr => by
    simp only [convRaws] at h
    split at h <;> first | (cases h; done) | skip
    rename_i m hm
    rw [Option.map_eq_some_iff] at h
    obtain ⟨rs', hrs, rfl⟩ := h
    rcases List.mem_cons.1 hr with rfl | hr
    · obtain ⟨o, g, -, -, -, e⟩ := convRaw_some hm
      have : r.i = i := by rw [e]
      rw [this]; exact hm
    · exact convRaws_raw hrs r hr
theorem draw_sound {P : Program} (hm : P.follows .mixedOrders = true) {nt : Nat} {cf : FuncId → List V → Option V} {cs : CallS} (hcf : CfSound P cf) (hcs : CsSound P cs) : DrawSound P nt cf cs := by
  intro base id ops an mos hc w S L e e' σ σ' a Q hst hr hk
  unfold convDr at hc
  split at hc <;> first | (cases hc; done) | skip
  rename_i rs hrs
  simp only at hc
  split at hc <;> simp only [Option.some.injEq, reduceCtorEq] at hc
  rename_i hok
  subst hc
  generalize masks ops an.ord [] = t at hok hr
  obtain ⟨all, hmap, hran⟩ := ran_of hr
  unfold okRaws at hok
  simp only [Bool.and_eq_true, decide_eq_true_eq, List.all_eq_true, beq_iff_eq, Bool.not_eq_true', Bool.or_eq_true, List.any_eq_true, List.mem_range] at hok
  obtain ⟨⟨⟨hlen, hpairs⟩, hone⟩, hfull⟩ := hok
  have mem : ∀ {x}, x ∈ all → x.r ∈ rs := fun {x} hx => by rw [← hmap]; exact List.mem_map.2 ⟨x, hx, rfl⟩
  have hirr : ∀ x, x ∈ all → t.anc x.r.i x.r.i = false := fun x hx => (hone _ (mem hx)).1.1.2
  have hpw : all.Pairwise (Pair t.anc all) := by
    have h1 := okPairs_pw hpairs
    rw [← hmap, List.pairwise_map] at h1
    refine (h1.and hran.disj).imp fun {y x} ⟨h, hd⟩ => ?_
    unfold okPair at h
    simp only [Bool.and_eq_true, Bool.or_eq_true, Bool.not_eq_true', bne_iff_ne, ne_eq] at h
    obtain ⟨⟨⟨p1, p2⟩, p3⟩, p4⟩ := h
    refine ⟨fun d hyd hxd => ?_, p2, p3, hd, ?_⟩
    · rw [hyd, hxd] at p1; simp at p1
    · rcases p4 with h | ⟨⟨⟨⟨q1, q2⟩, q3⟩, q4⟩, q5⟩
      · exact .inl h
      · refine .inr ⟨fun h => ?_, fun h => ?_, noDst_spec q3, noDst_spec q4, fun h => ?_⟩
        · rcases q1 with q | q
          · rw [h] at q; cases q
          · exact q
        · rcases q2 with q | q
          · rw [h] at q; cases q
          · exact q
        · rcases q5 with (q | q) | ⟨q, q'⟩
          · rw [h] at q; cases q
          · exact .inl q
          · refine .inr ⟨q, fun z hz => ?_⟩
            rw [List.all_eq_true] at q'
            have := q' z.r (List.mem_map.2 ⟨z, hz, rfl⟩)
            rw [Bool.or_eq_true] at this
            exact this.imp_left noDst_spec
  have hD : Drawable P nt ops an t all := ⟨fun x hx => convRaws_raw hrs _ (mem hx), hirr, fun x hx => (hone _ (mem hx)).1.2, fun x hx p hp => by simpa using (hone _ (mem hx)).2 p hp, fun i hi => by
    obtain ⟨r, hr, hri⟩ := hfull i hi
    rw [← hmap] at hr
    obtain ⟨x, hx, rfl⟩ := List.mem_map.1 hr
    exact ⟨x, hx, hri⟩, hpw⟩
  have hv : ∀ c, c ∈ all → ∀ t w, c.r.guard = some (t, w) → t ∈ c.r.vis := fun c hc t' w' hg => by
    obtain ⟨o, g, -, -, -, e⟩ := convRaw_some (hD.raw c hc)
    have h1 : c.r.guard = g := by rw [e]
    have h2 : c.r.vis = (g.map (·.1)).toList ++ tmpsOf (conv P (an.sh.contains c.r.i) o).args := by rw [e]
    rw [h2, ← h1, hg]; simp
  have halloc : ∀ z, z ∈ all → z.r.op.alloc = true → z.r.dst.isSome = true := fun z hz ha => by
    rcases (hone _ (mem hz)).1.1.1 with h | h
    · rw [ha] at h; cases h
    · exact h
  obtain ⟨g1, g2, g3⟩ := good_of (all := all) hpw hirr hv halloc all [] e e' σ σ' rfl ⟨fun z hz => (by cases hz), fun z hz => (by cases hz), fun z hz => (by cases hz)⟩ hran
  refine wp_region_any hm ?_
  have hbel : Below w.heap.size w { w with drawn := w.drawn + 1 } := ⟨rfl, rfl, rfl, Nat.le_refl _, fun _ _ => rfl⟩
  obtain ⟨hI, hS⟩ := hst.inv.below hbel
  have hall : all.length = rs.length := by rw [← hmap, List.length_map]
  refine draw_any hD hcf hcs _ all _ e.look σ.rd a _ S L (by omega) (List.Sublist.refl _) (by simp) (fun i hi => ?_) (fun i y hi h => ?_) g1 ⟨hI, fun s v hs => Rep.mono hS.keeps _ _ (hst.env s v hs), hst.size, hst.defers⟩ (fun a' w' S' L' h1 h2 => ?_)
  · refine ⟨fun _ => hD.full i hi, fun _ => by simp [Array.getD_eq_getD_getElem?, hi]⟩
  · simp [Array.getD_eq_getD_getElem?, hi] at h
  · rw [g2, g3] at h1
    exact hk a' w' S' L' ⟨h1.inv, h1.env, h1.size, h1.defers⟩ (hS.trans h2)
end Go.Ev
namespace Go.Ev
variable [Consts]
set_option linter.unusedSectionVars false
open Go.RowKit
set_option linter.unusedSimpArgs false
set_option linter.unusedVariables false
/-- One function's pure calls. -/
def CfAt (P : Program) (f : FuncId) (g : List V → Option V) : Prop :=
  ∀ us r, g us = some r → ∀ (w : World) (S : SSet) (vals : List Value), Consts.om w → Consts.n0 ≤ w.heap.size → (∀ r o, S r o → r < w.heap.size) → Reps w S noL us vals →
    CallOk P f vals.toArray w fun x w' => ∃ S', Below w.heap.size w w' ∧ (∀ r o, S r o → S' r o) ∧ (∀ r o, S' r o → S r o ∨ w.heap.size ≤ r) ∧ (∀ r o, S' r o → r < w'.heap.size) ∧ ExpRep w.heap.size w' S' r x
def CsAt (P : Program) (f : FuncId) (g : List V → Store → Option (V × Store)) : Prop :=
  ∀ vs σ r σ', g vs σ = some (r, σ') → ∀ (base : Nat) (w : World) (S : SSet) (L : LMap) (vals : List Value), Inv base w S σ.rd L → Reps w S L vs vals →
    CallOk P f vals.toArray w fun x w' => ∃ S' L', Inv base w' S' σ'.rd L' ∧ Rep w' S' L' r x ∧ Step base w S L w' S' L'
/-- The reader's functions are the program's. -/
structure ProgOk (P : Program) (M : Prog) : Prop where
  fn : ∀ f m, M.fn f = some m → ∃ anns, convF P f anns = some m
  nat : ∀ f g, M.nat f = some g → CfAt P f g
  nats : ∀ f g, M.nats f = some g → CsAt P f g
  mixed : P.follows .mixedOrders = true
section
variable {P : Program} {M : Prog}
theorem convF_some {f : FuncId} {anns : List Ann} {m : MFun} (h : convF P f anns = some m) : ∃ fn c rs, P.funcs[f]? = some fn ∧ fn.body = some c ∧ fn.name ≠ "runtime.NumGoroutine" ∧ convRes P fn.results.toList fn.resultTypes.toList = some rs ∧ m = { results := rs, body := convC P fn.ntmps anns c } := by
  unfold convF at h
  split at h <;> first | (cases h; done) | skip
  rename_i fn hfn
  split at h <;> first | (cases h; done) | skip
  rename_i c hc
  split at h <;> first | (cases h; done) | skip
  rename_i hname
  split at h <;> simp only [Option.some.injEq, reduceCtorEq] at h
  rename_i rs hrs
  exact ⟨fn, c, rs, hfn, hc, hname, hrs, h.symm⟩
theorem raw_sound (hM : ProgOk P M) {n : Nat} (hcf : CfSound P (evPure M n)) (hcs : CsSound P (evShared M n)) {f : FuncId} {args : List V} {σ σ' : Store} {vs : List (V × Nat)} (h : evRaw M (n + 1) f args σ = some (vs, σ'))
    {base : Nat} {w : World} {S : SSet} {L : LMap} {vals : List Value} (hI : Inv base w S σ.rd L) (hr : Reps w S L args vals) :
    CallOk P f vals.toArray w fun x w' => ∃ S' L' xs, x = oneV xs ∧ Inv base w' S' σ'.rd L' ∧ Reps w' S' L' (vs.map (·.1)) xs ∧ Step base w S L w' S' L' := by
  simp only [evRaw] at h
  split at h <;> first | (cases h; done) | skip
  rename_i m hm
  obtain ⟨anns, hconv⟩ := hM.fn f m hm
  obtain ⟨fn, c, rs, hfn, hc, hname, hrs, rfl⟩ := convF_some hconv
  refine .inl ⟨⟨fn, hfn, by rw [hc]; rfl, hname⟩, ?_⟩
  simp only at h
  -- the run of the body
  have hcode : ∃ x e1, evCode (evPure M n) (evShared M n) n (convC P fn.ntmps anns c) (params args) σ = some (x, e1, σ') ∧ (x = .normal ∨ x = .ret) ∧ ∃ us, evRes σ'.rd e1 rs = some us ∧ vs = us.zip (rs.map (·.2)) := by
    split at h <;> first | (cases h; done) | skip
    rename_i x e1 σ1 hne hev
    rw [Option.map_eq_some_iff] at h
    obtain ⟨us, hus, e⟩ := h
    simp only [Prod.mk.injEq] at e
    obtain ⟨rfl, rfl⟩ := e
    refine ⟨x, e1, hev, ?_, us, hus, rfl⟩
    cases x with
    | normal => exact .inl rfl
    | ret => exact .inr rfl
    | exit id => exact (hne _ rfl).elim
  obtain ⟨x, e1, hev, hx, us, hus, rfl⟩ := hcode
  have hlen : us.length = rs.length := by
    have : ∀ (ms : List (MRes × Nat)) (us : List V), evRes σ'.rd e1 ms = some us → us.length = ms.length := by
      intro ms
      induction ms with
      | nil => intro us h; simp only [evRes, Option.some.injEq] at h; subst h; rfl
      | cons m ms ih =>
        intro us h
        obtain ⟨m, z⟩ := m
        cases m <;> simp only [evRes] at h <;> split at h <;> first
          | (cases h; done)
          | (rw [Option.map_eq_some_iff] at h; obtain ⟨us', h', rfl⟩ := h; simp [ih us' h'])
    exact this rs us hus
  have hmap : (us.zip (rs.map (·.2))).map (·.1) = us := by
    rw [List.map_fst_zip (by simp; omega)]
  rw [hmap]
  refine calls_of_wp hfn hc ?_
  have hst : StRel fn.ntmps base w S L (params args) σ { tmps := vals.toArray ++ Array.replicate (fn.ntmps - vals.toArray.size) undef, defers := [] } := by
    refine ⟨hI, fun t v ht => ?_, by simp; omega, rfl⟩
    obtain ⟨-, h2⟩ := params_look args 0 t v ht
    obtain ⟨y, hy, hrep⟩ := hr.at (i := t) (by simpa using h2)
    have hlt : t < vals.length := (List.getElem?_eq_some_iff.1 hy).1
    have : (vals.toArray ++ Array.replicate (fn.ntmps - vals.toArray.size) undef)[t]? = some y := by
      rw [Array.getElem?_append_left (by simpa using hlt)]
      simpa using hy
    rw [Array.getD_eq_getD_getElem?, this]
    exact hrep
  refine code_sound hcf hcs (draw_sound hM.mixed hcf hcs) c hst hev fun a' w' S' L' hs hstep => ?_
  obtain ⟨xs, hxs, hrx⟩ := results_sound hs fn.results.toList fn.resultTypes.toList rs us hrs hus
  have hres : (results fn a'.tmps).run P w' = .ok (oneV xs) w' := by
    unfold results
    rw [Array.mapM_eq_mapM_toList]
    rw [Sem.run_bind, Sem.run_map]
    erw [hxs]
    simp only [Result.andThen_ok, Sem.run_pure]
    rw [oneV_eq]
  have hpost : a'.defers = [] ∧ ∃ v, (results fn a'.tmps).run P w' = .ok v w' ∧ ∃ x, Ending.returned v = .returned x ∧ ∃ S' L' xs, x = oneV xs ∧ Inv base w' S' σ'.rd L' ∧ Reps w' S' L' us xs ∧ Step base w S L w' S' L' :=
    ⟨hs.defers, _, hres, _, rfl, S', L', xs, rfl, hs.inv, hrx, hstep⟩
  rcases hx with rfl | rfl <;> exact hpost
/-- One value or many. -/
theorem one_rep {w : World} {S : SSet} {L : LMap} : ∀ {vs : List V} {xs : List Value}, Reps w S L vs xs → Rep w S L (one vs) (oneV xs)
  | [], xs, h => by simp only [Reps] at h; subst h; simp only [one, oneV, Rep]; exact ⟨_, rfl, by simp [Reps]⟩
  | [v], xs, h => by
    simp only [Reps] at h
    obtain ⟨y, ys, rfl, h1, rfl⟩ := h
    exact h1
  | v :: u :: vs, xs, h => by
    have h' := h
    simp only [Reps] at h
    obtain ⟨y, ys, rfl, h1, z, zs, rfl, h2, h3⟩ := h
    simp only [one, oneV, Rep]
    exact ⟨_, rfl, by simpa using h'⟩
theorem CallOk.mono {f : FuncId} {vals : Array Value} {w : World} {R R' : Value → World → Prop} (h : CallOk P f vals w R) (hr : ∀ x w', R x w' → R' x w') : CallOk P f vals w R' := by
  rcases h with ⟨h1, h2⟩ | ⟨x, w', h1, h2⟩
  · exact .inl ⟨h1, h2.mono fun e w' ⟨x, hx, q⟩ => ⟨x, hx, hr x w' q⟩⟩
  · exact .inr ⟨x, w', h1, hr x w' h2⟩
/-- **The reader's word.** -/
theorem sound (hM : ProgOk P M) : ∀ n, CfSound P (evPure M n) ∧ CsSound P (evShared M n)
  | 0 => ⟨fun f us r h => by simp only [evPure, reduceCtorEq] at h, fun f vs σ r σ' h => by simp only [evShared, reduceCtorEq] at h⟩
  | n + 1 => by
    have raw : ∀ {f : FuncId} {args : List V} {σ σ' : Store} {vs : List (V × Nat)}, evRaw M n f args σ = some (vs, σ') → ∀ {base : Nat} {w : World} {S : SSet} {L : LMap} {vals : List Value}, Inv base w S σ.rd L → Reps w S L args vals →
        CallOk P f vals.toArray w fun x w' => ∃ S' L' xs, x = oneV xs ∧ Inv base w' S' σ'.rd L' ∧ Reps w' S' L' (vs.map (·.1)) xs ∧ Step base w S L w' S' L' := by
      intro f args σ σ' vs h base w S L vals hI hr
      cases n with
      | zero => simp only [evRaw, reduceCtorEq] at h
      | succ n =>
        obtain ⟨h1, h2⟩ := sound hM n
        exact raw_sound hM h1 h2 h hI hr
    refine ⟨?_, ?_⟩
    · intro f us r h w S vals hom hn0 hS hr
      simp only [evPure] at h
      split at h
      · rename_i g hg
        exact hM.nat f g hg us r h w S vals hom hn0 hS hr
      · split at h <;> first | (cases h; done) | skip
        rename_i vs σ hraw
        have hI : Inv w.heap.size w S (Store.rd []) noL := ⟨(fun b k hb => by simp [Store.rd] at hb), (fun b l hl => by cases hl), (fun b c l m r hl => by cases hl), hS, Nat.le_refl _, hom, hn0⟩
        refine (raw hraw hI hr).mono ?_
        rintro x w' ⟨S', L', xs, rfl, hI', hr', hs⟩
        obtain ⟨S2, q1, q2, q3, q4⟩ := export_rel hI' h hr'
        refine ⟨S2, hs.below, fun r o s => q1 r o (hs.keeps.set r o s), fun r o s => ?_, q3, q4⟩
        rcases q2 r o s with s | s
        · exact hs.fresh r o s
        · exact .inr s
    · intro f vs σ r σ' h base w S L vals hI hr
      simp only [evShared] at h
      split at h
      · rename_i g hg
        exact hM.nats f g hg vs σ r σ' h base w S L vals hI hr
      · split at h <;> first | (cases h; done) | skip
        rename_i us σ1 hraw
        simp only [Option.some.injEq, Prod.mk.injEq] at h
        obtain ⟨rfl, rfl⟩ := h
        refine (raw hraw hI hr).mono ?_
        rintro x w' ⟨S', L', xs, rfl, hI', hr', hs⟩
        exact ⟨S', L', hI', one_rep hr', hs⟩
end
end Go.Ev
