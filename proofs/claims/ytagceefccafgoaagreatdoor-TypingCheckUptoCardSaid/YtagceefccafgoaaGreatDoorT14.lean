/- Reading a function symbolically: laws of the reader. No condition. What must hold before a code of the reader's so that something holds behind it: laws without fuel. No condition. -/
import Derived.Test.YtagceefccafgoaaGreatDoorT01
set_option linter.all false
namespace Go.Ev
set_option linter.unusedVariables false
def assocF {α : Type} : List (FuncId × α) → FuncId → Option α
  | [], _ => none
  | (f, g) :: l, k => if f = k then some g else assocF l k
/-- The program's functions, of which some are known by what they answer. -/
def pgL (funs : FuncId → Option MFun) (l : List (FuncId × (List V → Option V))) (l' : List (FuncId × (List V → Store → Option (V × Store)))) : Prog where
  fn := funs
  nat := assocF l
  nats := assocF l'
theorem assocF_mem {α : Type} : ∀ {l : List (FuncId × α)} {f : FuncId} {g : α}, assocF l f = some g → (f, g) ∈ l
  | [], _, _, h => by simp [assocF] at h
  | (f', g') :: l, f, g, h => by
    simp only [assocF] at h
    split at h
    · rename_i e
      cases h; subst e; exact List.mem_cons_self ..
    · exact List.mem_cons_of_mem _ (assocF_mem h)
/-- A pure call, by its code. -/
theorem ev_pure {M : Prog} {n : Nat} {f : FuncId} {m : MFun} {args : List V} {x : MExit} {e : Env} {σ : Store} {vs : List V} {r : V} (hn : M.nat f = none) (hf : M.fn f = some m)
    (hc : evCode (evPure M n) (evShared M n) n m.body (params args) [] = some (x, e, σ)) (hx : ∀ j, x ≠ .exit j) (hr : evRes σ.rd e m.results = some vs) (hp : export_ σ (vs.zip (m.results.map (·.2))) = some r) : evPure M (n + 2) f args = some r := by
  unfold evPure evRaw
  simp only [hn, hf, hc]
  cases x
  case exit j => exact absurd rfl (hx j)
  all_goals simp only [hr, Option.map_some]; exact hp
/-- A call on the store, by its code. -/
theorem ev_shared {M : Prog} {n : Nat} {f : FuncId} {m : MFun} {args : List V} {x : MExit} {e : Env} {σ σ' : Store} {vs : List V} (hn : M.nats f = none) (hf : M.fn f = some m)
    (hc : evCode (evPure M n) (evShared M n) n m.body (params args) σ = some (x, e, σ')) (hx : ∀ j, x ≠ .exit j) (hr : evRes σ'.rd e m.results = some vs) (hl : vs.length = m.results.length) : evShared M (n + 2) f args σ = some (one vs, σ') := by
  have hz : (vs.zip (m.results.map (·.2))).map (·.1) = vs := by
    rw [List.map_fst_zip]; simp [hl]
  unfold evShared evRaw
  simp only [hn, hf, hc]
  cases x
  case exit j => exact absurd rfl (hx j)
  all_goals simp only [hr, Option.map_some, hz]
theorem evLoop_succ {f : Env → Store → Option (MExit × Env × Store)} {n : Nat} {e : Env} {σ : Store} : evLoop f (n + 1) e σ = match f e σ with
    | some (.normal, e', σ') => evLoop f n e' σ'
    | r => r := rfl
theorem wrap_nat {n : Nat} (h : n < 9223372036854775808) : IntKind.i64.wrap (n : Int) = n := by
  have hm : (n : Int) % 18446744073709551616 = n := by omega
  unfold IntKind.wrap
  simp [IntKind.bits, IntKind.signed, hm]
  omega
theorem wrap_succ {n : Nat} (h : n < 4611686018427387904) : IntKind.i64.wrap ((n : Int) + 1) = (n + 1 : Nat) := by
  have := wrap_nat (n := n + 1) (by omega)
  rw [← this]; rfl
/- Loops over the elements of a list. -/
abbrev Res := MExit × Env × Store
/-- One pass over a list: each element gives a new state, or an end; or it is refused. -/
def pass {α β γ : Type} (step : β → α → Option (Sum β γ)) : β → List α → Option (Sum β γ)
  | b, [] => some (.inl b)
  | b, c :: l => match step b c with
    | some (.inl b') => pass step b' l
    | some (.inr r) => some (.inr r)
    | none => none
/-- What the loop ends with. -/
def ended {β γ : Type} (fin : β → Res) (out : γ → Res) : Sum β γ → Res
  | .inl b => fin b
  | .inr r => out r
theorem loop_over {α β γ : Type} {F : Env → Store → Option Res} (E : Nat → β → Env) (S : β → Store) (fin : β → Res) (out : γ → Res) (step : β → α → Option (Sum β γ)) (xs : List α)
    (hbody : ∀ i c b b', xs[i]? = some c → step b c = some (.inl b') → F (E i b) (S b) = some (.normal, E (i + 1) b', S b'))
    (hstop : ∀ i c b r, xs[i]? = some c → step b c = some (.inr r) → F (E i b) (S b) = some (out r) ∧ (out r).1 ≠ .normal)
    (hend : ∀ b, F (E xs.length b) (S b) = some (fin b) ∧ (fin b).1 ≠ .normal) : ∀ (l : List α) (i : Nat) (b : β) (r : Sum β γ) (k : Nat), xs.drop i = l → i ≤ xs.length → pass step b l = some r → l.length < k →
      evLoop F k (E i b) (S b) = some (ended fin out r)
  | [], i, b, r, k, hd, hi, hp, hk => by
    cases k with
    | zero => simp at hk
    | succ k =>
      have : i = xs.length := by have := congrArg List.length hd; simp at this; omega
      subst this
      simp only [pass, Option.some.injEq] at hp; subst hp
      obtain ⟨h1, h2⟩ := hend b
      rw [evLoop_succ, h1]
      simp only [ended]
      generalize fin b = q at h2
      obtain ⟨x, e, σ⟩ := q
      cases x <;> first | rfl | exact absurd rfl h2
  | c :: l, i, b, r, k, hd, hi, hp, hk => by
    cases k with
    | zero => simp at hk
    | succ k =>
      have hx : xs[i]? = some c := by
        have := congrArg (·[0]?) hd
        simpa using this
      have hlt := (List.getElem?_eq_some_iff.1 hx).1
      simp only [pass] at hp
      split at hp
      · rename_i b' hs
        rw [evLoop_succ, hbody i c b b' hx hs]
        refine loop_over E S fin out step xs hbody hstop hend l (i + 1) b' r k ?_ hlt hp (by simp at hk; omega)
        rw [← List.drop_drop, hd]; rfl
      · rename_i q hs
        cases hp
        obtain ⟨h1, h2⟩ := hstop i c b q hx hs
        rw [evLoop_succ, h1]
        simp only [ended]
        generalize out q = q at h2
        obtain ⟨x, e, σ⟩ := q
        cases x <;> first | rfl | exact absurd rfl h2
      · cases hp
/-- .. from the start. -/
theorem loop_list {α β γ : Type} {F : Env → Store → Option Res} (E : Nat → β → Env) (S : β → Store) (fin : β → Res) (out : γ → Res) (step : β → α → Option (Sum β γ)) (xs : List α)
    (hbody : ∀ i c b b', xs[i]? = some c → step b c = some (.inl b') → F (E i b) (S b) = some (.normal, E (i + 1) b', S b'))
    (hstop : ∀ i c b r, xs[i]? = some c → step b c = some (.inr r) → F (E i b) (S b) = some (out r) ∧ (out r).1 ≠ .normal)
    (hend : ∀ b, F (E xs.length b) (S b) = some (fin b) ∧ (fin b).1 ≠ .normal) {b : β} {r : Sum β γ} {k : Nat} (hp : pass step b xs = some r) (hk : xs.length < k) :
    evLoop F k (E 0 b) (S b) = some (ended fin out r) := loop_over E S fin out step xs hbody hstop hend xs 0 b r k rfl (Nat.zero_le _) hp hk
/- The same with something that holds at each round. -/
theorem loop_overI {α β γ : Type} {F : Env → Store → Option Res} (E : Nat → β → Env) (S : β → Store) (fin : β → Res) (out : γ → Res) (step : β → α → Option (Sum β γ)) (xs : List α) (I : Nat → β → Prop)
    (hbody : ∀ i c b b', I i b → xs[i]? = some c → step b c = some (.inl b') → F (E i b) (S b) = some (.normal, E (i + 1) b', S b') ∧ I (i + 1) b')
    (hstop : ∀ i c b r, I i b → xs[i]? = some c → step b c = some (.inr r) → F (E i b) (S b) = some (out r) ∧ (out r).1 ≠ .normal)
    (hend : ∀ b, I xs.length b → F (E xs.length b) (S b) = some (fin b) ∧ (fin b).1 ≠ .normal) : ∀ (l : List α) (i : Nat) (b : β) (r : Sum β γ) (k : Nat), I i b → xs.drop i = l → i ≤ xs.length → pass step b l = some r → l.length < k →
      evLoop F k (E i b) (S b) = some (ended fin out r)
  | [], i, b, r, k, hI, hd, hi, hp, hk => by
    cases k with
    | zero => simp at hk
    | succ k =>
      have : i = xs.length := by have := congrArg List.length hd; simp at this; omega
      subst this
      simp only [pass, Option.some.injEq] at hp; subst hp
      obtain ⟨h1, h2⟩ := hend b hI
      rw [evLoop_succ, h1]
      simp only [ended]
      generalize fin b = q at h2
      obtain ⟨x, e, σ⟩ := q
      cases x <;> first | rfl | exact absurd rfl h2
  | c :: l, i, b, r, k, hI, hd, hi, hp, hk => by
    cases k with
    | zero => simp at hk
    | succ k =>
      have hx : xs[i]? = some c := by
        have := congrArg (·[0]?) hd
        simpa using this
      have hlt := (List.getElem?_eq_some_iff.1 hx).1
      simp only [pass] at hp
      split at hp
      · rename_i b' hs
        obtain ⟨h1, h2⟩ := hbody i c b b' hI hx hs
        rw [evLoop_succ, h1]
        refine loop_overI E S fin out step xs I hbody hstop hend l (i + 1) b' r k h2 ?_ hlt hp (by simp at hk; omega)
        rw [← List.drop_drop, hd]; rfl
      · rename_i q hs
        cases hp
        obtain ⟨h1, h2⟩ := hstop i c b q hI hx hs
        rw [evLoop_succ, h1]
        simp only [ended]
        generalize out q = q at h2
        obtain ⟨x, e, σ⟩ := q
        cases x <;> first | rfl | exact absurd rfl h2
      · cases hp
/-- .. from the start. -/
theorem loop_listI {α β γ : Type} {F : Env → Store → Option Res} (E : Nat → β → Env) (S : β → Store) (fin : β → Res) (out : γ → Res) (step : β → α → Option (Sum β γ)) (xs : List α) (I : Nat → β → Prop)
    (hbody : ∀ i c b b', I i b → xs[i]? = some c → step b c = some (.inl b') → F (E i b) (S b) = some (.normal, E (i + 1) b', S b') ∧ I (i + 1) b')
    (hstop : ∀ i c b r, I i b → xs[i]? = some c → step b c = some (.inr r) → F (E i b) (S b) = some (out r) ∧ (out r).1 ≠ .normal)
    (hend : ∀ b, I xs.length b → F (E xs.length b) (S b) = some (fin b) ∧ (fin b).1 ≠ .normal) {b : β} {r : Sum β γ} {k : Nat} (hI : I 0 b) (hp : pass step b xs = some r) (hk : xs.length < k) :
    evLoop F k (E 0 b) (S b) = some (ended fin out r) := loop_overI E S fin out step xs I hbody hstop hend xs 0 b r k hI rfl (Nat.zero_le _) hp hk
end Go.Ev
namespace Go.Ev
set_option linter.unusedVariables false
/-- A pure call answers, with all fuel from some on. -/
def CallP (M : Prog) (f : FuncId) (us : List V) (r : V) : Prop := ∃ N, ∀ n, N ≤ n → evPure M n f us = some r
/-- A call on the store. -/
def CallT (M : Prog) (f : FuncId) (us : List V) (σ : Store) (Q : V → Store → Prop) : Prop := ∃ r σ', (∃ N, ∀ n, N ≤ n → evShared M n f us σ = some (r, σ')) ∧ Q r σ'
def WpC (M : Prog) (f : FuncId) (us : List V) (K : V → Prop) : Prop := ∃ r, CallP M f us r ∧ K r
theorem CallP.det {M : Prog} {f : FuncId} {us : List V} {r r' : V} (h : CallP M f us r) (h' : CallP M f us r') : r = r' := by
  obtain ⟨N, h⟩ := h; obtain ⟨N', h'⟩ := h'
  have := (h (max N N') (Nat.le_max_left _ _)).symm.trans (h' (max N N') (Nat.le_max_right _ _))
  exact Option.some.inj this
theorem wpC_eq {M : Prog} {f : FuncId} {us : List V} {r : V} (h : CallP M f us r) (K : V → Prop) : WpC M f us K = K r :=
  propext ⟨fun ⟨r', h', k⟩ => h'.det h ▸ k, fun k => ⟨r, h, k⟩⟩
theorem CallP.nat {M : Prog} {f : FuncId} {g : List V → Option V} {us : List V} {r : V} (h : M.nat f = some g) (hg : g us = some r) : CallP M f us r :=
  ⟨1, fun n hn => by obtain ⟨n, rfl⟩ : ∃ k, n = k + 1 := ⟨n - 1, by omega⟩; unfold evPure; simp only [h]; exact hg⟩
theorem CallT.nat {M : Prog} {f : FuncId} {g : List V → Store → Option (V × Store)} {us : List V} {σ : Store} {r : V} {σ' : Store} {Q : V → Store → Prop} (h : M.nats f = some g) (hg : g us σ = some (r, σ')) (hQ : Q r σ') : CallT M f us σ Q :=
  ⟨r, σ', ⟨1, fun n hn => by obtain ⟨n, rfl⟩ : ∃ k, n = k + 1 := ⟨n - 1, by omega⟩; unfold evShared; simp only [h]; exact hg⟩, hQ⟩
theorem CallT.mono {M : Prog} {f : FuncId} {us : List V} {σ : Store} {Q Q' : V → Store → Prop} (h : CallT M f us σ Q) (hq : ∀ r σ', Q r σ' → Q' r σ') : CallT M f us σ Q' := by
  obtain ⟨r, σ', h, q⟩ := h; exact ⟨r, σ', h, hq _ _ q⟩
/-- A branch: its ways are not looked into before the condition is known. -/
def Br (t : Bool) (a b : Prop) : Prop := (t = true → a) ∧ (t = false → b)
/-- What is to be looked into even if it stays as it is (a law of congruence that changes nothing is passed over). -/
def mark {α : Sort _} (x : α) : α := x
@[simp] theorem mark_eq {α : Sort _} (x : α) : mark x = x := Classical.byContradiction fun h => h rfl
@[congr] theorem Br_congr {t t' : Bool} {a b : Prop} (h : mark t = t') : Br t a b = Br t' a b := by rw [← h]; rfl
@[simp] theorem Br_true (a b : Prop) : Br true a b = a := by simp [Br]
@[simp] theorem Br_false (a b : Prop) : Br false a b = b := by simp [Br]
theorem Br.intro {t : Bool} {a b : Prop} (h : t = true → a) (h' : t = false → b) : Br t a b := ⟨h, h'⟩
abbrev noCf : FuncId → List V → Option V := fun _ _ => none
def callW (M : Prog) (rd : Nat → Option Blk) (nb : Nat) (ev : MArg → Option V) (f : MArg) (args : List MArg) (K : V → Eff → Prop) : Prop :=
  match ev f, evs ev args with
  | some (.fn g first cap), some vs => match toPlains rd (first ++ vs ++ cap) with
    | some us => WpC M g us fun r => (plains (first ++ vs ++ cap) || r.fresh) = true ∧ K (imp nb r).1 (match (imp nb r).2 with | [] => .nop | ks => .news ks)
    | none => False
  | _, _ => False
def opW (M : Prog) (rd : Nat → Option Blk) (nb : Nat) (ev : MArg → Option V) (op : MOp) (K : V → Eff → Prop) : Prop :=
  match op with
  | .callp f args => callW M rd nb ev f args K
  | op => match evalOp noCf rd nb ev op with
    | some (v, f) => K v f
    | none => False
def chk1W (M : Prog) (rd : Nat → Option Blk) (e : Env) (c : Chk) : Prop :=
  let go : Prop := match e.look c.t with
    | some v => opW M (hideRd e c.hide rd) 0 (visE e (some c.vis)) c.op fun u ef => ef = .nop ∧ v.same u = true ∧ (match c.op with | .callp _ _ => (blocksOf v).isEmpty | _ => true) = true
    | none => False
  match c.guard with
  | none => go
  | some (t, want) => match (e.look t).bind (gate want) with
    | some b => b = true → go
    | none => False
def chksW (M : Prog) (rd : Nat → Option Blk) (e : Env) : List Chk → Prop
  | [] => True
  | c :: rest => chk1W M rd e c ∧ chksW M rd e rest
def runW (M : Prog) (o : MO) (e : Env) (σ : Store) (K : Env → Store → Prop) : Prop :=
  match o.op with
  | .calls f args => match visE e o.vis f, evs (visE e o.vis) args with
    | some (.fn g first cap), some vs => CallT M g (first ++ vs ++ cap) σ fun v σ' => σ.length ≤ σ'.length ∧ chksW M σ'.rd (e.put o.dst v) o.chk ∧ K (e.put o.dst v) σ'
    | _, _ => False
  | op => opW M (hideRd e o.hide σ.rd) σ.length (visE e o.vis) op fun v f => chksW M (apply σ f).rd (e.put o.dst v) o.chk ∧ K (e.put o.dst v) (apply σ f)
def stepW (M : Prog) (o : MO) (e : Env) (σ : Store) (K : Env → Store → Prop) : Prop :=
  match o.guard with
  | none => runW M o e σ K
  | some (t, want) => match (e.look t).bind (gate want) with
    | some b => Br b (runW M o e σ K) (K (e.put o.dst .und) σ)
    | none => False
def regW (M : Prog) : List MO → Env → Store → (Env → Store → Prop) → Prop
  | [], e, σ, K => K e σ
  | o :: os, e, σ, K => stepW M o e σ fun e' σ' => regW M os e' σ' K
abbrev Post := MExit → Env → Store → Prop
def loopW (M : Prog) (c : MCode) (e : Env) (σ : Store) (Q : Post) : Prop :=
  ∃ x e' σ', (∃ N K, ∀ n, N ≤ n → ∀ k, K ≤ k → evLoop (evCode (evPure M n) (evShared M n) n c) k e σ = some (x, e', σ')) ∧ Q x e' σ'
def thenW (Q : Post) (K : Env → Store → Prop) : Post
  | .normal, e, σ => K e σ
  | x, e, σ => Q x e σ
def blockW (id : Nat) (Q : Post) : Post
  | .exit j, e, σ => Q (if j = id then .normal else .exit j) e σ
  | x, e, σ => Q x e σ
def wp (M : Prog) : MCode → Env → Store → Post → Prop
  | .skip, e, σ, Q => Q .normal e σ
  | .reg ops keep, e, σ, Q => regW M ops e σ fun e' σ' => Q .normal (match keep with | some l => e'.keep l | none => e') σ'
  | .seq a b, e, σ, Q => wp M a e σ (thenW Q fun e' σ' => wp M b e' σ' Q)
  | .cond c a b, e, σ, Q => match e.arg c with
    | some (.bool t) => Br t (wp M a e σ Q) (wp M b e σ Q)
    | _ => False
  | .block id c, e, σ, Q => wp M c e σ (blockW id Q)
  | .loop c, e, σ, Q => loopW M c e σ Q
  | .exit id, e, σ, Q => Q (.exit id) e σ
  | .ret, e, σ, Q => Q .ret e σ
  | .bad, _, _, _ => False
/- The laws hold of the reader. -/
section
variable {M : Prog}
theorem callW_sound {rd : Nat → Option Blk} {nb : Nat} {ev : MArg → Option V} {f : MArg} {args : List MArg} {K : V → Eff → Prop} (h : callW M rd nb ev f args K) :
    ∃ v ef, (∃ N, ∀ n, N ≤ n → evalOp (evPure M n) rd nb ev (.callp f args) = some (v, ef)) ∧ K v ef := by
  unfold callW at h
  split at h
  · rename_i g first cap vs hf ha
    split at h
    · rename_i us hu
      obtain ⟨r, ⟨N, hr⟩, hp, hk⟩ := h
      refine ⟨_, _, ⟨N, fun n hn => ?_⟩, hk⟩
      simp only [evalOp, hf, ha, hu, hr n hn, hp, if_true]
      cases (imp nb r).snd <;> rfl
    · cases h
  · cases h
theorem opW_sound {rd : Nat → Option Blk} {nb : Nat} {ev : MArg → Option V} {op : MOp} {K : V → Eff → Prop} (h : opW M rd nb ev op K) :
    ∃ v ef, (∃ N, ∀ n, N ≤ n → evalOp (evPure M n) rd nb ev op = some (v, ef)) ∧ K v ef := by
  unfold opW at h
  split at h
  · exact callW_sound h
  · rename_i hop
    have hcf : ∀ cf, evalOp cf rd nb ev op = evalOp noCf rd nb ev op := by
      intro cf
      cases op <;> first | rfl | exact absurd rfl (hop _ _)
    split at h
    · rename_i v f he
      exact ⟨v, f, ⟨0, fun n _ => (hcf _).trans he⟩, h⟩
    · cases h
theorem chk1W_sound {rd : Nat → Option Blk} {e : Env} {c : Chk} (h : chk1W M rd e c) : ∃ N, ∀ n, N ≤ n → check1 (evPure M n) rd e c = true := by
  have go : (match e.look c.t with
    | some v => opW M (hideRd e c.hide rd) 0 (visE e (some c.vis)) c.op fun u ef => ef = .nop ∧ v.same u = true ∧ (match c.op with | .callp _ _ => (blocksOf v).isEmpty | _ => true) = true
    | none => False) → ∃ N, ∀ n, N ≤ n → (match e.look c.t, evalOp (evPure M n) (hideRd e c.hide rd) 0 (visE e (some c.vis)) c.op with
      | some v, some (u, .nop) => v.same u && (match c.op with | .callp _ _ => (blocksOf v).isEmpty | _ => true)
      | _, _ => false) = true := by
    intro h
    split at h
    · rename_i v hv
      obtain ⟨u, ef, ⟨N, hN⟩, rfl, h2, h3⟩ := opW_sound h
      refine ⟨N, fun n hn => ?_⟩
      simp only [hv, hN n hn, h2, Bool.true_and]
      exact h3
    · cases h
  unfold chk1W at h
  simp only at h
  unfold check1
  split at h
  · rename_i hg
    obtain ⟨N, hN⟩ := go h
    exact ⟨N, fun n hn => by simp only [hg]; exact hN n hn⟩
  · rename_i t want hg
    split at h
    · rename_i b hb
      cases b
      · exact ⟨0, fun n _ => by simp only [hg, hb]⟩
      · obtain ⟨N, hN⟩ := go (h rfl)
        exact ⟨N, fun n hn => by simp only [hg, hb]; exact hN n hn⟩
    · cases h
theorem chksW_sound {rd : Nat → Option Blk} {e : Env} : ∀ {l : List Chk}, chksW M rd e l → ∃ N, ∀ n, N ≤ n → checks (evPure M n) rd e l = true
  | [], _ => ⟨0, fun _ _ => rfl⟩
  | c :: l, h => by
    obtain ⟨N, hN⟩ := chk1W_sound h.1
    obtain ⟨N', hN'⟩ := chksW_sound h.2
    exact ⟨max N N', fun n hn => by simp only [checks, hN n (by omega), hN' n (by omega), Bool.and_self]⟩
theorem runW_sound {o : MO} {e : Env} {σ : Store} {K : Env → Store → Prop} (h : runW M o e σ K) :
    ∃ e' σ', (∃ N, ∀ n, N ≤ n → runMO (evPure M n) (evShared M n) o e σ = some (e', σ')) ∧ K e' σ' := by
  unfold runW at h
  unfold runMO
  split at h
  · rename_i f args hop
    split at h
    · rename_i g first cap vs hf ha
      obtain ⟨v, σ', ⟨N, hN⟩, hl, hc, hk⟩ := h
      obtain ⟨N', hN'⟩ := chksW_sound hc
      exact ⟨_, _, ⟨max N N', fun n hn => by simp only [hop, hf, ha, hN n (by omega), hl, hN' n (by omega), and_self, if_true]⟩, hk⟩
    · cases h
  · rename_i hop
    obtain ⟨v, f, ⟨N, hN⟩, hc, hk⟩ := opW_sound h
    obtain ⟨N', hN'⟩ := chksW_sound hc
    refine ⟨_, _, ⟨max N N', fun n hn => ?_⟩, hk⟩
    have h1 := hN n (by omega)
    have h2 := hN' n (by omega)
    split
    · exact absurd (by assumption) (hop _ _)
    · simp only [h1, h2, if_true]
theorem stepW_sound {o : MO} {e : Env} {σ : Store} {K : Env → Store → Prop} (h : stepW M o e σ K) :
    ∃ e' σ', (∃ N, ∀ n, N ≤ n → stepMO (evPure M n) (evShared M n) o e σ = some (e', σ')) ∧ K e' σ' := by
  unfold stepW at h
  unfold stepMO
  split at h
  · rename_i hg
    simp only [hg]
    exact runW_sound h
  · rename_i t want hg
    simp only [hg]
    split at h
    · rename_i b hb
      cases b
      · exact ⟨_, _, ⟨0, fun n _ => by simp only [hb]⟩, h.2 rfl⟩
      · obtain ⟨e', σ', ⟨N, hN⟩, hk⟩ := runW_sound (h.1 rfl)
        exact ⟨e', σ', ⟨N, fun n hn => by simp only [hb]; exact hN n hn⟩, hk⟩
    · cases h
theorem regW_sound : ∀ {ops : List MO} {e : Env} {σ : Store} {K : Env → Store → Prop}, regW M ops e σ K →
    ∃ e' σ', (∃ N, ∀ n, N ≤ n → evReg (evPure M n) (evShared M n) ops e σ = some (e', σ')) ∧ K e' σ'
  | [], e, σ, K, h => ⟨e, σ, ⟨0, fun _ _ => rfl⟩, h⟩
  | o :: os, e, σ, K, h => by
    obtain ⟨e1, σ1, ⟨N, hN⟩, h1⟩ := stepW_sound h
    obtain ⟨e2, σ2, ⟨N', hN'⟩, h2⟩ := regW_sound h1
    exact ⟨e2, σ2, ⟨max N N', fun n hn => by simp only [evReg, hN n (by omega)]; exact hN' n (by omega)⟩, h2⟩
theorem wp_sound : ∀ {c : MCode} {e : Env} {σ : Store} {Q : Post}, wp M c e σ Q →
    ∃ x e' σ', (∃ N, ∀ n, N ≤ n → evCode (evPure M n) (evShared M n) n c e σ = some (x, e', σ')) ∧ Q x e' σ'
  | .skip, e, σ, Q, h => ⟨_, _, _, ⟨0, fun _ _ => rfl⟩, h⟩
  | .reg ops keep, e, σ, Q, h => by
    obtain ⟨e', σ', ⟨N, hN⟩, hk⟩ := regW_sound (by unfold wp at h; exact h)
    exact ⟨_, _, _, ⟨N, fun n hn => by simp only [evCode, hN n hn]; cases keep <;> rfl⟩, hk⟩
  | .seq a b, e, σ, Q, h => by
    unfold wp at h
    obtain ⟨x, e', σ', ⟨N, hN⟩, hk⟩ := wp_sound h
    cases x
    · obtain ⟨x2, e2, σ2, ⟨N', hN'⟩, h2⟩ := wp_sound (Q := Q) hk
      exact ⟨x2, e2, σ2, ⟨max N N', fun n hn => by simp only [evCode, hN n (by omega)]; exact hN' n (by omega)⟩, h2⟩
    all_goals exact ⟨_, _, _, ⟨N, fun n hn => by simp only [evCode, hN n hn]⟩, hk⟩
  | .cond c a b, e, σ, Q, h => by
    unfold wp at h
    split at h
    · rename_i t ht
      cases t
      · obtain ⟨x, e', σ', ⟨N, hN⟩, hk⟩ := wp_sound (h.2 rfl)
        exact ⟨x, e', σ', ⟨N, fun n hn => by simp only [evCode, ht]; exact hN n hn⟩, hk⟩
      · obtain ⟨x, e', σ', ⟨N, hN⟩, hk⟩ := wp_sound (h.1 rfl)
        exact ⟨x, e', σ', ⟨N, fun n hn => by simp only [evCode, ht]; exact hN n hn⟩, hk⟩
    · cases h
  | .block id c, e, σ, Q, h => by
    unfold wp at h
    obtain ⟨x, e', σ', ⟨N, hN⟩, hk⟩ := wp_sound h
    cases x
    case exit j => exact ⟨_, _, _, ⟨N, fun n hn => by simp only [evCode, hN n hn]⟩, hk⟩
    all_goals exact ⟨_, _, _, ⟨N, fun n hn => by simp only [evCode, hN n hn]⟩, hk⟩
  | .loop c, e, σ, Q, h => by
    unfold wp at h
    obtain ⟨x, e', σ', ⟨N, K, hN⟩, hk⟩ := h
    exact ⟨x, e', σ', ⟨max N K, fun n hn => by unfold evCode; exact hN n (by omega) n (by omega)⟩, hk⟩
  | .exit id, e, σ, Q, h => ⟨_, _, _, ⟨0, fun _ _ => rfl⟩, h⟩
  | .ret, e, σ, Q, h => ⟨_, _, _, ⟨0, fun _ _ => rfl⟩, h⟩
  | .bad, e, σ, Q, h => by unfold wp at h; cases h
theorem loopW_mono {c : MCode} {e : Env} {σ : Store} {Q Q' : Post} (h : loopW M c e σ Q) (hq : ∀ x e' σ', Q x e' σ' → Q' x e' σ') : loopW M c e σ Q' := by
  obtain ⟨x, e', σ', h, q⟩ := h; exact ⟨x, e', σ', h, hq _ _ _ q⟩
theorem callW_mono {rd : Nat → Option Blk} {nb : Nat} {ev : MArg → Option V} {f : MArg} {args : List MArg} {K K' : V → Eff → Prop} (h : callW M rd nb ev f args K) (hk : ∀ v f, K v f → K' v f) : callW M rd nb ev f args K' := by
  unfold callW at h ⊢
  split at h
  · split at h
    · obtain ⟨r, h1, h2, h3⟩ := h
      exact ⟨r, h1, h2, hk _ _ h3⟩
    · cases h
  · cases h
theorem opW_mono {rd : Nat → Option Blk} {nb : Nat} {ev : MArg → Option V} {op : MOp} {K K' : V → Eff → Prop} (h : opW M rd nb ev op K) (hk : ∀ v f, K v f → K' v f) : opW M rd nb ev op K' := by
  cases op
  case callp f args => exact callW_mono h hk
  all_goals
    unfold opW at h ⊢
    simp only at h ⊢
    split at h
    · exact hk _ _ h
    · cases h
theorem runW_mono {o : MO} {e : Env} {σ : Store} {K K' : Env → Store → Prop} (h : runW M o e σ K) (hk : ∀ e σ, K e σ → K' e σ) : runW M o e σ K' := by
  unfold runW at h ⊢
  cases hop : o.op
  case calls f args =>
    simp only [hop] at h ⊢
    split at h
    · exact CallT.mono h fun r σ' ⟨a, b, c⟩ => ⟨a, b, hk _ _ c⟩
    · cases h
  all_goals
    simp only [hop] at h ⊢
    exact opW_mono h fun v f ⟨a, b⟩ => ⟨a, hk _ _ b⟩
theorem stepW_mono {o : MO} {e : Env} {σ : Store} {K K' : Env → Store → Prop} (h : stepW M o e σ K) (hk : ∀ e σ, K e σ → K' e σ) : stepW M o e σ K' := by
  unfold stepW at h ⊢
  cases hg : o.guard with
  | none => simp only [hg] at h ⊢; exact runW_mono h hk
  | some p =>
    obtain ⟨t, want⟩ := p
    simp only [hg] at h ⊢
    split at h
    · exact ⟨fun t => runW_mono (h.1 t) hk, fun t => hk _ _ (h.2 t)⟩
    · cases h
theorem regW_mono : ∀ {ops : List MO} {e : Env} {σ : Store} {K K' : Env → Store → Prop}, regW M ops e σ K → (∀ e σ, K e σ → K' e σ) → regW M ops e σ K'
  | [], _, _, _, _, h, hk => hk _ _ h
  | o :: os, _, _, _, _, h, hk => stepW_mono h fun _ _ h => regW_mono h hk
theorem wp_mono : ∀ {c : MCode} {e : Env} {σ : Store} {Q Q' : Post}, wp M c e σ Q → (∀ x e' σ', Q x e' σ' → Q' x e' σ') → wp M c e σ Q'
  | .skip, e, σ, Q, Q', h, hq => hq _ _ _ h
  | .reg ops keep, e, σ, Q, Q', h, hq => regW_mono (by unfold wp at h; exact h) fun _ _ h => hq _ _ _ h
  | .seq a b, e, σ, Q, Q', h, hq => wp_mono (c := a) (by unfold wp at h; exact h) fun x e' σ' h => by
    cases x
    · exact wp_mono (c := b) h hq
    all_goals exact hq _ _ _ h
  | .cond c a b, e, σ, Q, Q', h, hq => by
    unfold wp at h ⊢
    split at h
    · exact ⟨fun t => wp_mono (h.1 t) hq, fun t => wp_mono (h.2 t) hq⟩
    · cases h
  | .block id c, e, σ, Q, Q', h, hq => wp_mono (c := c) (by unfold wp at h; exact h) fun x e' σ' h => by
    cases x <;> exact hq _ _ _ h
  | .loop c, e, σ, Q, Q', h, hq => loopW_mono (by unfold wp at h; exact h) hq
  | .exit id, e, σ, Q, Q', h, hq => hq _ _ _ h
  | .ret, e, σ, Q, Q', h, hq => hq _ _ _ h
  | .bad, e, σ, Q, Q', h, hq => by unfold wp at h; cases h
theorem loopW_of {c c' : MCode} {e : Env} {σ : Store} {Q : Post} (hc : c = c') (h : wp M c' e σ (thenW Q fun e' σ' => loopW M c e' σ' Q)) : loopW M c e σ Q := by
  subst hc
  obtain ⟨x, e', σ', ⟨N, hN⟩, hk⟩ := wp_sound h
  cases x
  · obtain ⟨x2, e2, σ2, ⟨N', K', hN'⟩, h2⟩ := hk
    refine ⟨x2, e2, σ2, ⟨max N N', K' + 1, fun n hn k hk => ?_⟩, h2⟩
    obtain ⟨k, rfl⟩ : ∃ j, k = j + 1 := ⟨k - 1, by omega⟩
    simp only [evLoop, hN n (by omega)]
    exact hN' n (by omega) k (by omega)
  all_goals
    refine ⟨_, _, _, ⟨N, 1, fun n hn k hk => ?_⟩, hk⟩
    obtain ⟨k, rfl⟩ : ∃ j, k = j + 1 := ⟨k - 1, by omega⟩
    simp only [evLoop, hN n hn]
def isDone : MExit → Prop
  | .exit _ => False
  | _ => True
/-- What is returned. -/
def ret (rs : List (MRes × Nat)) (r : V) (e : Env) (σ : Store) : Prop := (match evRes σ.rd e rs with
  | some vs => export_ σ (vs.zip (rs.map (·.2)))
  | none => none) = some r
def retP (rs : List (MRes × Nat)) (r : V) : Post := fun x e σ => isDone x ∧ ret rs r e σ
@[simp] theorem retP_ret (rs : List (MRes × Nat)) (r : V) (e : Env) (σ : Store) : retP rs r .ret e σ = ret rs r e σ := by simp [retP, isDone]
@[simp] theorem retP_normal (rs : List (MRes × Nat)) (r : V) (e : Env) (σ : Store) : retP rs r .normal e σ = ret rs r e σ := by simp [retP, isDone]
@[simp] theorem retP_exit (rs : List (MRes × Nat)) (r : V) (j : Nat) (e : Env) (σ : Store) : retP rs r (.exit j) e σ = False := by simp [retP, isDone]
def retQ (rs : List (MRes × Nat)) (Q : V → Store → Prop) (e : Env) (σ : Store) : Prop := match evRes σ.rd e rs with
  | some vs => vs.length = rs.length ∧ Q (one vs) σ
  | none => False
def retS (rs : List (MRes × Nat)) (Q : V → Store → Prop) : Post := fun x e σ => isDone x ∧ retQ rs Q e σ
@[simp] theorem retS_ret (rs : List (MRes × Nat)) (Q : V → Store → Prop) (e : Env) (σ : Store) : retS rs Q .ret e σ = retQ rs Q e σ := by simp [retS, isDone]
@[simp] theorem retS_normal (rs : List (MRes × Nat)) (Q : V → Store → Prop) (e : Env) (σ : Store) : retS rs Q .normal e σ = retQ rs Q e σ := by simp [retS, isDone]
@[simp] theorem retS_exit (rs : List (MRes × Nat)) (Q : V → Store → Prop) (j : Nat) (e : Env) (σ : Store) : retS rs Q (.exit j) e σ = False := by simp [retS, isDone]
theorem CallP.of {f : FuncId} {m : MFun} {us : List V} {r : V} (hn : M.nat f = none) (hf : M.fn f = some m) (h : wp M m.body (params us) [] (retP m.results r)) : CallP M f us r := by
  obtain ⟨x, e', σ', ⟨N, hN⟩, hd, hr⟩ := wp_sound h
  unfold ret at hr
  refine ⟨N + 2, fun n hn' => ?_⟩
  obtain ⟨n, rfl⟩ : ∃ j, n = j + 2 := ⟨n - 2, by omega⟩
  split at hr
  · rename_i vs hv
    exact ev_pure hn hf (hN n (by omega)) (by intro j e; subst e; exact hd) hv hr
  · cases hr
theorem CallT.of {f : FuncId} {m : MFun} {us : List V} {σ : Store} {Q : V → Store → Prop} (hn : M.nats f = none) (hf : M.fn f = some m) (h : wp M m.body (params us) σ (retS m.results Q)) : CallT M f us σ Q := by
  obtain ⟨x, e', σ', ⟨N, hN⟩, hd, hr⟩ := wp_sound h
  unfold retQ at hr
  split at hr
  · rename_i vs hv
    refine ⟨one vs, σ', ⟨N + 2, fun n hn' => ?_⟩, hr.2⟩
    obtain ⟨n, rfl⟩ : ∃ j, n = j + 2 := ⟨n - 2, by omega⟩
    exact ev_shared hn hf (hN n (by omega)) (by intro j e; subst e; exact hd) hv hr.1
  · cases hr
end
theorem drop_cons {α : Type} {l r : List α} {x : α} {i : Nat} (h : l.drop i = x :: r) : l[i]? = some x ∧ l.drop (i + 1) = r ∧ i < l.length := by
  have h0 : l[i]? = some x := by have := congrArg (·[0]?) h; simpa using this
  refine ⟨h0, by rw [← List.drop_drop, h]; rfl, (List.getElem?_eq_some_iff.1 h0).1⟩
theorem drop_nil {α : Type} {l : List α} {i : Nat} (h : l.drop i = []) (hi : i ≤ l.length) : i = l.length := by
  have := congrArg List.length h; simp at this; omega
theorem wrap_nat' {n : Nat} (h : n < 4611686018427387904) : IntKind.i64.wrap ((n : Int) + 1) = (n : Int) + 1 := by
  rw [wrap_succ h]; rfl
/-- A loop over a list: 'I' holds at each round; 'Q' is what is to hold behind the loop. -/
theorem loop_inv {M : Prog} {c c' : MCode} {α : Type} (hc : c = c') (l : List α) (hl : l.length < 4611686018427387904) (I : Nat → Env → Store → Prop) (Q : Post)
    (hend : ∀ e σ, I l.length e σ → wp M c' e σ (thenW Q fun _ _ => False))
    (hstep : ∀ i x r e σ, I i e σ → l.drop i = x :: r → (h : i < l.length) → l[i] = x → l.drop (i + 1) = r → IntKind.i64.wrap ((i : Int) + 1) = (i : Int) + 1 →
      wp M c' e σ (thenW Q fun e' σ' => I (i + 1) e' σ')) :
    ∀ e σ, I 0 e σ → loopW M c e σ Q := by
  have main : ∀ (r : List α) (i : Nat), l.drop i = r → i ≤ l.length → ∀ e σ, I i e σ → loopW M c e σ Q := by
    intro r
    induction r with
    | nil =>
      intro i hd hi e σ h
      have := drop_nil hd hi
      subst this
      exact loopW_of hc (wp_mono (hend e σ h) fun y e σ h => by cases y <;> first | exact h.elim | exact h)
    | cons x r ih =>
      intro i hd hi e σ h
      obtain ⟨hx, hd', hlt⟩ := drop_cons hd
      obtain ⟨hx1, hx2⟩ := List.getElem?_eq_some_iff.1 hx
      refine loopW_of hc (wp_mono (hstep i x r e σ h hd hlt hx2 hd' (wrap_nat' (by omega))) fun y e σ h => ?_)
      cases y
      · exact ih (i + 1) hd' hlt e σ h
      all_goals exact h
  exact fun e σ h => main l 0 rfl (Nat.zero_le _) e σ h
/-- A list that grows: nothing yet, or a row in the store. -/
def Grown (sz : Nat) (rows : List (List V)) (v : V) (σ : Store) : Prop := (v = .nils ∧ rows = []) ∨ ∃ b, v = .ref b rows.length ∧ b < σ.length ∧ σ[b]? = some (some (.arr sz rows))
end Go.Ev
