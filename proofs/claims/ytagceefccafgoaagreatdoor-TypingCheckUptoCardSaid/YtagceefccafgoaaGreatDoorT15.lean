/- The laws of the reader as rows of simp: what is left to run is a list. No condition. -/
import Derived.Test.YtagceefccafgoaaGreatDoorT14
set_option linter.all false
namespace Go.Ev
set_option linter.unusedVariables false
attribute [simp] evalOp params Env.look Env.keep Env.arg hidden checks lenOf evBin intBin strBin evUn evRes export_ exps owns one toPlain V.plain gate V.cells? evs toPlains imp imps V.fresh plains bne elems bnd bounds V.isStr splice Store.rd fillBuild fillRow ret retQ isDone deep V.deepBy deepBys blocksOf blockOf V.same sames samess V.flat flats flatss
@[simp] theorem okSz_nil (n : Nat) : okSz n [] = true := rfl
@[simp] theorem okSz_cons (n : Nat) (c : List V) (l : List (List V)) : okSz n (c :: l) = (c.length == n) := rfl
@[simp] theorem beqInt (a b : Int) : (a == b) = decide (a = b) := by rw [Bool.eq_iff_iff]; simp
@[simp] theorem beqNat (a b : Nat) : (a == b) = decide (a = b) := by rw [Bool.eq_iff_iff]; simp
@[simp] theorem visE_none (e : Env) (a : MArg) : visE e none a = e.arg a := rfl
@[simp] theorem visE_t (e : Env) (l : List Nat) (n : Nat) : visE e (some l) (.t n) = if l.contains n then e.look n else none := rfl
@[simp] theorem visE_c (e : Env) (l : List Nat) (v : V) : visE e (some l) (.c v) = some v := rfl
@[simp] theorem hideRd_nil (e : Env) (rd : Nat → Option Blk) : hideRd e [] rd = rd := rfl
@[simp] theorem hideRd_cons (e : Env) (t : Nat) (l : List Nat) (rd : Nat → Option Blk) (b : Nat) : hideRd e (t :: l) rd b = if hidden e (t :: l) b then none else rd b := rfl
@[simp] theorem put_some (e : Env) (d : Nat) (v : V) : Env.put e (some d) v = (d, v) :: e := rfl
@[simp] theorem put_none (e : Env) (v : V) : Env.put e none v = e := rfl
@[simp] theorem thenW_normal (Q : Post) (K : Env → Store → Prop) (e : Env) (σ : Store) : thenW Q K .normal e σ = K e σ := rfl
@[simp] theorem thenW_ret (Q : Post) (K : Env → Store → Prop) (e : Env) (σ : Store) : thenW Q K .ret e σ = Q .ret e σ := rfl
@[simp] theorem thenW_exit (Q : Post) (K : Env → Store → Prop) (j : Nat) (e : Env) (σ : Store) : thenW Q K (.exit j) e σ = Q (.exit j) e σ := rfl
/-- What is left to run. -/
inductive Fr where
  | code (c : MCode)
  | block (id : Nat)
section
variable (M : Prog)
def stkW : List Fr → Post → Post
  | [], Q => Q
  | .code c :: k, Q => thenW (stkW k Q) fun e σ => wp M c e σ (stkW k Q)
  | .block id :: k, Q => blockW id (stkW k Q)
def go (k : List Fr) (Q : Post) (e : Env) (σ : Store) : Prop := stkW M k Q .normal e σ
def esc (k : List Fr) (Q : Post) (x : MExit) (e : Env) (σ : Store) : Prop := stkW M k Q x e σ
def opsW (os : List MO) (l : List Nat) (k : List Fr) (Q : Post) (e : Env) (σ : Store) : Prop := regW M os e σ fun e' σ' => go M k Q (e'.keep l) σ'
def condK (r : Option V) (a b : MCode) (k : List Fr) (Q : Post) (e : Env) (σ : Store) : Prop := match r with
  | some (.bool t) => Br t (go M (.code a :: k) Q e σ) (go M (.code b :: k) Q e σ)
  | _ => False
def loopK (c : MCode) (k : List Fr) (Q : Post) (e : Env) (σ : Store) : Prop := loopW M c e σ (stkW M k Q)
def opK (r : Option (V × Eff)) (d : Option Nat) (chk : List Chk) (os : List MO) (l : List Nat) (k : List Fr) (Q : Post) (e : Env) (σ : Store) : Prop := match r with
  | some (v, f) => chksW M (apply σ f).rd (e.put d v) chk ∧ opsW M os l k Q (e.put d v) (apply σ f)
  | none => False
def guardK (r : Option Bool) (o : MO) (os : List MO) (l : List Nat) (k : List Fr) (Q : Post) (e : Env) (σ : Store) : Prop := match r with
  | some b => Br b (opsW M (o :: os) l k Q e σ) (opsW M os l k Q (e.put o.dst .und) σ)
  | none => False
def callK (g : FuncId) (us : List V) (pl : Bool) (d : Option Nat) (chk : List Chk) (os : List MO) (l : List Nat) (k : List Fr) (Q : Post) (e : Env) (σ : Store) : Prop :=
  ∃ r, CallP M g us r ∧ (pl || r.fresh) = true ∧ chksW M (Store.rd (σ ++ (imp σ.length r).2.map some)) (e.put d (imp σ.length r).1) chk ∧ opsW M os l k Q (e.put d (imp σ.length r).1) (σ ++ (imp σ.length r).2.map some)
def callK1 (g : FuncId) (us : Option (List V)) (pl : Bool) (d : Option Nat) (chk : List Chk) (os : List MO) (l : List Nat) (k : List Fr) (Q : Post) (e : Env) (σ : Store) : Prop := match us with
  | some us => callK M g us pl d chk os l k Q e σ
  | none => False
def callK0 (f : Option V) (vs : Option (List V)) (rd : Nat → Option Blk) (d : Option Nat) (chk : List Chk) (os : List MO) (l : List Nat) (k : List Fr) (Q : Post) (e : Env) (σ : Store) : Prop := match f, vs with
  | some (.fn g first cap), some vs => callK1 M g (toPlains rd (first ++ vs ++ cap)) (plains (first ++ vs ++ cap)) d chk os l k Q e σ
  | _, _ => False
def sharedK (g : FuncId) (us : List V) (d : Option Nat) (chk : List Chk) (os : List MO) (l : List Nat) (k : List Fr) (Q : Post) (e : Env) (σ : Store) : Prop :=
  CallT M g us σ fun v σ' => σ.length ≤ σ'.length ∧ chksW M σ'.rd (e.put d v) chk ∧ opsW M os l k Q (e.put d v) σ'
def sharedK0 (f : Option V) (vs : Option (List V)) (d : Option Nat) (chk : List Chk) (os : List MO) (l : List Nat) (k : List Fr) (Q : Post) (e : Env) (σ : Store) : Prop := match f, vs with
  | some (.fn g first cap), some vs => sharedK M g (first ++ vs ++ cap) d chk os l k Q e σ
  | _, _ => False
end
section
variable {M : Prog} {k : List Fr} {Q : Post} {e : Env} {σ : Store}
@[simp] theorem go_nil : go M [] Q e σ = Q .normal e σ := rfl
@[simp] theorem go_block (id : Nat) : go M (.block id :: k) Q e σ = go M k Q e σ := rfl
@[simp] theorem go_skip : go M (.code .skip :: k) Q e σ = go M k Q e σ := rfl
@[simp] theorem go_reg (os : List MO) (l : List Nat) : go M (.code (.reg os (some l)) :: k) Q e σ = opsW M os l k Q e σ := rfl
@[simp] theorem go_seq (a b : MCode) : go M (.code (.seq a b) :: k) Q e σ = go M (.code a :: .code b :: k) Q e σ := rfl
@[simp] theorem go_cond (c : MArg) (a b : MCode) : go M (.code (.cond c a b) :: k) Q e σ = condK M (e.arg c) a b k Q e σ := rfl
@[simp] theorem go_blk (id : Nat) (c : MCode) : go M (.code (.block id c) :: k) Q e σ = go M (.code c :: .block id :: k) Q e σ := rfl
@[simp] theorem go_loop (c : MCode) : go M (.code (.loop c) :: k) Q e σ = loopK M c k Q e σ := rfl
@[simp] theorem go_exit (id : Nat) : go M (.code (.exit id) :: k) Q e σ = esc M k Q (.exit id) e σ := rfl
@[simp] theorem go_ret : go M (.code .ret :: k) Q e σ = esc M k Q .ret e σ := rfl
@[simp] theorem esc_nil (x : MExit) : esc M [] Q x e σ = Q x e σ := rfl
@[simp] theorem esc_code_ret (c : MCode) : esc M (.code c :: k) Q .ret e σ = esc M k Q .ret e σ := rfl
@[simp] theorem esc_code_exit (c : MCode) (j : Nat) : esc M (.code c :: k) Q (.exit j) e σ = esc M k Q (.exit j) e σ := rfl
@[simp] theorem esc_block_ret (id : Nat) : esc M (.block id :: k) Q .ret e σ = esc M k Q .ret e σ := rfl
@[simp] theorem esc_block_exit (id j : Nat) : esc M (.block id :: k) Q (.exit j) e σ = if j = id then go M k Q e σ else esc M k Q (.exit j) e σ := by
  unfold esc go
  simp only [stkW, blockW]
  split <;> rfl
@[simp] theorem condK_true (a b : MCode) : condK M (some (.bool true)) a b k Q e σ = go M (.code a :: k) Q e σ := by simp [condK]
@[simp] theorem condK_false (a b : MCode) : condK M (some (.bool false)) a b k Q e σ = go M (.code b :: k) Q e σ := by simp [condK]
theorem condK_of {t : Bool} {a b : MCode} (h : t = true → go M (.code a :: k) Q e σ) (h' : t = false → go M (.code b :: k) Q e σ) : condK M (some (.bool t)) a b k Q e σ := ⟨h, h'⟩
theorem loopK_of {c : MCode} {P : Post} (h : loopW M c e σ P) (hq : ∀ x e σ, P x e σ → esc M k Q x e σ) : loopK M c k Q e σ := loopW_mono h hq
@[simp] theorem opsW_nil (l : List Nat) : opsW M [] l k Q e σ = go M k Q (e.keep l) σ := rfl
@[simp] theorem opK_nop (v : V) (d : Option Nat) (os : List MO) (l : List Nat) : opK M (some (v, .nop)) d [] os l k Q e σ = opsW M os l k Q (e.put d v) σ := by simp [opK, chksW, apply]
@[simp] theorem opK_news (v : V) (ks : List Blk) (d : Option Nat) (os : List MO) (l : List Nat) : opK M (some (v, .news ks)) d [] os l k Q e σ = opsW M os l k Q (e.put d v) (σ ++ ks.map some) := by simp [opK, chksW, apply]
@[simp] theorem opK_set (v : V) (b : Nat) (x : Blk) (d : Option Nat) (os : List MO) (l : List Nat) : opK M (some (v, .set b x)) d [] os l k Q e σ = opsW M os l k Q (e.put d v) (σ.set b (some x)) := by simp [opK, chksW, apply]
@[simp] theorem opK_chk (v : V) (f : Eff) (d : Option Nat) (c : Chk) (cs : List Chk) (os : List MO) (l : List Nat) : opK M (some (v, f)) d (c :: cs) os l k Q e σ = (chksW M (apply σ f).rd (e.put d v) (c :: cs) ∧ opsW M os l k Q (e.put d v) (apply σ f)) := rfl
attribute [simp] apply
@[simp] theorem guardK_true (o : MO) (os : List MO) (l : List Nat) : guardK M (some true) o os l k Q e σ = opsW M (o :: os) l k Q e σ := by simp [guardK]
@[simp] theorem guardK_false (o : MO) (os : List MO) (l : List Nat) : guardK M (some false) o os l k Q e σ = opsW M os l k Q (e.put o.dst .und) σ := by simp [guardK]
theorem guardK_of {t : Bool} {o : MO} {os : List MO} {l : List Nat} (h : t = true → opsW M (o :: os) l k Q e σ) (h' : t = false → opsW M os l k Q (e.put o.dst .und) σ) : guardK M (some t) o os l k Q e σ := ⟨h, h'⟩
@[simp] theorem opsW_guard (d : Option Nat) (t : Nat) (w : Bool) (op : MOp) (vis : Option (List Nat)) (hide : List Nat) (chk : List Chk) (os : List MO) (l : List Nat) :
    opsW M (⟨d, some (t, w), op, vis, hide, chk⟩ :: os) l k Q e σ = guardK M ((e.look t).bind (gate w)) ⟨d, none, op, vis, hide, chk⟩ os l k Q e σ := by
  unfold opsW guardK regW stepW
  simp only
  cases (e.look t).bind (gate w) <;> rfl
@[simp] theorem callK1_some (g : FuncId) (us : List V) (pl : Bool) (d : Option Nat) (chk : List Chk) (os : List MO) (l : List Nat) : callK1 M g (some us) pl d chk os l k Q e σ = callK M g us pl d chk os l k Q e σ := rfl
@[simp] theorem callK0_some (g : FuncId) (first cap vs : List V) (rd : Nat → Option Blk) (d : Option Nat) (chk : List Chk) (os : List MO) (l : List Nat) :
    callK0 M (some (.fn g first cap)) (some vs) rd d chk os l k Q e σ = callK1 M g (toPlains rd (first ++ vs ++ cap)) (plains (first ++ vs ++ cap)) d chk os l k Q e σ := rfl
@[simp] theorem sharedK0_some (g : FuncId) (first cap vs : List V) (d : Option Nat) (chk : List Chk) (os : List MO) (l : List Nat) :
    sharedK0 M (some (.fn g first cap)) (some vs) d chk os l k Q e σ = sharedK M g (first ++ vs ++ cap) d chk os l k Q e σ := rfl
theorem callK_eq {g : FuncId} {us : List V} {r : V} (h : CallP M g us r) (pl : Bool) (d : Option Nat) (os : List MO) (l : List Nat) : callK M g us pl d [] os l k Q e σ = ((pl || r.fresh) = true ∧ opsW M os l k Q (e.put d (imp σ.length r).1) (σ ++ (imp σ.length r).2.map some)) :=
  propext ⟨fun ⟨r', h', a, _, b⟩ => by cases h'.det h; exact ⟨a, b⟩, fun ⟨a, b⟩ => ⟨r, h, a, trivial, b⟩⟩
theorem callK_chk {g : FuncId} {us : List V} {r : V} (h : CallP M g us r) (pl : Bool) (d : Option Nat) (chk : List Chk) (os : List MO) (l : List Nat) : callK M g us pl d chk os l k Q e σ = ((pl || r.fresh) = true ∧ chksW M (Store.rd (σ ++ (imp σ.length r).2.map some)) (e.put d (imp σ.length r).1) chk ∧ opsW M os l k Q (e.put d (imp σ.length r).1) (σ ++ (imp σ.length r).2.map some)) :=
  propext ⟨fun ⟨r', h', a, c, b⟩ => by cases h'.det h; exact ⟨a, c, b⟩, fun ⟨a, c, b⟩ => ⟨r, h, a, c, b⟩⟩
theorem sharedK_of {g : FuncId} {us : List V} {d : Option Nat} {chk : List Chk} {os : List MO} {l : List Nat} {P : V → Store → Prop} (h : CallT M g us σ P) (hq : ∀ v σ', P v σ' → σ.length ≤ σ'.length ∧ chksW M σ'.rd (e.put d v) chk ∧ opsW M os l k Q (e.put d v) σ') : sharedK M g us d chk os l k Q e σ := h.mono hq
@[simp] theorem chksW_nil (rd : Nat → Option Blk) : chksW M rd e [] = True := rfl
@[simp] theorem chksW_cons (rd : Nat → Option Blk) (c : Chk) (l : List Chk) : chksW M rd e (c :: l) = (chk1W M rd e c ∧ chksW M rd e l) := rfl
attribute [simp] chk1W opW callW
@[simp] theorem opsW_callp (d : Option Nat) (f : MArg) (args : List MArg) (vis : Option (List Nat)) (hide : List Nat) (chk : List Chk) (os : List MO) (l : List Nat) :
    opsW M (⟨d, none, .callp f args, vis, hide, chk⟩ :: os) l k Q e σ = callK0 M (visE e vis f) (evs (visE e vis) args) (hideRd e hide σ.rd) d chk os l k Q e σ := by
  have hap : ∀ bs : List Blk, apply σ (match bs with | [] => .nop | ks => .news ks) = σ ++ bs.map some := by
    intro bs; cases bs <;> simp [apply]
  simp only [opsW, callK0, regW, stepW, runW, opW, callW]
  generalize visE e vis f = a
  generalize evs (visE e vis) args = b
  rcases a with _ | a
  · rfl
  rcases b with _ | b
  · cases a <;> rfl
  cases a
  case fn g first cap =>
    simp only [callK1]
    generalize toPlains (hideRd e hide σ.rd) (first ++ b ++ cap) = c
    rcases c with _ | c
    · rfl
    simp only [WpC, callK, opsW]
    refine congrArg _ (funext fun r => ?_)
    rw [← hap (imp σ.length r).2]
    rfl
  all_goals rfl
@[simp] theorem opsW_calls (d : Option Nat) (f : MArg) (args : List MArg) (vis : Option (List Nat)) (hide : List Nat) (chk : List Chk) (os : List MO) (l : List Nat) :
    opsW M (⟨d, none, .calls f args, vis, hide, chk⟩ :: os) l k Q e σ = sharedK0 M (visE e vis f) (evs (visE e vis) args) d chk os l k Q e σ := rfl
@[simp] theorem opsW_mv (d : Option Nat) (x1 : MArg) (vis : Option (List Nat)) (hide : List Nat) (chk : List Chk) (os : List MO) (l : List Nat) : opsW M (⟨d, none, .mv x1, vis, hide, chk⟩ :: os) l k Q e σ = opK M (evalOp noCf (hideRd e hide σ.rd) σ.length (visE e vis) (.mv x1)) d chk os l k Q e σ := by
  simp only [opsW, opK, regW, stepW, runW, opW]
  generalize evalOp noCf (hideRd e hide σ.rd) σ.length (visE e vis) _ = r
  rcases r with _ | ⟨v, f⟩ <;> rfl
@[simp] theorem opsW_pick (d : Option Nat) (c1 a1 b1 : MArg) (vis : Option (List Nat)) (hide : List Nat) (chk : List Chk) (os : List MO) (l : List Nat) : opsW M (⟨d, none, .pick c1 a1 b1, vis, hide, chk⟩ :: os) l k Q e σ = opK M (evalOp noCf (hideRd e hide σ.rd) σ.length (visE e vis) (.pick c1 a1 b1)) d chk os l k Q e σ := by
  simp only [opsW, opK, regW, stepW, runW, opW]
  generalize evalOp noCf (hideRd e hide σ.rd) σ.length (visE e vis) _ = r
  rcases r with _ | ⟨v, f⟩ <;> rfl
@[simp] theorem opsW_new (d : Option Nat) (zero1 : List V) (vis : Option (List Nat)) (hide : List Nat) (chk : List Chk) (os : List MO) (l : List Nat) : opsW M (⟨d, none, .new zero1, vis, hide, chk⟩ :: os) l k Q e σ = opK M (evalOp noCf (hideRd e hide σ.rd) σ.length (visE e vis) (.new zero1)) d chk os l k Q e σ := by
  simp only [opsW, opK, regW, stepW, runW, opW]
  generalize evalOp noCf (hideRd e hide σ.rd) σ.length (visE e vis) _ = r
  rcases r with _ | ⟨v, f⟩ <;> rfl
@[simp] theorem opsW_box (d : Option Nat) (x1 : MArg) (vis : Option (List Nat)) (hide : List Nat) (chk : List Chk) (os : List MO) (l : List Nat) : opsW M (⟨d, none, .box x1, vis, hide, chk⟩ :: os) l k Q e σ = opK M (evalOp noCf (hideRd e hide σ.rd) σ.length (visE e vis) (.box x1)) d chk os l k Q e σ := by
  simp only [opsW, opK, regW, stepW, runW, opW]
  generalize evalOp noCf (hideRd e hide σ.rd) σ.length (visE e vis) _ = r
  rcases r with _ | ⟨v, f⟩ <;> rfl
@[simp] theorem opsW_build (d : Option Nat) (zero1 : List V) (ps1 : List (Nat × Nat × MArg)) (vis : Option (List Nat)) (hide : List Nat) (chk : List Chk) (os : List MO) (l : List Nat) : opsW M (⟨d, none, .build zero1 ps1, vis, hide, chk⟩ :: os) l k Q e σ = opK M (evalOp noCf (hideRd e hide σ.rd) σ.length (visE e vis) (.build zero1 ps1)) d chk os l k Q e σ := by
  simp only [opsW, opK, regW, stepW, runW, opW]
  generalize evalOp noCf (hideRd e hide σ.rd) σ.length (visE e vis) _ = r
  rcases r with _ | ⟨v, f⟩ <;> rfl
@[simp] theorem opsW_bsl (d : Option Nat) (sz1 : Nat) (zero1 : List V) (len1 : Nat) (ps1 : List (Nat × MArg)) (vis : Option (List Nat)) (hide : List Nat) (chk : List Chk) (os : List MO) (l : List Nat) : opsW M (⟨d, none, .bsl sz1 zero1 len1 ps1, vis, hide, chk⟩ :: os) l k Q e σ = opK M (evalOp noCf (hideRd e hide σ.rd) σ.length (visE e vis) (.bsl sz1 zero1 len1 ps1)) d chk os l k Q e σ := by
  simp only [opsW, opK, regW, stepW, runW, opW]
  generalize evalOp noCf (hideRd e hide σ.rd) σ.length (visE e vis) _ = r
  rcases r with _ | ⟨v, f⟩ <;> rfl
@[simp] theorem opsW_ld (d : Option Nat) (ag1 : Bool) (sz1 : Nat) (a1 : MArg) (vis : Option (List Nat)) (hide : List Nat) (chk : List Chk) (os : List MO) (l : List Nat) : opsW M (⟨d, none, .ld ag1 sz1 a1, vis, hide, chk⟩ :: os) l k Q e σ = opK M (evalOp noCf (hideRd e hide σ.rd) σ.length (visE e vis) (.ld ag1 sz1 a1)) d chk os l k Q e σ := by
  simp only [opsW, opK, regW, stepW, runW, opW]
  generalize evalOp noCf (hideRd e hide σ.rd) σ.length (visE e vis) _ = r
  rcases r with _ | ⟨v, f⟩ <;> rfl
@[simp] theorem opsW_st (d : Option Nat) (sz1 : Nat) (a1 x1 : MArg) (vis : Option (List Nat)) (hide : List Nat) (chk : List Chk) (os : List MO) (l : List Nat) : opsW M (⟨d, none, .st sz1 a1 x1, vis, hide, chk⟩ :: os) l k Q e σ = opK M (evalOp noCf (hideRd e hide σ.rd) σ.length (visE e vis) (.st sz1 a1 x1)) d chk os l k Q e σ := by
  simp only [opsW, opK, regW, stepW, runW, opW]
  generalize evalOp noCf (hideRd e hide σ.rd) σ.length (visE e vis) _ = r
  rcases r with _ | ⟨v, f⟩ <;> rfl
@[simp] theorem opsW_nilc (d : Option Nat) (x1 : MArg) (vis : Option (List Nat)) (hide : List Nat) (chk : List Chk) (os : List MO) (l : List Nat) : opsW M (⟨d, none, .nilc x1, vis, hide, chk⟩ :: os) l k Q e σ = opK M (evalOp noCf (hideRd e hide σ.rd) σ.length (visE e vis) (.nilc x1)) d chk os l k Q e σ := by
  simp only [opsW, opK, regW, stepW, runW, opW]
  generalize evalOp noCf (hideRd e hide σ.rd) σ.length (visE e vis) _ = r
  rcases r with _ | ⟨v, f⟩ <;> rfl
@[simp] theorem opsW_bin (d : Option Nat) (op1 : BinOp) (ek1 : EqK) (x1 y1 : MArg) (vis : Option (List Nat)) (hide : List Nat) (chk : List Chk) (os : List MO) (l : List Nat) : opsW M (⟨d, none, .bin op1 ek1 x1 y1, vis, hide, chk⟩ :: os) l k Q e σ = opK M (evalOp noCf (hideRd e hide σ.rd) σ.length (visE e vis) (.bin op1 ek1 x1 y1)) d chk os l k Q e σ := by
  simp only [opsW, opK, regW, stepW, runW, opW]
  generalize evalOp noCf (hideRd e hide σ.rd) σ.length (visE e vis) _ = r
  rcases r with _ | ⟨v, f⟩ <;> rfl
@[simp] theorem opsW_un (d : Option Nat) (op1 : UnOp) (x1 : MArg) (vis : Option (List Nat)) (hide : List Nat) (chk : List Chk) (os : List MO) (l : List Nat) : opsW M (⟨d, none, .un op1 x1, vis, hide, chk⟩ :: os) l k Q e σ = opK M (evalOp noCf (hideRd e hide σ.rd) σ.length (visE e vis) (.un op1 x1)) d chk os l k Q e σ := by
  simp only [opsW, opK, regW, stepW, runW, opW]
  generalize evalOp noCf (hideRd e hide σ.rd) σ.length (visE e vis) _ = r
  rcases r with _ | ⟨v, f⟩ <;> rfl
@[simp] theorem opsW_cvi (d : Option Nat) (k1 : IntKind) (x1 : MArg) (vis : Option (List Nat)) (hide : List Nat) (chk : List Chk) (os : List MO) (l : List Nat) : opsW M (⟨d, none, .cvi k1 x1, vis, hide, chk⟩ :: os) l k Q e σ = opK M (evalOp noCf (hideRd e hide σ.rd) σ.length (visE e vis) (.cvi k1 x1)) d chk os l k Q e σ := by
  simp only [opsW, opK, regW, stepW, runW, opW]
  generalize evalOp noCf (hideRd e hide σ.rd) σ.length (visE e vis) _ = r
  rcases r with _ | ⟨v, f⟩ <;> rfl
@[simp] theorem opsW_cvs (d : Option Nat) (x1 : MArg) (vis : Option (List Nat)) (hide : List Nat) (chk : List Chk) (os : List MO) (l : List Nat) : opsW M (⟨d, none, .cvs x1, vis, hide, chk⟩ :: os) l k Q e σ = opK M (evalOp noCf (hideRd e hide σ.rd) σ.length (visE e vis) (.cvs x1)) d chk os l k Q e σ := by
  simp only [opsW, opK, regW, stepW, runW, opW]
  generalize evalOp noCf (hideRd e hide σ.rd) σ.length (visE e vis) _ = r
  rcases r with _ | ⟨v, f⟩ <;> rfl
@[simp] theorem opsW_cvb (d : Option Nat) (x1 : MArg) (vis : Option (List Nat)) (hide : List Nat) (chk : List Chk) (os : List MO) (l : List Nat) : opsW M (⟨d, none, .cvb x1, vis, hide, chk⟩ :: os) l k Q e σ = opK M (evalOp noCf (hideRd e hide σ.rd) σ.length (visE e vis) (.cvb x1)) d chk os l k Q e σ := by
  simp only [opsW, opK, regW, stepW, runW, opW]
  generalize evalOp noCf (hideRd e hide σ.rd) σ.length (visE e vis) _ = r
  rcases r with _ | ⟨v, f⟩ <;> rfl
@[simp] theorem opsW_cvy (d : Option Nat) (x1 : MArg) (vis : Option (List Nat)) (hide : List Nat) (chk : List Chk) (os : List MO) (l : List Nat) : opsW M (⟨d, none, .cvy x1, vis, hide, chk⟩ :: os) l k Q e σ = opK M (evalOp noCf (hideRd e hide σ.rd) σ.length (visE e vis) (.cvy x1)) d chk os l k Q e σ := by
  simp only [opsW, opK, regW, stepW, runW, opW]
  generalize evalOp noCf (hideRd e hide σ.rd) σ.length (visE e vis) _ = r
  rcases r with _ | ⟨v, f⟩ <;> rfl
@[simp] theorem opsW_sls (d : Option Nat) (x1 : MArg) (lo1 hi1 : Option MArg) (vis : Option (List Nat)) (hide : List Nat) (chk : List Chk) (os : List MO) (l : List Nat) : opsW M (⟨d, none, .sls x1 lo1 hi1, vis, hide, chk⟩ :: os) l k Q e σ = opK M (evalOp noCf (hideRd e hide σ.rd) σ.length (visE e vis) (.sls x1 lo1 hi1)) d chk os l k Q e σ := by
  simp only [opsW, opK, regW, stepW, runW, opW]
  generalize evalOp noCf (hideRd e hide σ.rd) σ.length (visE e vis) _ = r
  rcases r with _ | ⟨v, f⟩ <;> rfl
@[simp] theorem opsW_sll (d : Option Nat) (sz1 : Nat) (x1 : MArg) (lo1 hi1 mx1 : Option MArg) (vis : Option (List Nat)) (hide : List Nat) (chk : List Chk) (os : List MO) (l : List Nat) : opsW M (⟨d, none, .sll sz1 x1 lo1 hi1 mx1, vis, hide, chk⟩ :: os) l k Q e σ = opK M (evalOp noCf (hideRd e hide σ.rd) σ.length (visE e vis) (.sll sz1 x1 lo1 hi1 mx1)) d chk os l k Q e σ := by
  simp only [opsW, opK, regW, stepW, runW, opW]
  generalize evalOp noCf (hideRd e hide σ.rd) σ.length (visE e vis) _ = r
  rcases r with _ | ⟨v, f⟩ <;> rfl
@[simp] theorem opsW_fa (d : Option Nat) (off1 : Nat) (x1 : MArg) (vis : Option (List Nat)) (hide : List Nat) (chk : List Chk) (os : List MO) (l : List Nat) : opsW M (⟨d, none, .fa off1 x1, vis, hide, chk⟩ :: os) l k Q e σ = opK M (evalOp noCf (hideRd e hide σ.rd) σ.length (visE e vis) (.fa off1 x1)) d chk os l k Q e σ := by
  simp only [opsW, opK, regW, stepW, runW, opW]
  generalize evalOp noCf (hideRd e hide σ.rd) σ.length (visE e vis) _ = r
  rcases r with _ | ⟨v, f⟩ <;> rfl
@[simp] theorem opsW_fld (d : Option Nat) (ag1 : Bool) (sz1 off1 : Nat) (x1 : MArg) (vis : Option (List Nat)) (hide : List Nat) (chk : List Chk) (os : List MO) (l : List Nat) : opsW M (⟨d, none, .fld ag1 sz1 off1 x1, vis, hide, chk⟩ :: os) l k Q e σ = opK M (evalOp noCf (hideRd e hide σ.rd) σ.length (visE e vis) (.fld ag1 sz1 off1 x1)) d chk os l k Q e σ := by
  simp only [opsW, opK, regW, stepW, runW, opW]
  generalize evalOp noCf (hideRd e hide σ.rd) σ.length (visE e vis) _ = r
  rcases r with _ | ⟨v, f⟩ <;> rfl
@[simp] theorem opsW_ia (d : Option Nat) (sz1 : Nat) (x1 i1 : MArg) (vis : Option (List Nat)) (hide : List Nat) (chk : List Chk) (os : List MO) (l : List Nat) : opsW M (⟨d, none, .ia sz1 x1 i1, vis, hide, chk⟩ :: os) l k Q e σ = opK M (evalOp noCf (hideRd e hide σ.rd) σ.length (visE e vis) (.ia sz1 x1 i1)) d chk os l k Q e σ := by
  simp only [opsW, opK, regW, stepW, runW, opW]
  generalize evalOp noCf (hideRd e hide σ.rd) σ.length (visE e vis) _ = r
  rcases r with _ | ⟨v, f⟩ <;> rfl
@[simp] theorem opsW_iaa (d : Option Nat) (len1 sz1 : Nat) (x1 i1 : MArg) (vis : Option (List Nat)) (hide : List Nat) (chk : List Chk) (os : List MO) (l : List Nat) : opsW M (⟨d, none, .iaa len1 sz1 x1 i1, vis, hide, chk⟩ :: os) l k Q e σ = opK M (evalOp noCf (hideRd e hide σ.rd) σ.length (visE e vis) (.iaa len1 sz1 x1 i1)) d chk os l k Q e σ := by
  simp only [opsW, opK, regW, stepW, runW, opW]
  generalize evalOp noCf (hideRd e hide σ.rd) σ.length (visE e vis) _ = r
  rcases r with _ | ⟨v, f⟩ <;> rfl
@[simp] theorem opsW_ixs (d : Option Nat) (x1 i1 : MArg) (vis : Option (List Nat)) (hide : List Nat) (chk : List Chk) (os : List MO) (l : List Nat) : opsW M (⟨d, none, .ixs x1 i1, vis, hide, chk⟩ :: os) l k Q e σ = opK M (evalOp noCf (hideRd e hide σ.rd) σ.length (visE e vis) (.ixs x1 i1)) d chk os l k Q e σ := by
  simp only [opsW, opK, regW, stepW, runW, opW]
  generalize evalOp noCf (hideRd e hide σ.rd) σ.length (visE e vis) _ = r
  rcases r with _ | ⟨v, f⟩ <;> rfl
@[simp] theorem opsW_ext (d : Option Nat) (x1 : MArg) (i1 : Nat) (vis : Option (List Nat)) (hide : List Nat) (chk : List Chk) (os : List MO) (l : List Nat) : opsW M (⟨d, none, .ext x1 i1, vis, hide, chk⟩ :: os) l k Q e σ = opK M (evalOp noCf (hideRd e hide σ.rd) σ.length (visE e vis) (.ext x1 i1)) d chk os l k Q e σ := by
  simp only [opsW, opK, regW, stepW, runW, opW]
  generalize evalOp noCf (hideRd e hide σ.rd) σ.length (visE e vis) _ = r
  rcases r with _ | ⟨v, f⟩ <;> rfl
@[simp] theorem opsW_len (d : Option Nat) (k1 : Nat) (x1 : MArg) (vis : Option (List Nat)) (hide : List Nat) (chk : List Chk) (os : List MO) (l : List Nat) : opsW M (⟨d, none, .len k1 x1, vis, hide, chk⟩ :: os) l k Q e σ = opK M (evalOp noCf (hideRd e hide σ.rd) σ.length (visE e vis) (.len k1 x1)) d chk os l k Q e σ := by
  simp only [opsW, opK, regW, stepW, runW, opW]
  generalize evalOp noCf (hideRd e hide σ.rd) σ.length (visE e vis) _ = r
  rcases r with _ | ⟨v, f⟩ <;> rfl
@[simp] theorem opsW_app (d : Option Nat) (sz1 bytes1 : Nat) (str1 : Bool) (s1 x1 : MArg) (vis : Option (List Nat)) (hide : List Nat) (chk : List Chk) (os : List MO) (l : List Nat) : opsW M (⟨d, none, .app sz1 bytes1 str1 s1 x1, vis, hide, chk⟩ :: os) l k Q e σ = opK M (evalOp noCf (hideRd e hide σ.rd) σ.length (visE e vis) (.app sz1 bytes1 str1 s1 x1)) d chk os l k Q e σ := by
  simp only [opsW, opK, regW, stepW, runW, opW]
  generalize evalOp noCf (hideRd e hide σ.rd) σ.length (visE e vis) _ = r
  rcases r with _ | ⟨v, f⟩ <;> rfl
@[simp] theorem opsW_mk (d : Option Nat) (sz1 bytes1 : Nat) (zero1 : List V) (len1 cap1 : MArg) (vis : Option (List Nat)) (hide : List Nat) (chk : List Chk) (os : List MO) (l : List Nat) : opsW M (⟨d, none, .mk sz1 bytes1 zero1 len1 cap1, vis, hide, chk⟩ :: os) l k Q e σ = opK M (evalOp noCf (hideRd e hide σ.rd) σ.length (visE e vis) (.mk sz1 bytes1 zero1 len1 cap1)) d chk os l k Q e σ := by
  simp only [opsW, opK, regW, stepW, runW, opW]
  generalize evalOp noCf (hideRd e hide σ.rd) σ.length (visE e vis) _ = r
  rcases r with _ | ⟨v, f⟩ <;> rfl
@[simp] theorem opsW_mmap (d : Option Nat)  (vis : Option (List Nat)) (hide : List Nat) (chk : List Chk) (os : List MO) (l : List Nat) : opsW M (⟨d, none, .mmap, vis, hide, chk⟩ :: os) l k Q e σ = opK M (evalOp noCf (hideRd e hide σ.rd) σ.length (visE e vis) (.mmap)) d chk os l k Q e σ := by
  simp only [opsW, opK, regW, stepW, runW, opW]
  generalize evalOp noCf (hideRd e hide σ.rd) σ.length (visE e vis) _ = r
  rcases r with _ | ⟨v, f⟩ <;> rfl
@[simp] theorem opsW_mlook (d : Option Nat) (kk1 : Nat) (zero1 : V) (ok1 : Bool) (m1 k1 : MArg) (vis : Option (List Nat)) (hide : List Nat) (chk : List Chk) (os : List MO) (l : List Nat) : opsW M (⟨d, none, .mlook kk1 zero1 ok1 m1 k1, vis, hide, chk⟩ :: os) l k Q e σ = opK M (evalOp noCf (hideRd e hide σ.rd) σ.length (visE e vis) (.mlook kk1 zero1 ok1 m1 k1)) d chk os l k Q e σ := by
  simp only [opsW, opK, regW, stepW, runW, opW]
  generalize evalOp noCf (hideRd e hide σ.rd) σ.length (visE e vis) _ = r
  rcases r with _ | ⟨v, f⟩ <;> rfl
@[simp] theorem opsW_mupd (d : Option Nat) (kk1 : Nat) (m1 k1 x1 : MArg) (vis : Option (List Nat)) (hide : List Nat) (chk : List Chk) (os : List MO) (l : List Nat) : opsW M (⟨d, none, .mupd kk1 m1 k1 x1, vis, hide, chk⟩ :: os) l k Q e σ = opK M (evalOp noCf (hideRd e hide σ.rd) σ.length (visE e vis) (.mupd kk1 m1 k1 x1)) d chk os l k Q e σ := by
  simp only [opsW, opK, regW, stepW, runW, opW]
  generalize evalOp noCf (hideRd e hide σ.rd) σ.length (visE e vis) _ = r
  rcases r with _ | ⟨v, f⟩ <;> rfl
@[simp] theorem opsW_ment (d : Option Nat) (kk1 : Nat) (zero1 : V) (m1 k1 : MArg) (vis : Option (List Nat)) (hide : List Nat) (chk : List Chk) (os : List MO) (l : List Nat) : opsW M (⟨d, none, .ment kk1 zero1 m1 k1, vis, hide, chk⟩ :: os) l k Q e σ = opK M (evalOp noCf (hideRd e hide σ.rd) σ.length (visE e vis) (.ment kk1 zero1 m1 k1)) d chk os l k Q e σ := by
  simp only [opsW, opK, regW, stepW, runW, opW]
  generalize evalOp noCf (hideRd e hide σ.rd) σ.length (visE e vis) _ = r
  rcases r with _ | ⟨v, f⟩ <;> rfl
@[simp] theorem opsW_mst (d : Option Nat) (m1 s1 x1 : MArg) (vis : Option (List Nat)) (hide : List Nat) (chk : List Chk) (os : List MO) (l : List Nat) : opsW M (⟨d, none, .mst m1 s1 x1, vis, hide, chk⟩ :: os) l k Q e σ = opK M (evalOp noCf (hideRd e hide σ.rd) σ.length (visE e vis) (.mst m1 s1 x1)) d chk os l k Q e σ := by
  simp only [opsW, opK, regW, stepW, runW, opW]
  generalize evalOp noCf (hideRd e hide σ.rd) σ.length (visE e vis) _ = r
  rcases r with _ | ⟨v, f⟩ <;> rfl
@[simp] theorem opsW_mfn (d : Option Nat) (f1 : FuncId) (first1 cap1 : List MArg) (vis : Option (List Nat)) (hide : List Nat) (chk : List Chk) (os : List MO) (l : List Nat) : opsW M (⟨d, none, .mfn f1 first1 cap1, vis, hide, chk⟩ :: os) l k Q e σ = opK M (evalOp noCf (hideRd e hide σ.rd) σ.length (visE e vis) (.mfn f1 first1 cap1)) d chk os l k Q e σ := by
  simp only [opsW, opK, regW, stepW, runW, opW]
  generalize evalOp noCf (hideRd e hide σ.rd) σ.length (visE e vis) _ = r
  rcases r with _ | ⟨v, f⟩ <;> rfl
@[simp] theorem opsW_mn (d : Option Nat) (xs1 : List MArg) (vis : Option (List Nat)) (hide : List Nat) (chk : List Chk) (os : List MO) (l : List Nat) : opsW M (⟨d, none, .mn xs1, vis, hide, chk⟩ :: os) l k Q e σ = opK M (evalOp noCf (hideRd e hide σ.rd) σ.length (visE e vis) (.mn xs1)) d chk os l k Q e σ := by
  simp only [opsW, opK, regW, stepW, runW, opW]
  generalize evalOp noCf (hideRd e hide σ.rd) σ.length (visE e vis) _ = r
  rcases r with _ | ⟨v, f⟩ <;> rfl
@[simp] theorem opsW_mx (d : Option Nat) (xs1 : List MArg) (vis : Option (List Nat)) (hide : List Nat) (chk : List Chk) (os : List MO) (l : List Nat) : opsW M (⟨d, none, .mx xs1, vis, hide, chk⟩ :: os) l k Q e σ = opK M (evalOp noCf (hideRd e hide σ.rd) σ.length (visE e vis) (.mx xs1)) d chk os l k Q e σ := by
  simp only [opsW, opK, regW, stepW, runW, opW]
  generalize evalOp noCf (hideRd e hide σ.rd) σ.length (visE e vis) _ = r
  rcases r with _ | ⟨v, f⟩ <;> rfl
@[simp] theorem opsW_bad (d : Option Nat)  (vis : Option (List Nat)) (hide : List Nat) (chk : List Chk) (os : List MO) (l : List Nat) : opsW M (⟨d, none, .bad, vis, hide, chk⟩ :: os) l k Q e σ = opK M (evalOp noCf (hideRd e hide σ.rd) σ.length (visE e vis) (.bad)) d chk os l k Q e σ := by
  simp only [opsW, opK, regW, stepW, runW, opW]
  generalize evalOp noCf (hideRd e hide σ.rd) σ.length (visE e vis) _ = r
  rcases r with _ | ⟨v, f⟩ <;> rfl
theorem CallP.go {f : FuncId} {m : MFun} {us : List V} {r : V} (hn : M.nat f = none) (hf : M.fn f = some m) (h : Ev.go M [.code m.body] (retP m.results r) (params us) []) : CallP M f us r := CallP.of hn hf h
theorem CallT.go {f : FuncId} {m : MFun} {us : List V} {σ : Store} {Q : V → Store → Prop} (hn : M.nats f = none) (hf : M.fn f = some m) (h : Ev.go M [.code m.body] (retS m.results Q) (params us) σ) : CallT M f us σ Q := CallT.of hn hf h
end
/-- A loop over a list: 'I' holds at each round; 'Q' is what is to hold behind the loop. -/
theorem loop_go {M : Prog} {c c' : MCode} {α : Type} (hc : c = c') (l : List α) (hl : l.length < 4611686018427387904) (I : Nat → Env → Store → Prop) (Q : Post)
    (hend : ∀ e σ, I l.length e σ → go M [.code c'] (thenW Q fun _ _ => False) e σ)
    (hstep : ∀ i x r e σ, I i e σ → l.drop i = x :: r → (h : i < l.length) → l[i] = x → l.drop (i + 1) = r → IntKind.i64.wrap ((i : Int) + 1) = (i : Int) + 1 →
      go M [.code c'] (thenW Q fun e' σ' => I (i + 1) e' σ') e σ)
    {e : Env} {σ : Store} (h0 : I 0 e σ) : loopW M c e σ Q := loop_inv hc l hl I Q hend hstep e σ h0
/-- A region by itself: what follows is not looked at. -/
theorem opsW_cut {M : Prog} {os : List MO} {l : List Nat} {k : List Fr} {Q : Post} {e e' : Env} {σ σ' : Store} (h1 : ∀ k Q, go M k Q e' σ' → opsW M os l k Q e σ) (h2 : go M k Q e' σ') : opsW M os l k Q e σ := h1 k Q h2
theorem loopW_go {M : Prog} {c c' : MCode} {e : Env} {σ : Store} {Q : Post} (hc : c = c') (h : go M [.code c'] (thenW Q fun e' σ' => loopW M c e' σ' Q) e σ) : loopW M c e σ Q := by
  refine loopW_of hc (wp_mono (Q := thenW Q fun e' σ' => loopW M c e' σ' Q) h fun x e σ h => h)
/-- A loop that comes nearer to its end at each round. -/
theorem loop_meas {M : Prog} {c c' : MCode} (hc : c = c') (I : Nat → Env → Store → Prop) (Q : Post)
    (hstep : ∀ m e σ, I m e σ → go M [.code c'] (thenW Q fun e' σ' => ∃ m', m' < m ∧ I m' e' σ') e σ) : ∀ m e σ, I m e σ → loopW M c e σ Q := by
  intro m
  induction m using Nat.strongRecOn with
  | ind m ih =>
    intro e σ h
    refine loopW_of hc (wp_mono (Q := thenW Q fun e' σ' => ∃ m', m' < m ∧ I m' e' σ') (hstep m e σ h) fun x e σ h => ?_)
    cases x
    · obtain ⟨m', hm, h'⟩ := h
      exact ih m' hm e σ h'
    all_goals exact h
theorem bd57 {n : Nat} (h : n < 17179869184) : (n + 1000) * 57 ≤ 1099511627776 := by omega
theorem bd2 {n : Nat} (h : n < 17179869184) : (n + 1000) * 2 ≤ 1099511627776 := by omega
theorem bd17 {n : Nat} (h : n < 17179869184) : (n + 1000) * 17 ≤ 1099511627776 := by omega
theorem bd25 {n : Nat} (h : n < 17179869184) : (n + 1000) * 25 ≤ 1099511627776 := by omega
theorem grown_new {sz : Nat} {rows : List (List V)} (σ : Store) (x : Option Blk) : Grown sz rows (.ref (σ.length + 1) rows.length) (σ ++ [x, some (.arr sz rows)]) := .inr ⟨_, rfl, by simp, by simp⟩
theorem grown_first {sz : Nat} {rows : List (List V)} (σ : Store) : Grown sz rows (.ref σ.length rows.length) (σ ++ [some (.arr sz rows)]) := .inr ⟨_, rfl, by simp, by simp⟩
theorem grown_set {sz b : Nat} {rows : List (List V)} {σ : Store} (x : List (Option Blk)) (hb : b < σ.length) : Grown sz rows (.ref b rows.length) ((σ ++ x).set b (some (.arr sz rows))) := .inr ⟨_, rfl, by simp; omega, by rw [List.getElem?_set]; simp; omega⟩
theorem grown_more {sz : Nat} {rows : List (List V)} {v : V} {σ : Store} (x : List (Option Blk)) (h : Grown sz rows v σ) : Grown sz rows v (σ ++ x) := by
  rcases h with h | ⟨b, h1, h2, h3⟩
  · exact .inl h
  · exact .inr ⟨b, h1, by simp; omega, by rw [List.getElem?_append_left h2]; exact h3⟩
theorem get_more {σ : Store} {b : Nat} {y : Option Blk} (h : σ[b]? = some y) (x : List (Option Blk)) : (σ ++ x)[b]? = some y := by
  rw [List.getElem?_append_left (List.getElem?_eq_some_iff.1 h).1]; exact h
theorem wrap_int {z : Int} (h : -9223372036854775808 ≤ z) (h' : z < 9223372036854775808) : IntKind.i64.wrap z = z := by
  unfold IntKind.wrap
  simp [IntKind.bits, IntKind.signed]
  omega
end Go.Ev
