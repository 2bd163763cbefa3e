/- Calls of the program, as the reader says of them, for plain answers. Condition: the table of powers of ten is as the program lays it. Format of the program, walked: it answers as Format of ref23. Condition: the declarations are of bulk at most 1048576. -/
import Derived.Test.YtagceefccafgoaaGreatDoorT33
import Derived.Test.YtagceefccafgoaaGreatDoorT42
import Derived.Test.YtagceefccafgoaaGreatDoorT43
set_option linter.all false
namespace Go.Ev.Ty
open Go.Ev Go.Proofs Go.RowKit
set_option linter.unusedVariables false
set_option linter.unusedSectionVars false
variable [Consts]
/-- What is known of the variables gives the table of powers of ten. -/
def PowTab : Prop := ∀ w, Consts.om w → Lib.TabIs Tryz.prog w "internal/strconv.uint64pow10" .u64 Lib.pow10Tab
theorem pg_ok [GF] (ht : PowTab) (hg : CfAt Tryz.prog 26 GF.g) : ProgOk Tryz.prog pg where
  fn := funs_ok
  nat := by
    intro f g h
    simp only [pg] at h
    split at h <;> first | (cases h; done) | skip
    · cases h; exact nat_concat
    · cases h; exact nat_join
    · cases h; exact nat_itoa ht
    · cases h; exact nat_count
    · cases h; exact nat_index
    · cases h; exact hg
  nats := by
    intro f g h
    simp only [pg] at h
    cases h
  mixed := by kernel_rfl
/-- An answer that holds no memory. -/
def Flat : V → Prop
  | .int .. => True
  | .bool _ => True
  | .str _ => True
  | _ => False
theorem call_of [GF] (hM : ProgOk Tryz.prog pg) {f : FuncId} {us : List V} {r : V} (h : CallP pg f us r) (w : World) (S : SSet) (vals : List Value) (hom : Consts.om w) (hn : Consts.n0 ≤ w.heap.size) (hS : ∀ r o, S r o → r < w.heap.size) (hr : Reps w S noL us vals) :
    CallOk Tryz.prog f vals.toArray w fun x w' => ∃ S', Below w.heap.size w w' ∧ (∀ r o, S r o → S' r o) ∧ (∀ r o, S' r o → S r o ∨ w.heap.size ≤ r) ∧ (∀ r o, S' r o → r < w'.heap.size) ∧ ExpRep w.heap.size w' S' r x := by
  obtain ⟨N, h⟩ := h
  exact (sound hM N).1 f us r (h N (Nat.le_refl _)) w S vals hom hn hS hr
theorem calls_of [GF] (hM : ProgOk Tryz.prog pg) {f : FuncId} {us : List V} {r : V} (h : CallP pg f us r) (w : World) (S : SSet) (vals : List Value) (hom : Consts.om w) (hn : Consts.n0 ≤ w.heap.size) (hS : ∀ r o, S r o → r < w.heap.size) (hr : Reps w S noL us vals)
    {fn : Func} (hfn : Tryz.prog.funcs[f]? = some fn) (hb : fn.body.isSome = true) :
    Calls Tryz.prog f vals.toArray w fun e w' => ∃ x, e = .returned x ∧ Below w.heap.size w w' ∧ ∃ S', ExpRep w.heap.size w' S' r x := by
  rcases call_of hM h w S vals hom hn hS hr with ⟨_, h⟩ | ⟨x, w', h, _⟩
  · exact h.mono fun e w' ⟨x, he, S', hb, _, _, _, hx⟩ => ⟨x, he, hb, S', hx⟩
  · exfalso
    unfold callFunc at h
    simp [hfn] at h
    split at h
    · simp at h
    · rename_i hn
      rw [Option.isSome_iff_exists] at hb
      obtain ⟨b, hb⟩ := hb
      simp [hb] at h
end Go.Ev.Ty
namespace Go.Ev.Ty
open Go.Ev Go.Proofs Go.RowKit
set_option linter.unusedVariables false
set_option linter.unusedSectionVars false
set_option maxHeartbeats 4000000
set_option maxRecDepth 100000
variable [Consts]
theorem bld_below {T e : TypeId} {B b : Nat} {bs : List Value} {W W' : World} (h : Lib.IsBuilder T e B b bs W) (hb : Below W.heap.size W W') : Lib.IsBuilder T e B b bs W' := by
  have key : ∀ p, Lib.BuilderAt T e B b p bs W → Lib.BuilderAt T e B b p bs W' := by
    intro p hp
    have hlt := hp.lt
    obtain ⟨hB, v, hbk, hown, hne⟩ := hp
    refine ⟨hB, v, by rw [hb.block b hlt]; exact hbk, hown.kept (row := none) ⟨hb.os, hb.tape, hb.output, hb.size, fun k hk _ => hb.block k hk⟩ ?_, hne⟩
    cases hv : v.ownBlock with
    | none => exact .inl rfl
    | some k => exact .inr (by simp)
  rcases h with h | h
  · exact .inl (key _ h)
  · exact .inr (key _ h)
theorem keeps_below {w w' : World} {S : SSet} (hS : ∀ r o, S r o → r < w.heap.size) (h : Below w.heap.size w w') : Keeps w S noL w' S noL :=
  ⟨fun r o s => h.cell (p := ⟨r, o, none⟩) (hS r o s), fun _ _ s => s, LExt.refl _⟩
/-- What Format adds up. -/
def accT : List D → ByteArray
  | [] => ⟨#[]⟩
  | d :: l => declT d ++ tNl ++ accT l
section
variable [GF] (hM : ProgOk Tryz.prog pg)
include hM
theorem fmt56 (l : List D) (hb : declsB l ≤ 1048576) (w : World) (S : SSet) (y : Value) (hom : Consts.om w) (hn : Consts.n0 ≤ w.heap.size) (hS : ∀ r o, S r o → r < w.heap.size) (hr : Rep w S noL (declsV l) y) :
    Calls Tryz.prog 56 #[y, .func (.func 57) #[] #[]] w fun e w' => e = .returned (.bool (l.any fun d => !isDecl d)) ∧ Below w.heap.size w w' := by
  have hlen := declsB_len l
  have h : CallP pg 56 [declsV l, .fn 57 [] []] _ := s56 57 (fun d => !isDecl d) l (fun x hx => s57 x _ (s58b hb hx)) (by omega)
  refine (calls_of hM h w S [y, .func (.func 57) #[] #[]] hom hn hS ?_ Tryz.func56 (by kernel_rfl)).mono ?_
  · simp only [Reps]
    exact ⟨_, _, rfl, hr, _, _, rfl, by simp only [Rep]; exact ⟨_, _, rfl, rfl, rfl⟩, rfl⟩
  · rintro e w' ⟨x, rfl, hbl, S', hx⟩
    simp only [ExpRep, Rep] at hx
    subst hx
    exact ⟨rfl, hbl⟩
theorem fmt60 (d : D) (l : List D) (hd : d ∈ l) (hv : isDecl d = true) (hb : declsB l ≤ 1048576) (w : World) (S : SSet) (y : Value) (hom : Consts.om w) (hn : Consts.n0 ≤ w.heap.size) (hS : ∀ r o, S r o → r < w.heap.size) (hr : Rep w S noL (.agg d.cells) y) :
    Calls Tryz.prog 60 #[y] w fun e w' => e = .returned (.string (declT d)) ∧ Below w.heap.size w w' := by
  have h : CallP pg 60 [.agg d.cells] _ := s60 d (isDecl_valid hv) (bulk_lens hb hd).2.2.2.2.2.2
  refine (calls_of hM h w S [y] hom hn hS ?_ Tryz.func60 (by kernel_rfl)).mono ?_
  · simp only [Reps]
    exact ⟨_, _, rfl, hr, rfl⟩
  · rintro e w' ⟨x, rfl, hbl, S', hx⟩
    simp only [ExpRep, Rep] at hx
    subst hx
    exact ⟨rfl, hbl⟩
theorem fmt61 (s : ByteArray) (hp : Pl s) (w : World) (hom : Consts.om w) (hn : Consts.n0 ≤ w.heap.size) :
    Calls Tryz.prog 61 #[.string s] w fun e w' => e = .returned (.tuple #[.string (if sizedErr s = 0 then s else ⟨#[]⟩), .int .i64 (sizedErr s)]) ∧ Below w.heap.size w w' := by
  refine (calls_of hM (s61 s hp) w (fun _ _ => False) [.string s] hom hn (fun _ _ h => h.elim) ?_ Tryz.func61 (by kernel_rfl)).mono ?_
  · simp only [Reps, Rep]
    exact ⟨_, _, rfl, rfl, rfl⟩
  · rintro e w' ⟨x, rfl, hbl, S', hx⟩
    simp only [ExpRep] at hx
    obtain ⟨xs, rfl, hx⟩ := hx
    simp only [Exps, Rep] at hx
    obtain ⟨_, _, e1, rfl, _, _, rfl, rfl, rfl⟩ := hx
    refine ⟨?_, hbl⟩
    congr 2
    exact Array.toList_inj.1 (by simpa using e1)
end
end Go.Ev.Ty
