/- The texts of valid declarations are plain; what Format and Valid of ref23 answer. No condition. What Format and Valid of ref23 answer. No condition. The program's own texts: the builder, Format and Valid. No condition. The program's own Format and Valid. No condition. What functions of typing answer: term. No condition. What functions of typing answer: fault. No condition. -/
import Derived.Test.YtagceefccafgoaaGreatDoorT29
import Derived.Test.YtagceefccafgoaaGreatDoorT31
import Derived.Test.YtagceefccafgoaaGreatDoorT32
set_option linter.all false
namespace Go.Ev.Ty
open Go.Ev
variable [GF]
set_option maxRecDepth 100000
set_option linter.unusedSimpArgs false
set_option linter.unusedVariables false
def Pl (s : ByteArray) : Prop := plainB s.data.toList = true
theorem plainB_append : ∀ a b : List UInt8, plainB (a ++ b) = (plainB a && plainB b)
  | [], b => by simp [plainB]
  | c :: a, b => by
    simp only [List.cons_append, plainB, plainB_append a b]
    split <;> simp
theorem Pl.append {a b : ByteArray} (ha : Pl a) (hb : Pl b) : Pl (a ++ b) := by
  unfold Pl at *
  rw [ByteArray.toList_data_append, plainB_append, ha, hb]; rfl
theorem nameB_plain : ∀ l : List UInt8, nameB l = true → plainB l = true
  | [], _ => rfl
  | c :: l, h => by
    simp only [nameB, Bool.and_eq_true] at h
    simp only [plainB]
    have hc : ¬ (c = 47 ∨ c = 34) := by
      rintro (rfl | rfl)
      · exact absurd h.1 (by decide)
      · exact absurd h.1 (by decide)
    rw [if_neg hc]
    exact nameB_plain l h.2
theorem Pl.name {s : ByteArray} (h : isName s = true) : Pl s := by
  unfold isName lexName at h
  simp only [Bool.and_eq_true] at h
  exact nameB_plain _ h.1.2
theorem digitsB_plain : ∀ (k n : Nat) (acc : List UInt8), plainB acc = true → plainB (digitsB k n acc) = true
  | 0, n, acc, h => h
  | k + 1, n, acc, h => by
    have hd : ∀ m : Nat, m < 10 → plainB ((48 + UInt8.ofNat m) :: acc) = true := by
      intro m hm
      simp only [plainB]
      have : m = 0 ∨ m = 1 ∨ m = 2 ∨ m = 3 ∨ m = 4 ∨ m = 5 ∨ m = 6 ∨ m = 7 ∨ m = 8 ∨ m = 9 := by omega
      have hc : ¬ ((48 + UInt8.ofNat m) = 47 ∨ (48 + UInt8.ofNat m) = 34) := by
        rcases this with rfl | rfl | rfl | rfl | rfl | rfl | rfl | rfl | rfl | rfl <;> decide
      rw [if_neg hc]; exact h
    simp only [digitsB]
    split
    · rename_i hn; exact hd n hn
    · exact digitsB_plain k (n / 10) _ (hd (n % 10) (Nat.mod_lt _ (by omega)))
theorem Pl.itoa (n : Int) : Pl (itoaT n) := by
  show plainB (digitsB 20 n.toNat []).toArray.toList = true
  simpa using digitsB_plain 20 n.toNat [] rfl
theorem Pl.empty : Pl ⟨#[]⟩ := rfl
theorem Pl.sep {sep : ByteArray} (hs : Pl sep) : ∀ {l : List ByteArray}, (∀ s, s ∈ l → Pl s) → Pl (sepT sep l)
  | [], _ => rfl
  | [x], h => h x (by simp)
  | x :: y :: l, h => by
    simp only [sepT]
    exact ((h x (by simp)).append hs).append (Pl.sep hs fun s hm => h s (List.mem_cons_of_mem _ hm))
theorem Pl.list {l : List ByteArray} (h : allN l = true) : Pl (listT l) := Pl.sep (by exact rfl) fun s hs => Pl.name (allN_mem h s hs)
theorem Pl.wrap (or : Bool) (op : Int) {s : ByteArray} (h : Pl s) : Pl (wrapT or op s) := by
  unfold wrapT
  split
  · exact (Pl.append (by exact rfl) h).append (by exact rfl)
  · exact h
theorem Pl.wt : ∀ (ws : List Int) {ss : List ByteArray}, (∀ s, s ∈ ss → Pl s) → ∀ s, s ∈ wtZ ws ss → Pl s
  | _, [], h, s, hs => by cases ‹List Int› <;> simp [wtZ] at hs
  | [], a :: ss, h, s, hs => by rw [wtZ_nil] at hs; exact h s hs
  | w :: ws, a :: ss, h, s, hs => by
    simp only [wtZ, List.mem_cons] at hs
    rcases hs with rfl | hs
    · exact ((h a (by simp)).append (by exact rfl)).append (Pl.itoa w)
    · exact Pl.wt ws (fun x hx => h x (List.mem_cons_of_mem _ hx)) s hs
theorem Pl.term : ∀ (n : Nat) (t : T), t.size ≤ n → isTerm t = true → Pl (termT t) := by
  intro n
  induction n with
  | zero => intro t h; have := t.size_pos; omega
  | succ n ih =>
    intro t hn ht
    obtain ⟨hk, _, hf⟩ := isTerm_parts ht
    have hsz := t.size_eq
    have kid : ∀ k, k ∈ t.kids → Pl (termT k) := fun k hkm => ih k (by have := sizes_mem hkm; omega) (isTerms_mem hk k hkm)
    have kids : ∀ s, s ∈ t.kids.map termT → Pl s := fun s hs => by obtain ⟨k, hk, rfl⟩ := List.mem_map.1 hs; exact kid k hk
    have kidw : ∀ or s, s ∈ t.kids.map (fun k => wrapT or k.op (termT k)) → Pl s := fun or s hs => by obtain ⟨k, hk, rfl⟩ := List.mem_map.1 hs; exact Pl.wrap _ _ (kid k hk)
    have hnm : t.op = 1 ∨ t.op = 6 ∨ t.op = 7 ∨ t.op = 8 → Pl t.name := fun h => by
      unfold formOk at hf
      rcases h with h | h | h | h <;> simp [h] at hf
      · exact Pl.name hf.1.1
      all_goals
        rcases hf.1.1 with h | h
        · exact Pl.name h
        · rw [h]; exact rfl
    rw [termT_eq]
    by_cases o3 : t.op = 3
    · rw [if_pos o3]; exact Pl.sep (by exact rfl) (kidw false)
    rw [if_neg o3]
    by_cases o4 : t.op = 4
    · rw [if_pos o4]; exact Pl.sep (by exact rfl) (kidw true)
    rw [if_neg o4]
    by_cases o5 : t.op = 5
    · rw [if_pos o5]
      refine (Pl.append (by exact rfl) ?_).append (by exact rfl)
      cases hl : t.kids.map termT with
      | nil => exact rfl
      | cons a l => exact kids a (by rw [hl]; simp)
    rw [if_neg o5]
    by_cases o6 : t.op = 6
    · rw [if_pos o6]; exact (Pl.append (by exact rfl) (hnm (by simp [o6]))).append (by exact rfl)
    rw [if_neg o6]
    by_cases o7 : t.op = 7
    · rw [if_pos o7]; exact (Pl.append (by exact rfl) (hnm (by simp [o7]))).append (by exact rfl)
    rw [if_neg o7]
    by_cases o8 : t.op = 8
    · rw [if_pos o8]; exact (Pl.append (by exact rfl) (hnm (by simp [o8]))).append (by exact rfl)
    rw [if_neg o8]
    by_cases o2 : t.op = 2
    · rw [if_pos o2]; exact (((Pl.itoa _).append (by exact rfl)).append (Pl.sep (by exact rfl) (Pl.wt _ kids))).append (by exact rfl)
    rw [if_neg o2]
    refine hnm ?_
    unfold formOk at hf
    by_cases o1 : t.op = 1
    · exact .inl o1
    · simp [o1, o2, o3, o4, o5, o6, o7, o8] at hf
theorem Pl.fault {f : FT} (h : isFault f = true) : Pl (faultT f) := by
  obtain ⟨h1, h2⟩ := isFault_sets h
  have l1 := Pl.list h1
  have l2 := Pl.list h2
  have hn : f.op = 4 ∨ f.op = 5 ∨ f.op = 6 → Pl f.name := fun ho => by
    unfold isFault at h
    rcases ho with o | o | o <;> simp [o] at h <;> exact Pl.name h.1.1.1
  unfold faultT setsT
  split
  · exact rfl
  split
  · exact ((Pl.append (by exact rfl) (Pl.itoa _)).append (by exact rfl)).append (Pl.itoa _)
  split
  · rename_i o; exact (Pl.append (by exact rfl) (hn (.inl o))).append (by exact rfl)
  split
  · rename_i o; exact (Pl.append (by exact rfl) (hn (.inr (.inl o)))).append (by exact rfl)
  split
  · rename_i o; exact hn (.inr (.inr o))
  split
  · split
    · exact rfl
    · exact (Pl.append (by exact rfl) l2).append (by exact rfl)
  · split
    · exact (Pl.append (by exact rfl) l1).append (by exact rfl)
    · exact (((((Pl.append (by exact rfl) l1).append (by exact rfl)).append (by exact rfl)).append (by exact rfl)).append l2).append (by exact rfl)
/-- A name that may be missing. -/
theorem Pl.decl {d : D} (h : isDecl d = true) : Pl (declT d) := by
  have v := isDecl_valid h
  have hnu : Pl d.name ∧ Pl d.use := by
    unfold isDecl at h
    by_cases hk : d.kind < 1 ∨ d.kind > 7
    · simp [hk] at h
    rw [if_neg hk] at h
    rw [v.faults] at h
    simp only [Bool.true_eq_false, if_false] at h
    unfold declRest at h
    cases e1 : bad1 (hasL (usesOf d.kind).data.toList 78) (hasL (usesOf d.kind).data.toList 76) (hasL (usesOf d.kind).data.toList 70) d
    case true => rw [e1] at h; simp at h
    cases e3 : bad3 (hasL (usesOf d.kind).data.toList 80) (hasL (usesOf d.kind).data.toList 85) d
    case true => rw [e1, e3] at h; simp at h
    constructor
    · unfold bad1 at e1
      simp only [Bool.or_eq_false_iff, Bool.and_eq_false_iff, Bool.not_eq_false'] at e1
      rcases e1.1.1.1.2 with h | h
      · rw [of_decide_eq_true h]; exact rfl
      · exact Pl.name h
    · unfold bad3 at e3
      split at e3
      · rename_i e; rw [e]; exact rfl
      · simp only [Bool.or_eq_false_iff, Bool.not_eq_false'] at e3
        exact Pl.name e3.2
  obtain ⟨hn, hu⟩ := hnu
  have hl := Pl.list v.names
  unfold declT
  split
  · exact (((Pl.append (by exact rfl) hn).append (by exact rfl)).append hl).append (by exact rfl)
  split
  · exact (((Pl.append (by exact rfl) hn).append (by exact rfl)).append (Pl.sep (by exact rfl) fun s hs => by obtain ⟨f, hf, rfl⟩ := List.mem_map.1 hs; exact Pl.fault (allFaults_mem v.faults f hf))).append (by exact rfl)
  split
  · rename_i k; exact (((Pl.append (by exact rfl) hn).append (by exact rfl)).append (Pl.term _ _ (Nat.le_refl _) (v.term k))).append (by exact rfl)
  split
  · rename_i k
    have hp : Pl d.protocol := by rcases v.protocol k with h | h <;> rw [h] <;> exact rfl
    exact (((((((((Pl.append (by exact rfl) hn).append (by exact rfl)).append hp).append (by exact rfl)).append (Pl.term _ _ (Nat.le_refl _) (v.read k))).append (by exact rfl)).append (Pl.term _ _ (Nat.le_refl _) (v.write k))).append (by exact rfl)).append hu).append (by exact rfl)
  split
  · exact (Pl.append (by exact rfl) hl).append (by exact rfl)
  split
  · split
    · exact (Pl.append (by exact rfl) hn).append (by exact rfl)
    · exact (((Pl.append (by exact rfl) hn).append (by exact rfl)).append hu).append (by exact rfl)
  · exact (Pl.append (by exact rfl) hl).append (by exact rfl)
end Go.Ev.Ty
namespace Go.Ev.Ty
open Go.Ev
variable [GF]
set_option maxRecDepth 100000
set_option linter.unusedSimpArgs false
set_option linter.unusedVariables false
/-- The error of a text: too large. -/
def sizedErr (s : ByteArray) : Int := if (tokensT s.data.toList).2.2 ≠ 0 ∨ 3000 < (tokensT s.data.toList).1.length then 3 else 0
theorem s68 (s : ByteArray) (hp : Pl s) : CallP pg 68 [.str s] (.tup [.str (if sizedErr s = 0 then s else ⟨#[]⟩), iV (sizedErr s)]) := by
  have c44 : CallP pg 44 [.str s] _ := s44 s.data.toList hp
  refine CallP.go rfl (show _ = some m68 from rfl) ?_
  unfold sizedErr
  generalize tokensT s.data.toList = r at *
  obtain ⟨ts, a, e⟩ := r
  simp only at c44 ⊢
  unfold m68
  by_cases he : e = 0
  · by_cases hn : 3000 < ts.length
    · have hz : (3000 : Int) < (ts.length : Int) := by omega
      simp [callK_eq c44, he, hn, hz]
    · have hz : ¬ (3000 : Int) < (ts.length : Int) := by omega
      simp [callK_eq c44, he, hn, hz]
  · simp [callK_eq c44, he]
/-- ref23.Format. -/
def fmtR (acc : ByteArray) : List D → ByteArray × Int
  | [] => (if sizedErr acc = 0 then acc else ⟨#[]⟩, sizedErr acc)
  | d :: l => if isDecl d then fmtR (acc ++ declT d ++ tNl) l else (⟨#[]⟩, 1)
theorem s34 (l : List D) (hb : declsB l ≤ 1048576) : CallP pg 34 [declsV l] (.tup [.str (fmtR ⟨#[]⟩ l).1, iV (fmtR ⟨#[]⟩ l).2]) := by
  refine CallP.go rfl (show _ = some m34 from rfl) ?_
  have hlen := declsB_len l
  generalize hA : fmtR ⟨#[]⟩ l = A
  have loop := loop_go (M := pg) m34_l0.eq_def l (by omega) (fun i e σ => ∃ acc, e = [(0, declsV l), (4, .str acc), (5, iV i)] ∧ σ = [] ∧ Pl acc ∧ acc.size + 101 * declsB (l.drop i) ≤ 105906176 ∧ fmtR acc (l.drop i) = A)
    (fun y e σ => (y = .exit 0 ∧ σ = [] ∧ ∃ acc, Pl acc ∧ e.look 4 = some (.str acc) ∧ A = (if sizedErr acc = 0 then acc else ⟨#[]⟩, sizedErr acc)) ∨ (y = .ret ∧ A = (⟨#[]⟩, 1) ∧ e = [(2, .str ⟨#[]⟩), (3, iV 1)] ∧ σ = []))
    (by
      rintro e σ ⟨acc, rfl, rfl, hp, hs, h⟩
      rw [List.drop_length] at h
      simp only [fmtR] at h
      subst h
      simp
      exact ⟨acc, hp, rfl, rfl, rfl⟩)
    (by
      rintro i d r e σ ⟨acc, rfl, rfl, hp, hs, h⟩ hd hlt hx' hd' hw
      rw [hd] at h hs
      simp only [fmtR, declsB] at h hs
      have hdm : d ∈ l := by rw [← hx']; exact List.getElem_mem hlt
      have hdb := declsB_mem hdm
      have htp := ftsB_len d.faults
      have hnp := namesB_len d.names
      have hD : d.names.length ≤ 1048576 ∧ d.faults.length ≤ 1048576 ∧ d.term.size ≤ 1048576 ∧ d.read.size ≤ 1048576 ∧ d.write.size ≤ 1048576 ∧ ftsB d.faults ≤ 1048576 := by unfold D.bulk at hdb; clear hw; omega
      have c66 := s66 d (by clear hw; omega) (by clear hw; omega) (fun f hf => by
        have := ftsB_mem hf
        unfold FT.bulk at this
        have := namesB_len f.byzNames
        have := namesB_len f.crashNames
        clear hw; omega) (by clear hw; omega) (by clear hw; omega) (by clear hw; omega)
      by_cases a : isDecl d = true
      · have v := isDecl_valid a
        have c67 := s67 d v (by clear hw; omega)
        have hts := declT_size v
        rw [if_pos a] at h
        have hb1 : acc.size + (declT d).size ≤ 4611686018427387904 := by clear hw; omega
        have hb2 : acc.size + (declT d).size ≤ 4611686018427387903 := by clear hw; omega
        have hb3 : acc.size + (declT d).size + 1 + 101 * declsB r ≤ 105906176 := by
          have h1 : 1 ≤ d.bulk := by unfold D.bulk; omega
          clear hw; omega
        simp [hlt, hx', callK_eq c66, a, callK_eq c67, hb1, hb2, hw]
        refine ⟨(hp.append (Pl.decl a)).append (by exact rfl), ?_, by rw [hd']; exact h⟩
        rw [hd']
        simpa [ByteArray.size_append, bsize] using hb3
      · rw [if_neg a] at h
        subst h
        simp [hlt, hx', callK_eq c66, a])
    (e := [(0, declsV l), (4, .str ⟨#[]⟩), (5, iV 0)]) (σ := []) ⟨⟨#[]⟩, rfl, rfl, rfl, by simp only [List.drop_zero]; show 0 + _ ≤ _; omega, by simpa using hA⟩
  unfold m34
  simp
  refine loopK_of loop ?_
  rintro y e σ (⟨rfl, rfl, acc, hp, h4, hA⟩ | ⟨rfl, rfl, rfl, rfl⟩)
  · have c68 := s68 acc hp
    simp [h4, callK_eq c68, hA]
  · simp
theorem s17 (l : List D) (hb : declsB l ≤ 1048576) : CallP pg 17 [declsV l] (iV (fmtR ⟨#[]⟩ l).2) := by
  have c34 := s34 l hb
  refine CallP.go rfl (show _ = some m17 from rfl) ?_
  unfold m17
  simp [callK_eq c34]
theorem fmtR_valid : ∀ (l : List D) (acc : ByteArray), (fmtR acc l).2 = 0 → ∀ d, d ∈ l → isDecl d = true
  | d :: l, acc, h, x, hx => by
    simp only [fmtR] at h
    split at h
    · rename_i hd
      rcases List.mem_cons.1 hx with rfl | hx
      · exact hd
      · exact fmtR_valid l _ h x hx
    · exact absurd h (by decide)
end Go.Ev.Ty
namespace Go.Ev.Ty
open Go.Ev
variable [GF]
set_option maxRecDepth 100000
set_option linter.unusedSimpArgs false
set_option linter.unusedVariables false
def rowsL (l : List UInt8) : List (List V) := l.map fun b => [.int .u8 b.toNat]
theorem rowsL_len (l : List UInt8) : (rowsL l).length = l.length := by simp [rowsL]
theorem rowsL_app (a b : List UInt8) : rowsL (a ++ b) = rowsL a ++ rowsL b := by simp [rowsL]
theorem rowsL_plain (l : List UInt8) : plainss (rowsL l) = true := plainss_map (f := fun b : UInt8 => [V.int .u8 b.toNat]) (fun _ => rfl) l
theorem rowsL_okSz (l : List UInt8) : okSz 1 (rowsL l) = true := okSz_map (f := fun b : UInt8 => [V.int .u8 b.toNat]) (fun _ => rfl) l
theorem bytesOf_rows : ∀ l : List UInt8, bytesOf (rowsL l) = some l
  | [] => rfl
  | c :: l => by
    have := bytesOf_rows l
    simp only [rowsL, List.map_cons, bytesOf] at this ⊢
    rw [this]
    simp
/-- What a builder holds. -/
def BldV (acc : List UInt8) (v : V) (J : Store) : Prop := (v = .nils ∧ acc = []) ∨ ∃ b, v = .ref (b + 1) acc.length ∧ b < J.length ∧ J[b]? = some (some (.arr 1 (rowsL acc)))
theorem bd2' {n : Nat} (h : n < 17179869184) : (n + 1000) * 2 ≤ 1099511627776 := by omega
theorem s91 (s : ByteArray) (hp : Pl s) (σ : Store) : CallT pg 91 [.str s] σ (fun v σ' => ∃ b x0 x1 z x3, v = .ptr b 1 0 0 ∧ σ'[b]? = some (some (.arr 4 [[x0, x1, iV z, x3]])) ∧ (z = 0 ↔ sizedErr s = 0)) := by
  refine CallT.go rfl (show _ = some m91 from rfl) ?_
  have c : CallP pg 123 [.str s] _ := s123 s.data.toList hp
  unfold sizedErr
  generalize tokensT s.data.toList = r at *
  obtain ⟨ts, ln, e⟩ := r
  simp only at c ⊢
  unfold m91
  by_cases he : e = 0
  · by_cases hn : 3000 < ts.length
    · have hz : (3000 : Int) < (ts.length : Int) := by omega
      simp [callK_eq c, he, hn, hz]
      exact ⟨_, _, _, ⟨rfl, rfl, rfl⟩, by decide⟩
    · have hz : ¬ (3000 : Int) < (ts.length : Int) := by omega
      simp [callK_eq c, he, hn, hz]
  · simp [callK_eq c, he]
    exact ⟨_, _, _, ⟨rfl, rfl, rfl⟩, he⟩
theorem s61 (s : ByteArray) (hp : Pl s) : CallP pg 61 [.str s] (.tup [.str (if sizedErr s = 0 then s else ⟨#[]⟩), iV (sizedErr s)]) := by
  refine CallP.go rfl (show _ = some m61 from rfl) ?_
  have hz : sizedErr s = 0 ∨ sizedErr s = 3 := by unfold sizedErr; split <;> simp
  unfold m61
  simp
  refine sharedK_of (s91 s hp _) ?_
  rintro v σ' ⟨b, x0, x1, z, x3, rfl, hb, h⟩
  by_cases q : sizedErr s = 0
  · have q' := h.2 q
    simp [hb, q, q']
  · have q' : ¬ z = 0 := fun e => q (h.1 e)
    have q3 : sizedErr s = 3 := by omega
    simp [hb, q', q3]
/-- validDecl. -/
theorem s58 (d : D) (hn : d.names.length < 4294967296) (hfl : d.faults.length < 4294967296) (hf : ∀ f, f ∈ d.faults → f.byzNames.length < 4294967296 ∧ f.crashNames.length < 4294967296) (ht : d.term.size < 4294967295) (hr : d.read.size < 4294967295) (hw : d.write.size < 4294967295) :
    CallP pg 58 [.agg d.cells] (.bool (isDecl d)) := by
  have c79 := s79 d.kind
  by_cases hk : d.kind < 1 ∨ d.kind > 7
  · have h0 : fieldsOf d.kind = 0 := by
      unfold fieldsOf
      repeat' split
      all_goals omega
    rw [h0] at c79
    have hd : isDecl d = false := by unfold isDecl; rw [if_pos hk]
    refine CallP.go rfl (show _ = some m58 from rfl) ?_
    rw [hd]
    unfold m58
    simp [callK_eq c79]
  have hk' : d.kind = 1 ∨ d.kind = 2 ∨ d.kind = 3 ∨ d.kind = 4 ∨ d.kind = 5 ∨ d.kind = 6 ∨ d.kind = 7 := by omega
  have key : ∀ (N L F T P U : Bool) (fl : Int), fieldsOf d.kind = fl → (P = true → U = false) → hasL (usesOf d.kind).data.toList 78 = N → hasL (usesOf d.kind).data.toList 76 = L → hasL (usesOf d.kind).data.toList 70 = F → hasL (usesOf d.kind).data.toList 84 = T → hasL (usesOf d.kind).data.toList 80 = P → hasL (usesOf d.kind).data.toList 85 = (P || U) → ownDecl N L F T P (P || U) d = isDecl d := by
    intro N L F T P U fl _ hPU hN hL hF hT hP hU
    rw [ownDecl_eq _ _ _ _ _ _ _ hPU]
    unfold isDecl
    rw [if_neg hk, hN, hL, hF, hT, hP, hU]
    cases allFaults d.faults <;> simp
  rcases hk' with h | h | h | h | h | h | h
  · have e := key true true false false false false 3 (by rw [h]; rfl) (by decide) (by rw [h]; rfl) (by rw [h]; rfl) (by rw [h]; rfl) (by rw [h]; rfl) (by rw [h]; rfl) (by rw [h]; rfl)
    rw [show fieldsOf d.kind = 3 from by rw [h]; rfl] at c79
    rw [← e]
    exact s58a d 3 true true false false false false c79 (by decide) (by decide) (by decide) (by decide) (by decide) (by decide) (by decide) hn hfl hf ht hr hw
  · have e := key true false true false false false 5 (by rw [h]; rfl) (by decide) (by rw [h]; rfl) (by rw [h]; rfl) (by rw [h]; rfl) (by rw [h]; rfl) (by rw [h]; rfl) (by rw [h]; rfl)
    rw [show fieldsOf d.kind = 5 from by rw [h]; rfl] at c79
    rw [← e]
    exact s58a d 5 true false true false false false c79 (by decide) (by decide) (by decide) (by decide) (by decide) (by decide) (by decide) hn hfl hf ht hr hw
  · have e := key true false false true false false 9 (by rw [h]; rfl) (by decide) (by rw [h]; rfl) (by rw [h]; rfl) (by rw [h]; rfl) (by rw [h]; rfl) (by rw [h]; rfl) (by rw [h]; rfl)
    rw [show fieldsOf d.kind = 9 from by rw [h]; rfl] at c79
    rw [← e]
    exact s58a d 9 true false false true false false c79 (by decide) (by decide) (by decide) (by decide) (by decide) (by decide) (by decide) hn hfl hf ht hr hw
  · have e := key true false false false true false 17 (by rw [h]; rfl) (by decide) (by rw [h]; rfl) (by rw [h]; rfl) (by rw [h]; rfl) (by rw [h]; rfl) (by rw [h]; rfl) (by rw [h]; rfl)
    rw [show fieldsOf d.kind = 17 from by rw [h]; rfl] at c79
    rw [← e]
    exact s58a d 17 true false false false true false c79 (by decide) (by decide) (by decide) (by decide) (by decide) (by decide) (by decide) hn hfl hf ht hr hw
  · have e := key false true false false false false 2 (by rw [h]; rfl) (by decide) (by rw [h]; rfl) (by rw [h]; rfl) (by rw [h]; rfl) (by rw [h]; rfl) (by rw [h]; rfl) (by rw [h]; rfl)
    rw [show fieldsOf d.kind = 2 from by rw [h]; rfl] at c79
    rw [← e]
    exact s58a d 2 false true false false false false c79 (by decide) (by decide) (by decide) (by decide) (by decide) (by decide) (by decide) hn hfl hf ht hr hw
  · have e := key true false false false false true 33 (by rw [h]; rfl) (by decide) (by rw [h]; rfl) (by rw [h]; rfl) (by rw [h]; rfl) (by rw [h]; rfl) (by rw [h]; rfl) (by rw [h]; rfl)
    rw [show fieldsOf d.kind = 33 from by rw [h]; rfl] at c79
    rw [← e]
    exact s58a d 33 true false false false false true c79 (by decide) (by decide) (by decide) (by decide) (by decide) (by decide) (by decide) hn hfl hf ht hr hw
  · have e := key false true false false false false 2 (by rw [h]; rfl) (by decide) (by rw [h]; rfl) (by rw [h]; rfl) (by rw [h]; rfl) (by rw [h]; rfl) (by rw [h]; rfl) (by rw [h]; rfl)
    rw [show fieldsOf d.kind = 2 from by rw [h]; rfl] at c79
    rw [← e]
    exact s58a d 2 false true false false false false c79 (by decide) (by decide) (by decide) (by decide) (by decide) (by decide) (by decide) hn hfl hf ht hr hw
theorem s57 (d : D) (b : Bool) (h : CallP pg 58 [.agg d.cells] (.bool b)) : CallP pg 57 [.agg d.cells] (.bool (!b)) := by
  refine CallP.go rfl (show _ = some m57 from rfl) ?_
  unfold m57
  simp [callK_eq h]
theorem fmtR_bad : ∀ (l : List D) (acc : ByteArray), (l.any fun d => !isDecl d) = true → fmtR acc l = (⟨#[]⟩, 1)
  | d :: l, acc, h => by
    by_cases hd : isDecl d = true
    · simp only [fmtR, hd, if_true]
      refine fmtR_bad l _ ?_
      simpa [hd] using h
    · simp [fmtR, hd]
end Go.Ev.Ty
namespace Go.Ev.Ty
open Go.Ev
variable [GF]
set_option maxRecDepth 100000
set_option linter.unusedSimpArgs false
set_option linter.unusedVariables false
theorem bulk_lens {d : D} {l : List D} (hb : declsB l ≤ 1048576) (hdm : d ∈ l) : d.names.length ≤ 1048576 ∧ d.faults.length ≤ 1048576 ∧ d.term.size ≤ 1048576 ∧ d.read.size ≤ 1048576 ∧ d.write.size ≤ 1048576 ∧ ftsB d.faults ≤ 1048576 ∧ d.bulk ≤ 1048576 := by
  have hdb := declsB_mem hdm
  have htp := ftsB_len d.faults
  have hnp := namesB_len d.names
  unfold D.bulk at hdb ⊢
  omega
theorem s58b {d : D} {l : List D} (hb : declsB l ≤ 1048576) (hdm : d ∈ l) : CallP pg 58 [.agg d.cells] (.bool (isDecl d)) := by
  have h := bulk_lens hb hdm
  exact s58 d (by omega) (by omega) (fun f hf => by
        have := ftsB_mem hf
        unfold FT.bulk at this
        have := namesB_len f.byzNames
        have := namesB_len f.crashNames
        omega) (by omega) (by omega) (by omega)
/-- Format, as the class gives it. -/
def FmtIs [GF] : Prop := ∀ l : List D, declsB l ≤ 1048576 → GF.g [declsV l] = some (.tup [.str (fmtR ⟨#[]⟩ l).1, iV (fmtR ⟨#[]⟩ l).2])
theorem s13 (hG : FmtIs) (l : List D) (hb : declsB l ≤ 1048576) : CallP pg 13 [declsV l] (iV (fmtR ⟨#[]⟩ l).2) := by
  have c26 : CallP pg 26 [declsV l] _ := CallP.nat (g := GF.g) rfl (hG l hb)
  refine CallP.go rfl (show _ = some m13 from rfl) ?_
  unfold m13
  simp [callK_eq c26]
end Go.Ev.Ty
namespace Go.Ev.Ty
open Go.Ev
variable [GF]
set_option maxRecDepth 100000
set_option linter.unusedSimpArgs false
set_option linter.unusedVariables false
theorem isErr2 (t : List (ByteArray × Int)) (n : ByteArray) (a b : Int) : isErr t n [a, b] = must t n a b := by
  unfold isErr must
  simp only [memK]
  by_cases h0 : find n t = 0
  · simp [h0]
  by_cases ha : find n t = a <;> by_cases hb : find n t = b <;> simp_all
theorem isErr1 (t : List (ByteArray × Int)) (n : ByteArray) (a : Int) : isErr t n [a] = must t n a a := by
  unfold isErr must
  simp only [memK]
  by_cases h0 : find n t = 0
  · simp [h0]
  by_cases ha : find n t = a <;> simp_all
theorem s30_1 (s : Sc) (junk : Store) (n : ByteArray) (b : Nat) (a : Int) (hb : (scS s ++ junk)[b]? = some (some (.arr 1 [[iV a]]))) (hb6 : 6 ≤ b) :
    CallT pg 30 [scP, .str n, .ref b 1] (scS s ++ junk) (fun v σ' => v = iV (must s.kinds n a a) ∧ σ' = scS s ++ junk) := by
  rw [← isErr1]; exact s30 s junk n b [a] (by simp) hb hb6
theorem s30_2 (s : Sc) (junk : Store) (n : ByteArray) (b : Nat) (a c : Int) (hb : (scS s ++ junk)[b]? = some (some (.arr 1 [[iV a], [iV c]]))) (hb6 : 6 ≤ b) :
    CallT pg 30 [scP, .str n, .ref b 2] (scS s ++ junk) (fun v σ' => v = iV (must s.kinds n a c) ∧ σ' = scS s ++ junk) := by
  rw [← isErr2]; exact s30 s junk n b [a, c] (by simp) hb hb6
theorem s29 (s : Sc) (hS : s.servers = countK 2 s.kinds) : ∀ (n : Nat) (x : T) (junk : Store), x.size ≤ n → n < 4294967296 → CallT pg 29 [scP, .agg x.cells] (scS s ++ junk) (fun v σ' => v = iV (termErr s.kinds x) ∧ ∃ more, σ' = scS s ++ (junk ++ more)) := by
  intro n
  induction n with
  | zero => intro x junk h; have := x.size_pos; omega
  | succ n ih =>
    intro x junk hx hn
    have hsz := x.size_eq
    have hkl := sizes_len x.kids
    refine CallT.go rfl (show _ = some m29 from rfl) ?_
    rw [termErr_eq]
    generalize hA : termErrs s.kinds x.kids = A
    have kids : ∀ junk : Store, loopW pg m29_l0 [(0, scP), (77, termsV x.kids), (78, iV x.kids.length), (79, iV 0)] (scS s ++ junk)
        (fun y e σ => ∃ more, σ = scS s ++ (junk ++ more) ∧ ((y = .exit 3 ∧ A = 0) ∨ (y = .ret ∧ e = [(4, iV A)]))) := by
      intro junk
      refine loop_go (M := pg) m29_l0.eq_def x.kids (by omega) (fun i e σ => e = [(0, scP), (77, termsV x.kids), (78, iV x.kids.length), (79, iV i)] ∧ (∃ more, σ = scS s ++ (junk ++ more)) ∧ termErrs s.kinds (x.kids.drop i) = A) _ ?_ ?_ ⟨rfl, ⟨[], by simp⟩, by simpa using hA⟩
      · rintro e σ ⟨rfl, ⟨more, rfl⟩, h⟩; simp [termErrs] at h; simp [← h]
      · rintro i u r e σ ⟨rfl, ⟨more, rfl⟩, h⟩ hd hlt hx' hd' hw
        simp only [hd, termErrs] at h
        have hu : u ∈ x.kids := by rw [← hx']; exact List.getElem_mem hlt
        have := sizes_mem hu
        simp [hlt, hx']
        refine sharedK_of (ih u (junk ++ (more ++ [some (.arr 5 [u.cells])])) (by omega) (by omega)) ?_
        rintro v σ' ⟨rfl, more', rfl⟩
        by_cases hz : termErr s.kinds u = 0
        · simp [hz] at h
          subst h
          simp [hz, hw, hd']
        · simp [hz] at h
          subst h
          simp [hz]
    unfold m29 own
    by_cases h1 : x.op = 1
    · simp [h1]
      refine sharedK_of (s30_2 s (junk ++ [some (.arr 5 [x.cells]), some (.arr 1 [[iV 2], [iV 4]])]) x.name _ 2 4 (by simp) (by omega)) ?_
      rintro v σ' ⟨rfl, rfl⟩
      by_cases hz : must s.kinds x.name 2 4 = 0
      case neg => simp [hz]
      simp [hz]
      refine loopK_of (kids _) ?_
      rintro y e σ ⟨more, rfl, ⟨rfl, h⟩ | ⟨rfl, rfl⟩⟩
      · simp [h]
      · simp
    by_cases h2 : x.op = 2
    · have hth : thresholdErr x = if badW x.weights then 7 else if x.need < 1 ∨ x.need > (if x.weights.length = 0 then (x.kids.length : Int) else 0) + sumW x.weights then 7 else 0 := by
        unfold thresholdErr
        cases x.weights <;> simp [sumW]
      by_cases hw0 : x.weights.length = 0
      · have hwn : x.weights = [] := List.length_eq_zero_iff.1 hw0
        have hth' : thresholdErr x = if x.need < 1 ∨ x.need > (x.kids.length : Int) then 7 else 0 := by rw [hth]; simp [hwn, badW, sumW]
        have hpos : ¬ 0 < x.weights.length := by omega
        by_cases ha : x.need < 1
        · simp [h1, h2, hw0, ha, hth']
        by_cases ha2 : (x.kids.length : Int) < x.need
        · simp [h1, h2, hw0, ha, ha2, hth']
        simp [h1, h2, hw0, ha, ha2, hth']
        refine loopK_of (kids _) ?_
        rintro y e σ ⟨more, rfl, ⟨rfl, h⟩ | ⟨rfl, rfl⟩⟩
        · simp [h]
        · simp
      · have hth' : thresholdErr x = if badW x.weights then 7 else if x.need < 1 ∨ x.need > sumW x.weights then 7 else 0 := by rw [hth]; simp [hw0]
        have hpos : 0 < x.weights.length := by omega
        have hw' : x.weights.length < 4611686018427387904 := by omega
        have ws := loop_go (M := pg) m29_l1.eq_def x.weights hw' (fun i e σ => ∃ u : Int, e = [(0, scP), (3, .ptr (junk.length + 6) 1 0 0), (5, iV 0), (6, iV u), (31, intsV x.weights), (32, iV x.weights.length), (33, iV i)] ∧ σ = scS s ++ (junk ++ [some (.arr 5 [x.cells])]) ∧ u + sumW (x.weights.drop i) = sumW x.weights ∧ badW (x.weights.drop i) = badW x.weights ∧ 0 ≤ u ∧ u ≤ 1000 * i)
          (fun y e σ => σ = scS s ++ (junk ++ [some (.arr 5 [x.cells])]) ∧ ((y = .exit 1 ∧ badW x.weights = false ∧ e = [(0, scP), (3, .ptr (junk.length + 6) 1 0 0), (5, iV 0), (6, iV (sumW x.weights)), (31, intsV x.weights), (32, iV x.weights.length), (33, iV x.weights.length), (34, .bool false)]) ∨ (y = .ret ∧ badW x.weights = true ∧ e = [(4, iV 7)])))
          (by rintro e σ ⟨u, rfl, rfl, h, hb, _⟩; simp [sumW, badW] at h hb; simp [h, hb])
          (by
            rintro i w r e σ ⟨u, rfl, rfl, h, hb, hl, hu⟩ hd hlt hx' hd' hw1
            simp only [hd, sumW] at h
            simp only [hd, badW] at hb
            by_cases ha : w < 1
            · simp [ha] at hb
              simp [hlt, hx', ha, hb]
            by_cases ha2 : w > 1000
            · simp [ha2] at hb
              simp [hlt, hx', ha, ha2, hb]
            have hws := wrap_int (z := u + w) (by clear hw1; omega) (by clear hw1; omega)
            simp [hlt, hx', ha, ha2, hws, hw1, hd']
            exact ⟨by clear hw1 hws; omega, by simpa [ha, ha2] using hb, by clear hw1 hws; omega, by clear hw1 hws; omega⟩)
          (e := [(0, scP), (3, .ptr (junk.length + 6) 1 0 0), (5, iV 0), (6, iV 0), (31, intsV x.weights), (32, iV x.weights.length), (33, iV 0)]) (σ := scS s ++ (junk ++ [some (.arr 5 [x.cells])])) ⟨0, rfl, rfl, by simp, by simp, by omega, by omega⟩
        simp [h1, h2, hw0, hpos, hth']
        refine loopK_of ws ?_
        rintro y e σ ⟨rfl, ⟨rfl, hb, rfl⟩ | ⟨rfl, hb, rfl⟩⟩
        · by_cases ha : x.need < 1
          · simp [hb, ha]
          by_cases ha2 : sumW x.weights < x.need
          · simp [hb, ha, ha2]
          simp [hb, ha, ha2]
          refine loopK_of (kids _) ?_
          rintro y e σ ⟨more, rfl, ⟨rfl, h⟩ | ⟨rfl, rfl⟩⟩
          · simp [h]
          · simp
        · simp [hb]
    by_cases h6 : x.op = 6 ∨ x.op = 7 ∨ x.op = 8
    · have h16 : x.op ≠ 1 ∧ x.op ≠ 2 := ⟨h1, h2⟩
      by_cases hn : x.name = bServers
      · have hn' : x.name = ⟨#[115, 101, 114, 118, 101, 114, 115]⟩ := hn
        by_cases hc : countK 2 s.kinds = 0
        · have hs0 : s.servers = 0 := by rw [hS, hc]; rfl
          rcases h6 with h6 | h6 | h6 <;> simp [h6, hn', hs0, hc] <;> simp [bServers]
        · have hs0 : ¬ s.servers = 0 := by rw [hS]; omega
          rcases h6 with h6 | h6 | h6 <;> simp [h6, hn', hs0, hc, bServers]
          all_goals
            refine loopK_of (kids _) ?_
            rintro y e σ ⟨more, rfl, ⟨rfl, h⟩ | ⟨rfl, rfl⟩⟩
            · simp [h]
            · simp
      · have hn' : ¬ x.name = ⟨#[115, 101, 114, 118, 101, 114, 115]⟩ := hn
        rcases h6 with h6 | h6 | h6 <;> simp [h6, hn, hn']
        all_goals
          refine sharedK_of (s30_1 s (junk ++ [some (.arr 5 [x.cells]), some (.arr 1 [[iV 1]])]) x.name _ 1 (by simp) (by omega)) ?_
          rintro v σ' ⟨rfl, rfl⟩
          by_cases hz : must s.kinds x.name 1 1 = 0
          case neg => simp [hz]
          simp [hz]
          refine loopK_of (kids _) ?_
          rintro y e σ ⟨more, rfl, ⟨rfl, h⟩ | ⟨rfl, rfl⟩⟩
          · simp [h]
          · simp
    · have h6' : ¬ x.op = 6 ∧ ¬ x.op = 7 ∧ ¬ x.op = 8 := by omega
      simp [h1, h2, h6'.1, h6'.2.1, h6'.2.2]
      refine loopK_of (kids _) ?_
      rintro y e σ ⟨more, rfl, ⟨rfl, h⟩ | ⟨rfl, rfl⟩⟩
      · simp [h]
      · simp
end Go.Ev.Ty
namespace Go.Ev.Ty
open Go.Ev
variable [GF]
set_option maxRecDepth 100000
set_option linter.unusedSimpArgs false
set_option linter.unusedVariables false
theorem textsOf_map : ∀ l : List ByteArray, textsOf (l.map fun s => [V.str s]) = some l
  | [] => rfl
  | s :: l => by simp [textsOf, textsOf_map l]
theorem s54 (a b : List ByteArray) (h : a.length + b.length ≤ 8589934592) : CallP pg 54 [.slc [[strsV a], [strsV b]]] (.lst 1 ((a ++ b).map fun s => [.str s])) :=
  CallP.nat (g := natConcat) rfl (by simp [natConcat, listsOf, textsOf_map, totalL, h])
theorem s28 (s : Sc) (hS : s.servers = countK 2 s.kinds) (f : FT) (junk : Store) (hb : f.byzNames.length < 4294967296) (hc : f.crashNames.length < 4294967296) (h1 : -4611686018427387904 ≤ f.byz ∧ f.byz < 4611686018427387904) (h2 : -4611686018427387904 ≤ f.crash ∧ f.crash < 4611686018427387904) :
    CallT pg 28 [scP, .agg f.cells] (scS s ++ junk) (fun v σ' => v = iV (faultErr s.kinds f) ∧ ∃ more, σ' = scS s ++ (junk ++ more)) := by
  have hw := wrap_int (z := f.byz + f.crash) (by omega) (by omega)
  refine CallT.go rfl (show _ = some m28 from rfl) ?_
  unfold m28 faultErr
  by_cases o2 : f.op = 2
  · by_cases hl : f.byz + f.crash > countK 2 s.kinds
    · have hl' : f.byz + f.crash > s.servers := by rw [hS]; exact hl
      simp [o2, hw, hl, hl']
    · have hl' : ¬ f.byz + f.crash > s.servers := by rw [hS]; exact hl
      simp [o2, hw, hl, hl']
  by_cases o3 : f.op = 3
  · generalize hall : f.byzNames ++ f.crashNames = all
    have hlen : all.length < 8589934592 := by rw [← hall]; simp; omega
    have c54 := s54 f.byzNames f.crashNames (by omega)
    rw [hall] at c54
    generalize hA : allOk s.kinds [] 2 [] all = A
    generalize hJ : junk ++ [some (.arr 6 [f.cells]), some (.arr 1 [[strsV f.byzNames], [strsV f.crashNames]]), some (.arr 1 (all.map fun s => [.str s]))] = J
    have hn : J[junk.length + 2]? = some (some (.arr 1 (all.map fun s => [.str s]))) := by rw [← hJ]; simp
    have hn' : ∀ x, (J ++ x)[junk.length + 2]? = some (some (.arr 1 (all.map fun s => [.str s]))) := get_more hn
    have loop := loop_go (M := pg) m28_l0.eq_def all (by omega) (fun i e σ => e = [(0, scP), (5, .ref (junk.length + 8) all.length), (31, .ref (junk.length + 8) all.length), (32, iV all.length), (33, iV i)] ∧ (∃ more, σ = scS s ++ (J ++ more)) ∧ allOk s.kinds [] 2 (all.take i) (all.drop i) = A)
      (fun y e σ => (∃ more, σ = scS s ++ (J ++ more)) ∧ ((y = .exit 1 ∧ A = 0) ∨ (y = .ret ∧ e = [(4, iV A)])))
      (by rintro e σ ⟨rfl, ⟨more, rfl⟩, h⟩; simp [allOk] at h; simp [← h])
      (by
        rintro i x r e σ ⟨rfl, ⟨more, rfl⟩, h⟩ hd hlt hx' hd' hw
        have ht1 : all.take (i + 1) = all.take i ++ [x] := by rw [List.take_add_one]; simp [hlt, hx']
        have c24 : CallP pg 24 [.slc ((all.map fun s => [V.str s]).take i), .str x] (.bool (isIn x (all.take i))) := by rw [← List.map_take]; exact s24 _ _ (by simp; omega)
        have hdp : ∀ rd f, deepByss rd f ((all.map fun s => [V.str s]).take i) = some ((all.map fun s => [V.str s]).take i) := fun rd f => by rw [← List.map_take]; exact deepByss_strs rd f _
        have hle' : ¬ all.length < i := by omega
        have hle : i ≤ all.length := by omega
        have hne : ¬ i = all.length := by omega
        simp only [hd, allOk] at h
        have hio : isIn x [] = false := rfl
        simp [hlt, hx', hn']
        refine sharedK_of (s30_1 s (J ++ (more ++ [some (.arr 1 [[iV 2]])])) x _ 2 (by simp) (by omega)) ?_
        rintro v σ' ⟨rfl, rfl⟩
        by_cases hm : must s.kinds x 2 2 = 0
        · simp [hm] at h
          cases h3 : isIn x (all.take i)
          · rw [h3] at c24
            simp [h3, hio] at h
            subst h
            simp [hm, hn', hlt, hle, hle', hne, hdp, callK_eq c24, hw]
            rw [ht1, hd']
          · rw [h3] at c24
            simp [h3] at h
            subst h
            simp [hm, hn', hlt, hle, hle', hne, hdp, callK_eq c24]
        · simp [hm] at h
          subst h
          simp [hm])
      (e := [(0, scP), (5, .ref (junk.length + 8) all.length), (31, .ref (junk.length + 8) all.length), (32, iV all.length), (33, iV 0)]) (σ := scS s ++ J) ⟨rfl, ⟨[], by simp⟩, by simpa using hA⟩
    simp [o3, callK_eq c54]
    rw [hJ]
    refine loopK_of loop ?_
    rintro y e σ ⟨⟨more, rfl⟩, ⟨rfl, h⟩ | ⟨rfl, rfl⟩⟩
    · simp [h, hA, ← hJ]
    · simp [hA, ← hJ]
  by_cases o45 : f.op = 4 ∨ f.op = 5
  · rcases o45 with o | o <;> simp [o]
    all_goals
      refine sharedK_of (s30_1 s (junk ++ [some (.arr 6 [f.cells]), some (.arr 1 [[iV 1]])]) f.name _ 1 (by simp) (by omega)) ?_
      rintro v σ' ⟨rfl, rfl⟩
      simp
  have o4 : ¬ f.op = 4 := fun h => o45 (.inl h)
  have o5 : ¬ f.op = 5 := fun h => o45 (.inr h)
  by_cases o6 : f.op = 6
  · simp [o6]
    refine sharedK_of (s30_1 s (junk ++ [some (.arr 6 [f.cells]), some (.arr 1 [[iV 3]])]) f.name _ 3 (by simp) (by omega)) ?_
    rintro v σ' ⟨rfl, rfl⟩
    simp
  simp [o2, o3, o4, o5, o6]
end Go.Ev.Ty
