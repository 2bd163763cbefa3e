/- The texts of ref23: declarations. No condition. Reading tokens: the plain functions; ref06's functions. No condition. Reading tokens: ref06.Tokens. No condition. -/
import Derived.Test.YtagceefccafgoaaGreatDoorT28
set_option linter.all false
namespace Go.Ev.Ty
open Go.Ev
variable [GF]
set_option maxRecDepth 100000
set_option linter.unusedSimpArgs false
set_option linter.unusedVariables false
/- How much a declaration holds. -/
def namesB : List ByteArray → Nat
  | [] => 0
  | s :: l => 1 + s.size + namesB l
def FT.bulk (f : FT) : Nat := 1 + f.name.size + namesB f.byzNames + namesB f.crashNames
def ftsB : List FT → Nat
  | [] => 0
  | f :: l => f.bulk + ftsB l
def D.bulk (d : D) : Nat := 1 + d.name.size + namesB d.names + ftsB d.faults + d.term.size + d.protocol.size + d.read.size + d.write.size + d.use.size
def declsB : List D → Nat
  | [] => 0
  | d :: l => d.bulk + declsB l
theorem namesB_len : ∀ l : List ByteArray, l.length ≤ namesB l
  | [] => Nat.le_refl _
  | s :: l => by have := namesB_len l; simp only [namesB, List.length_cons]; omega
theorem ftsB_len : ∀ l : List FT, l.length ≤ ftsB l
  | [] => Nat.le_refl _
  | s :: l => by have := ftsB_len l; simp only [ftsB, FT.bulk, List.length_cons]; omega
theorem ftsB_mem : ∀ {l : List FT} {f : FT}, f ∈ l → f.bulk ≤ ftsB l
  | g :: l, f, h => by
    rcases List.mem_cons.1 h with rfl | h
    · simp only [ftsB]; omega
    · have := ftsB_mem h; simp only [ftsB]; omega
theorem declsB_mem : ∀ {l : List D} {d : D}, d ∈ l → d.bulk ≤ declsB l
  | g :: l, f, h => by
    rcases List.mem_cons.1 h with rfl | h
    · simp only [declsB]; omega
    · have := declsB_mem h; simp only [declsB]; omega
theorem declsB_len : ∀ l : List D, l.length ≤ declsB l
  | [] => Nat.le_refl _
  | s :: l => by have := declsB_len l; simp only [declsB, D.bulk, List.length_cons]; omega
theorem allFaults_mem : ∀ {l : List FT}, allFaults l = true → ∀ f, f ∈ l → isFault f = true
  | g :: l, h, f, hf => by
    simp only [allFaults] at h
    split at h
    · rename_i hg
      rcases List.mem_cons.1 hf with rfl | hf
      · exact hg
      · exact allFaults_mem h f hf
    · cases h
/-- What is known of a valid declaration. -/
structure Valid (d : D) : Prop where
  kind : 1 ≤ d.kind ∧ d.kind ≤ 7
  faults : allFaults d.faults = true
  name : d.name.size ≤ 24
  names : allN d.names = true
  use : d.use.size ≤ 24
  term : d.kind = 3 → isTerm d.term = true
  read : d.kind = 4 → isTerm d.read = true
  write : d.kind = 4 → isTerm d.write = true
  protocol : d.kind = 4 → d.protocol = bCrash ∨ d.protocol = bByz
  chain : d.kind = 7 → d.names ≠ []
theorem isDecl_valid {d : D} (h : isDecl d = true) : Valid d := by
  unfold isDecl at h
  by_cases hk : d.kind < 1 ∨ d.kind > 7
  · simp [hk] at h
  rw [if_neg hk] at h
  cases hf : allFaults d.faults
  · rw [hf] at h; simp at h
  rw [hf] at h
  simp only [Bool.true_eq_false, if_false] at h
  have hk' : d.kind = 1 ∨ d.kind = 2 ∨ d.kind = 3 ∨ d.kind = 4 ∨ d.kind = 5 ∨ d.kind = 6 ∨ d.kind = 7 := by omega
  unfold declRest at h
  have b1 : ∀ N L F, bad1 N L F d = false → d.name.size ≤ 24 ∧ allN d.names = true ∧ (L = true → d.names ≠ []) := by
    intro N L F hb
    unfold bad1 at hb
    simp only [Bool.or_eq_false_iff, Bool.and_eq_false_iff, Bool.not_eq_false', beq_eq_false_iff_ne, decide_eq_true_eq] at hb
    refine ⟨?_, hb.1.2, ?_⟩
    · rcases hb.1.1.1.2 with h | h
      · rw [h]; decide
      · exact lexName_size h
    · intro hL e
      have := hb.1.1.2
      rw [hL, e] at this
      simp at this
  have b3 : ∀ P U, bad3 P U d = false → d.use.size ≤ 24 := by
    intro P U hb
    unfold bad3 at hb
    split at hb
    · rename_i e; rw [e]; decide
    · simp only [Bool.or_eq_false_iff, Bool.not_eq_false'] at hb
      exact lexName_size hb.2
  cases e1 : bad1 (hasL (usesOf d.kind).data.toList 78) (hasL (usesOf d.kind).data.toList 76) (hasL (usesOf d.kind).data.toList 70) d
  case true => rw [e1] at h; simp at h
  cases e2 : bad2 (hasL (usesOf d.kind).data.toList 84) d
  case true => rw [e1, e2] at h; simp at h
  cases e3 : bad3 (hasL (usesOf d.kind).data.toList 80) (hasL (usesOf d.kind).data.toList 85) d
  case true => rw [e1, e2, e3] at h; simp at h
  rw [e1, e2, e3] at h
  simp only [Bool.false_eq_true, if_false] at h
  obtain ⟨n1, n2, n3⟩ := b1 _ _ _ e1
  refine ⟨by omega, hf, n1, n2, b3 _ _ e3, fun k => ?_, fun k => ?_, fun k => ?_, fun k => ?_, fun k => ?_⟩
  · rw [k, show hasL (usesOf 3).data.toList 84 = true from rfl] at e2
    unfold bad2 at e2
    simpa using e2
  · rw [k, show hasL (usesOf 4).data.toList 80 = true from rfl] at h
    unfold good4 at h
    simp at h; exact h.1.2
  · rw [k, show hasL (usesOf 4).data.toList 80 = true from rfl] at h
    unfold good4 at h
    simp at h; exact h.2
  · rw [k, show hasL (usesOf 4).data.toList 80 = true from rfl] at h
    unfold good4 at h
    simp at h; exact h.1.1
  · refine n3 ?_
    rw [k]; rfl
/-- The text of a declaration. -/
def declT (d : D) : ByteArray :=
  if d.kind = 1 then tSite ++ d.name ++ tBrO ++ listT d.names ++ tBrCS
  else if d.kind = 2 then tFaults ++ d.name ++ tEq ++ sepT tBar (d.faults.map faultT) ++ tSemi
  else if d.kind = 3 then tQuorum ++ d.name ++ tEq ++ termT d.term ++ tSemi
  else if d.kind = 4 then tConfig ++ d.name ++ tSp ++ d.protocol ++ tRead ++ termT d.read ++ tWrite ++ termT d.write ++ tFlt ++ d.use ++ tSemi
  else if d.kind = 5 then tWit ++ listT d.names ++ tSemi
  else if d.kind = 6 then (if d.use = ⟨#[]⟩ then tClient ++ d.name ++ tSemi else tClient ++ d.name ++ tFlt ++ d.use ++ tSemi)
  else tChain ++ listT d.names ++ tSemi
theorem fts_size : ∀ {l : List FT}, allFaults l = true → sizesB (l.map faultT) + 3 * l.length ≤ 67 * ftsB l
  | [], _ => by simp [sizesB]
  | f :: l, h => by
    have h1 := faultT_size (allFaults_mem h f (List.mem_cons_self ..))
    have h2 : allFaults l = true := by
      simp only [allFaults] at h
      split at h
      · exact h
      · cases h
    have h3 := fts_size h2
    have h4 := namesB_len f.byzNames
    have h5 := namesB_len f.crashNames
    simp only [List.map_cons, sizesB, List.length_cons, ftsB, FT.bulk]
    omega
theorem declT_size {d : D} (v : Valid d) : (declT d).size ≤ 100 * d.bulk := by
  have h1 := listT_size v.names
  have h2 := namesB_len d.names
  have h3 := v.name
  have h4 := v.use
  have h5 := fts_size v.faults
  have h6 := sepT_size tBar (d.faults.map faultT)
  have h7 : tBar.size = 3 := rfl
  rw [h7, List.length_map] at h6
  have t1 := d.term.size_pos
  have t2 := d.read.size_pos
  have t3 := d.write.size_pos
  unfold declT D.bulk
  by_cases k1 : d.kind = 1
  · rw [if_pos k1]; simp only [ByteArray.size_append, bsize, List.length_cons, List.length_nil]; omega
  rw [if_neg k1]
  by_cases k2 : d.kind = 2
  · rw [if_pos k2]; simp only [ByteArray.size_append, bsize, List.length_cons, List.length_nil]; omega
  rw [if_neg k2]
  by_cases k3 : d.kind = 3
  · have := termT_size _ d.term (Nat.le_refl _) (v.term k3)
    rw [if_pos k3]; simp only [ByteArray.size_append, bsize, List.length_cons, List.length_nil]; omega
  rw [if_neg k3]
  by_cases k4 : d.kind = 4
  · have := termT_size _ d.read (Nat.le_refl _) (v.read k4)
    have := termT_size _ d.write (Nat.le_refl _) (v.write k4)
    have hp : d.protocol.size ≤ 9 := by rcases v.protocol k4 with h | h <;> rw [h] <;> decide
    rw [if_pos k4]; simp only [ByteArray.size_append, bsize, List.length_cons, List.length_nil]; omega
  rw [if_neg k4]
  by_cases k5 : d.kind = 5
  · rw [if_pos k5]; simp only [ByteArray.size_append, bsize, List.length_cons, List.length_nil]; omega
  rw [if_neg k5]
  by_cases k6 : d.kind = 6
  · rw [if_pos k6]
    split
    all_goals
      simp only [ByteArray.size_append, bsize, List.length_cons, List.length_nil]; omega
  rw [if_neg k6]
  simp only [ByteArray.size_append, bsize, List.length_cons, List.length_nil]; omega
set_option maxHeartbeats 2000000 in
theorem s67 (d : D) (v : Valid d) (hb : d.bulk ≤ 1048576) : CallP pg 67 [.agg d.cells] (.str (declT d)) := by
  have g1 := listT_size v.names
  have g2 := namesB_len d.names
  have g3 := v.name
  have g4 := v.use
  have g5 := fts_size v.faults
  have g6 := ftsB_len d.faults
  have g8 := allN_sizes v.names
  have t1 := d.term.size_pos
  have t2 := d.read.size_pos
  have t3 := d.write.size_pos
  unfold D.bulk at hb
  have c1 := s101 d.names (by omega) (by omega)
  refine CallP.go rfl (show _ = some m67 from rfl) ?_
  unfold declT
  by_cases k1 : d.kind = 1
  · skip
    generalize listT d.names = lt at *
    have hb0 : tSite.size + d.name.size ≤ 4611686018427387904 := by simp only [bsize, List.length_cons, List.length_nil]; omega
    have hb1 : tSite.size + d.name.size + tBrO.size ≤ 4611686018427387904 := by simp only [bsize, List.length_cons, List.length_nil]; omega
    have hb2 : tSite.size + d.name.size + tBrO.size + lt.size ≤ 4611686018427387904 := by simp only [bsize, List.length_cons, List.length_nil]; omega
    have hb3 : tSite.size + d.name.size + tBrO.size + lt.size + tBrCS.size ≤ 4611686018427387904 := by simp only [bsize, List.length_cons, List.length_nil]; omega
    unfold m67
    simp [callK_eq c1, k1, hb0, hb1, hb2, hb3]
  by_cases k2 : d.kind = 2
  · have htk : ∀ i, (sepT tBar ((d.faults.map faultT).take i)).size ≤ 134217728 := fun i => by
      have := sepT_take tBar (d.faults.map faultT) i
      have h7 : tBar.size = 3 := rfl
      rw [h7, List.length_map] at this
      omega
    generalize hb0 : tFaults ++ d.name ++ tEq = b0 at *
    have hb0s : b0.size ≤ 40 := by rw [← hb0]; simp only [ByteArray.size_append, bsize, List.length_cons, List.length_nil]; omega
    generalize hL : d.faults.map faultT = L at *
    have hLl : L.length = d.faults.length := by rw [← hL]; simp
    have w1 : IntKind.i64.wrap 1 = 1 := by decide
    have fsz : ∀ i, i < d.faults.length → True := fun _ _ => trivial
    have loop := loop_go (M := pg) m67_l0.eq_def d.faults (by omega) (fun i e σ => e = [(1, .ptr 0 1 0 0), (3, .str (b0 ++ sepT tBar (L.take i))), (4, iV i)] ∧ σ = [some (.arr 22 [d.cells])])
      (fun y e σ => y = .exit 1 ∧ e = [(1, .ptr 0 1 0 0), (3, .str (b0 ++ sepT tBar L)), (4, iV d.faults.length), (28, .bool false)] ∧ σ = [some (.arr 22 [d.cells])])
      (by rintro e σ ⟨rfl, rfl⟩; simp; rw [List.take_of_length_le (by omega)])
      (by
        rintro i f r e σ ⟨rfl, rfl⟩ hd hlt hx' hd' hw
        have hfm : f ∈ d.faults := by rw [← hx']; exact List.getElem_mem hlt
        have hfb := ftsB_mem hfm
        unfold FT.bulk at hfb
        have l1 := namesB_len f.byzNames
        have l2 := namesB_len f.crashNames
        have c102 := s102 f (allFaults_mem v.faults f hfm) (by clear hw; omega) (by clear hw; omega)
        have hlt2 : i < L.length := by rw [hLl]; exact hlt
        have hLi : L[i] = faultT f := by simp only [← hL, List.getElem_map, hx']
        have ht1 : L.take (i + 1) = L.take i ++ [faultT f] := by rw [List.take_add_one]; simp [hlt2, hLi]
        have hz := htk i
        have hz1 := htk (i + 1)
        rw [ht1] at hz1
        by_cases h0 : 0 < i
        · have hne := take_ne h0 hlt2
          rw [sepT_append _ _ _ hne] at hz1
          rw [ht1, sepT_append _ _ _ hne]
          generalize sepT tBar (L.take i) = a at *
          simp only [ByteArray.size_append] at hz1
          have hb1 : b0.size + a.size + tBar.size ≤ 4611686018427387904 := by clear hw; omega
          have hb2 : b0.size + a.size + tBar.size + (faultT f).size ≤ 4611686018427387904 := by clear hw; omega
          rw [show b0 ++ (a ++ tBar ++ faultT f) = b0 ++ a ++ tBar ++ faultT f from by simp only [app_assoc]]
          simp [hlt, hx', h0, hw, w1, hb1, hb2, callK_eq c102]
        · have hi : i = 0 := by clear hw; omega
          subst hi
          rw [List.take_zero, List.nil_append, sepT_one] at hz1
          rw [ht1, List.take_zero, List.nil_append, sepT_one]
          have hb1 : b0.size + (faultT f).size ≤ 4611686018427387904 := by clear hw; omega
          simp [hlt, hx', sepT_nil, hw, w1, hb1, callK_eq c102, app_nil])
      (e := [(1, .ptr 0 1 0 0), (3, .str b0), (4, iV 0)]) (σ := [some (.arr 22 [d.cells])]) ⟨by simp [sepT_nil, app_nil], rfl⟩
    have tot := htk L.length
    rw [List.take_length] at tot
    generalize sepT tBar L = body at *
    have hb9 : b0.size + body.size + tSemi.size ≤ 4611686018427387904 := by simp only [bsize, List.length_cons, List.length_nil]; omega
    have hd0 : tFaults.size + d.name.size ≤ 4611686018427387904 := by simp only [bsize, List.length_cons, List.length_nil]; omega
    have hd1 : tFaults.size + d.name.size + tEq.size ≤ 4611686018427387904 := by simp only [bsize, List.length_cons, List.length_nil]; omega
    unfold m67
    simp [k2, hd0, hd1, hb0]
    refine loopK_of loop ?_
    rintro y e σ ⟨rfl, rfl, rfl⟩
    simp [hb9]
  by_cases k3 : d.kind = 3
  · skip
    have c3 := s103 _ d.term (Nat.le_refl _) (by omega) (v.term k3)
    have q3 := termT_size _ d.term (Nat.le_refl _) (v.term k3)
    generalize termT d.term = tt at *
    have hb0 : tQuorum.size + d.name.size ≤ 4611686018427387904 := by simp only [bsize, List.length_cons, List.length_nil]; omega
    have hb1 : tQuorum.size + d.name.size + tEq.size ≤ 4611686018427387904 := by simp only [bsize, List.length_cons, List.length_nil]; omega
    have hb2 : tQuorum.size + d.name.size + tEq.size + tt.size ≤ 4611686018427387904 := by simp only [bsize, List.length_cons, List.length_nil]; omega
    have hb3 : tQuorum.size + d.name.size + tEq.size + tt.size + tSemi.size ≤ 4611686018427387904 := by simp only [bsize, List.length_cons, List.length_nil]; omega
    unfold m67
    simp [callK_eq c3, k3, hb0, hb1, hb2, hb3]
  by_cases k4 : d.kind = 4
  · skip
    have c3 := s103 _ d.read (Nat.le_refl _) (by omega) (v.read k4)
    have q3 := termT_size _ d.read (Nat.le_refl _) (v.read k4)
    have c4 := s103 _ d.write (Nat.le_refl _) (by omega) (v.write k4)
    have q4 := termT_size _ d.write (Nat.le_refl _) (v.write k4)
    have hp : d.protocol.size ≤ 9 := by rcases v.protocol k4 with h | h <;> rw [h] <;> decide
    generalize termT d.read = tr at *
    generalize termT d.write = tw at *
    have hb0 : tConfig.size + d.name.size ≤ 4611686018427387904 := by simp only [bsize, List.length_cons, List.length_nil]; omega
    have hb1 : tConfig.size + d.name.size + tSp.size ≤ 4611686018427387904 := by simp only [bsize, List.length_cons, List.length_nil]; omega
    have hb2 : tConfig.size + d.name.size + tSp.size + d.protocol.size ≤ 4611686018427387904 := by simp only [bsize, List.length_cons, List.length_nil]; omega
    have hb3 : tConfig.size + d.name.size + tSp.size + d.protocol.size + tRead.size ≤ 4611686018427387904 := by simp only [bsize, List.length_cons, List.length_nil]; omega
    have hb4 : tConfig.size + d.name.size + tSp.size + d.protocol.size + tRead.size + tr.size ≤ 4611686018427387904 := by simp only [bsize, List.length_cons, List.length_nil]; omega
    have hb5 : tConfig.size + d.name.size + tSp.size + d.protocol.size + tRead.size + tr.size + tWrite.size ≤ 4611686018427387904 := by simp only [bsize, List.length_cons, List.length_nil]; omega
    have hb6 : tConfig.size + d.name.size + tSp.size + d.protocol.size + tRead.size + tr.size + tWrite.size + tw.size ≤ 4611686018427387904 := by simp only [bsize, List.length_cons, List.length_nil]; omega
    have hb7 : tConfig.size + d.name.size + tSp.size + d.protocol.size + tRead.size + tr.size + tWrite.size + tw.size + tFlt.size ≤ 4611686018427387904 := by simp only [bsize, List.length_cons, List.length_nil]; omega
    have hb8 : tConfig.size + d.name.size + tSp.size + d.protocol.size + tRead.size + tr.size + tWrite.size + tw.size + tFlt.size + d.use.size ≤ 4611686018427387904 := by simp only [bsize, List.length_cons, List.length_nil]; omega
    have hb9 : tConfig.size + d.name.size + tSp.size + d.protocol.size + tRead.size + tr.size + tWrite.size + tw.size + tFlt.size + d.use.size + tSemi.size ≤ 4611686018427387904 := by simp only [bsize, List.length_cons, List.length_nil]; omega
    unfold m67
    simp [callK_eq c3, callK_eq c4, k4, hb0, hb1, hb2, hb3, hb4, hb5, hb6, hb7, hb8, hb9]
  by_cases k5 : d.kind = 5
  · skip
    generalize listT d.names = lt at *
    have hb0 : tWit.size + lt.size ≤ 4611686018427387904 := by simp only [bsize, List.length_cons, List.length_nil]; omega
    have hb1 : tWit.size + lt.size + tSemi.size ≤ 4611686018427387904 := by simp only [bsize, List.length_cons, List.length_nil]; omega
    unfold m67
    simp [callK_eq c1, k5, hb0, hb1]
  by_cases k6 : d.kind = 6
  · skip
    have hb0 : tClient.size + d.name.size ≤ 4611686018427387904 := by simp only [bsize, List.length_cons, List.length_nil]; omega
    have hb1 : tClient.size + d.name.size + tSemi.size ≤ 4611686018427387904 := by simp only [bsize, List.length_cons, List.length_nil]; omega
    have hd0 : tClient.size + d.name.size ≤ 4611686018427387904 := by simp only [bsize, List.length_cons, List.length_nil]; omega
    have hd1 : tClient.size + d.name.size + tFlt.size ≤ 4611686018427387904 := by simp only [bsize, List.length_cons, List.length_nil]; omega
    have hd2 : tClient.size + d.name.size + tFlt.size + d.use.size ≤ 4611686018427387904 := by simp only [bsize, List.length_cons, List.length_nil]; omega
    have hd3 : tClient.size + d.name.size + tFlt.size + d.use.size + tSemi.size ≤ 4611686018427387904 := by simp only [bsize, List.length_cons, List.length_nil]; omega
    unfold m67
    by_cases u0 : d.use = ⟨#[]⟩ <;> simp [k6, u0, hb0, hb1, hd0, hd1, hd2, hd3]
  generalize listT d.names = lt at *
  have hb0 : tChain.size + lt.size ≤ 4611686018427387904 := by simp only [bsize, List.length_cons, List.length_nil]; omega
  have hb1 : tChain.size + lt.size + tSemi.size ≤ 4611686018427387904 := by simp only [bsize, List.length_cons, List.length_nil]; omega
  unfold m67
  simp [k1, k2, k3, k4, k5, k6, callK_eq c1, hb0, hb1]
end Go.Ev.Ty
namespace Go.Ev.Ty
open Go.Ev
variable [GF]
set_option maxRecDepth 100000
set_option linter.unusedSimpArgs false
set_option linter.unusedVariables false
/-- A text of bytes. -/
abbrev mkS (l : List UInt8) : ByteArray := ⟨⟨l⟩⟩
@[simp] theorem mkS_size (l : List UInt8) : (mkS l).size = l.length := rfl
@[simp] theorem cut_take (l : List UInt8) (n : Nat) : cut (mkS l) 0 n = mkS (l.take n) := by simp [cut]
@[simp] theorem cut_drop (l : List UInt8) (i : Nat) : cut (mkS l) i l.length = mkS (l.drop i) := by
  simp only [cut]
  rw [List.take_of_length_le (by simp)]
theorem mkS_inj {a b : List UInt8} : mkS a = mkS b ↔ a = b := by simp
def isWhite (n : Int) : Bool := decide (n = 32) || decide (n = 9) || decide (n = 13) || decide (n = 10)
theorem s71 (n : Int) : CallP pg 71 [bV n] (.bool (isWhite n)) := by
  refine CallP.go rfl (show _ = some m71 from rfl) ?_
  unfold m71 isWhite
  by_cases a : n = 32
  · simp [a]
  by_cases b : n = 9
  · simp [a, b]
  by_cases c : n = 13
  · simp [a, b, c]
  by_cases d : n = 10 <;> simp [a, b, c, d]
/-- How many bytes at the beginning fit. -/
def run (p : Int → Bool) : List UInt8 → Nat
  | [] => 0
  | c :: l => if p c.toNat then run p l + 1 else 0
theorem run_le (p : Int → Bool) : ∀ l, run p l ≤ l.length
  | [] => Nat.le_refl _
  | c :: l => by have := run_le p l; simp only [run, List.length_cons]; split <;> omega
/-- The number of digits, but for what is too great or begins with a 0. -/
def intL (z : Bool) (v : Int) (i : Nat) : List UInt8 → Int × Int
  | [] => (v, i)
  | c :: l => if digit c.toNat then (if (0 < i ∧ z = true) ∨ v > (9223372036854775807 - ((c.toNat : Int) - 48)).tdiv 10 then (0, 0) else intL z (v * 10 + ((c.toNat : Int) - 48)) (i + 1) l) else (v, i)
theorem digit_iff (n : Int) : digit n = true ↔ 48 ≤ n ∧ n ≤ 57 := by unfold digit; simp
theorem u8_sub (n : Nat) (h : 48 ≤ n ∧ n ≤ 57) : IntKind.u8.wrap ((n : Int) - 48) = (n : Int) - 48 := by
  unfold IntKind.wrap
  simp [IntKind.bits, IntKind.signed]
  omega
theorem tdiv10 (d : Int) (h : 0 ≤ d ∧ d ≤ 9) : (9223372036854775807 - d).tdiv 10 = if d ≤ 7 then 922337203685477580 else 922337203685477579 := by
  have : d = 0 ∨ d = 1 ∨ d = 2 ∨ d = 3 ∨ d = 4 ∨ d = 5 ∨ d = 6 ∨ d = 7 ∨ d = 8 ∨ d = 9 := by omega
  rcases this with rfl | rfl | rfl | rfl | rfl | rfl | rfl | rfl | rfl | rfl <;> decide
theorem s106 (l : List UInt8) (hl : l.length < 4611686018427387904) : CallP pg 106 [.str (mkS l)] (.tup [iV (intL (decide (l.head? = some 48)) 0 0 l).1, iV (intL (decide (l.head? = some 48)) 0 0 l).2]) := by
  refine CallP.go rfl (show _ = some m106 from rfl) ?_
  generalize hz : decide (l.head? = some 48) = z
  generalize hA : intL z 0 0 l = A
  have loop := loop_meas (M := pg) m106_l0.eq_def (fun m e σ => ∃ (i : Nat) (v : Int), e = [(0, .str (mkS l)), (4, iV v), (5, iV i)] ∧ σ = [] ∧ m = (l.drop i).length ∧ i ≤ l.length ∧ 0 ≤ v ∧ intL z v i (l.drop i) = A)
    (fun y e σ => (y = .exit 0 ∧ e.look 4 = some (iV A.1) ∧ e.look 5 = some (iV A.2) ∧ σ = []) ∨ (y = .ret ∧ e = [(2, iV 0), (3, iV 0)] ∧ σ = [] ∧ A = (0, 0)))
    (by
      rintro m e σ ⟨i, v, rfl, rfl, rfl, hi, hv, h⟩
      cases hd : l.drop i with
      | nil =>
        have hil : i = l.length := drop_nil hd hi
        rw [hd] at h
        simp only [intL] at h
        subst h
        simp [hil]
      | cons c r =>
        obtain ⟨hx, hd', hlt⟩ := drop_cons hd
        have hgi : ∀ h : i < l.length, l[i]'h = c := fun h => (List.getElem?_eq_some_iff.1 hx).2
        have c105 := s105 (c.toNat : Int)
        rw [hd] at h
        simp only [intL] at h
        by_cases dg : digit (c.toNat : Int) = true
        · rw [if_pos dg] at h
          have hdd := (digit_iff _).1 dg
          have hu8 := u8_sub c.toNat (by omega)
          have hcv : IntKind.i64.wrap ((c.toNat : Int) - 48) = (c.toNat : Int) - 48 := wrap_int (by omega) (by omega)
          have hsub : IntKind.i64.wrap (9223372036854775807 - ((c.toNat : Int) - 48)) = 9223372036854775807 - ((c.toNat : Int) - 48) := wrap_int (by omega) (by omega)
          have ht := tdiv10 ((c.toNat : Int) - 48) (by omega)
          have hq : IntKind.i64.wrap ((9223372036854775807 - ((c.toNat : Int) - 48)).tdiv 10) = (9223372036854775807 - ((c.toNat : Int) - 48)).tdiv 10 := wrap_int (by rw [ht]; split <;> omega) (by rw [ht]; split <;> omega)
          have h00 : ∀ h : 0 < l.length, (decide (((l[0]'h).toNat : Int) = 48)) = z := fun h => by
            rw [← hz]
            cases l with
            | nil => simp at h
            | cons b l =>
              have : ((b.toNat : Int) = 48) ↔ (b = 48) := by
                constructor
                · intro e; have e' : b.toNat = 48 := by omega
                  exact UInt8.toNat_inj.1 e'
                · intro e; rw [e]; rfl
              simp [this]
          have hl0 : 0 < l.length := by omega
          have h000 := h00 hl0
          have hqv : ∀ q, (9223372036854775807 - ((c.toNat : Int) - 48)).tdiv 10 = q → v ≤ q → v * 10 + ((c.toNat : Int) - 48) ≤ 9223372036854775807 := fun q e hv => by
            rw [ht] at e; subst e; split at hv <;> omega
          generalize hqq : (9223372036854775807 - ((c.toNat : Int) - 48)).tdiv 10 = q at *
          replace hqv := hqv q rfl
          clear ht
          by_cases hi0 : 0 < i
          · cases z
            case true =>
              have h48 : ((l[0]'hl0).toNat : Int) = 48 := by simpa using h000
              rw [if_pos (.inl ⟨hi0, rfl⟩)] at h
              subst h
              simp [hlt, hgi, callK_eq c105, dg, hu8, hcv, hi0, hl0, h48]
            case false =>
              have h48 : ¬ ((l[0]'hl0).toNat : Int) = 48 := by simpa using h000
              by_cases hvq : v > q
              · rw [if_pos (.inr hvq)] at h
                subst h
                simp [hlt, hgi, callK_eq c105, dg, hu8, hcv, hi0, hl0, h48, hsub, hqq, hq, hvq]
              · have hv2 := hqv (by omega)
                have hm1 := wrap_int (z := v * 10) (by omega) (by omega)
                have hm2 := wrap_int (z := v * 10 + ((c.toNat : Int) - 48)) (by omega) (by omega)
                have hwi := wrap_int (z := (i : Int) + 1) (by omega) (by omega)
                rw [if_neg (by simp; omega)] at h
                simp [hlt, hgi, callK_eq c105, dg, hu8, hcv, hi0, hl0, h48, hsub, hqq, hq, hvq, hm1, hm2, hwi]
                have hlen : r.length = l.length - (i + 1) := by rw [← hd']; simp
                clear hcv hu8 hsub hq hm1 hm2 hwi hqq
                exact ⟨l.length - (i + 1), by omega, i + 1, _, ⟨rfl, by simp⟩, rfl, by omega, by omega, by rw [hd']; exact h⟩
          · by_cases hvq : v > q
            · rw [if_pos (.inr hvq)] at h
              subst h
              simp [hlt, hgi, callK_eq c105, dg, hu8, hcv, hi0, hl0, hsub, hqq, hq, hvq]
            · have hv2 := hqv (by omega)
              have hm1 := wrap_int (z := v * 10) (by omega) (by omega)
              have hm2 := wrap_int (z := v * 10 + ((c.toNat : Int) - 48)) (by omega) (by omega)
              have hwi := wrap_int (z := (i : Int) + 1) (by omega) (by omega)
              rw [if_neg (by simp; omega)] at h
              simp [hlt, hgi, callK_eq c105, dg, hu8, hcv, hi0, hl0, hsub, hqq, hq, hvq, hm1, hm2, hwi]
              have hlen : r.length = l.length - (i + 1) := by rw [← hd']; simp
              clear hcv hu8 hsub hq hm1 hm2 hwi hqq
              exact ⟨l.length - (i + 1), by omega, i + 1, _, ⟨rfl, by simp⟩, rfl, by omega, by omega, by rw [hd']; exact h⟩
        · rw [if_neg dg] at h
          subst h
          simp [hlt, hgi, callK_eq c105, dg])
    l.length [(0, .str (mkS l)), (4, iV 0), (5, iV 0)] [] ⟨0, 0, rfl, rfl, by simp, by omega, by omega, by simpa using hA⟩
  unfold m106
  simp
  refine loopK_of loop ?_
  rintro y e σ (⟨rfl, h4, h5, rfl⟩ | ⟨rfl, rfl, rfl, rfl⟩)
  · simp [h4, h5]
  · simp
/-- A number that is read. -/
def numOf (l : List UInt8) : Option (Int × Nat) := let r := intL (decide (l.head? = some 48)) 0 0 l; if r.2 = 0 then none else some (r.1, r.2.toNat)
/-- The symbols. -/
def syms : List UInt8 := [123, 125, 40, 41, 91, 93, 44, 59, 58, 61, 47, 43, 45, 60, 62, 124, 38, 42]
def memB (c : UInt8) : List UInt8 → Bool
  | [] => false
  | x :: l => if x = c then true else memB c l
def ldB (n : Int) : Bool := letter n || digit n
/-- The token at the beginning of a text: kind, text, number, how many bytes. -/
def nextTok : List UInt8 → Option (Int × List UInt8 × Int × Nat)
  | [] => none
  | c :: l =>
    if letter c.toNat then (if 24 < run ldB (c :: l) then none else some (1, (c :: l).take (run ldB (c :: l)), 0, run ldB (c :: l)))
    else if digit c.toNat then (match numOf (c :: l) with | some r => some (2, [], r.1, r.2) | none => none)
    else if memB c syms then some (4, [c], 0, 1)
    else none
theorem intL_snd : ∀ (l : List UInt8) (z : Bool) (v : Int) (i : Nat), ∃ n : Nat, (intL z v i l).2 = n ∧ n ≤ i + l.length
  | [], z, v, i => ⟨i, rfl, by simp⟩
  | c :: l, z, v, i => by
    simp only [intL]
    split
    · split
      · exact ⟨0, rfl, by omega⟩
      · obtain ⟨n, h1, h2⟩ := intL_snd l z (v * 10 + ((c.toNat : Int) - 48)) (i + 1)
        exact ⟨n, h1, by simp only [List.length_cons]; omega⟩
    · exact ⟨i, rfl, by omega⟩
theorem s72_l1 (l : List UInt8) (hl : l.length < 4611686018427387904) (x : V) : loopW pg m72_l1 [(0, .str (mkS l)), (2, x), (4, iV 0)] [some (.arr 5 [[iV 0, .str ⟨#[]⟩, iV 0, .str ⟨#[]⟩, iV 0]])]
    (fun y e σ => y = .exit 0 ∧ e = [(0, .str (mkS l)), (2, x), (4, iV (run ldB l)), (28, .bool false)] ∧ σ = [some (.arr 5 [[iV 0, .str ⟨#[]⟩, iV 0, .str ⟨#[]⟩, iV 0]])]) := by
  generalize hA : run ldB l = A
  refine loop_meas (M := pg) m72_l1.eq_def (fun m e σ => ∃ i : Nat, e = [(0, .str (mkS l)), (2, x), (4, iV i)] ∧ σ = [some (.arr 5 [[iV 0, .str ⟨#[]⟩, iV 0, .str ⟨#[]⟩, iV 0]])] ∧ m = (l.drop i).length ∧ i ≤ l.length ∧ i + run ldB (l.drop i) = A) _ ?_ l.length _ _ ⟨0, rfl, rfl, by simp, by omega, by simpa using hA⟩
  rintro m e σ ⟨i, rfl, rfl, rfl, hi, h⟩
  cases hd : l.drop i with
  | nil =>
    have hil : i = l.length := drop_nil hd hi
    rw [hd] at h
    simp only [run] at h
    have : i = A := by omega
    subst this
    simp [hil]
  | cons c r =>
    obtain ⟨hx, hd', hlt⟩ := drop_cons hd
    have hgi : ∀ h : i < l.length, l[i]'h = c := fun h => (List.getElem?_eq_some_iff.1 hx).2
    have c104 := s104 (c.toNat : Int)
    have c105 := s105 (c.toNat : Int)
    have hwi := wrap_int (z := (i : Int) + 1) (by omega) (by omega)
    have hlen : r.length = l.length - (i + 1) := by rw [← hd']; simp
    rw [hd] at h
    simp only [run, ldB] at h
    by_cases a : letter (c.toNat : Int) = true
    · simp [a] at h
      simp [hlt, hgi, callK_eq c104, callK_eq c105, a, hwi]
      clear hwi
      exact ⟨l.length - (i + 1), by omega, i + 1, by simp, rfl, by omega, by rw [hd']; omega⟩
    · by_cases b : digit (c.toNat : Int) = true
      · simp [a, b] at h
        simp [hlt, hgi, callK_eq c104, callK_eq c105, a, b, hwi]
        clear hwi
        exact ⟨l.length - (i + 1), by omega, i + 1, by simp, rfl, by omega, by rw [hd']; omega⟩
      · simp [a, b] at h
        subst h
        simp [hlt, hgi, callK_eq c104, callK_eq c105, a, b]
theorem s72_l0 (c : UInt8) (r : List UInt8) : loopW pg m72_l0 [(0, .str (mkS (c :: r))), (2, .ptr 0 1 0 0), (9, iV 0)] [some (.arr 5 [[iV 0, .str ⟨#[]⟩, iV 0, .str ⟨#[]⟩, iV 0]])]
    (fun y e σ => (y = .exit 2 ∧ memB c syms = false ∧ e = [(0, .str (mkS (c :: r))), (2, .ptr 0 1 0 0), (9, iV 18), (62, .bool false)] ∧ σ = [some (.arr 5 [[iV 0, .str ⟨#[]⟩, iV 0, .str ⟨#[]⟩, iV 0]])]) ∨
      (y = .ret ∧ memB c syms = true ∧ e = [(2, .ptr 0 1 0 0), (3, iV 1)] ∧ σ = [some (.arr 5 [[iV 4, .str (mkS [c]), iV 0, .str ⟨#[]⟩, iV 0]])])) := by
  generalize hA : memB c syms = A
  have hlen : syms.length = 18 := rfl
  refine loop_go (M := pg) m72_l0.eq_def syms (by rw [hlen]; omega) (fun i e σ => e = [(0, .str (mkS (c :: r))), (2, .ptr 0 1 0 0), (9, iV i)] ∧ σ = [some (.arr 5 [[iV 0, .str ⟨#[]⟩, iV 0, .str ⟨#[]⟩, iV 0]])] ∧ memB c (syms.drop i) = A) _ ?_ ?_ ⟨rfl, rfl, by simpa using hA⟩
  · rintro e σ ⟨rfl, rfl, h⟩
    rw [List.drop_length] at h
    simp only [memB] at h
    subst h
    simp [hlen]
  · rintro i x q e σ ⟨rfl, rfl, h⟩ hd hlt hx' hd' hw
    rw [hlen] at hlt
    have hltz : (i : Int) < 18 := by omega
    have hgi : ∀ h, ([123, 125, 40, 41, 91, 93, 44, 59, 58, 61, 47, 43, 45, 60, 62, 124, 38, 42] : List UInt8)[i]'h = x := fun h => hx'
    rw [hd] at h
    simp only [memB] at h
    have hr1 : (1 : Int) ≤ (r.length : Int) + 1 := by clear hw; omega
    by_cases hc : x = c
    · subst hc
      simp at h
      subst h
      simp [hlt, hltz, hgi, hr1]
    · have hcz : ¬ (x.toNat : Int) = (c.toNat : Int) := fun e => hc (UInt8.toNat_inj.1 (by omega))
      rw [if_neg hc] at h
      simp [hlt, hltz, hgi, hcz, hw, hd', h]
theorem s72 (c : UInt8) (l : List UInt8) (hl : l.length < 4611686018427387900) (hq : c ≠ 34) :
    match nextTok (c :: l) with
    | some (k, t, v, n) => 0 < n ∧ n ≤ l.length + 1 ∧ CallP pg 72 [.str (mkS (c :: l))] (.tup [.agg [iV k, .str (mkS t), iV v, .str ⟨#[]⟩, iV 0], iV n])
    | none => ∃ k v, CallP pg 72 [.str (mkS (c :: l))] (.tup [.agg [iV k, .str ⟨#[]⟩, iV v, .str ⟨#[]⟩, iV 0], iV 0]) := by
  have hlc : (c :: l).length < 4611686018427387904 := by simp; omega
  have c104 := s104 (c.toNat : Int)
  have c105 := s105 (c.toNat : Int)
  have c106 := s106 (c :: l) hlc
  have hl1 := s72_l1 (c :: l) hlc (.ptr 0 1 0 0)
  have hrl := run_le ldB (c :: l)
  simp only [nextTok]
  by_cases a : letter (c.toNat : Int) = true
  · rw [if_pos a]
    have hr0 : 0 < run ldB (c :: l) := by simp [run, ldB, a]
    generalize run ldB (c :: l) = n at *
    by_cases h24 : 24 < n
    · have h24z : (24 : Int) < (n : Int) := by omega
      rw [if_pos h24]
      refine ⟨0, 0, CallP.go rfl (show _ = some m72 from rfl) ?_⟩
      unfold m72
      simp [callK_eq c104, a]
      refine loopK_of hl1 ?_
      rintro y e σ ⟨rfl, rfl, rfl⟩
      simp [h24z]
    · have h24z : ¬ (24 : Int) < (n : Int) := by omega
      rw [if_neg h24]
      refine ⟨hr0, by simpa using hrl, CallP.go rfl (show _ = some m72 from rfl) ?_⟩
      have hct := cut_take (c :: l) n
      unfold m72
      simp [callK_eq c104, a]
      refine loopK_of hl1 ?_
      rintro y e σ ⟨rfl, rfl, rfl⟩
      have hnl : n ≤ l.length + 1 := by simpa using hrl
      have hnz : (n : Int) ≤ (l.length : Int) + 1 := by omega
      simp [h24z, hnl, hnz, hct]
  rw [if_neg a]
  by_cases b : digit (c.toNat : Int) = true
  · rw [if_pos b]
    unfold numOf
    simp only
    obtain ⟨n, hn, hnl⟩ := intL_snd (c :: l) (decide ((c :: l).head? = some 48)) 0 0
    generalize intL (decide ((c :: l).head? = some 48)) 0 0 (c :: l) = A at *
    have hcall : CallP pg 72 [.str (mkS (c :: l))] (.tup [.agg [iV 2, .str ⟨#[]⟩, iV A.1, .str ⟨#[]⟩, iV 0], iV A.2]) := by
      refine CallP.go rfl (show _ = some m72 from rfl) ?_
      unfold m72
      simp [callK_eq c104, callK_eq c105, callK_eq c106, a, b]
    obtain ⟨v, w⟩ := A
    simp only at hn hcall ⊢
    subst hn
    by_cases h0 : n = 0
    · subst h0
      exact ⟨2, v, hcall⟩
    · have h0z : ¬ (n : Int) = 0 := by omega
      simp only [h0z, if_false]
      exact ⟨by omega, by simp at hnl; omega, by simpa using hcall⟩
  rw [if_neg b]
  have hcz : ¬ (c.toNat : Int) = 34 := fun e => hq (UInt8.toNat_inj.1 (by show c.toNat = 34; omega))
  have hl0 := s72_l0 c l
  by_cases d : memB c syms = true
  · rw [if_pos d]
    refine ⟨by omega, by omega, CallP.go rfl (show _ = some m72 from rfl) ?_⟩
    unfold m72
    simp [callK_eq c104, callK_eq c105, a, b, hcz]
    refine loopK_of hl0 ?_
    rintro y e σ (⟨rfl, h, rfl, rfl⟩ | ⟨rfl, h, rfl, rfl⟩)
    · rw [d] at h; cases h
    · simp
  · rw [if_neg d]
    refine ⟨0, 0, CallP.go rfl (show _ = some m72 from rfl) ?_⟩
    unfold m72
    simp [callK_eq c104, callK_eq c105, a, b, hcz]
    refine loopK_of hl0 ?_
    rintro y e σ (⟨rfl, h, rfl, rfl⟩ | ⟨rfl, h, rfl, rfl⟩)
    · simp
    · exact absurd h d
end Go.Ev.Ty
namespace Go.Ev.Ty
open Go.Ev
variable [GF]
set_option maxRecDepth 100000
set_option linter.unusedSimpArgs false
set_option linter.unusedVariables false
structure Tk where
  kind : Int
  text : List UInt8
  int : Int
  line : Int
def Tk.cells (t : Tk) : List V := [iV t.kind, .str (mkS t.text), iV t.int, .str ⟨#[]⟩, iV t.line]
/-- The tokens, or nothing and the line of the error: with the error. -/
def lexT (l : List UInt8) (line : Int) (acc : List Tk) : List Tk × Int × Int :=
  match l with
  | [] => (acc, 0, 0)
  | c :: r => if isWhite c.toNat then lexT r (if c = 10 then line + 1 else line) acc
    else match nextTok (c :: r) with
      | none => ([], line, 2)
      | some (k, t, v, n) => lexT (r.drop (n - 1)) line (acc ++ [⟨k, t, v, line⟩])
termination_by l.length
decreasing_by
  · simp
  · simp; omega
/-- The tokens of a text. -/
def tokensT (l : List UInt8) : List Tk × Int × Int := if 65536 < l.length then ([], 0, 3) else lexT l 1 []
def plainB : List UInt8 → Bool
  | [] => true
  | c :: l => if c = 47 ∨ c = 34 then false else plainB l
theorem plainB_drop : ∀ (l : List UInt8) (i : Nat), plainB l = true → plainB (l.drop i) = true
  | [], i, h => by simp [plainB]
  | c :: l, 0, h => h
  | c :: l, i + 1, h => by
    simp only [plainB] at h
    split at h
    · cases h
    · simp; exact plainB_drop l i h
@[simp] theorem Tk.len (t : Tk) : t.cells.length = 5 := rfl
@[simp] theorem okSz_Tk (l : List Tk) : okSz 5 (l.map Tk.cells) = true := okSz_map (f := Tk.cells) (fun _ => rfl) l
@[simp] theorem flatss_Tk (l : List Tk) : flatss (l.map Tk.cells) = true := flatss_map (fun _ => rfl) l
@[simp] theorem deepByss_Tk (rd : Nat → Option Blk) (f : List (List V) → Option (List (List V))) (l : List Tk) : deepByss rd f (l.map Tk.cells) = some (l.map Tk.cells) := deepByss_map (fun _ => rfl) l
theorem drop_drop1 {α : Type} {l r : List α} {c : α} {i n : Nat} (h : l.drop i = c :: r) (hn : 0 < n) : l.drop (i + n) = r.drop (n - 1) := by
  rw [← List.drop_drop, h]
  obtain ⟨m, rfl⟩ : ∃ m, n = m + 1 := ⟨n - 1, by omega⟩
  simp
theorem s44 (L : List UInt8) (hp : plainB L = true) : CallP pg 44 [.str (mkS L)] (.tup [.lst 5 ((tokensT L).1.map Tk.cells), iV (tokensT L).2.1, iV (tokensT L).2.2]) := by
  refine CallP.go rfl (show _ = some m44 from rfl) ?_
  unfold tokensT
  by_cases hbig : 65536 < L.length
  · have hbz : (65536 : Int) < (L.length : Int) := by omega
    rw [if_pos hbig]
    unfold m44
    simp [hbz]
  have hbz : ¬ (65536 : Int) < (L.length : Int) := by omega
  rw [if_neg hbig]
  generalize hA : lexT L 1 [] = A
  have loop := loop_meas (M := pg) m44_l1.eq_def (fun m e σ => ∃ (i : Nat) (v : V) (line : Int) (acc : List Tk), e = [(0, .str (mkS L)), (5, v), (6, iV line), (7, iV i)] ∧ Grown 5 (acc.map Tk.cells) v σ ∧ m = L.length - i ∧ i ≤ L.length ∧ acc.length ≤ i ∧ 1 ≤ line ∧ line ≤ i + 1 ∧ lexT (L.drop i) line acc = A)
    (fun y e σ => (y = .exit 0 ∧ A.2 = (0, 0) ∧ ∃ v, e.look 5 = some v ∧ Grown 5 (A.1.map Tk.cells) v σ) ∨ (y = .ret ∧ A.1 = [] ∧ ∃ a b, A.2 = (a, b) ∧ e = [(2, .nils), (3, iV a), (4, iV b)]))
    (by
      rintro m e σ ⟨i, v, line, acc, rfl, hg, rfl, hi, hac, hl1, hl2, h⟩
      cases hd : L.drop i with
      | nil =>
        have hil : i = L.length := drop_nil hd hi
        rw [hd, lexT] at h
        subst h
        simp [hil]
        exact hg
      | cons c r =>
        obtain ⟨hx, hd', hlt⟩ := drop_cons hd
        have hgi : ∀ h : i < L.length, L[i]'h = c := fun h => (List.getElem?_eq_some_iff.1 hx).2
        have c71 := s71 (c.toNat : Int)
        have hwi := wrap_int (z := (i : Int) + 1) (by omega) (by omega)
        have hwl := wrap_int (z := line + 1) (by omega) (by omega)
        have hpl := plainB_drop L i hp
        rw [hd] at hpl h
        rw [lexT] at h
        simp only [plainB] at hpl
        have hc47 : c ≠ 47 ∧ c ≠ 34 := by
          split at hpl
          · cases hpl
          · rename_i hn; exact ⟨fun e => hn (.inl e), fun e => hn (.inr e)⟩
        have hcz : ¬ (c.toNat : Int) = 47 := fun e => hc47.1 (UInt8.toNat_inj.1 (by show c.toNat = 47; omega))
        by_cases w : isWhite (c.toNat : Int) = true
        · rw [if_pos w] at h
          by_cases h10 : c = 10
          · have h10z : (c.toNat : Int) = 10 := by rw [h10]; rfl
            rw [if_pos h10] at h
            rw [h10z] at c71 w
            simp [hlt, hgi, callK_eq c71, w, h10z, hwi, hwl]
            clear hwi hwl
            exact ⟨L.length - (i + 1), by omega, i + 1, v, line + 1, ⟨rfl, rfl, by simp⟩, acc, hg, rfl, by omega, by omega, by omega, by omega, by rw [hd']; exact h⟩
          · have h10z : ¬ (c.toNat : Int) = 10 := fun e => h10 (UInt8.toNat_inj.1 (by show c.toNat = 10; omega))
            rw [if_neg h10] at h
            simp [hlt, hgi, callK_eq c71, w, h10z, hwi]
            clear hwi hwl
            exact ⟨L.length - (i + 1), by omega, i + 1, v, line, ⟨rfl, rfl, by simp⟩, acc, hg, rfl, by omega, by omega, by omega, by omega, by rw [hd']; exact h⟩
        rw [if_neg w] at h
        have hr : r.length = L.length - (i + 1) := by rw [← hd']; simp
        have c72 := s72 c r (by omega) hc47.2
        have hcut := cut_drop L i
        rw [hd] at hcut
        have hle : i ≤ L.length := hi
        cases hnt : nextTok (c :: r) with
        | none =>
          rw [hnt] at c72 h
          simp only at c72 h
          obtain ⟨k, x, c72⟩ := c72
          subst h
          simp [hlt, hle, hgi, callK_eq c71, w, hcz, hcut, callK_eq c72]
        | some q =>
          obtain ⟨k, t, x, n⟩ := q
          rw [hnt] at c72 h
          simp only at c72 h
          obtain ⟨hn0, hnl, c72⟩ := c72
          have hn0z : ¬ (n : Int) = 0 := by omega
          have hn0n : ¬ n = 0 := by omega
          have hwn := wrap_int (z := (i : Int) + (n : Int)) (by omega) (by omega)
          have hbb := bd57 (n := acc.length + 1) (by omega)
          have hdd := drop_drop1 hd hn0
          rcases hg with ⟨rfl, hg⟩ | ⟨b, rfl, hb, hg⟩
          · simp at hg
            subst hg
            simp [hlt, hle, hgi, callK_eq c71, w, hcz, hcut, callK_eq c72, hn0z, hn0n, hwn]
            clear hwi hwl hwn
            exact ⟨L.length - (i + n), by omega, i + n, _, line, ⟨rfl, rfl, by simp⟩, [⟨k, t, x, line⟩], .inr ⟨σ.length + 2, rfl, by simp, by simp [Tk.cells]⟩, rfl, by omega, by simp; omega, by omega, by omega, by rw [hdd]; simpa using h⟩
          · have hgx := get_more hg
            simp [hlt, hle, hgi, callK_eq c71, w, hcz, hcut, callK_eq c72, hn0z, hn0n, hwn, hgx, hbb]
            clear hwi hwl hwn hbb
            have hgs := grown_set (sz := 5) (rows := ((acc ++ [(⟨k, t, x, line⟩ : Tk)]).map Tk.cells)) [some (.arr 5 [[iV k, .str (mkS t), iV x, .str ⟨#[]⟩, iV line]]), some (.arr 5 [[iV k, .str (mkS t), iV x, .str ⟨#[]⟩, iV line]])] hb
            exact ⟨L.length - (i + n), by omega, i + n, _, line, ⟨rfl, rfl, by simp⟩, acc ++ [⟨k, t, x, line⟩], by simpa [Tk.cells] using hgs, rfl, by omega, by simp; omega, by omega, by omega, by rw [hdd]; exact h⟩)
    L.length [(0, .str (mkS L)), (5, .nils), (6, iV 1), (7, iV 0)] [] ⟨0, .nils, 1, [], rfl, .inl ⟨rfl, rfl⟩, by simp, by omega, by simp, by omega, by omega, by simpa using hA⟩
  unfold m44
  simp [hbz]
  refine loopK_of loop ?_
  rintro y e σ (⟨rfl, h2, v, h5, hg⟩ | ⟨rfl, h1, a, b, h2, rfl⟩)
  · rcases hg with ⟨rfl, hg⟩ | ⟨b, rfl, hb, hg⟩
    · simp at hg; simp [h2, h5, hg]
    · simp [h2, h5, hg]
  · simp [h1, h2]
end Go.Ev.Ty
