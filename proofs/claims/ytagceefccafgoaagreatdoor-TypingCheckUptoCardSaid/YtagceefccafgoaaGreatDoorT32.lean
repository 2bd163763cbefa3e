/- The program's own texts: terms, continued. No condition. The program's own texts: faults, declarations. No condition. The program's own texts: declarations. No condition. Reading tokens: the program's lexer, continued. No condition. -/
import Derived.Test.YtagceefccafgoaaGreatDoorT30
import Derived.Test.YtagceefccafgoaaGreatDoorT31
set_option linter.all false
namespace Go.Ev.Ty
open Go.Ev
variable [GF]
set_option maxRecDepth 100000
set_option linter.unusedSimpArgs false
set_option linter.unusedVariables false
/-- A list of texts that grows behind the store's first block. -/
def GrownS (rows : List ByteArray) (v : V) (J : Store) : Prop := (v = .nils ∧ rows = []) ∨ ∃ b, v = .ref (b + 1) rows.length ∧ b < J.length ∧ J[b]? = some (some (.arr 1 (rows.map fun s => [.str s])))
theorem hs_new3 (σ : Store) (x y : Option Blk) (p : ByteArray) : GrownS [p] (.ref (σ.length + 2 + 1) 1) (σ ++ [x, y, some (.arr 1 [[V.str p]])]) := .inr ⟨_, rfl, by simp, by simp⟩
theorem hs_new2 (σ : Store) (x : Option Blk) (p : ByteArray) : GrownS [p] (.ref (σ.length + 1 + 1) 1) (σ ++ [x, some (.arr 1 [[V.str p]])]) := .inr ⟨_, rfl, by simp, by simp⟩
theorem hs_set {σ : Store} {b : Nat} (acc : List ByteArray) (p : ByteArray) (x : List (Option Blk)) (hb : b < σ.length) : GrownS (acc ++ [p]) (.ref (b + 1) (acc.length + 1)) ((σ ++ x).set b (some (.arr 1 (acc.map (fun s => [V.str s]) ++ [[V.str p]])))) := 
  .inr ⟨b, by simp, by simp; omega, by rw [List.getElem?_set]; simp; omega⟩
theorem s90 : ∀ (n : Nat) (x : T), x.size ≤ n → n < 16777216 → isTerm x = true → CallP pg 90 [.agg x.cells] (.str (termT x)) := by
  intro n
  induction n with
  | zero => intro x h; have := x.size_pos; omega
  | succ n ih =>
    intro x hx hn ht
    have hsz := x.size_eq
    have hkl := sizes_len x.kids
    obtain ⟨hk, hws, hf⟩ := isTerm_parts ht
    have kid : ∀ k, k ∈ x.kids → CallP pg 90 [.agg k.cells] (.str (termT k)) := fun k hkm => ih k (by have := sizes_mem hkm; omega) (by omega) (isTerms_mem hk k hkm)
    have tsz := termT_size _ x (Nat.le_refl _) ht
    have ksz : ∀ k, k ∈ x.kids → (termT k).size + 30 ≤ 64 * k.size := fun k hkm => termT_size _ k (Nat.le_refl _) (isTerms_mem hk k hkm)
    have ksz' : ∀ k, k ∈ x.kids → (termT k).size ≤ 4294967296 := fun k hkm => by have := ksz k hkm; have := sizes_mem hkm; omega
    rw [termT_eq]
    rw [termT_eq] at tsz
    unfold formOk at hf
    refine CallP.go rfl (show _ = some m90 from rfl) ?_
    by_cases o3 : x.op = 3
    · have c : CallP pg 122 [termsV x.kids, .str bAnd, .slc [[iV 3], [iV 4]]] _ := s122 x.kids bAnd false [3, 4] (by decide) (fun k => by
        by_cases a : k = 3
        · simp [a, memK]
        · by_cases b : k = 4 <;> simp [a, b, memK]) (by omega) ksz' (by rw [if_pos o3] at tsz; omega) kid
      unfold m90
      simp [o3, callK_eq c]
    by_cases o4 : x.op = 4
    · have c : CallP pg 122 [termsV x.kids, .str bOr, .slc [[iV 4]]] _ := s122 x.kids bOr true [4] (by decide) (fun k => by
        by_cases b : k = 4 <;> simp [b, memK]) (by omega) ksz' (by rw [if_neg o3, if_pos o4] at tsz; omega) kid
      unfold m90
      simp [o4, callK_eq c]
    by_cases o5 : x.op = 5
    · simp [o5] at hf
      have hl : x.kids.length = 1 := hf.2
      obtain ⟨k, hkk⟩ : ∃ k, x.kids = [k] := by
        cases h : x.kids with
        | nil => rw [h] at hl; simp at hl
        | cons k l => cases l with
          | nil => exact ⟨k, rfl⟩
          | cons b l => rw [h] at hl; simp at hl
      have c := kid k (by rw [hkk]; simp)
      have hs := ksz' k (by rw [hkk]; simp)
      have hb1 : 5 + (termT k).size ≤ 4611686018427387904 := by omega
      have hb2 : 5 + (termT k).size ≤ 4611686018427387903 := by omega
      unfold m90
      simp [o5, hkk, callK_eq c, hb1, hb2]
    by_cases o6 : x.op = 6
    · simp only [o6] at tsz
      simp at tsz
      have hb1 : 9 + x.name.size ≤ 4611686018427387904 := by omega
      have hb2 : 9 + x.name.size ≤ 4611686018427387903 := by omega
      unfold m90
      simp [o6, hb1, hb2]
    by_cases o7 : x.op = 7
    · simp only [o7] at tsz
      simp at tsz
      have hb1 : 4 + x.name.size ≤ 4611686018427387904 := by omega
      have hb2 : 4 + x.name.size ≤ 4611686018427387903 := by omega
      unfold m90
      simp [o7, hb1, hb2]
    by_cases o8 : x.op = 8
    · simp only [o8] at tsz
      simp at tsz
      have hb1 : 4 + x.name.size ≤ 4611686018427387904 := by omega
      have hb2 : 4 + x.name.size ≤ 4611686018427387903 := by omega
      unfold m90
      simp [o8, hb1, hb2]
    by_cases o1 : x.op = 1
    · unfold m90
      simp [o1]
    have o2 : x.op = 2 := Decidable.byContradiction fun o2 => by simp [o1, o2, o3, o4, o5, o6, o7, o8] at hf
    simp [o2] at hf tsz
    have hneed := small_nn hf.1.1.2
    have c120 := s120 x.need hneed (small_hi hf.1.1.2)
    generalize hL : wtZ x.weights (x.kids.map termT) = L at *
    have hLl : L.length = x.kids.length := by rw [← hL, wtZ_len]; simp
    have loop := loop_go (M := pg) m90_l0.eq_def x.kids (by omega) (fun i e σ => ∃ v acc J, e = [(1, .ptr 0 1 0 0), (3, v), (51, termsV x.kids), (52, iV x.kids.length), (53, iV i)] ∧ σ = some (.arr 5 [x.cells]) :: J ∧ GrownS acc v J ∧ acc.length ≤ i ∧ acc ++ L.drop i = L)
      (fun y e σ => y = .exit 1 ∧ ∃ v J, e = [(1, .ptr 0 1 0 0), (3, v), (51, termsV x.kids), (52, iV x.kids.length), (53, iV x.kids.length), (54, .bool false)] ∧ σ = some (.arr 5 [x.cells]) :: J ∧ GrownS L v J)
      (by
        rintro e σ ⟨v, acc, J, rfl, rfl, hg, ha, h⟩
        rw [List.drop_of_length_le (by omega), List.append_nil] at h
        subst h
        simp; exact hg)
      (by
        rintro i k r e σ ⟨v, acc, J, rfl, rfl, hg, ha, h⟩ hd hlt hx' hd' hw
        have hkm : k ∈ x.kids := by rw [← hx']; exact List.getElem_mem hlt
        have c90 := kid k hkm
        have hks := ksz' k hkm
        have hlt2 : i < L.length := by rw [hLl]; exact hlt
        have hkg : (x.kids.map termT)[i]? = some (termT k) := by simp [hlt, hx']
        rw [List.drop_eq_getElem_cons hlt2] at h
        have hcons : ∀ x : ByteArray, acc ++ x :: L.drop (i + 1) = (acc ++ [x]) ++ L.drop (i + 1) := fun x => by simp
        rw [hcons] at h
        have hbd := bd17 (n := acc.length + 1) (by clear hw; omega)
        obtain ⟨p, hp⟩ : ∃ p, L[i] = p := ⟨_, rfl⟩
        rw [hp] at h
        by_cases hw0 : x.weights = []
        · have hpk : p = termT k := by
            have hLe : L = x.kids.map termT := by rw [← hL, hw0, wtZ_nil]
            rw [← hp]; simp only [hLe, List.getElem_map, hx']
          subst hpk
          rcases hg with ⟨rfl, hg⟩ | ⟨b, rfl, hb, hg⟩
          · subst hg
            simp [hlt, hx', hw, callK_eq c90, hw0]
            exact ⟨[_], hs_new3 .., by simp, h⟩
          · have hgx := get_more hg
            simp [hlt, hx', hw, callK_eq c90, hw0, hgx, hbd]
            exact ⟨_, hs_set _ _ _ hb, by simp; exact ha, h⟩
        · have hwl : x.weights.length = x.kids.length := by rcases hf.2 with h | h; exact absurd h hw0; exact h
          have hwp : 0 < x.weights.length := List.length_pos_iff.2 hw0
          have hltw : i < x.weights.length := by omega
          have hwm := small_nn (allSmall_mem hws x.weights[i] (List.getElem_mem hltw))
          have c120w := s120 x.weights[i] hwm (small_hi (allSmall_mem hws x.weights[i] (List.getElem_mem hltw)))
          have hpk : p = termT k ++ bStar ++ itoaT x.weights[i] := by
            have := wtZ_get x.weights (x.kids.map termT) i _ _ (List.getElem?_eq_getElem hltw) hkg
            rw [hL, List.getElem?_eq_getElem hlt2, hp] at this
            exact Option.some.inj this
          have hiw := itoaT_size x.weights[i]
          generalize itoaT x.weights[i] = iw at *
          rw [app_assoc] at hpk
          subst hpk
          have hb1 : 1 + iw.size ≤ 4611686018427387904 := by clear hw; omega
          have hb2 : (termT k).size + (1 + iw.size) ≤ 4611686018427387904 := by clear hw; omega
          rcases hg with ⟨rfl, hg⟩ | ⟨b, rfl, hb, hg⟩
          · subst hg
            simp [hlt, hx', hw, callK_eq c90, hw0, hwp, hltw, callK_eq c120w, hb1, hb2]
            exact ⟨[_], hs_new3 .., by simp, h⟩
          · have hgx := get_more hg
            simp [hlt, hx', hw, callK_eq c90, hw0, hwp, hltw, callK_eq c120w, hb1, hb2, hgx, hbd]
            exact ⟨_, hs_set _ _ _ hb, by simp; exact ha, h⟩)
      (e := [(1, .ptr 0 1 0 0), (3, .nils), (51, termsV x.kids), (52, iV x.kids.length), (53, iV 0)]) (σ := [some (.arr 5 [x.cells])]) ⟨.nils, [], [], rfl, rfl, .inl ⟨rfl, rfl⟩, by simp, by simp⟩
    have c87 := s87 L (by omega) (by show (sepT bComma L).size ≤ _; omega)
    have hlist : listT L = sepT bComma L := rfl
    have hli := itoaT_size x.need
    have hLs : (sepT bComma L).size ≤ 68719476736 := by
      omega
    rw [hlist] at c87
    have c870 : L = [] → CallP pg 87 [.slc []] (.str (sepT bComma L)) := fun e => by rw [e]; exact s87 [] (by decide) (by decide)
    have hbd := bd17 (n := L.length) (by omega)
    generalize sepT bComma L = body at *
    generalize itoaT x.need = ix at *
    have hb1 : ix.size ≤ 4611686018427387903 := by omega
    have hb2 : ix.size + 1 + body.size ≤ 4611686018427387904 := by omega
    have hb3 : ix.size + 1 + body.size ≤ 4611686018427387903 := by omega
    unfold m90
    simp [o2]
    refine loopK_of loop ?_
    rintro y e σ ⟨rfl, v, J, rfl, rfl, hg⟩
    rcases hg with ⟨rfl, hg⟩ | ⟨b, rfl, hb, hg⟩
    · simp [callK_eq c120, hb1, hb2, hb3, callK_eq (c870 hg)]
    · simp [callK_eq c120, hb1, hb2, hb3, hg, callK_eq c87]
end Go.Ev.Ty
namespace Go.Ev.Ty
open Go.Ev
variable [GF]
set_option maxRecDepth 100000
set_option linter.unusedSimpArgs false
set_option linter.unusedVariables false
theorem s88 (f : FT) (h : isFault f = true) (hb : f.byzNames.length < 16777216) (hc : f.crashNames.length < 16777216) : CallP pg 88 [.agg f.cells] (.str (faultT f)) := by
  have hn := isFault_name h
  obtain ⟨h1, h2⟩ := isFault_sets h
  have s1 := listT_size h1
  have s2 := listT_size h2
  have i1 := itoaT_size f.byz
  have i2 := itoaT_size f.crash
  have c1 := s87 f.byzNames (by omega) (by omega)
  have c2 := s87 f.crashNames (by omega) (by omega)
  refine CallP.go rfl (show _ = some m88 from rfl) ?_
  unfold faultT
  by_cases o1 : f.op = 1
  · unfold m88
    simp [o1]
  by_cases o2 : f.op = 2
  · have hf := h
    unfold isFault at hf
    simp [o2] at hf
    have cb := s120 f.byz (small_nn hf.1.1.2) (small_hi hf.1.1.2)
    have cc := s120 f.crash (small_nn hf.1.2) (small_hi hf.1.2)
    generalize itoaT f.byz = ib at *
    generalize itoaT f.crash = ic at *
    have hb0 : tThr.size + ib.size ≤ 4611686018427387904 := by simp only [bsize, List.length_cons, List.length_nil]; omega
    have hb1 : tThr.size + ib.size + tSp.size ≤ 4611686018427387904 := by simp only [bsize, List.length_cons, List.length_nil]; omega
    have hb2 : tThr.size + ib.size + tSp.size + ic.size ≤ 4611686018427387904 := by simp only [bsize, List.length_cons, List.length_nil]; omega
    unfold m88
    simp [-mkS_size, o2, callK_eq cb, callK_eq cc, hb0, hb1, hb2]
  by_cases o4 : f.op = 4
  · skip
    have hb0 : tSite.size + f.name.size ≤ 4611686018427387904 := by simp only [bsize, List.length_cons, List.length_nil]; omega
    have hb1 : tSite.size + f.name.size + tByz.size ≤ 4611686018427387904 := by simp only [bsize, List.length_cons, List.length_nil]; omega
    unfold m88
    simp [-mkS_size, o4, hb0, hb1]
  by_cases o5 : f.op = 5
  · skip
    have hb0 : tSite.size + f.name.size ≤ 4611686018427387904 := by simp only [bsize, List.length_cons, List.length_nil]; omega
    have hb1 : tSite.size + f.name.size + tCrash.size ≤ 4611686018427387904 := by simp only [bsize, List.length_cons, List.length_nil]; omega
    unfold m88
    simp [-mkS_size, o5, hb0, hb1]
  by_cases o6 : f.op = 6
  · have o3 : ¬ f.op = 3 := by omega
    unfold m88
    simp [o6]
  have o3 : f.op = 3 := Decidable.byContradiction fun o3 => by unfold isFault at h; simp [o1, o2, o3, o4, o5, o6] at h
  unfold setsT
  generalize listT f.byzNames = lb at *
  generalize listT f.crashNames = lc at *
  have p1 : ¬ f.byzNames.length = 0 → 0 < f.byzNames.length := by omega
  have p2 : ¬ f.crashNames.length = 0 → 0 < f.crashNames.length := by omega
  have hA : (tByzO ++ lb ++ tBrC).size ≤ 1000000000 := by simp only [ByteArray.size_append, bsize, List.length_cons, List.length_nil]; omega
  have hB : (tCrashO ++ lc ++ tBrC).size ≤ 1000000000 := by simp only [ByteArray.size_append, bsize, List.length_cons, List.length_nil]; omega
  have j2 : ∀ a b : ByteArray, a.size ≤ 1000000000 → b.size ≤ 1000000000 → CallP pg 89 [.slc [[.str a], [.str b]], .str tSp] (.str (a ++ tSp ++ b)) := fun a b ha hb => s89 [a, b] tSp (by simp) (by simp only [sepT, ByteArray.size_append, bsize, List.length_cons, List.length_nil]; omega)
  have j1 : ∀ a : ByteArray, a.size ≤ 1000000000 → CallP pg 89 [.slc [[.str a]], .str tSp] (.str a) := fun a ha => s89 [a] tSp (by simp) (by simp only [sepT]; omega)
  have j0 := s89n tSp
  have j00 : CallP pg 89 [.slc [], .str tSp] (.str ⟨#[]⟩) := s89 [] tSp (by decide) (by decide)
  have hbd := bd17 (n := 2) (by omega)
  have hb0 : tByzO.size + lb.size ≤ 4611686018427387904 := by simp only [bsize, List.length_cons, List.length_nil]; omega
  have hb1 : tByzO.size + lb.size + tBrC.size ≤ 4611686018427387904 := by simp only [bsize, List.length_cons, List.length_nil]; omega
  have hd0 : tCrashO.size + lc.size ≤ 4611686018427387904 := by simp only [bsize, List.length_cons, List.length_nil]; omega
  have hd1 : tCrashO.size + lc.size + tBrC.size ≤ 4611686018427387904 := by simp only [bsize, List.length_cons, List.length_nil]; omega
  by_cases q1 : f.byzNames.length = 0
  · by_cases q2 : f.crashNames.length = 0
    · unfold m88
      simp [-mkS_size, o3, q1, q2, callK_eq j0, callK_eq j00]
    · have q2' := p2 q2
      unfold m88
      simp [-mkS_size, o3, q1, q2, q2', callK_eq c2, callK_eq (j1 _ hB), hd0, hd1]
  · have q1' := p1 q1
    by_cases q2 : f.crashNames.length = 0
    · unfold m88
      simp [-mkS_size, o3, q1, q1', q2, callK_eq c1, callK_eq (j1 _ hA), hb0, hb1]
    · have q2' := p2 q2
      rw [show tByzO ++ lb ++ tBrC ++ tSp ++ tCrashO ++ lc ++ tBrC = tByzO ++ lb ++ tBrC ++ tSp ++ (tCrashO ++ lc ++ tBrC) from by simp only [app_assoc]]
      unfold m88
      simp [-mkS_size, o3, q1, q1', q2, q2', callK_eq c1, callK_eq c2, callK_eq (j2 _ _ hA hB), hbd, hb0, hb1, hd0, hd1]
end Go.Ev.Ty
namespace Go.Ev.Ty
open Go.Ev
variable [GF]
set_option maxRecDepth 100000
set_option linter.unusedSimpArgs false
set_option linter.unusedVariables false
set_option maxHeartbeats 2000000 in
theorem s60 (d : D) (v : Valid d) (hb : d.bulk ≤ 1048576) : CallP pg 60 [.agg d.cells] (.str (declT d)) := by
  have g1 := listT_size v.names
  have g2 := namesB_len d.names
  have g3 := v.name
  have g4 := v.use
  have g5 := fts_size v.faults
  have g6 := ftsB_len d.faults
  have g8 := allN_sizes v.names
  have t1 := d.term.size_pos
  have t2 := d.read.size_pos
  have t3 := d.write.size_pos
  unfold D.bulk at hb
  have c1 := s87 d.names (by omega) (by omega)
  refine CallP.go rfl (show _ = some m60 from rfl) ?_
  unfold declT
  by_cases k1 : d.kind = 1
  · skip
    generalize listT d.names = lt at *
    have hb0 : tSite.size + d.name.size ≤ 4611686018427387904 := by simp only [bsize, List.length_cons, List.length_nil]; omega
    have hb1 : tSite.size + d.name.size + tBrO.size ≤ 4611686018427387904 := by simp only [bsize, List.length_cons, List.length_nil]; omega
    have hb2 : tSite.size + d.name.size + tBrO.size + lt.size ≤ 4611686018427387904 := by simp only [bsize, List.length_cons, List.length_nil]; omega
    have hb3 : tSite.size + d.name.size + tBrO.size + lt.size + tBrCS.size ≤ 4611686018427387904 := by simp only [bsize, List.length_cons, List.length_nil]; omega
    unfold m60
    simp [-mkS_size, k1, callK_eq c1, hb0, hb1, hb2, hb3]
  by_cases k2 : d.kind = 2
  · generalize hL : d.faults.map faultT = L at *
    have hLl : L.length = d.faults.length := by rw [← hL]; simp
    have loop := loop_go (M := pg) m60_l0.eq_def d.faults (by omega) (fun i e σ => ∃ v acc J, e = [(1, .ptr 0 1 0 0), (3, v), (22, faultsV d.faults), (23, iV d.faults.length), (24, iV i)] ∧ σ = some (.arr 22 [d.cells]) :: J ∧ GrownS acc v J ∧ acc.length ≤ i ∧ acc ++ L.drop i = L)
      (fun y e σ => y = .exit 1 ∧ ∃ v J, e = [(1, .ptr 0 1 0 0), (3, v), (22, faultsV d.faults), (23, iV d.faults.length), (24, iV d.faults.length), (25, .bool false)] ∧ σ = some (.arr 22 [d.cells]) :: J ∧ GrownS L v J)
      (by
        rintro e σ ⟨v, acc, J, rfl, rfl, hg, ha, h⟩
        rw [List.drop_of_length_le (by omega), List.append_nil] at h
        subst h
        simp; exact hg)
      (by
        rintro i f r e σ ⟨u, acc, J, rfl, rfl, hg, ha, h⟩ hd hlt hx' hd' hw
        have hfm : f ∈ d.faults := by rw [← hx']; exact List.getElem_mem hlt
        have hfb := ftsB_mem hfm
        unfold FT.bulk at hfb
        have l1 := namesB_len f.byzNames
        have l2 := namesB_len f.crashNames
        have c88 := s88 f (allFaults_mem v.faults f hfm) (by clear hw; omega) (by clear hw; omega)
        have hlt2 : i < L.length := by rw [hLl]; exact hlt
        have hLi : L[i] = faultT f := by simp only [← hL, List.getElem_map, hx']
        rw [List.drop_eq_getElem_cons hlt2, hLi] at h
        have hcons : ∀ x : ByteArray, acc ++ x :: L.drop (i + 1) = (acc ++ [x]) ++ L.drop (i + 1) := fun x => by simp
        rw [hcons] at h
        have hbd := bd17 (n := acc.length + 1) (by clear hw; omega)
        rcases hg with ⟨rfl, hg⟩ | ⟨b, rfl, hb, hg⟩
        · subst hg
          simp [hlt, hx', hw, callK_eq c88]
          exact ⟨[_], hs_new3 .., by simp, h⟩
        · have hgx := get_more hg
          simp [hlt, hx', hw, callK_eq c88, hgx, hbd]
          exact ⟨_, hs_set _ _ _ hb, by simp; exact ha, h⟩)
      (e := [(1, .ptr 0 1 0 0), (3, .nils), (22, faultsV d.faults), (23, iV d.faults.length), (24, iV 0)]) (σ := [some (.arr 22 [d.cells])]) ⟨.nils, [], [], rfl, rfl, .inl ⟨rfl, rfl⟩, by simp, by simp⟩
    have h6 := sepT_size tBar L
    have h7 : tBar.size = 3 := rfl
    rw [h7] at h6
    have c89 := s89 L tBar (by omega) (by omega)
    have c890 : L = [] → CallP pg 89 [.slc [], .str tBar] (.str (sepT tBar L)) := fun e => by rw [e]; exact s89 [] tBar (by decide) (by decide)
    have c891 : L = [] → CallP pg 89 [.nils, .str tBar] (.str (sepT tBar L)) := fun e => by rw [e]; exact s89n tBar
    generalize sepT tBar L = body at *
    have hb0 : tFaults.size + d.name.size ≤ 4611686018427387904 := by simp only [bsize, List.length_cons, List.length_nil]; omega
    have hb1 : tFaults.size + d.name.size + tEq.size ≤ 4611686018427387904 := by simp only [bsize, List.length_cons, List.length_nil]; omega
    have hb2 : tFaults.size + d.name.size + tEq.size + body.size ≤ 4611686018427387904 := by simp only [bsize, List.length_cons, List.length_nil]; omega
    have hb3 : tFaults.size + d.name.size + tEq.size + body.size + tSemi.size ≤ 4611686018427387904 := by simp only [bsize, List.length_cons, List.length_nil]; omega
    unfold m60
    simp [-mkS_size, k2]
    refine loopK_of loop ?_
    rintro y e σ ⟨rfl, v, J, rfl, rfl, hg⟩
    rcases hg with ⟨rfl, hg⟩ | ⟨b, rfl, hb, hg⟩
    · simp [-mkS_size, callK_eq (c890 hg), callK_eq (c891 hg), hb0, hb1, hb2, hb3]
    · simp [-mkS_size, hg, callK_eq c89, hb0, hb1, hb2, hb3]
  by_cases k3 : d.kind = 3
  · skip
    have c3 := s90 _ d.term (Nat.le_refl _) (by omega) (v.term k3)
    have q3 := termT_size _ d.term (Nat.le_refl _) (v.term k3)
    generalize termT d.term = tt at *
    have hb0 : tQuorum.size + d.name.size ≤ 4611686018427387904 := by simp only [bsize, List.length_cons, List.length_nil]; omega
    have hb1 : tQuorum.size + d.name.size + tEq.size ≤ 4611686018427387904 := by simp only [bsize, List.length_cons, List.length_nil]; omega
    have hb2 : tQuorum.size + d.name.size + tEq.size + tt.size ≤ 4611686018427387904 := by simp only [bsize, List.length_cons, List.length_nil]; omega
    have hb3 : tQuorum.size + d.name.size + tEq.size + tt.size + tSemi.size ≤ 4611686018427387904 := by simp only [bsize, List.length_cons, List.length_nil]; omega
    unfold m60
    simp [-mkS_size, k3, callK_eq c3, hb0, hb1, hb2, hb3]
  by_cases k4 : d.kind = 4
  · skip
    have c3 := s90 _ d.read (Nat.le_refl _) (by omega) (v.read k4)
    have q3 := termT_size _ d.read (Nat.le_refl _) (v.read k4)
    have c4 := s90 _ d.write (Nat.le_refl _) (by omega) (v.write k4)
    have q4 := termT_size _ d.write (Nat.le_refl _) (v.write k4)
    have hp : d.protocol.size ≤ 9 := by rcases v.protocol k4 with h | h <;> rw [h] <;> decide
    generalize termT d.read = tr at *
    generalize termT d.write = tw at *
    have hb0 : tConfig.size + d.name.size ≤ 4611686018427387904 := by simp only [bsize, List.length_cons, List.length_nil]; omega
    have hb1 : tConfig.size + d.name.size + tSp.size ≤ 4611686018427387904 := by simp only [bsize, List.length_cons, List.length_nil]; omega
    have hb2 : tConfig.size + d.name.size + tSp.size + d.protocol.size ≤ 4611686018427387904 := by simp only [bsize, List.length_cons, List.length_nil]; omega
    have hb3 : tConfig.size + d.name.size + tSp.size + d.protocol.size + tRead.size ≤ 4611686018427387904 := by simp only [bsize, List.length_cons, List.length_nil]; omega
    have hb4 : tConfig.size + d.name.size + tSp.size + d.protocol.size + tRead.size + tr.size ≤ 4611686018427387904 := by simp only [bsize, List.length_cons, List.length_nil]; omega
    have hb5 : tConfig.size + d.name.size + tSp.size + d.protocol.size + tRead.size + tr.size + tWrite.size ≤ 4611686018427387904 := by simp only [bsize, List.length_cons, List.length_nil]; omega
    have hb6 : tConfig.size + d.name.size + tSp.size + d.protocol.size + tRead.size + tr.size + tWrite.size + tw.size ≤ 4611686018427387904 := by simp only [bsize, List.length_cons, List.length_nil]; omega
    have hb7 : tConfig.size + d.name.size + tSp.size + d.protocol.size + tRead.size + tr.size + tWrite.size + tw.size + tFlt.size ≤ 4611686018427387904 := by simp only [bsize, List.length_cons, List.length_nil]; omega
    have hb8 : tConfig.size + d.name.size + tSp.size + d.protocol.size + tRead.size + tr.size + tWrite.size + tw.size + tFlt.size + d.use.size ≤ 4611686018427387904 := by simp only [bsize, List.length_cons, List.length_nil]; omega
    have hb9 : tConfig.size + d.name.size + tSp.size + d.protocol.size + tRead.size + tr.size + tWrite.size + tw.size + tFlt.size + d.use.size + tSemi.size ≤ 4611686018427387904 := by simp only [bsize, List.length_cons, List.length_nil]; omega
    unfold m60
    simp [-mkS_size, k4, callK_eq c3, callK_eq c4, hb0, hb1, hb2, hb3, hb4, hb5, hb6, hb7, hb8, hb9]
  by_cases k5 : d.kind = 5
  · skip
    generalize listT d.names = lt at *
    have hb0 : tWit.size + lt.size ≤ 4611686018427387904 := by simp only [bsize, List.length_cons, List.length_nil]; omega
    have hb1 : tWit.size + lt.size + tSemi.size ≤ 4611686018427387904 := by simp only [bsize, List.length_cons, List.length_nil]; omega
    unfold m60
    simp [-mkS_size, k5, callK_eq c1, hb0, hb1]
  by_cases k7 : d.kind = 7
  · generalize listT d.names = lt at *
    have hb0 : tChain.size + lt.size ≤ 4611686018427387904 := by simp only [bsize, List.length_cons, List.length_nil]; omega
    have hb1 : tChain.size + lt.size + tSemi.size ≤ 4611686018427387904 := by simp only [bsize, List.length_cons, List.length_nil]; omega
    unfold m60
    simp [-mkS_size, k7, callK_eq c1, hb0, hb1]
  have k6 : d.kind = 6 := by have := v.kind; omega
  have hb0 : tClient.size + d.name.size ≤ 4611686018427387904 := by simp only [bsize, List.length_cons, List.length_nil]; omega
  have hb1 : tClient.size + d.name.size + tSemi.size ≤ 4611686018427387904 := by simp only [bsize, List.length_cons, List.length_nil]; omega
  have hd0 : tClient.size + d.name.size ≤ 4611686018427387904 := by simp only [bsize, List.length_cons, List.length_nil]; omega
  have hd1 : tClient.size + d.name.size + tFlt.size ≤ 4611686018427387904 := by simp only [bsize, List.length_cons, List.length_nil]; omega
  have hd2 : tClient.size + d.name.size + tFlt.size + d.use.size ≤ 4611686018427387904 := by simp only [bsize, List.length_cons, List.length_nil]; omega
  have hd3 : tClient.size + d.name.size + tFlt.size + d.use.size + tSemi.size ≤ 4611686018427387904 := by simp only [bsize, List.length_cons, List.length_nil]; omega
  unfold m60
  by_cases u0 : d.use = ⟨#[]⟩ <;> simp [-mkS_size, k6, u0, hb0, hb1, hd0, hd1, hd2, hd3]
end Go.Ev.Ty
namespace Go.Ev.Ty
open Go.Ev
variable [GF]
set_option maxRecDepth 100000
set_option linter.unusedSimpArgs false
set_option linter.unusedVariables false
theorem run_all (p : Int → Bool) : ∀ (l : List UInt8) (b : UInt8), b ∈ l.take (run p l) → p b.toNat = true
  | [], b, h => by simp [run] at h
  | c :: l, b, h => by
    by_cases a : p c.toNat = true
    · simp only [run, a, if_true, List.take_succ_cons, List.mem_cons] at h
      rcases h with rfl | h
      · exact a
      · exact run_all p l b h
    · simp [run, a] at h
theorem indexB_nn (c : UInt8) : ∀ (l : List UInt8) (i : Int), 0 ≤ i → decide (0 ≤ indexB c.toNat l i) = memB c l
  | [], i, hi => by simp [indexB, memB]
  | x :: l, i, hi => by
    simp only [memB]
    by_cases h : x = c
    · simp [indexB, h, hi]
    · have h' : ¬ x.toNat = c.toNat := fun e => h (UInt8.toNat_inj.1 e)
      have := indexB_nn c l (i + 1) (by omega)
      simp only [h, if_false, ← this]
      simp [indexB, h']
theorem s142 (c : UInt8) (l : List UInt8) (hl : l.length < 4611686018427387900) (hq : c ≠ 34) :
    match nextTok (c :: l) with
    | some (k, t, v, n) => CallP pg 142 [.str (mkS (c :: l))] (.tup [.agg [iV k, .str (mkS t), iV v, .str ⟨#[]⟩, iV 0], iV n])
    | none => CallP pg 142 [.str (mkS (c :: l))] (.tup [.agg [iV 0, .str ⟨#[]⟩, iV 0, .str ⟨#[]⟩, iV 0], iV 0]) := by
  have hlc : (c :: l).length < 4611686018427387904 := by simp; omega
  have c130 := s130 (c.toNat : Int)
  have c144 := s144 (c.toNat : Int)
  have cr1 := s131 132 ldB (fun b => s132 b.toNat) (c :: l) hlc
  have cr2 := s131 144 digit (fun b => s144 b.toNat) (c :: l) hlc
  have hr1 := run_le ldB (c :: l)
  have hr2 := run_le digit (c :: l)
  simp only [nextTok]
  by_cases a : letter (c.toNat : Int) = true
  · rw [if_pos a]
    have hct := cut_take (c :: l) (run ldB (c :: l))
    generalize run ldB (c :: l) = n at *
    by_cases h24 : 24 < n
    · have h24z : (24 : Int) < (n : Int) := by omega
      rw [if_pos h24]
      refine CallP.go rfl (show _ = some m142 from rfl) ?_
      unfold m142
      simp [callK_eq c130, a, callK_eq cr1, h24z]
    · have h24z : ¬ (24 : Int) < (n : Int) := by omega
      rw [if_neg h24]
      have hnl : n ≤ l.length + 1 := by simpa using hr1
      have hnz : (n : Int) ≤ (l.length : Int) + 1 := by omega
      refine CallP.go rfl (show _ = some m142 from rfl) ?_
      unfold m142
      simp [callK_eq c130, a, callK_eq cr1, h24z, hnl, hnz, hct]
  rw [if_neg a]
  by_cases b : digit (c.toNat : Int) = true
  · rw [if_pos b, numOf_eq c l b]
    have hct := cut_take (c :: l) (run digit (c :: l))
    have hrd : 0 < run digit (c :: l) := by simp [run, b]
    have hall := run_all digit (c :: l)
    have hds : ∃ q, (c :: l).take (run digit (c :: l)) = c :: q := by
      obtain ⟨m, hm⟩ : ∃ m, run digit (c :: l) = m + 1 := ⟨run digit (c :: l) - 1, by omega⟩
      rw [hm]; exact ⟨_, rfl⟩
    obtain ⟨q, hds⟩ := hds
    have hdl : ((c :: l).take (run digit (c :: l))).length = run digit (c :: l) := by rw [List.length_take]; omega
    have c152 := s152 _ c q hds hall (by rw [hdl]; omega)
    rw [hdl] at c152
    generalize hdsg : (c :: l).take (run digit (c :: l)) = ds at *
    generalize run digit (c :: l) = n at *
    have hnl : n ≤ l.length + 1 := by simpa using hr2
    have hnz : (n : Int) ≤ (l.length : Int) + 1 := by omega
    by_cases hz : 1 < n ∧ c = 48
    · rw [if_pos hz] at c152 ⊢
      simp only at c152 ⊢
      refine CallP.go rfl (show _ = some m142 from rfl) ?_
      unfold m142
      simp [callK_eq c130, callK_eq c144, a, b, callK_eq cr2, hnl, hnz, hct, callK_eq c152]
    · rw [if_neg hz] at c152 ⊢
      cases hg : goN 0 ds with
      | none =>
        rw [hg] at c152
        simp only at c152 ⊢
        refine CallP.go rfl (show _ = some m142 from rfl) ?_
        unfold m142
        simp [callK_eq c130, callK_eq c144, a, b, callK_eq cr2, hnl, hnz, hct, callK_eq c152]
      | some w =>
        rw [hg] at c152
        simp only at c152 ⊢
        refine CallP.go rfl (show _ = some m142 from rfl) ?_
        unfold m142
        simp [callK_eq c130, callK_eq c144, a, b, callK_eq cr2, hnl, hnz, hct, callK_eq c152]
  rw [if_neg b]
  have hcz : ¬ (c.toNat : Int) = 34 := fun e => hq (UInt8.toNat_inj.1 (by show c.toNat = 34; omega))
  have c141 := s141 syms (c.toNat : Int) c.toNat_lt
  have hin := indexB_nn c syms 0 (by omega)
  simp only [Int.toNat_natCast] at c141
  generalize indexB c.toNat syms 0 = z at *
  unfold syms at c141
  have h1z : (1 : Int) ≤ (l.length : Int) + 1 := by omega
  by_cases d : memB c syms = true
  · rw [if_pos d]
    have hz : 0 ≤ z := by rw [d] at hin; simpa using hin
    refine CallP.go rfl (show _ = some m142 from rfl) ?_
    unfold m142
    simp [callK_eq c130, callK_eq c144, a, b, hcz, callK_eq c141, hz, h1z]
  · rw [if_neg d]
    have hz : ¬ 0 ≤ z := by intro h; rw [decide_eq_true h] at hin; exact d hin.symm
    refine CallP.go rfl (show _ = some m142 from rfl) ?_
    unfold m142
    simp [callK_eq c130, callK_eq c144, a, b, hcz, callK_eq c141, hz]
theorem lexT_white : ∀ (l : List UInt8) (line : Int) (acc : List Tk), lexT l line acc = lexT (l.drop (run isWhite l)) (line + countB 10 (l.take (run isWhite l))) acc
  | [], line, acc => by simp [run, countB]
  | c :: l, line, acc => by
    by_cases w : isWhite (c.toNat : Int) = true
    · rw [lexT]
      simp only [w, if_true, run, List.drop_succ_cons, List.take_succ_cons, countB]
      rw [lexT_white l]
      congr 1
      by_cases h : c = 10
      · have h' : c.toNat = 10 := by rw [h]; rfl
        simp only [h, h', if_true]
        have : (10 : UInt8).toNat = 10 := rfl
        simp only [this, if_true]
        omega
      · have h' : ¬ c.toNat = 10 := fun e => h (UInt8.toNat_inj.1 e)
        simp only [h, h', if_false]
        omega
    · simp [run, w, countB]
theorem countB_le (c : Nat) : ∀ l : List UInt8, countB c l ≤ l.length
  | [] => Nat.le_refl _
  | x :: l => by have := countB_le c l; simp only [countB, List.length_cons]; split <;> omega
theorem s123 (L : List UInt8) (hp : plainB L = true) : CallP pg 123 [.str (mkS L)] (.tup [.lst 5 ((tokensT L).1.map Tk.cells), iV (tokensT L).2.1, iV (tokensT L).2.2]) := by
  refine CallP.go rfl (show _ = some m123 from rfl) ?_
  unfold tokensT
  by_cases hbig : 65536 < L.length
  · have hbz : (65536 : Int) < (L.length : Int) := by omega
    rw [if_pos hbig]
    unfold m123
    simp [hbz]
  have hbz : ¬ (65536 : Int) < (L.length : Int) := by omega
  rw [if_neg hbig]
  generalize hA : lexT L 1 [] = A
  have loop := loop_meas (M := pg) m123_l0.eq_def (fun m e σ => ∃ (l : List UInt8) (v : V) (line : Int) (acc : List Tk), e = [(0, .str (mkS l)), (5, v), (6, iV line)] ∧ Grown 5 (acc.map Tk.cells) v σ ∧ m = l.length ∧ plainB l = true ∧ acc.length + l.length ≤ 65536 ∧ 1 ≤ line ∧ line + l.length ≤ 65537 ∧ lexT l line acc = A)
    (fun y e σ => (y = .exit 0 ∧ A.2 = (0, 0) ∧ ∃ v, e.look 5 = some v ∧ Grown 5 (A.1.map Tk.cells) v σ) ∨ (y = .ret ∧ A.1 = [] ∧ ∃ a b, A.2 = (a, b) ∧ e = [(2, .nils), (3, iV a), (4, iV b)]))
    (by
      rintro m e σ ⟨l, v, line, acc, rfl, hg, rfl, hpl, hac, hl1, hl2, h⟩
      cases l with
      | nil =>
        rw [lexT] at h
        subst h
        simp
        exact hg
      | cons c r =>
        have hne : ¬ (⟨⟨c :: r⟩⟩ : ByteArray) = ⟨#[]⟩ := by simp
        have c138 := s138 c
        by_cases w : isWhite (c.toNat : Int) = true
        · have cr := s131 138 isWhite (fun b => s138 b) (c :: r) (by simp at hac ⊢; omega)
          rw [lexT_white] at h
          have hrl := run_le isWhite (c :: r)
          have hr0 : 0 < run isWhite (c :: r) := by simp [run, w]
          have hct := cut_take (c :: r) (run isWhite (c :: r))
          have hcd := cut_drop (c :: r) (run isWhite (c :: r))
          have c139 := s139 ((c :: r).take (run isWhite (c :: r)))
          have hcb := countB_le 10 ((c :: r).take (run isWhite (c :: r)))
          have hpd := plainB_drop (c :: r) (run isWhite (c :: r)) hpl
          have htl : ((c :: r).take (run isWhite (c :: r))).length = run isWhite (c :: r) := by rw [List.length_take]; omega
          have hdl : ((c :: r).drop (run isWhite (c :: r))).length = (c :: r).length - run isWhite (c :: r) := by rw [List.length_drop]
          rw [htl] at hcb
          generalize (c :: r).drop (run isWhite (c :: r)) = rest at *
          generalize (c :: r).take (run isWhite (c :: r)) = hd at *
          generalize run isWhite (c :: r) = n at *
          generalize countB 10 hd = k at *
          have hws := wrap_int (z := line + (k : Int)) (by simp at hl2; omega) (by simp at hl2; omega)
          have hnl : n ≤ r.length + 1 := by simpa using hrl
          have hnz : (n : Int) ≤ (r.length : Int) + 1 := by omega
          simp only [List.length_cons] at hcd
          simp [callK_eq c138, w, callK_eq cr, hnl, hnz, hct, hcd, callK_eq c139, hws]
          clear hws
          simp only [List.length_cons] at *
          exact ⟨rest.length, by omega, rest, v, line + k, ⟨rfl, rfl, rfl⟩, acc, hg, rfl, hpd, by omega, by omega, by omega, h⟩
        rw [lexT, if_neg w] at h
        have hpc : c ≠ 47 ∧ c ≠ 34 ∧ plainB r = true := by
          simp only [plainB] at hpl
          split at hpl
          · cases hpl
          · rename_i hn; exact ⟨fun e => hn (.inl e), fun e => hn (.inr e), hpl⟩
        have c140 := s140 c r hpc.1
        have c142 := s142 c r (by simp at hac; omega) hpc.2.1
        have c72 := s72 c r (by simp at hac; omega) hpc.2.1
        cases hnt : nextTok (c :: r) with
        | none =>
          rw [hnt] at c142 h
          simp only at c142 h
          subst h
          simp [callK_eq c138, w, callK_eq c140, callK_eq c142]
        | some q =>
          obtain ⟨k, t, x, n⟩ := q
          rw [hnt] at c142 h c72
          simp only at c142 h c72
          obtain ⟨hn0, hnl, _⟩ := c72
          have hn0z : ¬ (n : Int) = 0 := by omega
          have hn0n : ¬ n = 0 := by omega
          have hbb := bd57 (n := acc.length + 1) (by simp at hac; omega)
          have hcd := cut_drop (c :: r) n
          have hdd : (c :: r).drop n = r.drop (n - 1) := by
            obtain ⟨j, rfl⟩ : ∃ j, n = j + 1 := ⟨n - 1, by omega⟩
            simp
          rw [hdd] at hcd
          have hpd := plainB_drop r (n - 1) hpc.2.2
          have hdl : (r.drop (n - 1)).length = r.length - (n - 1) := by rw [List.length_drop]
          have hnz : (n : Int) ≤ (r.length : Int) + 1 := by omega
          simp only [List.length_cons] at hcd hac hl2
          generalize r.drop (n - 1) = rest at *
          rcases hg with ⟨rfl, hg⟩ | ⟨b, rfl, hb, hg⟩
          · simp at hg
            subst hg
            simp [callK_eq c138, w, callK_eq c140, callK_eq c142, hn0z, hn0n, hnl, hnz, hcd]
            exact ⟨rest.length, by omega, rest, _, line, ⟨rfl, rfl, rfl⟩, [⟨k, t, x, line⟩], .inr ⟨σ.length + 2, rfl, by simp, by simp [Tk.cells]⟩, rfl, hpd, by simp; omega, by omega, by omega, by simpa using h⟩
          · have hgx := get_more hg
            simp [callK_eq c138, w, callK_eq c140, callK_eq c142, hn0z, hn0n, hnl, hnz, hcd, hgx, hbb]
            clear hbb
            have hgs := grown_set (sz := 5) (rows := ((acc ++ [(⟨k, t, x, line⟩ : Tk)]).map Tk.cells)) [some (.arr 5 [[iV k, .str (mkS t), iV x, .str ⟨#[]⟩, iV line]]), some (.arr 5 [[iV k, .str (mkS t), iV x, .str ⟨#[]⟩, iV line]])] hb
            exact ⟨rest.length, by omega, rest, _, line, ⟨rfl, rfl, rfl⟩, acc ++ [⟨k, t, x, line⟩], by simpa [Tk.cells] using hgs, rfl, hpd, by simp; omega, by omega, by omega, h⟩)
    L.length [(0, .str (mkS L)), (5, .nils), (6, iV 1)] [] ⟨L, .nils, 1, [], rfl, .inl ⟨rfl, rfl⟩, rfl, hp, by simp; omega, by omega, by omega, hA⟩
  unfold m123
  simp [hbz]
  refine loopK_of loop ?_
  rintro y e σ (⟨rfl, h2, v, h5, hg⟩ | ⟨rfl, h1, a, b, h2, rfl⟩)
  · rcases hg with ⟨rfl, hg⟩ | ⟨b, rfl, hb, hg⟩
    · simp at hg; simp [h2, h5, hg]
    · simp [h2, h5, hg]
  · simp [h1, h2]
end Go.Ev.Ty
