/- What functions of ref24 answer, continued: first. No condition. What functions of ref23 answer: declarations. No condition. -/
import Derived.Test.YtagceefccafgoaaGreatDoorT26
set_option linter.all false
namespace Go.Ev.Ty
open Go.Ev
variable [GF]
set_option maxRecDepth 100000
set_option linter.unusedSimpArgs false
set_option linter.unusedVariables false
def siteErr (t : List (ByteArray × Int)) (name : ByteArray) : List ByteArray → List ByteArray → Int
  | _, [] => 0
  | pre, s :: r => if find s t ≠ 0 ∨ s = name ∨ isIn s pre = true then 5 else if countK 2 t + pre.length ≥ 12 then 3 else siteErr t name (pre ++ [s]) r
def faultsErr (t : List (ByteArray × Int)) : List FT → Int
  | [] => 0
  | f :: l => if faultErr t f ≠ 0 then faultErr t f else faultsErr t l
/-- Text: crash. -/
def bCrash : ByteArray := ⟨#[99, 114, 97, 115, 104]⟩
def configErr (pre : List D) (d : D) : Int :=
  let t := table pre
  if termErr t d.read ≠ 0 then termErr t d.read else if termErr t d.write ≠ 0 then termErr t d.write else if must t d.use 3 3 ≠ 0 then must t d.use 3 3 else if d.protocol = bCrash ∧ byz pre d.use = true then 12 else 0
def bodyErr (pre : List D) (d : D) : Int :=
  let t := table pre
  if d.kind = 1 then siteErr t d.name [] d.names
  else if d.kind = 2 then faultsErr t d.faults
  else if d.kind = 3 then termErr t d.term
  else if d.kind = 4 then configErr pre d
  else if d.kind = 5 then allOk t (namesK 5 pre) 2 [] d.names
  else if d.kind = 6 then (if d.use = ⟨#[]⟩ then 0 else must t d.use 3 3)
  else if d.kind = 7 then (if 0 < (namesK 7 pre).length then 5 else allOk t [] 5 [] d.names)
  else 0
/-- ref24.first. -/
def firstErr (pre : List D) (last : Int) (d : D) : Int :=
  let t := table pre
  if d.kind = 1 ∧ 0 < pre.length ∧ last ≠ 1 then 10
  else if kindOf d.kind ≠ 0 ∧ find d.name t ≠ 0 then 5
  else if (kindOf d.kind = 5 ∧ countK 5 t ≥ 6) ∨ (kindOf d.kind = 6 ∧ countK 6 t ≥ 6) then 3
  else bodyErr pre d
/-- What is asked of declarations so that nothing is too large. -/
structure Dec (d : D) : Prop where
  names : d.names.length < 4294967296
  faults : d.faults.length < 4294967296
  fts : ∀ f, f ∈ d.faults → f.byzNames.length < 4294967296 ∧ f.crashNames.length < 4294967296 ∧ (-4611686018427387904 ≤ f.byz ∧ f.byz < 4611686018427387904) ∧ (-4611686018427387904 ≤ f.crash ∧ f.crash < 4611686018427387904)
  term : d.term.size < 4294967295
  read : d.read.size < 4294967295
  write : d.write.size < 4294967295
section
variable (l : List D) (i : Nat) (hl : l.length < 4294967296) (hlt : i < l.length) (hd : ∀ d, d ∈ l → Dec d) (ht : (table (l.take i)).length < 4294967296)
include hl hd ht
theorem s18_7 (hk : l[i].kind = 7) (hn7 : (namesK 7 (l.take i)).length < 4294967296) : CallP pg 18 [declsV l, iV i] (iV (firstErr (l.take i) 0 l[i])) := by
  have hl' : l.length < 4611686018427387904 := by omega
  have hD := hd l[i] (List.getElem_mem hlt)
  have htt : (table (l.take i)).length < 4611686018427387904 := by omega
  have c19 := s19 (l.take i) (by simp; omega) ht
  simp only [declsV, List.map_take] at c19
  have c35 := s35 l[i]
  rw [hk] at c35
  have hle : i ≤ l.length := by omega
  have hle' : ¬ l.length < i := by omega
  have c36 := s36 (table (l.take i)) l[i].name htt
  have c43 := s43 (l.take i) 7 (by simp; omega) hn7
  simp only [declsV, List.map_take] at c43
  have c42 : CallP pg 42 [_, _, .slc [], _] _ := s42 (table (l.take i)) l[i].names [] 5 htt (by have := hD.names; omega) (by simp)
  refine CallP.go rfl (show _ = some m18 from rfl) ?_
  unfold m18 firstErr bodyErr
  by_cases h0 : 0 < (namesK 7 (l.take i)).length <;> simp [hk, hle, hle', hlt, kindOf, callK_eq c19, callK_eq c35, callK_eq c42, callK_eq c43, h0]
theorem s18_5 (hk : l[i].kind = 5) (hn5 : (namesK 5 (l.take i)).length < 4294967296) : CallP pg 18 [declsV l, iV i] (iV (firstErr (l.take i) 0 l[i])) := by
  have hl' : l.length < 4611686018427387904 := by omega
  have hD := hd l[i] (List.getElem_mem hlt)
  have htt : (table (l.take i)).length < 4611686018427387904 := by omega
  have c19 := s19 (l.take i) (by simp; omega) ht
  simp only [declsV, List.map_take] at c19
  have c35 := s35 l[i]
  rw [hk] at c35
  have hle : i ≤ l.length := by omega
  have hle' : ¬ l.length < i := by omega
  have c36 := s36 (table (l.take i)) l[i].name htt
  have c43 := s43 (l.take i) 5 (by simp; omega) hn5
  simp only [declsV, List.map_take] at c43
  have c42 := s42 (table (l.take i)) l[i].names (namesK 5 (l.take i)) 2 htt (by have := hD.names; omega) (by omega)
  refine CallP.go rfl (show _ = some m18 from rfl) ?_
  unfold m18 firstErr bodyErr
  simp [hk, hle, hle', hlt, kindOf, callK_eq c19, callK_eq c35, callK_eq c42, callK_eq c43]
theorem s18_6 (hk : l[i].kind = 6) : CallP pg 18 [declsV l, iV i] (iV (firstErr (l.take i) 0 l[i])) := by
  have hl' : l.length < 4611686018427387904 := by omega
  have hD := hd l[i] (List.getElem_mem hlt)
  have htt : (table (l.take i)).length < 4611686018427387904 := by omega
  have c19 := s19 (l.take i) (by simp; omega) ht
  simp only [declsV, List.map_take] at c19
  have c35 := s35 l[i]
  rw [hk] at c35
  have hle : i ≤ l.length := by omega
  have hle' : ¬ l.length < i := by omega
  have c36 := s36 (table (l.take i)) l[i].name htt
  have c40 := s40 (table (l.take i)) l[i].use 3 3 htt
  have c20 := s20 (table (l.take i)) 6 htt
  refine CallP.go rfl (show _ = some m18 from rfl) ?_
  unfold m18 firstErr bodyErr
  by_cases h0 : find l[i].name (table (l.take i)) = 0
  · by_cases h1 : 6 ≤ countK 6 (table (l.take i))
    · have h1' : (6 : Int) ≤ (countK 6 (table (l.take i)) : Int) := by omega
      simp [hk, hle, hle', hlt, kindOf, callK_eq c19, callK_eq c35, callK_eq c36, callK_eq c20, h0, h1, h1']
    · have h1' : ¬ (6 : Int) ≤ (countK 6 (table (l.take i)) : Int) := by omega
      by_cases h2 : l[i].use = ⟨#[]⟩ <;> simp [hk, hle, hle', hlt, kindOf, callK_eq c19, callK_eq c35, callK_eq c36, callK_eq c20, callK_eq c40, h0, h1, h1', h2]
  · simp [hk, hle, hle', hlt, kindOf, callK_eq c19, callK_eq c35, callK_eq c36, h0]
theorem s18_4 (hk : l[i].kind = 4) : CallP pg 18 [declsV l, iV i] (iV (firstErr (l.take i) 0 l[i])) := by
  have hl' : l.length < 4611686018427387904 := by omega
  have hD := hd l[i] (List.getElem_mem hlt)
  have htt : (table (l.take i)).length < 4611686018427387904 := by omega
  have c19 := s19 (l.take i) (by simp; omega) ht
  simp only [declsV, List.map_take] at c19
  have c35 := s35 l[i]
  rw [hk] at c35
  have hle : i ≤ l.length := by omega
  have hle' : ¬ l.length < i := by omega
  have c36 := s36 (table (l.take i)) l[i].name htt
  have c40 := s40 (table (l.take i)) l[i].use 3 3 htt
  have c20 := s20 (table (l.take i)) 5 htt
  have cr := s39 (table (l.take i)) htt _ l[i].read (Nat.le_refl _) (by have := hD.read; omega)
  have cw := s39 (table (l.take i)) htt _ l[i].write (Nat.le_refl _) (by have := hD.write; omega)
  have c41 := s41 (l.take i) l[i].use (by simp; omega) (fun d h => by have := (hd d (List.mem_of_mem_take h)).faults; omega)
  simp only [declsV, List.map_take] at c41
  refine CallP.go rfl (show _ = some m18 from rfl) ?_
  unfold m18 firstErr bodyErr
  by_cases h0 : find l[i].name (table (l.take i)) = 0
  case neg => simp [hk, hle, hle', hlt, kindOf, callK_eq c19, callK_eq c35, callK_eq c36, h0]
  by_cases h1 : 6 ≤ countK 5 (table (l.take i))
  · have h1' : (6 : Int) ≤ (countK 5 (table (l.take i)) : Int) := by omega
    simp [hk, hle, hle', hlt, kindOf, callK_eq c19, callK_eq c35, callK_eq c36, callK_eq c20, h0, h1, h1']
  have h1' : ¬ (6 : Int) ≤ (countK 5 (table (l.take i)) : Int) := by omega
  unfold configErr
  by_cases hr : termErr (table (l.take i)) l[i].read = 0
  case neg => simp [hk, hle, hle', hlt, kindOf, callK_eq c19, callK_eq c35, callK_eq c36, callK_eq c20, h0, h1, h1', callK_eq cr, hr]
  by_cases hw : termErr (table (l.take i)) l[i].write = 0
  case neg => simp [hk, hle, hle', hlt, kindOf, callK_eq c19, callK_eq c35, callK_eq c36, callK_eq c20, h0, h1, h1', callK_eq cr, hr, callK_eq cw, hw]
  by_cases hm : must (table (l.take i)) l[i].use 3 3 = 0
  case neg => simp [hk, hle, hle', hlt, kindOf, callK_eq c19, callK_eq c35, callK_eq c36, callK_eq c20, h0, h1, h1', callK_eq cr, hr, callK_eq cw, hw, callK_eq c40, hm]
  by_cases hc : l[i].protocol = bCrash
  · cases hb : byz (l.take i) l[i].use <;> rw [hb] at c41 <;> simp [hk, hle, hle', hlt, kindOf, callK_eq c19, callK_eq c35, callK_eq c36, callK_eq c20, h0, h1, h1', callK_eq cr, hr, callK_eq cw, hw, callK_eq c40, hm, hc, bCrash, callK_eq c41, hb]
  · have hc' : ¬ l[i].protocol = ⟨#[99, 114, 97, 115, 104]⟩ := hc
    simp [hk, hle, hle', hlt, kindOf, callK_eq c19, callK_eq c35, callK_eq c36, callK_eq c20, h0, h1, h1', callK_eq cr, hr, callK_eq cw, hw, callK_eq c40, hm, hc, hc']
theorem s18_3 (hk : l[i].kind = 3) : CallP pg 18 [declsV l, iV i] (iV (firstErr (l.take i) 0 l[i])) := by
  have hl' : l.length < 4611686018427387904 := by omega
  have hD := hd l[i] (List.getElem_mem hlt)
  have htt : (table (l.take i)).length < 4611686018427387904 := by omega
  have c19 := s19 (l.take i) (by simp; omega) ht
  simp only [declsV, List.map_take] at c19
  have c35 := s35 l[i]
  rw [hk] at c35
  have hle : i ≤ l.length := by omega
  have hle' : ¬ l.length < i := by omega
  have c36 := s36 (table (l.take i)) l[i].name htt
  have c39 := s39 (table (l.take i)) htt _ l[i].term (Nat.le_refl _) (by have := hD.term; omega)
  refine CallP.go rfl (show _ = some m18 from rfl) ?_
  unfold m18 firstErr bodyErr
  by_cases h0 : find l[i].name (table (l.take i)) = 0 <;> simp [hk, hle, hle', hlt, kindOf, callK_eq c19, callK_eq c35, callK_eq c36, callK_eq c39, h0]
theorem s18_2 (hk : l[i].kind = 2) : CallP pg 18 [declsV l, iV i] (iV (firstErr (l.take i) 0 l[i])) := by
  have hl' : l.length < 4611686018427387904 := by omega
  have hD := hd l[i] (List.getElem_mem hlt)
  have htt : (table (l.take i)).length < 4611686018427387904 := by omega
  have c19 := s19 (l.take i) (by simp; omega) ht
  simp only [declsV, List.map_take] at c19
  have c35 := s35 l[i]
  rw [hk] at c35
  have hle : i ≤ l.length := by omega
  have hle' : ¬ l.length < i := by omega
  have c36 := s36 (table (l.take i)) l[i].name htt
  refine CallP.go rfl (show _ = some m18 from rfl) ?_
  unfold m18 firstErr bodyErr
  by_cases h0 : find l[i].name (table (l.take i)) = 0
  case neg => simp [hk, hle, hle', hlt, kindOf, callK_eq c19, callK_eq c35, callK_eq c36, h0]
  generalize hA : faultsErr (table (l.take i)) l[i].faults = A
  generalize hR : (table (l.take i)) = t at *
  have loop := loop_go (M := pg) m18_l0.eq_def l[i].faults (by have := hD.faults; omega) (fun k e σ => e = [(5, .ptr 1 1 0 0), (6, .ref 0 t.length), (10, iV k)] ∧ σ = [some (.arr 2 (t.map fun p => [V.str p.1, iV p.2])), some (.arr 22 [l[i].cells])] ∧ faultsErr t (l[i].faults.drop k) = A)
    (fun y e σ => (y = .exit 3 ∧ A = 0) ∨ (y = .ret ∧ ret m18.results (iV A) e σ))
    (by rintro e σ ⟨rfl, rfl, h⟩; simp [faultsErr] at h; simp [← h])
    (by
      rintro k f r e σ ⟨rfl, rfl, h⟩ hdk hltk hxk hdk' hw
      simp only [hdk, faultsErr] at h
      have hf := hD.fts f (by rw [← hxk]; exact List.getElem_mem hltk)
      have c38 := s38 t f htt hf.1 hf.2.1 hf.2.2.1 hf.2.2.2
      by_cases hz : faultErr t f = 0 <;> simp [hz] at h <;> subst h <;> simp [hltk, hxk, hw, callK_eq c38, hz, hdk', m18])
    (e := [(5, .ptr 1 1 0 0), (6, .ref 0 t.length), (10, iV 0)]) (σ := [some (.arr 2 (t.map fun p => [V.str p.1, iV p.2])), some (.arr 22 [l[i].cells])]) ⟨rfl, rfl, by simpa using hA⟩
  simp [hk, hle, hle', hlt, kindOf, callK_eq c19, callK_eq c35, callK_eq c36, h0]
  refine loopK_of loop ?_
  rintro y e σ (⟨rfl, h⟩ | ⟨rfl, h⟩)
  · simp [hA, h]
  · rw [hA]; exact ⟨trivial, h⟩
theorem s18_0 (hk1 : l[i].kind ≠ 1) (hk2 : l[i].kind ≠ 2) (hk3 : l[i].kind ≠ 3) (hk4 : l[i].kind ≠ 4) (hk5 : l[i].kind ≠ 5) (hk6 : l[i].kind ≠ 6) (hk7 : l[i].kind ≠ 7) : CallP pg 18 [declsV l, iV i] (iV (firstErr (l.take i) 0 l[i])) := by
  have hl' : l.length < 4611686018427387904 := by omega
  have c19 := s19 (l.take i) (by simp; omega) ht
  simp only [declsV, List.map_take] at c19
  have c35 := s35 l[i]
  have hle : i ≤ l.length := by omega
  have hle' : ¬ l.length < i := by omega
  refine CallP.go rfl (show _ = some m18 from rfl) ?_
  unfold m18 firstErr bodyErr
  simp [hk1, hk2, hk3, hk4, hk5, hk6, hk7, hle, hle', hlt, kindOf, callK_eq c19, callK_eq c35]
theorem s18_1 (hk : l[i].kind = 1) (last : Int) (hlast : ∀ h : 0 < i, (l[i - 1]'(by omega)).kind = last) : CallP pg 18 [declsV l, iV i] (iV (firstErr (l.take i) last l[i])) := by
  have hl' : l.length < 4611686018427387904 := by omega
  have hD := hd l[i] (List.getElem_mem hlt)
  have htt : (table (l.take i)).length < 4611686018427387904 := by omega
  have c19 := s19 (l.take i) (by simp; omega) ht
  simp only [declsV, List.map_take] at c19
  have c35 := s35 l[i]
  rw [hk] at c35
  have hle : i ≤ l.length := by omega
  have hle' : ¬ l.length < i := by omega
  have c36 := s36 (table (l.take i)) l[i].name htt
  refine CallP.go rfl (show _ = some m18 from rfl) ?_
  unfold m18 firstErr bodyErr
  have hpl : (l.take i).length = i := by simp; omega
  generalize hR : (table (l.take i)) = t at *
  generalize hA : siteErr t l[i].name [] l[i].names = A
  have c20 := s20 t 2 htt
  have hcl := countK_le 2 t
  have loop := loop_go (M := pg) m18_l1.eq_def l[i].names (by have := hD.names; omega) (fun k e σ => e = [(5, .ptr 1 1 0 0), (6, .ref 0 t.length), (8, iV k)] ∧ σ = [some (.arr 2 (t.map fun p => [V.str p.1, iV p.2])), some (.arr 22 [l[i].cells])] ∧ siteErr t l[i].name (l[i].names.take k) (l[i].names.drop k) = A)
    (fun y e σ => (y = .exit 1 ∧ A = 0) ∨ (y = .ret ∧ ret m18.results (iV A) e σ))
    (by rintro e σ ⟨rfl, rfl, h⟩; simp [siteErr] at h; simp [← h])
    (by
      rintro k s r e σ ⟨rfl, rfl, h⟩ hdk hltk hxk hdk' hw
      have ht1 : l[i].names.take (k + 1) = l[i].names.take k ++ [s] := by rw [List.take_add_one]; simp [hltk, hxk]
      have c36' := s36 t s htt
      have c37 : CallP pg 37 [.slc ((l[i].names.map fun s => [V.str s]).take k), .str s] (.bool (isIn s (l[i].names.take k))) := by rw [← List.map_take]; exact s37 _ _ (by simp; have := hD.names; omega)
      have hkle : k ≤ l[i].names.length := by omega
      have hkle' : ¬ l[i].names.length < k := by omega
      have hkl : (l[i].names.take k).length = k := by simp; omega
      have hnl := hD.names
      have hws : IntKind.i64.wrap ((countK 2 t : Int) + (k : Int)) = (countK 2 t : Int) + (k : Int) := wrap_int (by clear hw; omega) (by clear hw; omega)
      simp only [hdk, siteErr, hkl] at h
      by_cases h1 : find s t = 0
      · by_cases h2 : s = l[i].name
        · simp [h1, ← h2] at h; subst h; simp [hltk, hxk, hw, callK_eq c36', h1, ← h2, hdk', m18]
        · cases h3 : isIn s (l[i].names.take k)
          · rw [h3] at c37
            simp [h1, h2, h3] at h
            by_cases h4 : 12 ≤ countK 2 t + k
            · have h4' : (12 : Int) ≤ (countK 2 t : Int) + (k : Int) := by clear hw hws; omega
              rw [if_pos h4] at h; subst h; simp [hltk, hxk, hw, callK_eq c36', h1, h2, callK_eq c37, hkle, hkle', callK_eq c20, hws, h4', hdk', m18]
            · have h4' : ¬ (12 : Int) ≤ (countK 2 t : Int) + (k : Int) := by clear hw hws; omega
              rw [if_neg h4] at h; subst h; simp [hltk, hxk, hw, callK_eq c36', h1, h2, callK_eq c37, hkle, hkle', callK_eq c20, hws, h4', hdk', ht1, m18]
          · rw [h3] at c37
            simp [h1, h2, h3] at h; subst h; simp [hltk, hxk, hw, callK_eq c36', h1, h2, callK_eq c37, hkle, hkle', hdk', m18]
      · simp [h1] at h; subst h; simp [hltk, hxk, hw, callK_eq c36', h1, hdk', m18])
    (e := [(5, .ptr 1 1 0 0), (6, .ref 0 t.length), (8, iV 0)]) (σ := [some (.arr 2 (t.map fun p => [V.str p.1, iV p.2])), some (.arr 22 [l[i].cells])]) ⟨rfl, rfl, by simpa using hA⟩
  by_cases h0 : 0 < i
  · have hl1 := hlast h0
    have hi1 : i - 1 < l.length := by omega
    have hws : IntKind.i64.wrap ((i : Int) - 1) = ((i - 1 : Nat) : Int) := by rw [wrap_int (by omega) (by omega)]; omega
    by_cases h1 : last = 1
    · rw [h1] at hl1
      by_cases h2 : find l[i].name t = 0
      case neg => simp [hk, hle, hle', hlt, kindOf, callK_eq c19, callK_eq c35, callK_eq c36, h0, hpl, hl1, hi1, hws, h1, h2]
      simp [hk, hle, hle', hlt, kindOf, callK_eq c19, callK_eq c35, callK_eq c36, h0, hpl, hl1, hi1, hws, h1, h2]
      refine loopK_of loop ?_
      rintro y e σ (⟨rfl, h⟩ | ⟨rfl, h⟩)
      · simp [hA, h]
      · rw [hA]; exact ⟨trivial, h⟩
    · have h1' : ¬ (l[i - 1]'hi1).kind = 1 := by rw [hl1]; exact h1
      simp [hk, hle, hle', hlt, kindOf, callK_eq c19, callK_eq c35, callK_eq c36, h0, hpl, h1', hi1, hws, h1]
  · by_cases h2 : find l[i].name t = 0
    case neg => simp [hk, hle, hle', hlt, kindOf, callK_eq c19, callK_eq c35, callK_eq c36, h0, hpl, h2]
    simp [hk, hle, hle', hlt, kindOf, callK_eq c19, callK_eq c35, callK_eq c36, h0, hpl, h2]
    refine loopK_of loop ?_
    rintro y e σ (⟨rfl, h⟩ | ⟨rfl, h⟩)
    · simp [hA, h]
    · rw [hA]; exact ⟨trivial, h⟩
/-- ref24.first, whole. -/
theorem s18 (hn5 : (namesK 5 (l.take i)).length < 4294967296) (hn7 : (namesK 7 (l.take i)).length < 4294967296) (last : Int) (hlast : ∀ h : 0 < i, (l[i - 1]'(by omega)).kind = last) : CallP pg 18 [declsV l, iV i] (iV (firstErr (l.take i) last l[i])) := by
  by_cases h1 : l[i].kind = 1
  · exact s18_1 l i hl hlt hd ht h1 last hlast
  have hz : firstErr (l.take i) last l[i] = firstErr (l.take i) 0 l[i] := by unfold firstErr; simp [h1]
  rw [hz]
  by_cases h2 : l[i].kind = 2
  · exact s18_2 l i hl hlt hd ht h2
  by_cases h3 : l[i].kind = 3
  · exact s18_3 l i hl hlt hd ht h3
  by_cases h4 : l[i].kind = 4
  · exact s18_4 l i hl hlt hd ht h4
  by_cases h5 : l[i].kind = 5
  · exact s18_5 l i hl hlt hd ht h5 hn5
  by_cases h6 : l[i].kind = 6
  · exact s18_6 l i hl hlt hd ht h6
  by_cases h7 : l[i].kind = 7
  · exact s18_7 l i hl hlt hd ht h7 hn7
  exact s18_0 l i hl hlt hd ht h1 h2 h3 h4 h5 h6 h7
end
/- The lists of a beginning are no longer than those of the whole. -/
theorem table_take (l : List D) (i : Nat) : (table (l.take i)).length ≤ (table l).length := by
  induction l generalizing i with
  | nil => simp
  | cons d l ih =>
    cases i with
    | zero => simp [table]
    | succ i => have := ih i; simp only [List.take_succ_cons, table, List.length_append]; omega
theorem namesK_take (k : Int) (l : List D) (i : Nat) : (namesK k (l.take i)).length ≤ (namesK k l).length := by
  induction l generalizing i with
  | nil => simp
  | cons d l ih =>
    cases i with
    | zero => simp [namesK]
    | succ i => have := ih i; simp only [List.take_succ_cons, namesK, List.length_append]; omega
/-- The first wrong declaration: its line and its error. -/
def firstBad : List D → Int → List D → Option (Int × Int)
  | _, _, [] => none
  | pre, last, d :: l => if firstErr pre last d ≠ 0 then some (d.line, firstErr pre last d) else firstBad (pre ++ [d]) d.kind l
/-- ref24.Check; 'e': the error of ref23.Valid. -/
def checkOf (e : Int) (l : List D) : Int × Int :=
  if e ≠ 0 then (0, e) else match firstBad [] 0 l with
    | some r => r
    | none => if countK 2 (table l) = 0 ∨ countK 5 (table l) = 0 then (0, 9) else (0, 0)
theorem s7 (l : List D) (er : Int) (hl : l.length < 4294967296) (hd : er = 0 → ∀ d, d ∈ l → Dec d) (ht : er = 0 → (table l).length < 4294967296) (hn5 : er = 0 → (namesK 5 l).length < 4294967296) (hn7 : er = 0 → (namesK 7 l).length < 4294967296)
    (h17 : CallP pg 17 [declsV l] (iV er)) : CallP pg 7 [declsV l] (.tup [iV (checkOf er l).1, iV (checkOf er l).2]) := by
  refine CallP.go rfl (show _ = some m7 from rfl) ?_
  by_cases he : er = 0
  case neg =>
    unfold m7 checkOf
    simp [callK_eq h17, he]
  replace hd := hd he
  replace ht := ht he
  replace hn5 := hn5 he
  replace hn7 := hn7 he
  have hl' : l.length < 4611686018427387904 := by omega
  generalize hA : firstBad [] 0 l = A
  have loop := loop_go (M := pg) m7_l0.eq_def l hl' (fun i e σ => e = [(0, declsV l), (5, iV i)] ∧ σ = [] ∧ ∃ last, (∀ h : 0 < i, ∀ hq : i - 1 < l.length, (l[i - 1]'hq).kind = last) ∧ firstBad (l.take i) last (l.drop i) = A)
    (fun y e σ => (y = .exit 0 ∧ A = none ∧ e.look 0 = some (declsV l) ∧ σ = []) ∨ (y = .ret ∧ ∃ a b, A = some (a, b) ∧ ret m7.results (.tup [iV a, iV b]) e σ))
    (by rintro e σ ⟨rfl, rfl, last, h1, h⟩; simp [firstBad] at h; simp [← h])
    (by
      rintro i d r e σ ⟨rfl, rfl, last, h1, h⟩ hdk hlt hx' hd' hw
      have ht1 : l.take (i + 1) = l.take i ++ [d] := by rw [List.take_add_one]; simp [hlt, hx']
      have c18 := s18 l i hl hlt hd (by have := table_take l i; omega) (by have := namesK_take 5 l i; omega) (by have := namesK_take 7 l i; omega) last (fun h => h1 h _)
      rw [hx'] at c18
      simp only [hdk, firstBad] at h
      by_cases hz : firstErr (l.take i) last d = 0
      · simp [hz] at h
        simp [hlt, hx', hw, callK_eq c18, hz]
        rw [ht1, hd']; exact h
      · simp [hz] at h
        subst h
        simp [hlt, hx', hw, callK_eq c18, hz, m7])
    (e := [(0, declsV l), (5, iV 0)]) (σ := []) ⟨rfl, rfl, 0, by simp, by simpa using hA⟩
  have c19 := s19 l hl' ht
  have c2 := s20 (table l) 2 (by omega)
  have c5 := s20 (table l) 5 (by omega)
  unfold m7 checkOf
  rw [hA]
  simp [callK_eq h17, he]
  refine loopK_of loop ?_
  rintro y e σ (⟨rfl, h, h0, rfl⟩ | ⟨rfl, a, b, h, hr⟩)
  · subst h
    by_cases z2 : countK 2 (table l) = 0
    · simp [h0, callK_eq c19, callK_eq c2, callK_eq c5, z2]
    · by_cases z5 : countK 5 (table l) = 0 <;> simp [h0, callK_eq c19, callK_eq c2, callK_eq c5, z2, z5]
  · subst h
    exact ⟨trivial, hr⟩
end Go.Ev.Ty
namespace Go.Ev.Ty
open Go.Ev
variable [GF]
set_option maxRecDepth 100000
set_option linter.unusedSimpArgs false
set_option linter.unusedVariables false
def hasL : List UInt8 → Int → Bool
  | [], _ => false
  | c :: l, n => if (c.toNat : Int) = n then true else hasL l n
theorem s96 (s : ByteArray) (n : Int) (hs : s.size < 4611686018427387904) : CallP pg 96 [.str s, bV n] (.bool (hasL s.data.toList n)) := by
  refine CallP.go rfl (show _ = some m96 from rfl) ?_
  have hsz := len_data s
  generalize hA : hasL s.data.toList n = A
  have loop := loop_go (M := pg) m96_l0.eq_def s.data.toList (by omega) (fun i e σ => e = [(0, .str s), (1, bV n), (5, iV i)] ∧ σ = [] ∧ hasL (s.data.toList.drop i) n = A)
    (fun y e σ => (y = .exit 0 ∧ A = false) ∨ (y = .ret ∧ A = true ∧ e = [(4, .bool true)]))
    (by rintro e σ ⟨rfl, rfl, h⟩; simp only [List.drop_length, hasL] at h; subst h; simp)
    (by
      rintro i x r e σ ⟨rfl, rfl, h⟩ hd hlt hx' hd' hw
      simp only [hd, hasL] at h
      have hlt' : i < s.size := by omega
      have hgi : ∀ h : i < s.data.size, s.data[i]'h = x := fun h => by rw [← hx']; simp
      by_cases a : (x.toNat : Int) = n
      · rw [if_pos a] at h
        subst h
        simp [hlt', hgi, a]
      · rw [if_neg a] at h
        simp [hlt', hgi, a, hw, hd', h])
    (e := [(0, .str s), (1, bV n), (5, iV 0)]) (σ := []) ⟨rfl, rfl, by simpa using hA⟩
  unfold m96
  simp
  refine loopK_of loop ?_
  rintro y e σ (⟨rfl, h⟩ | ⟨rfl, h, rfl⟩)
  · simp [h]
  · simp [h]
/-- ref23.uses. -/
def usesOf (k : Int) : ByteArray := if k = 1 then ⟨#[78, 76]⟩ else if k = 2 then ⟨#[78, 70]⟩ else if k = 3 then ⟨#[78, 84]⟩ else if k = 4 then ⟨#[78, 80, 85]⟩ else if k = 5 then ⟨#[76]⟩ else if k = 6 then ⟨#[78, 85]⟩ else if k = 7 then ⟨#[76]⟩ else ⟨#[]⟩
theorem s94 (k : Int) (h1 : 1 ≤ k) (h7 : k ≤ 7) : CallP pg 94 [iV k] (.str (usesOf k)) := by
  refine CallP.go rfl (show _ = some m94 from rfl) ?_
  have : k = 1 ∨ k = 2 ∨ k = 3 ∨ k = 4 ∨ k = 5 ∨ k = 6 ∨ k = 7 := by omega
  unfold m94 usesOf
  rcases this with rfl | rfl | rfl | rfl | rfl | rfl | rfl <;> simp
def allFaults : List FT → Bool
  | [] => true
  | f :: l => if isFault f then allFaults l else false
/-- Text: byzantine. -/
def bByz : ByteArray := ⟨#[98, 121, 122, 97, 110, 116, 105, 110, 101]⟩
/- A declaration but for its faults, by the fields that its kind has: what is wrong with it. -/
def bad1 (N L F : Bool) (d : D) : Bool := (N == decide (d.name = ⟨#[]⟩)) || (!decide (d.name = ⟨#[]⟩) && !isName d.name) || (L == decide (d.names.length = 0)) || !allN d.names || (F == decide (d.faults.length = 0))
def bad2 (T : Bool) (d : D) : Bool := if T then !isTerm d.term else !blankT d.term
def bad3 (P U : Bool) (d : D) : Bool := if d.use = ⟨#[]⟩ then P else !U || !isName d.use
def good4 (d : D) : Bool := (decide (d.protocol = bCrash) || decide (d.protocol = bByz)) && isTerm d.read && isTerm d.write
def good5 (d : D) : Bool := decide (d.protocol = ⟨#[]⟩) && blankT d.read && blankT d.write
def declRest (N L F T P U : Bool) (d : D) : Bool :=
  if bad1 N L F d then false else if bad2 T d then false else if bad3 P U d then false else if P then good4 d else good5 d
/-- ref23.isDecl. -/
def isDecl (d : D) : Bool :=
  if d.kind < 1 ∨ d.kind > 7 then false
  else if allFaults d.faults = false then false
  else declRest (hasL (usesOf d.kind).data.toList 78) (hasL (usesOf d.kind).data.toList 76) (hasL (usesOf d.kind).data.toList 70) (hasL (usesOf d.kind).data.toList 84) (hasL (usesOf d.kind).data.toList 80) (hasL (usesOf d.kind).data.toList 85) d
theorem s66 (d : D) (hn : d.names.length < 4294967296) (hfl : d.faults.length < 4294967296) (hf : ∀ f, f ∈ d.faults → f.byzNames.length < 4294967296 ∧ f.crashNames.length < 4294967296) (ht : d.term.size < 4294967295) (hr : d.read.size < 4294967295) (hw : d.write.size < 4294967295) :
    CallP pg 66 [.agg d.cells] (.bool (isDecl d)) := by
  refine CallP.go rfl (show _ = some m66 from rfl) ?_
  unfold isDecl
  by_cases k1 : d.kind < 1
  · unfold m66
    simp [k1]
  by_cases k7 : d.kind > 7
  · unfold m66
    simp [k1, k7]
  have c94 := s94 d.kind (by omega) (by omega)
  have husz : (usesOf d.kind).size < 4611686018427387904 := by
    unfold usesOf
    repeat' split
    all_goals decide
  have cN := s96 (usesOf d.kind) 78 husz
  have cL := s96 (usesOf d.kind) 76 husz
  have cF := s96 (usesOf d.kind) 70 husz
  have cT := s96 (usesOf d.kind) 84 husz
  have cP := s96 (usesOf d.kind) 80 husz
  have cU := s96 (usesOf d.kind) 85 husz
  generalize hu : usesOf d.kind = u at *
  generalize hA : allFaults d.faults = A
  have loop := loop_go (M := pg) m66_l0.eq_def d.faults (by omega) (fun i e σ => e = [(1, .ptr 0 1 0 0), (3, .str u), (4, iV i)] ∧ σ = [some (.arr 22 [d.cells])] ∧ allFaults (d.faults.drop i) = A)
    (fun y e σ => σ = [some (.arr 22 [d.cells])] ∧ ((y = .exit 0 ∧ A = true ∧ e = [(1, .ptr 0 1 0 0), (3, .str u), (4, iV d.faults.length), (20, .bool false)]) ∨ (y = .ret ∧ A = false ∧ e = [(2, .bool false)])))
    (by rintro e σ ⟨rfl, rfl, h⟩; simp [allFaults] at h; subst h; simp)
    (by
      rintro i f r e σ ⟨rfl, rfl, h⟩ hd hlt hx' hd' hwr
      simp only [hd, allFaults] at h
      have hff := hf f (by rw [← hx']; exact List.getElem_mem hlt)
      have c95 := s95 f hff.1 hff.2
      by_cases a : isFault f = true
      · simp [a] at h
        simp [hlt, hx', callK_eq c95, a, hwr, hd', h]
      · simp [a] at h
        subst h
        simp [hlt, hx', callK_eq c95, a])
    (e := [(1, .ptr 0 1 0 0), (3, .str u), (4, iV 0)]) (σ := [some (.arr 22 [d.cells])]) ⟨rfl, rfl, by simpa using hA⟩
  have e1 : d.term.weights.length < 4294967296 ∧ d.term.kids.length < 4294967296 := by have := d.term.size_eq; have := sizes_len d.term.kids; omega
  have e2 : d.read.weights.length < 4294967296 ∧ d.read.kids.length < 4294967296 := by have := d.read.size_eq; have := sizes_len d.read.kids; omega
  have e3 : d.write.weights.length < 4294967296 ∧ d.write.kids.length < 4294967296 := by have := d.write.size_eq; have := sizes_len d.write.kids; omega
  have c97n := s97 d.name
  have c97u := s97 d.use
  have c98 := s98 d.names (by omega)
  have ct := s99 _ d.term (Nat.le_refl _) (by omega)
  have cr := s99 _ d.read (Nat.le_refl _) (by omega)
  have cw := s99 _ d.write (Nat.le_refl _) (by omega)
  have cbt := s100 d.term e1.1 e1.2
  have cbr := s100 d.read e2.1 e2.2
  have cbw := s100 d.write e3.1 e3.2
  generalize hasL u.data.toList 78 = N at *
  generalize hasL u.data.toList 76 = L at *
  generalize hasL u.data.toList 70 = F at *
  generalize hasL u.data.toList 84 = T at *
  generalize hasL u.data.toList 80 = P at *
  generalize hasL u.data.toList 85 = U at *
  have hor : ¬ (d.kind < 1 ∨ d.kind > 7) := by omega
  rw [if_neg hor]
  unfold m66
  simp [k1, k7, callK_eq c94]
  refine loopK_of loop ?_
  rintro y e σ ⟨rfl, ⟨rfl, h, rfl⟩ | ⟨rfl, h, rfl⟩⟩
  case inr => simp [h]
  clear loop
  subst h
  unfold declRest
  simp only [esc_block_exit, esc_code_exit, esc_nil, if_true, go_reg, go_seq, go_cond, go_block, go_skip, Env.arg, Env.look, condK_true, condK_false, if_false, Nat.reduceEqDiff, reduceCtorEq]
  refine opsW_cut (e' := [(1, .ptr 0 1 0 0), (3, .str u), (70, .bool (bad1 N L F d))]) (σ' := [some (.arr 22 [d.cells])]) ?_ ?_
  · intro k Q hk
    by_cases z : d.name = ⟨#[]⟩
    · cases N
      case true =>
        simpa [bad1, z, callK_eq cN, callK_eq cL, callK_eq cF, callK_eq cT, callK_eq cP, callK_eq cU, callK_eq c97n, callK_eq c98, callK_eq c97u, callK_eq ct, callK_eq cbt, callK_eq cr, callK_eq cw, callK_eq cbr, callK_eq cbw] using hk
      by_cases zl : d.names.length = 0
      · cases L
        case true =>
          simpa [bad1, z, zl, callK_eq cN, callK_eq cL, callK_eq cF, callK_eq cT, callK_eq cP, callK_eq cU, callK_eq c97n, callK_eq c98, callK_eq c97u, callK_eq ct, callK_eq cbt, callK_eq cr, callK_eq cw, callK_eq cbr, callK_eq cbw] using hk
        by_cases a : allN d.names = true
        case neg =>
          simpa [bad1, z, zl, a, callK_eq cN, callK_eq cL, callK_eq cF, callK_eq cT, callK_eq cP, callK_eq cU, callK_eq c97n, callK_eq c98, callK_eq c97u, callK_eq ct, callK_eq cbt, callK_eq cr, callK_eq cw, callK_eq cbr, callK_eq cbw] using hk
        by_cases zf : d.faults.length = 0
        · cases F
          · simpa [bad1, z, zl, a, zf, callK_eq cN, callK_eq cL, callK_eq cF, callK_eq cT, callK_eq cP, callK_eq cU, callK_eq c97n, callK_eq c98, callK_eq c97u, callK_eq ct, callK_eq cbt, callK_eq cr, callK_eq cw, callK_eq cbr, callK_eq cbw] using hk
          · simpa [bad1, z, zl, a, zf, callK_eq cN, callK_eq cL, callK_eq cF, callK_eq cT, callK_eq cP, callK_eq cU, callK_eq c97n, callK_eq c98, callK_eq c97u, callK_eq ct, callK_eq cbt, callK_eq cr, callK_eq cw, callK_eq cbr, callK_eq cbw] using hk
        · have pf : 0 < d.faults.length := by omega
          cases F
          · simpa [bad1, z, zl, a, zf, pf, callK_eq cN, callK_eq cL, callK_eq cF, callK_eq cT, callK_eq cP, callK_eq cU, callK_eq c97n, callK_eq c98, callK_eq c97u, callK_eq ct, callK_eq cbt, callK_eq cr, callK_eq cw, callK_eq cbr, callK_eq cbw] using hk
          · simpa [bad1, z, zl, a, zf, pf, callK_eq cN, callK_eq cL, callK_eq cF, callK_eq cT, callK_eq cP, callK_eq cU, callK_eq c97n, callK_eq c98, callK_eq c97u, callK_eq ct, callK_eq cbt, callK_eq cr, callK_eq cw, callK_eq cbr, callK_eq cbw] using hk
      · have pl : 0 < d.names.length := by omega
        cases L
        case false =>
          simpa [bad1, z, zl, pl, callK_eq cN, callK_eq cL, callK_eq cF, callK_eq cT, callK_eq cP, callK_eq cU, callK_eq c97n, callK_eq c98, callK_eq c97u, callK_eq ct, callK_eq cbt, callK_eq cr, callK_eq cw, callK_eq cbr, callK_eq cbw] using hk
        by_cases a : allN d.names = true
        case neg =>
          simpa [bad1, z, zl, pl, a, callK_eq cN, callK_eq cL, callK_eq cF, callK_eq cT, callK_eq cP, callK_eq cU, callK_eq c97n, callK_eq c98, callK_eq c97u, callK_eq ct, callK_eq cbt, callK_eq cr, callK_eq cw, callK_eq cbr, callK_eq cbw] using hk
        by_cases zf : d.faults.length = 0
        · cases F
          · simpa [bad1, z, zl, pl, a, zf, callK_eq cN, callK_eq cL, callK_eq cF, callK_eq cT, callK_eq cP, callK_eq cU, callK_eq c97n, callK_eq c98, callK_eq c97u, callK_eq ct, callK_eq cbt, callK_eq cr, callK_eq cw, callK_eq cbr, callK_eq cbw] using hk
          · simpa [bad1, z, zl, pl, a, zf, callK_eq cN, callK_eq cL, callK_eq cF, callK_eq cT, callK_eq cP, callK_eq cU, callK_eq c97n, callK_eq c98, callK_eq c97u, callK_eq ct, callK_eq cbt, callK_eq cr, callK_eq cw, callK_eq cbr, callK_eq cbw] using hk
        · have pf : 0 < d.faults.length := by omega
          cases F
          · simpa [bad1, z, zl, pl, a, zf, pf, callK_eq cN, callK_eq cL, callK_eq cF, callK_eq cT, callK_eq cP, callK_eq cU, callK_eq c97n, callK_eq c98, callK_eq c97u, callK_eq ct, callK_eq cbt, callK_eq cr, callK_eq cw, callK_eq cbr, callK_eq cbw] using hk
          · simpa [bad1, z, zl, pl, a, zf, pf, callK_eq cN, callK_eq cL, callK_eq cF, callK_eq cT, callK_eq cP, callK_eq cU, callK_eq c97n, callK_eq c98, callK_eq c97u, callK_eq ct, callK_eq cbt, callK_eq cr, callK_eq cw, callK_eq cbr, callK_eq cbw] using hk
    · cases N
      case false =>
        simpa [bad1, z, callK_eq cN, callK_eq cL, callK_eq cF, callK_eq cT, callK_eq cP, callK_eq cU, callK_eq c97n, callK_eq c98, callK_eq c97u, callK_eq ct, callK_eq cbt, callK_eq cr, callK_eq cw, callK_eq cbr, callK_eq cbw] using hk
      by_cases n : isName d.name = true
      case neg =>
        simpa [bad1, z, n, callK_eq cN, callK_eq cL, callK_eq cF, callK_eq cT, callK_eq cP, callK_eq cU, callK_eq c97n, callK_eq c98, callK_eq c97u, callK_eq ct, callK_eq cbt, callK_eq cr, callK_eq cw, callK_eq cbr, callK_eq cbw] using hk
      by_cases zl : d.names.length = 0
      · cases L
        case true =>
          simpa [bad1, z, n, zl, callK_eq cN, callK_eq cL, callK_eq cF, callK_eq cT, callK_eq cP, callK_eq cU, callK_eq c97n, callK_eq c98, callK_eq c97u, callK_eq ct, callK_eq cbt, callK_eq cr, callK_eq cw, callK_eq cbr, callK_eq cbw] using hk
        by_cases a : allN d.names = true
        case neg =>
          simpa [bad1, z, n, zl, a, callK_eq cN, callK_eq cL, callK_eq cF, callK_eq cT, callK_eq cP, callK_eq cU, callK_eq c97n, callK_eq c98, callK_eq c97u, callK_eq ct, callK_eq cbt, callK_eq cr, callK_eq cw, callK_eq cbr, callK_eq cbw] using hk
        by_cases zf : d.faults.length = 0
        · cases F
          · simpa [bad1, z, n, zl, a, zf, callK_eq cN, callK_eq cL, callK_eq cF, callK_eq cT, callK_eq cP, callK_eq cU, callK_eq c97n, callK_eq c98, callK_eq c97u, callK_eq ct, callK_eq cbt, callK_eq cr, callK_eq cw, callK_eq cbr, callK_eq cbw] using hk
          · simpa [bad1, z, n, zl, a, zf, callK_eq cN, callK_eq cL, callK_eq cF, callK_eq cT, callK_eq cP, callK_eq cU, callK_eq c97n, callK_eq c98, callK_eq c97u, callK_eq ct, callK_eq cbt, callK_eq cr, callK_eq cw, callK_eq cbr, callK_eq cbw] using hk
        · have pf : 0 < d.faults.length := by omega
          cases F
          · simpa [bad1, z, n, zl, a, zf, pf, callK_eq cN, callK_eq cL, callK_eq cF, callK_eq cT, callK_eq cP, callK_eq cU, callK_eq c97n, callK_eq c98, callK_eq c97u, callK_eq ct, callK_eq cbt, callK_eq cr, callK_eq cw, callK_eq cbr, callK_eq cbw] using hk
          · simpa [bad1, z, n, zl, a, zf, pf, callK_eq cN, callK_eq cL, callK_eq cF, callK_eq cT, callK_eq cP, callK_eq cU, callK_eq c97n, callK_eq c98, callK_eq c97u, callK_eq ct, callK_eq cbt, callK_eq cr, callK_eq cw, callK_eq cbr, callK_eq cbw] using hk
      · have pl : 0 < d.names.length := by omega
        cases L
        case false =>
          simpa [bad1, z, n, zl, pl, callK_eq cN, callK_eq cL, callK_eq cF, callK_eq cT, callK_eq cP, callK_eq cU, callK_eq c97n, callK_eq c98, callK_eq c97u, callK_eq ct, callK_eq cbt, callK_eq cr, callK_eq cw, callK_eq cbr, callK_eq cbw] using hk
        by_cases a : allN d.names = true
        case neg =>
          simpa [bad1, z, n, zl, pl, a, callK_eq cN, callK_eq cL, callK_eq cF, callK_eq cT, callK_eq cP, callK_eq cU, callK_eq c97n, callK_eq c98, callK_eq c97u, callK_eq ct, callK_eq cbt, callK_eq cr, callK_eq cw, callK_eq cbr, callK_eq cbw] using hk
        by_cases zf : d.faults.length = 0
        · cases F
          · simpa [bad1, z, n, zl, pl, a, zf, callK_eq cN, callK_eq cL, callK_eq cF, callK_eq cT, callK_eq cP, callK_eq cU, callK_eq c97n, callK_eq c98, callK_eq c97u, callK_eq ct, callK_eq cbt, callK_eq cr, callK_eq cw, callK_eq cbr, callK_eq cbw] using hk
          · simpa [bad1, z, n, zl, pl, a, zf, callK_eq cN, callK_eq cL, callK_eq cF, callK_eq cT, callK_eq cP, callK_eq cU, callK_eq c97n, callK_eq c98, callK_eq c97u, callK_eq ct, callK_eq cbt, callK_eq cr, callK_eq cw, callK_eq cbr, callK_eq cbw] using hk
        · have pf : 0 < d.faults.length := by omega
          cases F
          · simpa [bad1, z, n, zl, pl, a, zf, pf, callK_eq cN, callK_eq cL, callK_eq cF, callK_eq cT, callK_eq cP, callK_eq cU, callK_eq c97n, callK_eq c98, callK_eq c97u, callK_eq ct, callK_eq cbt, callK_eq cr, callK_eq cw, callK_eq cbr, callK_eq cbw] using hk
          · simpa [bad1, z, n, zl, pl, a, zf, pf, callK_eq cN, callK_eq cL, callK_eq cF, callK_eq cT, callK_eq cP, callK_eq cU, callK_eq c97n, callK_eq c98, callK_eq c97u, callK_eq ct, callK_eq cbt, callK_eq cr, callK_eq cw, callK_eq cbr, callK_eq cbw] using hk
  by_cases b1 : bad1 N L F d = true
  case pos => simp [b1]
  simp only [Bool.not_eq_true] at b1
  rw [b1]
  simp only [esc_block_exit, esc_code_exit, esc_nil, if_true, go_reg, go_seq, go_cond, go_block, go_skip, Env.arg, Env.look, condK_true, condK_false, if_false, Nat.reduceEqDiff, reduceCtorEq]
  refine opsW_cut (e' := [(1, .ptr 0 1 0 0), (3, .str u), (89, .bool (bad2 T d))]) (σ' := [some (.arr 22 [d.cells])]) ?_ ?_
  · intro k Q hk
    cases T
    · by_cases a : blankT d.term = true
      · simpa [bad2, a, callK_eq cN, callK_eq cL, callK_eq cF, callK_eq cT, callK_eq cP, callK_eq cU, callK_eq c97n, callK_eq c98, callK_eq c97u, callK_eq ct, callK_eq cbt, callK_eq cr, callK_eq cw, callK_eq cbr, callK_eq cbw] using hk
      · simpa [bad2, a, callK_eq cN, callK_eq cL, callK_eq cF, callK_eq cT, callK_eq cP, callK_eq cU, callK_eq c97n, callK_eq c98, callK_eq c97u, callK_eq ct, callK_eq cbt, callK_eq cr, callK_eq cw, callK_eq cbr, callK_eq cbw] using hk
    · by_cases a : isTerm d.term = true
      · simpa [bad2, a, callK_eq cN, callK_eq cL, callK_eq cF, callK_eq cT, callK_eq cP, callK_eq cU, callK_eq c97n, callK_eq c98, callK_eq c97u, callK_eq ct, callK_eq cbt, callK_eq cr, callK_eq cw, callK_eq cbr, callK_eq cbw] using hk
      · simpa [bad2, a, callK_eq cN, callK_eq cL, callK_eq cF, callK_eq cT, callK_eq cP, callK_eq cU, callK_eq c97n, callK_eq c98, callK_eq c97u, callK_eq ct, callK_eq cbt, callK_eq cr, callK_eq cw, callK_eq cbr, callK_eq cbw] using hk
  by_cases b2 : bad2 T d = true
  case pos => simp [b2]
  simp only [Bool.not_eq_true] at b2
  rw [b2]
  simp only [esc_block_exit, esc_code_exit, esc_nil, if_true, go_reg, go_seq, go_cond, go_block, go_skip, Env.arg, Env.look, condK_true, condK_false, if_false, Nat.reduceEqDiff, reduceCtorEq]
  refine opsW_cut (e' := [(1, .ptr 0 1 0 0), (3, .str u), (112, .bool (bad3 P U d))]) (σ' := [some (.arr 22 [d.cells])]) ?_ ?_
  · intro k Q hk
    by_cases z : d.use = ⟨#[]⟩
    · cases P
      · simpa [bad3, z, callK_eq cN, callK_eq cL, callK_eq cF, callK_eq cT, callK_eq cP, callK_eq cU, callK_eq c97n, callK_eq c98, callK_eq c97u, callK_eq ct, callK_eq cbt, callK_eq cr, callK_eq cw, callK_eq cbr, callK_eq cbw] using hk
      · simpa [bad3, z, callK_eq cN, callK_eq cL, callK_eq cF, callK_eq cT, callK_eq cP, callK_eq cU, callK_eq c97n, callK_eq c98, callK_eq c97u, callK_eq ct, callK_eq cbt, callK_eq cr, callK_eq cw, callK_eq cbr, callK_eq cbw] using hk
    · cases U
      · simpa [bad3, z, callK_eq cN, callK_eq cL, callK_eq cF, callK_eq cT, callK_eq cP, callK_eq cU, callK_eq c97n, callK_eq c98, callK_eq c97u, callK_eq ct, callK_eq cbt, callK_eq cr, callK_eq cw, callK_eq cbr, callK_eq cbw] using hk
      · by_cases n : isName d.use = true
        · simpa [bad3, z, n, callK_eq cN, callK_eq cL, callK_eq cF, callK_eq cT, callK_eq cP, callK_eq cU, callK_eq c97n, callK_eq c98, callK_eq c97u, callK_eq ct, callK_eq cbt, callK_eq cr, callK_eq cw, callK_eq cbr, callK_eq cbw] using hk
        · simpa [bad3, z, n, callK_eq cN, callK_eq cL, callK_eq cF, callK_eq cT, callK_eq cP, callK_eq cU, callK_eq c97n, callK_eq c98, callK_eq c97u, callK_eq ct, callK_eq cbt, callK_eq cr, callK_eq cw, callK_eq cbr, callK_eq cbw] using hk
  by_cases b3 : bad3 P U d = true
  case pos => simp [b3]
  simp only [Bool.not_eq_true] at b3
  rw [b3]
  simp only [Bool.false_eq_true, if_false]
  cases P
  · unfold good5
    by_cases q0 : d.protocol = ⟨#[]⟩
    case neg => simp [callK_eq cN, callK_eq cL, callK_eq cF, callK_eq cT, callK_eq cP, callK_eq cU, callK_eq c97n, callK_eq c98, callK_eq c97u, callK_eq ct, callK_eq cbt, callK_eq cr, callK_eq cw, callK_eq cbr, callK_eq cbw, q0]
    by_cases q1 : blankT d.read = true
    case neg => simp [callK_eq cN, callK_eq cL, callK_eq cF, callK_eq cT, callK_eq cP, callK_eq cU, callK_eq c97n, callK_eq c98, callK_eq c97u, callK_eq ct, callK_eq cbt, callK_eq cr, callK_eq cw, callK_eq cbr, callK_eq cbw, q0, q1]
    by_cases q2 : blankT d.write = true
    case neg => simp [callK_eq cN, callK_eq cL, callK_eq cF, callK_eq cT, callK_eq cP, callK_eq cU, callK_eq c97n, callK_eq c98, callK_eq c97u, callK_eq ct, callK_eq cbt, callK_eq cr, callK_eq cw, callK_eq cbr, callK_eq cbw, q0, q1, q2]
    simp [callK_eq cN, callK_eq cL, callK_eq cF, callK_eq cT, callK_eq cP, callK_eq cU, callK_eq c97n, callK_eq c98, callK_eq c97u, callK_eq ct, callK_eq cbt, callK_eq cr, callK_eq cw, callK_eq cbr, callK_eq cbw, q0, q1, q2]
  · unfold good4 bCrash bByz
    by_cases p1 : d.protocol = ⟨#[99, 114, 97, 115, 104]⟩
    · skip
      by_cases q0 : isTerm d.read = true
      case neg => simp [callK_eq cN, callK_eq cL, callK_eq cF, callK_eq cT, callK_eq cP, callK_eq cU, callK_eq c97n, callK_eq c98, callK_eq c97u, callK_eq ct, callK_eq cbt, callK_eq cr, callK_eq cw, callK_eq cbr, callK_eq cbw, p1, q0]
      by_cases q1 : isTerm d.write = true
      case neg => simp [callK_eq cN, callK_eq cL, callK_eq cF, callK_eq cT, callK_eq cP, callK_eq cU, callK_eq c97n, callK_eq c98, callK_eq c97u, callK_eq ct, callK_eq cbt, callK_eq cr, callK_eq cw, callK_eq cbr, callK_eq cbw, p1, q0, q1]
      simp [callK_eq cN, callK_eq cL, callK_eq cF, callK_eq cT, callK_eq cP, callK_eq cU, callK_eq c97n, callK_eq c98, callK_eq c97u, callK_eq ct, callK_eq cbt, callK_eq cr, callK_eq cw, callK_eq cbr, callK_eq cbw, p1, q0, q1]
    by_cases p2 : d.protocol = ⟨#[98, 121, 122, 97, 110, 116, 105, 110, 101]⟩
    · skip
      by_cases q0 : isTerm d.read = true
      case neg => simp [callK_eq cN, callK_eq cL, callK_eq cF, callK_eq cT, callK_eq cP, callK_eq cU, callK_eq c97n, callK_eq c98, callK_eq c97u, callK_eq ct, callK_eq cbt, callK_eq cr, callK_eq cw, callK_eq cbr, callK_eq cbw, p1, p2, q0]
      by_cases q1 : isTerm d.write = true
      case neg => simp [callK_eq cN, callK_eq cL, callK_eq cF, callK_eq cT, callK_eq cP, callK_eq cU, callK_eq c97n, callK_eq c98, callK_eq c97u, callK_eq ct, callK_eq cbt, callK_eq cr, callK_eq cw, callK_eq cbr, callK_eq cbw, p1, p2, q0, q1]
      simp [callK_eq cN, callK_eq cL, callK_eq cF, callK_eq cT, callK_eq cP, callK_eq cU, callK_eq c97n, callK_eq c98, callK_eq c97u, callK_eq ct, callK_eq cbt, callK_eq cr, callK_eq cw, callK_eq cbr, callK_eq cbw, p1, p2, q0, q1]
    simp [p1, p2, callK_eq cN, callK_eq cL, callK_eq cF, callK_eq cT, callK_eq cP, callK_eq cU, callK_eq c97n, callK_eq c98, callK_eq c97u, callK_eq ct, callK_eq cbt, callK_eq cr, callK_eq cw, callK_eq cbr, callK_eq cbw]
end Go.Ev.Ty
