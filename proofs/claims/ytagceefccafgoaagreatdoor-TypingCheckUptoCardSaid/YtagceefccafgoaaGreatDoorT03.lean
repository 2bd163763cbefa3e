/- The store's blocks turn one at a time: new rows, rows that are written or grow, maps. No condition. -/
import Derived.Deep.Draws
import Derived.Test.YtagceefccafgoaaGreatDoorT02
set_option linter.all false
namespace Go.Ev
variable [Consts]
set_option linter.unusedSectionVars false
open Go.RowKit
def upd {α : Type} (f : Nat → Option α) (b : Nat) (x : α) : Nat → Option α := fun c => if c = b then some x else f c
theorem upd_same {α : Type} (f : Nat → Option α) (b : Nat) (x : α) : upd f b x b = some x := by simp [upd]
theorem upd_ne {α : Type} (f : Nat → Option α) {b c : Nat} (x : α) (h : c ≠ b) : upd f b x c = f c := by simp [upd, h]
theorem LExt.upd {L : LMap} {b : Nat} {l' : Loc} (h : ∀ l, L b = some l → l'.sz = l.sz ∧ (l' = l ∨ l.n < l'.n)) : LExt L (upd L b l') := by
  intro c m hm
  by_cases hc : c = b
  · subst hc; exact ⟨l', upd_same .., h m hm⟩
  · exact ⟨m, by rw [upd_ne _ _ hc]; exact hm, rfl, .inl rfl⟩
/-- One block turns, or comes. -/
theorem Inv.upd {base : Nat} {w w' : World} {S : SSet} {G : Nat → Option Blk} {L : LMap} (h : Inv base w S G L) {b : Nat} {l' : Loc} {k' : Blk}
    (hext : ∀ l, L b = some l → l'.sz = l.sz ∧ (l' = l ∨ l.n < l'.n))
    (hcell : ∀ r o, S r o → w'.cell? ⟨r, o, none⟩ = w.cell? ⟨r, o, none⟩)
    (hothers : ∀ c m g, c ≠ b → L c = some m → m.own = some g → w'.heap[g]? = w.heap[g]? ∧ l'.own ≠ some g)
    (hbelow : Below base w w')
    (hblk : Keeps w S L w' S (Ev.upd L b l') → BlkRep base w' S (Ev.upd L b l') l' k') :
    Inv base w' S (Ev.upd G b k') (Ev.upd L b l') ∧ Step base w S L w' S (Ev.upd L b l') := by
  have K : Keeps w S L w' S (Ev.upd L b l') := ⟨hcell, fun _ _ s => s, LExt.upd hext⟩
  refine ⟨⟨?_, ?_, ?_, ?_, ?_, Consts.keep _ _ h.om (hbelow.mono h.n0_le), h.n0_le⟩, hbelow, K, fun _ _ s => .inl s⟩
  · intro c k hc
    by_cases e : c = b
    · subst e
      rw [upd_same] at hc; cases hc
      exact ⟨l', upd_same .., hblk K⟩
    · rw [upd_ne _ _ e] at hc
      obtain ⟨l, hl, r⟩ := h.blk c k hc
      refine ⟨l, by rw [upd_ne _ _ e]; exact hl, r.mono K (fun g hg => (hothers c l g e hl hg).1) (fun g o hg => (h.own_lt hl hg).2.2 o)⟩
  · intro c m hm
    by_cases e : c = b
    · subst e; exact ⟨k', upd_same ..⟩
    · rw [upd_ne _ _ e] at hm ⊢; exact h.dom c m hm
  · intro c d m m' r hm hm' hr hr'
    by_cases e : c = b <;> by_cases e' : d = b
    · rw [e, e']
    · subst e
      rw [upd_same] at hm; cases hm
      rw [upd_ne _ _ e'] at hm'
      exact absurd hr (hothers d m' r e' hm' hr').2
    · subst e'
      rw [upd_same] at hm'; cases hm'
      rw [upd_ne _ _ e] at hm
      exact absurd hr' (hothers c m r e hm hr).2
    · rw [upd_ne _ _ e] at hm
      rw [upd_ne _ _ e'] at hm'
      exact h.apart c d m m' r hm hm' hr hr'
  · exact fun r o s => Nat.lt_of_lt_of_le (h.stable r o s) hbelow.size
  · exact Nat.le_trans h.base_le hbelow.size
theorem Inv.noLoc {base : Nat} {w : World} {S : SSet} {G : Nat → Option Blk} {L : LMap} (h : Inv base w S G L) {b : Nat} (hb : G b = none) : L b = none := by
  cases hl : L b with
  | none => rfl
  | some l => obtain ⟨k, hk⟩ := h.dom b l hl; rw [hb] at hk; cases hk
/-- What is in a row of values. -/
def Filled (w : World) (S : SSet) (L : LMap) (sz : Nat) (xs : List (List V)) (cur : Array Value) : Prop :=
  ∀ (i : Nat) (c : List V), xs[i]? = some c → c.length = sz ∧ ∀ (j : Nat) (v : V), c[j]? = some v → v.isCell = true ∧ ∃ y, cur[i * sz + j]? = some y ∧ Rep w S L v y
/-- A new row: 'd' draws before it. -/
theorem Inv.newArr {base : Nat} {w : World} {S : SSet} {G : Nat → Option Blk} {L : LMap} (h : Inv base w S G L) {nb : Nat} (hnb : G nb = Option.none) (d : Nat)
    {sz cap : Nat} {xs : List (List V)} {cur : Array Value} {e : TypeId} (hf : Filled w S L sz xs cur) (hc : xs.length ≤ cap) (hm : cap ≤ maxLen) (hs : cur.size = cap * sz) :
    let l : Loc := ⟨some w.heap.size, .slice (some ⟨w.heap.size, 0, Option.none⟩) xs.length cap, xs.length, sz, e⟩
    let w' := (w.drewN d).alloc (.cells cur e)
    Inv base w' S (Ev.upd G nb (.arr sz xs)) (Ev.upd L nb l) ∧ Step base w S L w' S (Ev.upd L nb l) := by
  intro l w'
  have hold : ∀ k, k < w.heap.size → w'.heap[k]? = w.heap[k]? := fun k hk => by
    show (w.heap.push _)[k]? = _
    rw [Array.getElem?_push, if_neg (by omega)]
  have hnew : w'.heap[w.heap.size]? = some (.cells cur e (0, 0)) := by
    show (w.heap.push _)[w.heap.size]? = _
    simp
  have hb : Below w.heap.size w w' := ⟨rfl, rfl, rfl, by show _ ≤ (w.heap.push _).size; simp, hold⟩
  refine h.upd (fun m hm => by rw [h.noLoc hnb] at hm; cases hm) (fun r o s => hb.cell (p := ⟨r, o, Option.none⟩) (h.stable r o s)) (fun c m g _ hm hg => ⟨hold g (h.own_lt hm hg).2.1, ?_⟩) (hb.mono h.base_le) fun K => ?_
  · intro e
    have := (h.own_lt hm hg).2.1
    cases e
    omega
  · refine ⟨rfl, rfl, ?_⟩
    show ∃ cap cur, _
    refine ⟨cap, cur, rfl, h.base_le, hnew, hc, hm, hs, ?_, ?_⟩
    · intro i c hi
      refine ⟨(hf i c hi).1, fun j v hv => ?_⟩
      obtain ⟨h1, y, hy, hr⟩ := (hf i c hi).2 j v hv
      refine ⟨h1, y, ?_, Rep.mono K v y hr⟩
      unfold World.cell?
      simp only [hnew]
      simpa using hy
    · intro o s
      have := h.stable _ _ s
      omega
theorem Inv.newEmpty {base : Nat} {w : World} {S : SSet} {G : Nat → Option Blk} {L : LMap} (h : Inv base w S G L) {nb : Nat} (hnb : G nb = Option.none) (sz : Nat) (e : TypeId) (oa : Option Addr) :
    let l : Loc := ⟨Option.none, .slice oa 0 0, 0, sz, e⟩
    Inv base w S (Ev.upd G nb (.arr sz [])) (Ev.upd L nb l) ∧ Step base w S L w S (Ev.upd L nb l) := by
  intro l
  exact h.upd (fun m hm => by rw [h.noLoc hnb] at hm; cases hm) (fun _ _ _ => rfl) (fun c m g _ hm hg => ⟨rfl, by simp [l]⟩) (Below.refl _ _) fun K => ⟨rfl, rfl, rfl, oa, rfl⟩
theorem Inv.newMap {base : Nat} {w : World} {S : SSet} {G : Nat → Option Blk} {L : LMap} (h : Inv base w S G L) {nb : Nat} (hnb : G nb = Option.none) :
    let l : Loc := ⟨some w.heap.size, .map (some w.heap.size), 0, 0, 0⟩
    let w' := w.alloc (.map #[] 0)
    Inv base w' S (Ev.upd G nb (.mp [])) (Ev.upd L nb l) ∧ Step base w S L w' S (Ev.upd L nb l) := by
  intro l w'
  have hold : ∀ k, k < w.heap.size → w'.heap[k]? = w.heap[k]? := fun k hk => by
    show (w.heap.push _)[k]? = _
    rw [Array.getElem?_push, if_neg (by omega)]
  have hnew : w'.heap[w.heap.size]? = some (.map #[] 0) := by
    show (w.heap.push _)[w.heap.size]? = _
    simp
  have hb : Below w.heap.size w w' := ⟨rfl, rfl, rfl, by show _ ≤ (w.heap.push _).size; simp, hold⟩
  refine h.upd (fun m hm => by rw [h.noLoc hnb] at hm; cases hm) (fun r o s => hb.cell (p := ⟨r, o, Option.none⟩) (h.stable r o s)) (fun c m g _ hm hg => ⟨hold g (h.own_lt hm hg).2.1, ?_⟩) (hb.mono h.base_le) fun K => ?_
  · intro e
    have := (h.own_lt hm hg).2.1
    cases e
    omega
  · exact ⟨rfl, w.heap.size, #[], rfl, rfl, h.base_le, hnew, rfl, fun o s => by have := h.stable _ _ s; omega⟩
/-- What a live row is. -/
theorem Inv.row {base : Nat} {w : World} {S : SSet} {G : Nat → Option Blk} {L : LMap} (h : Inv base w S G L) {b sz : Nat} {xs : List (List V)} (hb : G b = some (.arr sz xs)) {l : Loc} (hl : L b = some l) :
    BlkRep base w S L l (.arr sz xs) := by
  obtain ⟨l', hl', r⟩ := h.blk b _ hb
  rw [hl] at hl'; cases hl'
  exact r
/-- A row is written in place, and may grow within its room. -/
theorem Inv.writeArr {base : Nat} {w : World} {S : SSet} {G : Nat → Option Blk} {L : LMap} (h : Inv base w S G L) {b sz : Nat} {xs xs' : List (List V)} (hb : G b = some (.arr sz xs)) {l : Loc} (hl : L b = some l)
    {g cap : Nat} {cur' : Array Value} (hg : l.own = some g) (hv : l.v = .slice (some ⟨g, 0, Option.none⟩) l.n cap) (hlen : xs'.length = xs.length ∨ xs.length < xs'.length) (hcap : xs'.length ≤ cap) (hcm : cap ≤ maxLen) (hs : cur'.size = cap * sz)
    (hf : Filled w S L sz xs' cur') :
    let l' : Loc := ⟨some g, .slice (some ⟨g, 0, Option.none⟩) xs'.length cap, xs'.length, sz, l.e⟩
    let w' := { w with heap := w.heap.setIfInBounds g (.cells cur' l.e (0, 0)) }
    Inv base w' S (Ev.upd G b (.arr sz xs')) (Ev.upd L b l') ∧ Step base w S L w' S (Ev.upd L b l') := by
  intro l' w'
  obtain ⟨h0, h1, h2⟩ := h.own_lt hl hg
  have hr := h.row hb hl
  obtain ⟨hn, hsz, hr⟩ := hr
  have hother : ∀ k, k ≠ g → w'.heap[k]? = w.heap[k]? := fun k hk => by
    show (w.heap.setIfInBounds g _)[k]? = _
    rw [Array.getElem?_setIfInBounds_ne (Ne.symm hk)]
  have hnew : w'.heap[g]? = some (.cells cur' l.e (0, 0)) := by
    show (w.heap.setIfInBounds g _)[g]? = _
    rw [Array.getElem?_setIfInBounds_self_of_lt h1]
  have hb' : Below base w w' := ⟨rfl, rfl, rfl, by show _ ≤ (w.heap.setIfInBounds g _).size; simp, fun k hk => hother k (by omega)⟩
  refine h.upd (fun m hm => ?_) (fun r o s => World.cell?_of_block (a := ⟨r, o, Option.none⟩) (hother r (fun e => h2 o (e ▸ s)))) (fun c m g' hc hm hg' => ?_) hb' fun K => ?_
  · rw [hl] at hm; cases hm
    refine ⟨hsz.symm, ?_⟩
    rcases hlen with e | e
    · refine .inl ?_
      obtain ⟨o, v, n, z, e'⟩ := l
      simp only at hn hsz hg hv
      subst hn; subst hsz; subst hg
      simp only [l', e, hv]
    · exact .inr (by show l.n < xs'.length; omega)
  · have hne : g' ≠ g := fun e => hc (h.apart c b m l g' hm hl hg' (e ▸ hg))
    exact ⟨hother g' hne, fun e => hne (by cases e; rfl)⟩
  · refine ⟨rfl, rfl, ?_⟩
    show ∃ cap cur, _
    refine ⟨cap, cur', rfl, h0, hnew, hcap, hcm, hs, ?_, h2⟩
    intro i c hi
    refine ⟨(hf i c hi).1, fun j v hv => ?_⟩
    obtain ⟨q1, y, hy, hr⟩ := (hf i c hi).2 j v hv
    refine ⟨q1, y, ?_, Rep.mono K v y hr⟩
    unfold World.cell?
    simp only [hnew]
    simpa using hy
/-- A row grows into a new place. -/
theorem Inv.moveArr {base : Nat} {w : World} {S : SSet} {G : Nat → Option Blk} {L : LMap} (h : Inv base w S G L) {b sz : Nat} {xs xs' : List (List V)} (hb : G b = some (.arr sz xs)) {l : Loc} (hl : L b = some l) (d : Nat)
    {cap : Nat} {cur' : Array Value} {e : TypeId} (hlen : xs.length < xs'.length) (hcap : xs'.length ≤ cap) (hcm : cap ≤ maxLen) (hs : cur'.size = cap * sz) (hf : Filled w S L sz xs' cur') :
    let l' : Loc := ⟨some w.heap.size, .slice (some ⟨w.heap.size, 0, Option.none⟩) xs'.length cap, xs'.length, sz, e⟩
    let w' := (w.drewN d).alloc (.cells cur' e)
    Inv base w' S (Ev.upd G b (.arr sz xs')) (Ev.upd L b l') ∧ Step base w S L w' S (Ev.upd L b l') := by
  intro l' w'
  have hr := h.row hb hl
  obtain ⟨hn, hsz, hr⟩ := hr
  have hold : ∀ k, k < w.heap.size → w'.heap[k]? = w.heap[k]? := fun k hk => by
    show (w.heap.push _)[k]? = _
    rw [Array.getElem?_push, if_neg (by omega)]
  have hnew : w'.heap[w.heap.size]? = some (.cells cur' e (0, 0)) := by
    show (w.heap.push _)[w.heap.size]? = _
    simp
  have hb' : Below w.heap.size w w' := ⟨rfl, rfl, rfl, by show _ ≤ (w.heap.push _).size; simp, hold⟩
  refine h.upd (fun m hm => ?_) (fun r o s => hb'.cell (p := ⟨r, o, Option.none⟩) (h.stable r o s)) (fun c m g hc hm hg => ⟨hold g (h.own_lt hm hg).2.1, ?_⟩) (hb'.mono h.base_le) fun K => ?_
  · rw [hl] at hm; cases hm
    exact ⟨hsz.symm, .inr (by show l.n < xs'.length; omega)⟩
  · intro e
    have := (h.own_lt hm hg).2.1
    cases e
    omega
  · refine ⟨rfl, rfl, ?_⟩
    show ∃ cap cur, _
    refine ⟨cap, cur', rfl, h.base_le, hnew, hcap, hcm, hs, ?_, fun o s => by have := h.stable _ _ s; omega⟩
    intro i c hi
    refine ⟨(hf i c hi).1, fun j v hv => ?_⟩
    obtain ⟨h1, y, hy, hr⟩ := (hf i c hi).2 j v hv
    refine ⟨h1, y, ?_, Rep.mono K v y hr⟩
    unfold World.cell?
    simp only [hnew]
    simpa using hy
/-- A map turns. -/
theorem Inv.writeMap {base : Nat} {w : World} {S : SSet} {G : Nat → Option Blk} {L : LMap} (h : Inv base w S G L) {b : Nat} {es es' : List (V × V)} (hb : G b = some (.mp es)) {l : Loc} (hl : L b = some l)
    {g : Nat} {ms' : Array MapEntry} (hg : l.own = some g) (hf : Entries w S L es' ms'.toList 0) :
    let w' := { w with heap := w.heap.setIfInBounds g (.map ms' ms'.size) }
    Inv base w' S (Ev.upd G b (.mp es')) (Ev.upd L b l) ∧ Step base w S L w' S (Ev.upd L b l) := by
  intro w'
  obtain ⟨h0, h1, h2⟩ := h.own_lt hl hg
  obtain ⟨l1, hl1, hr⟩ := h.blk b _ hb
  rw [hl] at hl1; cases hl1
  obtain ⟨hn, g1, ms, e1, e2, -, -, -, -⟩ := hr
  rw [hg] at e1; cases e1
  have hother : ∀ k, k ≠ g → w'.heap[k]? = w.heap[k]? := fun k hk => by
    show (w.heap.setIfInBounds g _)[k]? = _
    rw [Array.getElem?_setIfInBounds_ne (Ne.symm hk)]
  have hnew : w'.heap[g]? = some (.map ms' ms'.size) := by
    show (w.heap.setIfInBounds g _)[g]? = _
    rw [Array.getElem?_setIfInBounds_self_of_lt h1]
  have hb' : Below base w w' := ⟨rfl, rfl, rfl, by show _ ≤ (w.heap.setIfInBounds g _).size; simp, fun k hk => hother k (by omega)⟩
  refine h.upd (fun m hm => by rw [hl] at hm; cases hm; exact ⟨rfl, .inl rfl⟩) (fun r o s => World.cell?_of_block (a := ⟨r, o, Option.none⟩) (hother r (fun e => h2 o (e ▸ s)))) (fun c m g' hc hm hg' => ?_) hb' fun K => ?_
  · have hne : g' ≠ g := fun e => hc (h.apart c b m l g' hm hl hg' (e ▸ hg))
    exact ⟨hother g' hne, fun e => hne (by rw [hg] at e; cases e; rfl)⟩
  · exact ⟨hn, g, ms', hg, e2, h0, hnew, hf.mono K, h2⟩
end Go.Ev
