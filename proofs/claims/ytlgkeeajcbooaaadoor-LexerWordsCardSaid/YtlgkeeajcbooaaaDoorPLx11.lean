/- Printed by a program of this session: what functions of the program come to, as Lean functions, with their contracts. -/
import Derived.Test.YtlgkeeajcbooaaaDoorPLx0
import Derived.Test.YtlgkeeajcbooaaaDoorPLx6
import Derived.Test.YtlgkeeajcbooaaaDoorPLx8
import Derived.Test.YtlgkeeajcbooaaaDoorPLx9
import Derived.Test.YtlgkeeajcbooaaaDoorPLx10
namespace Go.Proofs.YtlgkeeajcbooaaaDoor.PL
open Go.RowKit Go.Proofs.YtlgkeeajcbooaaaDoorW.PrintWords Go.Proofs.YtlgkeeajcbooaaaDoorW.PrintLast Go.Proofs.YtlgkeeajcbooaaaDoorW.PrintMore
attribute [local go_sem] max2_int min2_int max_two min_two max_three min_three max_four min_four   -- for this text's walks alone
set_option linter.unusedVariables false
set_option linter.unusedSimpArgs false

/-! ### sederuntlaw06_LexerWords: function 3 -/
mutual
def sederuntlaw06_LexerWords.j0 : Nat → Int → List (S28) → Bool → Option (Bool)
  | 0, _, _, _ => none
  | k + 1, x1, x5, x30 => if x30 = true then ((sederuntlaw06_awake.f k).bind fun t202 => (some t202)) else (sederuntlaw06_LexerWords.l0 k x1 x5 (⟨#[]⟩ : ByteArray) x5 (x5.length : Int) 0)
def sederuntlaw06_LexerWords.l0 : Nat → Int → List (S28) → ByteArray → List (S28) → Int → Int → Option (Bool)
  | 0, _, _, _, _, _, _ => none
  | k + 1, x1, x5, x8, x32, x33, x34 => if x34 < x33 then (if 0 ≤ x34 then (if x34 < (x32.length : Int) then ((lexer_Word.f k ((rd_T28 x32 x34).f0) ((rd_T28 x32 x34).f1) ((rd_T28 x32 x34).f2) ((rd_T28 x32 x34).f3) ((rd_T28 x32 x34).f4)).bind fun t205 => ((some (([(⟨#[32]⟩ : ByteArray), (⟨#[10]⟩ : ByteArray), (⟨#[9, 13]⟩ : ByteArray), (⟨#[32, 47, 47, 32, 34, 10]⟩ : ByteArray), (⟨#[32, 47, 47, 10]⟩ : ByteArray)] : List ByteArray) : List ByteArray)).bind fun y206 => (if 0 ≤ (Int.tmod x1 5) then (if (Int.tmod x1 5) < (y206.length : Int) then (if t205.size + (rdOf ByteArray.empty y206 (Int.tmod x1 5)).size ≤ 9223372036854775807 then (if x8.size + (t205 ++ (rdOf ByteArray.empty y206 (Int.tmod x1 5))).size ≤ 9223372036854775807 then (sederuntlaw06_LexerWords.l0 k x1 x5 (x8 ++ (t205 ++ (rdOf ByteArray.empty y206 (Int.tmod x1 5)))) x32 x33 (wrap64 (x34 + 1))) else (none)) else (none)) else (none)) else (none)))) else (none)) else (none)) else ((lexer_Tokens.f k x8).bind fun bt210 => (if bt210.2.2 = 0 then ((sederuntref06_Same.f k x5 bt210.1 false).bind fun t215 => (some t215)) else (some false)))
end
def sederuntlaw06_LexerWords.f (k : Nat) (a0 : ByteArray) (a1 : Int) : Option (Bool) := (sederuntref06_Tokens.f k a0).bind fun bt196 => ((sederuntlaw06_awake.f k).bind fun t201 => (if t201 = true then (if (a0.size : Int) > 1000 then (sederuntlaw06_LexerWords.j0 k a1 bt196.1 true) else (sederuntlaw06_LexerWords.j0 k a1 bt196.1 (bt196.2.2 != 0))) else (sederuntlaw06_LexerWords.j0 k a1 bt196.1 true)))
theorem sederuntlaw06_LexerWords.mono_l : ∀ k, (∀ y0 y1 y2, LeO (sederuntlaw06_LexerWords.j0 k y0 y1 y2) (sederuntlaw06_LexerWords.j0 (k + 1) y0 y1 y2)) ∧ (∀ y0 y1 y2 y3 y4 y5, LeO (sederuntlaw06_LexerWords.l0 k y0 y1 y2 y3 y4 y5) (sederuntlaw06_LexerWords.l0 (k + 1) y0 y1 y2 y3 y4 y5))
  | 0 => ⟨fun _ _ _ r h => by simp [sederuntlaw06_LexerWords.j0] at h, fun _ _ _ _ _ _ r h => by simp [sederuntlaw06_LexerWords.l0] at h⟩
  | k + 1 => by
    obtain ⟨ih0, ih1⟩ := sederuntlaw06_LexerWords.mono_l k
    refine ⟨?_, ?_⟩
    · intro y0 y1 y2
      unfold sederuntlaw06_LexerWords.j0
      repeat' first
      | (with_reducible exact ih0 _ _ _)
      | (with_reducible exact ih1 _ _ _ _ _ _)
      | (with_reducible exact lexer_Tokens.mono _ _)
      | (with_reducible exact lexer_Word.mono _ _ _ _ _ _)
      | (with_reducible exact sederuntlaw06_awake.mono _)
      | (with_reducible exact sederuntref06_Same.mono _ _ _ _)
      | (with_reducible exact sederuntref06_Tokens.mono _ _)
      | (with_reducible exact LeO.refl _)
      | (with_reducible exact LeO.none _)
      | (with_reducible refine LeO.ite ?_ ?_)
      | (with_reducible refine LeO.bind ?_ (fun _ => ?_))
      | exact ih0 _ _ _
      | exact ih1 _ _ _ _ _ _
      | exact lexer_Tokens.mono _ _
      | exact lexer_Word.mono _ _ _ _ _ _
      | exact sederuntlaw06_awake.mono _
      | exact sederuntref06_Same.mono _ _ _ _
      | exact sederuntref06_Tokens.mono _ _
      | exact LeO.none _
      | refine LeO.ite ?_ ?_
      | refine LeO.bind ?_ (fun _ => ?_)
    · intro y0 y1 y2 y3 y4 y5
      unfold sederuntlaw06_LexerWords.l0
      repeat' first
      | (with_reducible exact ih0 _ _ _)
      | (with_reducible exact ih1 _ _ _ _ _ _)
      | (with_reducible exact lexer_Tokens.mono _ _)
      | (with_reducible exact lexer_Word.mono _ _ _ _ _ _)
      | (with_reducible exact sederuntlaw06_awake.mono _)
      | (with_reducible exact sederuntref06_Same.mono _ _ _ _)
      | (with_reducible exact sederuntref06_Tokens.mono _ _)
      | (with_reducible exact LeO.refl _)
      | (with_reducible exact LeO.none _)
      | (with_reducible refine LeO.ite ?_ ?_)
      | (with_reducible refine LeO.bind ?_ (fun _ => ?_))
      | exact ih0 _ _ _
      | exact ih1 _ _ _ _ _ _
      | exact lexer_Tokens.mono _ _
      | exact lexer_Word.mono _ _ _ _ _ _
      | exact sederuntlaw06_awake.mono _
      | exact sederuntref06_Same.mono _ _ _ _
      | exact sederuntref06_Tokens.mono _ _
      | exact LeO.none _
      | refine LeO.ite ?_ ?_
      | refine LeO.bind ?_ (fun _ => ?_)
theorem sederuntlaw06_LexerWords.mono : ∀ a0 a1 k, LeO (sederuntlaw06_LexerWords.f k a0 a1) (sederuntlaw06_LexerWords.f (k + 1) a0 a1) := by
  intro a0 a1 k
  obtain ⟨ih0, ih1⟩ := sederuntlaw06_LexerWords.mono_l k
  unfold sederuntlaw06_LexerWords.f
  repeat' first
      | (with_reducible exact ih0 _ _ _)
      | (with_reducible exact ih1 _ _ _ _ _ _)
      | (with_reducible exact lexer_Tokens.mono _ _)
      | (with_reducible exact lexer_Word.mono _ _ _ _ _ _)
      | (with_reducible exact sederuntlaw06_awake.mono _)
      | (with_reducible exact sederuntref06_Same.mono _ _ _ _)
      | (with_reducible exact sederuntref06_Tokens.mono _ _)
      | (with_reducible exact LeO.refl _)
      | (with_reducible exact LeO.none _)
      | (with_reducible refine LeO.ite ?_ ?_)
      | (with_reducible refine LeO.bind ?_ (fun _ => ?_))
      | exact ih0 _ _ _
      | exact ih1 _ _ _ _ _ _
      | exact lexer_Tokens.mono _ _
      | exact lexer_Word.mono _ _ _ _ _ _
      | exact sederuntlaw06_awake.mono _
      | exact sederuntref06_Same.mono _ _ _ _
      | exact sederuntref06_Tokens.mono _ _
      | exact LeO.none _
      | refine LeO.ite ?_ ?_
      | refine LeO.bind ?_ (fun _ => ?_)
def sederuntlaw06_LexerWords.T8 : Bool × List (List Nat × List Nat) := (true, [([], []), ([], []), ([1], [1]), ([], []), ([], []), ([4], [4]), ([3, 5], [3, 5]), ([6], [6]), ([2, 7], [2, 7]), ([0, 8], [0, 8]), ([9, 2, 0, 1, 2, 3, 4, 5, 6, 7, 8, 9], [0, 9])])
def sederuntlaw06_LexerWords.B8 : List Nat := [0, 0, 2, 0, 0, 16, 56, 120, 254, 511, 1023]
theorem sederuntlaw06_LexerWords.tab8 : rtab .any (opsOf Tryd.f3 8) = sederuntlaw06_LexerWords.T8 := by kernel_rfl
theorem sederuntlaw06_LexerWords.bits8 : waitsOk sederuntlaw06_LexerWords.T8.2 sederuntlaw06_LexerWords.B8 = true := by kernel_rfl
set_option maxHeartbeats 8000000 in
set_option maxRecDepth 100000 in
theorem sederuntlaw06_LexerWords.calls (k : Nat) (a0 : ByteArray) (a1 : Int) (r : Bool) (w : World) (hG : Glob w) (h : sederuntlaw06_LexerWords.f k a0 a1 = some r) :
    Calls Tryd.prog 3 #[.string a0, .int .u8 a1] w fun e w' => e = .returned (.bool r) ∧ Below w.heap.size w w' := by
  have HG := Aside0.mk hG
  clear hG
  have hu28 := Tryd.underlying28
  have HB := Aside0.mk (Below.refl w.heap.size w)
  have H : ((sederuntref06_Tokens.f k a0).bind fun bt196 => ((sederuntlaw06_awake.f k).bind fun t201 => (if t201 = true then (if (a0.size : Int) > 1000 then (sederuntlaw06_LexerWords.j0 k a1 bt196.1 true) else (sederuntlaw06_LexerWords.j0 k a1 bt196.1 (bt196.2.2 != 0))) else (sederuntlaw06_LexerWords.j0 k a1 bt196.1 true)))) = some r := h
  clear h
  replace H := Option.bind_eq_some_iff.mp H
  obtain ⟨⟨t196, t197, t198⟩, A30, H⟩ := H
  replace H : ((sederuntlaw06_awake.f k).bind fun t201 => (if t201 = true then (if (a0.size : Int) > 1000 then (sederuntlaw06_LexerWords.j0 k a1 t196 true) else (sederuntlaw06_LexerWords.j0 k a1 t196 (t198 != 0))) else (sederuntlaw06_LexerWords.j0 k a1 t196 true))) = some r := H
  have A3 := Aside0.mk A30
  clear A30
  have HC4 := Aside0.mk H
  clear H
  go_enter Tryd.func3, Tryd.ntmps3
  go_upto_region 2 with (first | ((with_reducible refine gate_callee (f := 4) rfl ?_); refine goesL_ (some 16) rfl rfl Tryd.func4 (by kernel_rfl) rfl #[.string a0] rfl (by (try simp only [List.map_toArray, List.map_cons, List.map_nil]); first | done | rfl | (simp only [List.length_drop, List.length_take]; rfl)) ?_; (with_reducible refine (sederuntref06_Tokens.calls k a0 t196 t197 t198 _ A3.out).mono ?_); rintro e w5 ⟨v199, rfl, ho0, hb⟩; refine ⟨_, rfl, ?_⟩; have n0_ := Aside0.mk (Kd.R_lower ho0 (below_size (by repeat (first | (with_reducible first | exact HB.out | apply below_alloc | apply pw_below_drewN | apply below_drew1) | exact HB.out)))); have n1_ := Aside0.mk (below_step (by repeat (first | (with_reducible first | exact HB.out | apply below_alloc | apply pw_below_drewN | apply below_drew1) | exact HB.out)) hb); clear HB; have HO200 := n0_; have HB := n1_; clear n0_ n1_; (try clear hb); (try clear hb2); (try clear hk); (try clear hi); (try clear ho0)))
  (try simp only [Act.put, List.setIfInBounds_toArray, List.set_cons_zero, List.set_cons_succ])
  go_cut [30] (fun v30 wc => ∃ (kq : Nat) (x30_3 : Bool), v30 = .bool x30_3 ∧ Aside0 (sederuntlaw06_LexerWords.j0 kq a1 t196 x30_3 = some r) ∧ Aside0 (kq ≤ k) ∧ Aside0 (Kd.R k28 28 wc w.heap.size (fun _ => True) v199 t196) ∧ Aside0 (Below w.heap.size w wc))
  case first =>
    have H := HC4.out
    clear HC4
    replace H := Option.bind_eq_some_iff.mp H
    obtain ⟨t201, A60, H⟩ := H
    replace H : (if t201 = true then (if (a0.size : Int) > 1000 then (sederuntlaw06_LexerWords.j0 k a1 t196 true) else (sederuntlaw06_LexerWords.j0 k a1 t196 (t198 != 0))) else (sederuntlaw06_LexerWords.j0 k a1 t196 true)) = some r := H
    have A6 := Aside0.mk A60
    clear A60
    by_cases c7 : t201 = true
    · subst c7
      have H1 : (if (a0.size : Int) > 1000 then (sederuntlaw06_LexerWords.j0 k a1 t196 true) else (sederuntlaw06_LexerWords.j0 k a1 t196 (t198 != 0))) = some r := by rw [if_pos rfl] at H; exact H
      clear H
      have H := H1
      clear H1
      by_cases c8 : (a0.size : Int) > 1000
      · rw [if_pos c8] at H
        have c8b0 : decide (1000 < (a0.size : Int)) = true := decide_eq_true c8
        have c8b1 : decide (1000 < a0.size) = true := decide_eq_true (by omega)
        clear c8
        (first | rw [c8b0] | (simp only [i64_w, i32_w]; rw [c8b0]) | skip)
        have H' := Aside0.mk H
        clear H
        go_wp2_with (first | ((with_reducible refine gate_callee (f := 5) rfl ?_); refine goesL_ (some 20) rfl rfl Tryd.func5 (by kernel_rfl) rfl #[] rfl (by (try simp only [List.map_toArray, List.map_cons, List.map_nil]); first | done | rfl | (simp only [List.length_drop, List.length_take]; rfl)) ?_; (with_reducible refine (sederuntlaw06_awake.calls k  true _ (Glob.below HG.out (by repeat (first | (with_reducible first | exact HB.out | apply below_alloc | apply pw_below_drewN | apply below_drew1) | exact HB.out))) A6.out).mono ?_); rintro e w9 ⟨rfl, hb⟩; refine ⟨_, rfl, ?_⟩; have n0_ := Aside0.mk (Kd.R_below (by (with_reducible repeat (first | apply Kd.R_alloc | apply Kd.R_drewN | apply Kd.R_drew)); exact HO200.out) hb); have n1_ := Aside0.mk (below_step (by repeat (first | (with_reducible first | exact HB.out | apply below_alloc | apply pw_below_drewN | apply below_drew1) | exact HB.out)) hb); clear HO200; clear HB; have HO200 := n0_; have HB := n1_; clear n0_ n1_; (try clear hb); (try clear hb2); (try clear hk); (try clear hi)))
        go_meet
        case rel => exact ⟨_, (true), (by first | rfl | (simp; done) | (simp [*]; done) | (simp only [gw_u8, i64_w, ne_nil_bool] <;> rfl)), H', ⟨by first | omega | exact Nat.le_refl _⟩, ⟨by (with_reducible repeat (first | apply Kd.R_alloc | apply Kd.R_drewN | apply Kd.R_drew)); exact HO200.out⟩, ⟨by repeat (first | (with_reducible first | exact HB.out | apply below_alloc | apply pw_below_drewN | apply below_drew1) | exact HB.out)⟩⟩
      · rw [if_neg c8] at H
        have c8b0 : decide (1000 < (a0.size : Int)) = false := decide_eq_false c8
        have c8b1 : decide (1000 < a0.size) = false := decide_eq_false (by omega)
        clear c8
        (first | rw [c8b0] | (simp only [i64_w, i32_w]; rw [c8b0]) | skip)
        have H' := Aside0.mk H
        clear H
        go_wp2_with (first | ((with_reducible refine gate_callee (f := 5) rfl ?_); refine goesL_ (some 20) rfl rfl Tryd.func5 (by kernel_rfl) rfl #[] rfl (by (try simp only [List.map_toArray, List.map_cons, List.map_nil]); first | done | rfl | (simp only [List.length_drop, List.length_take]; rfl)) ?_; (with_reducible refine (sederuntlaw06_awake.calls k  true _ (Glob.below HG.out (by repeat (first | (with_reducible first | exact HB.out | apply below_alloc | apply pw_below_drewN | apply below_drew1) | exact HB.out))) A6.out).mono ?_); rintro e w10 ⟨rfl, hb⟩; refine ⟨_, rfl, ?_⟩; have n0_ := Aside0.mk (Kd.R_below (by (with_reducible repeat (first | apply Kd.R_alloc | apply Kd.R_drewN | apply Kd.R_drew)); exact HO200.out) hb); have n1_ := Aside0.mk (below_step (by repeat (first | (with_reducible first | exact HB.out | apply below_alloc | apply pw_below_drewN | apply below_drew1) | exact HB.out)) hb); clear HO200; clear HB; have HO200 := n0_; have HB := n1_; clear n0_ n1_; (try clear hb); (try clear hb2); (try clear hk); (try clear hi)))
        go_meet
        case rel => exact ⟨_, ((t198 != 0)), (by first | rfl | (simp; done) | (simp [*]; done) | (simp only [gw_u8, i64_w, ne_nil_bool] <;> rfl)), H', ⟨by first | omega | exact Nat.le_refl _⟩, ⟨by (with_reducible repeat (first | apply Kd.R_alloc | apply Kd.R_drewN | apply Kd.R_drew)); exact HO200.out⟩, ⟨by repeat (first | (with_reducible first | exact HB.out | apply below_alloc | apply pw_below_drewN | apply below_drew1) | exact HB.out)⟩⟩
    · replace c7 := Bool.eq_false_iff.mpr c7
      subst c7
      have H1 : (sederuntlaw06_LexerWords.j0 k a1 t196 true) = some r := by rw [if_neg (show ¬ (false = true) by decide)] at H; exact H
      clear H
      have H := H1
      clear H1
      have H' := Aside0.mk H
      clear H
      go_wp2_with (first | ((with_reducible refine gate_callee (f := 5) rfl ?_); refine goesL_ (some 20) rfl rfl Tryd.func5 (by kernel_rfl) rfl #[] rfl (by (try simp only [List.map_toArray, List.map_cons, List.map_nil]); first | done | rfl | (simp only [List.length_drop, List.length_take]; rfl)) ?_; (with_reducible refine (sederuntlaw06_awake.calls k  false _ (Glob.below HG.out (by repeat (first | (with_reducible first | exact HB.out | apply below_alloc | apply pw_below_drewN | apply below_drew1) | exact HB.out))) A6.out).mono ?_); rintro e w11 ⟨rfl, hb⟩; refine ⟨_, rfl, ?_⟩; have n0_ := Aside0.mk (Kd.R_below (by (with_reducible repeat (first | apply Kd.R_alloc | apply Kd.R_drewN | apply Kd.R_drew)); exact HO200.out) hb); have n1_ := Aside0.mk (below_step (by repeat (first | (with_reducible first | exact HB.out | apply below_alloc | apply pw_below_drewN | apply below_drew1) | exact HB.out)) hb); clear HO200; clear HB; have HO200 := n0_; have HB := n1_; clear n0_ n1_; (try clear hb); (try clear hb2); (try clear hk); (try clear hi)))
      go_meet
      case rel => exact ⟨_, (true), (by first | rfl | (simp; done) | (simp [*]; done) | (simp only [gw_u8, i64_w, ne_nil_bool] <;> rfl)), H', ⟨by first | omega | exact Nat.le_refl _⟩, ⟨by (with_reducible repeat (first | apply Kd.R_alloc | apply Kd.R_drewN | apply Kd.R_drew)); exact HO200.out⟩, ⟨by repeat (first | (with_reducible first | exact HB.out | apply below_alloc | apply pw_below_drewN | apply below_drew1) | exact HB.out)⟩⟩
  case rest =>
    clear HC4
    try clear p2
    try clear c3
    try clear c4
    try clear c5
    try clear c7
    try clear c8
    try clear c8b0
    try clear c8b1
    obtain ⟨kq, x30_3, rfl, HA, HJ3, HO_5, HB⟩ := hcut
    cases kq with
    | zero => exact absurd HA.out (by simp [sederuntlaw06_LexerWords.j0])
    | succ kj3 =>
      have H := HA.out
      clear HA
      simp only [sederuntlaw06_LexerWords.j0] at H
      by_cases c12 : x30_3 = true
      · subst c12
        have H1 : ((sederuntlaw06_awake.f kj3).bind fun t202 => (some t202)) = some r := by rw [if_pos rfl] at H; exact H
        clear H
        have H := H1
        clear H1
        replace H := Option.bind_eq_some_iff.mp H
        obtain ⟨t202, A130, H⟩ := H
        replace H : (some t202) = some r := H
        have A13 := Aside0.mk A130
        clear A130
        obtain rfl := Option.some.inj H
        go_wp2_with (first | ((with_reducible refine gate_callee (f := 5) rfl ?_); refine goesL_ (some 31) rfl rfl Tryd.func5 (by kernel_rfl) rfl #[] rfl (by (try simp only [List.map_toArray, List.map_cons, List.map_nil]); first | done | rfl | (simp only [List.length_drop, List.length_take]; rfl)) ?_; (with_reducible refine (sederuntlaw06_awake.calls kj3  t202 _ (Glob.below HG.out (by repeat (first | (with_reducible first | exact HB.out | apply below_alloc | apply pw_below_drewN | apply below_drew1) | exact HB.out))) A13.out).mono ?_); rintro e w14 ⟨rfl, hb⟩; refine ⟨_, rfl, ?_⟩; have n0_ := Aside0.mk (Kd.R_below (by (with_reducible repeat (first | apply Kd.R_alloc | apply Kd.R_drewN | apply Kd.R_drew)); exact HO_5.out) hb); have n1_ := Aside0.mk (below_step (by repeat (first | (with_reducible first | exact HB.out | apply below_alloc | apply pw_below_drewN | apply below_drew1) | exact HB.out)) hb); clear HO_5; clear HB; have HO_5 := n0_; have HB := n1_; clear n0_ n1_; (try clear hb); (try clear hb2); (try clear hk); (try clear hi)))
        go_ret
        exact ⟨by first | rfl | (simp [errW_none, errW_some] <;> rfl) | (simp [*, errW_none, errW_some] <;> rfl), by repeat (first | (with_reducible first | exact HB.out | apply below_alloc | apply pw_below_drewN | apply below_drew1) | exact HB.out)⟩
      · replace c12 := Bool.eq_false_iff.mpr c12
        subst c12
        have H1 : (sederuntlaw06_LexerWords.l0 kj3 a1 t196 (⟨#[]⟩ : ByteArray) t196 (t196.length : Int) 0) = some r := by rw [if_neg (show ¬ (false = true) by decide)] at H; exact H
        clear H
        have H := H1
        clear H1
        have H' := Aside0.mk H
        clear H
        obtain ⟨Ao15, co15, eo15⟩ := Kd.R_slice HO_5.out
        subst eo15
        go_wp2
        go_loopg [8, 34] kj3 (fun kq v8 v34 w' => ∃ (x8_2 : ByteArray) (x34_2 : Int), v8 = .string x8_2 ∧ v34 = .int .i64 x34_2 ∧ Aside0 (sederuntlaw06_LexerWords.l0 kq a1 t196 x8_2 t196 (t196.length : Int) x34_2 = some r) ∧ Aside0 (kq ≤ kj3) ∧ Aside0 (Kd.R k28 28 w' w.heap.size (fun _ => True) (.slice Ao15 t196.length co15) t196) ∧ Aside0 (Kd.R k28 28 w' w.heap.size (fun _ => True) (.slice Ao15 t196.length co15) t196) ∧ Aside0 (Below w.heap.size w w'))
        case atStart => exact ⟨((⟨#[]⟩ : ByteArray)), (0), (by first | rfl | (simp; done) | (simp [*]; done) | (simp only [gw_u8, i64_w, ne_nil_bool] <;> rfl)), (by first | rfl | (simp; done) | (simp [*]; done) | (simp only [gw_u8, i64_w, ne_nil_bool] <;> rfl)), H', ⟨Nat.le_refl _⟩, ⟨by (with_reducible repeat (first | apply Kd.R_alloc | apply Kd.R_drewN | apply Kd.R_drew)); exact HO_5.out⟩, ⟨by (with_reducible repeat (first | apply Kd.R_alloc | apply Kd.R_drewN | apply Kd.R_drew)); exact HO_5.out⟩, ⟨by repeat (first | (with_reducible first | exact HB.out | apply below_alloc | apply pw_below_drewN | apply below_drew1) | exact HB.out)⟩⟩
        case round =>
          clear H'
          try clear c1
          try clear p2
          try clear c3
          try clear c4
          try clear c5
          try clear c7
          try clear c8
          try clear c8b0
          try clear c8b1
          try clear c12
          try clear p2
          obtain ⟨x8_2, x34_2, rfl, rfl, HA, HK2, HO_5, HO_32, HB⟩ := hrel
          cases gk with
          | zero => exact absurd HA.out (by simp [sederuntlaw06_LexerWords.l0])
          | succ k2 =>
            have H := HA.out
            clear HA
            simp only [sederuntlaw06_LexerWords.l0] at H
            by_cases c16 : x34_2 < (t196.length : Int)
            · rw [if_pos c16] at H
              have c16b0 : decide (x34_2 < (t196.length : Int)) = true := decide_eq_true c16
              clear c16
              by_cases c17 : 0 ≤ x34_2
              · rw [if_pos c17] at H
                have c17b0 : decide (0 ≤ x34_2) = true := decide_eq_true c17
                clear c17
                by_cases c18 : x34_2 < (t196.length : Int)
                · rw [if_pos c18] at H
                  have c18b0 : decide (x34_2 < (t196.length : Int)) = true := decide_eq_true c18
                  clear c18
                  replace H := Option.bind_eq_some_iff.mp H
                  obtain ⟨t205, A190, H⟩ := H
                  replace H : ((some (([(⟨#[32]⟩ : ByteArray), (⟨#[10]⟩ : ByteArray), (⟨#[9, 13]⟩ : ByteArray), (⟨#[32, 47, 47, 32, 34, 10]⟩ : ByteArray), (⟨#[32, 47, 47, 10]⟩ : ByteArray)] : List ByteArray) : List ByteArray)).bind fun y206 => (if 0 ≤ (Int.tmod a1 5) then (if (Int.tmod a1 5) < (y206.length : Int) then (if t205.size + (rdOf ByteArray.empty y206 (Int.tmod a1 5)).size ≤ 9223372036854775807 then (if x8_2.size + (t205 ++ (rdOf ByteArray.empty y206 (Int.tmod a1 5))).size ≤ 9223372036854775807 then (sederuntlaw06_LexerWords.l0 k2 a1 t196 (x8_2 ++ (t205 ++ (rdOf ByteArray.empty y206 (Int.tmod a1 5)))) t196 (t196.length : Int) (wrap64 (x34_2 + 1))) else (none)) else (none)) else (none)) else (none))) = some r := H
                  have A19 := Aside0.mk A190
                  clear A190
                  obtain ⟨y206, hy206⟩ : ∃ y_ : List ByteArray, y_ = (([(⟨#[32]⟩ : ByteArray), (⟨#[10]⟩ : ByteArray), (⟨#[9, 13]⟩ : ByteArray), (⟨#[32, 47, 47, 32, 34, 10]⟩ : ByteArray), (⟨#[32, 47, 47, 10]⟩ : ByteArray)] : List ByteArray)) := ⟨_, rfl⟩
                  replace H : (if 0 ≤ (Int.tmod a1 5) then (if (Int.tmod a1 5) < (y206.length : Int) then (if t205.size + (rdOf ByteArray.empty y206 (Int.tmod a1 5)).size ≤ 9223372036854775807 then (if x8_2.size + (t205 ++ (rdOf ByteArray.empty y206 (Int.tmod a1 5))).size ≤ 9223372036854775807 then (sederuntlaw06_LexerWords.l0 k2 a1 t196 (x8_2 ++ (t205 ++ (rdOf ByteArray.empty y206 (Int.tmod a1 5)))) t196 (t196.length : Int) (wrap64 (x34_2 + 1))) else (none)) else (none)) else (none)) else (none)) = some r := by first | (rw [hy206]; with_reducible exact H) | (have H2_ := (Option.bind_some _ _).symm.trans H; rw [hy206]; with_reducible exact H2_) | (have H2_ := (Option.bind_some _ _).symm.trans H; with_reducible exact H2_) | with_reducible exact H | (rw [hy206]; exact H) | exact H
                  have Ny206 := Aside0.mk hy206
                  clear hy206
                  obtain ⟨ji20, hji20⟩ : ∃ j_ : Int, (Int.tmod a1 5) = j_ := ⟨_, rfl⟩
                  replace H : (if 0 ≤ (ji20) then (if (ji20) < (y206.length : Int) then (if t205.size + (rdOf ByteArray.empty y206 (ji20)).size ≤ 9223372036854775807 then (if x8_2.size + (t205 ++ (rdOf ByteArray.empty y206 (ji20))).size ≤ 9223372036854775807 then (sederuntlaw06_LexerWords.l0 k2 a1 t196 (x8_2 ++ (t205 ++ (rdOf ByteArray.empty y206 (ji20)))) t196 (t196.length : Int) (wrap64 (x34_2 + 1))) else (none)) else (none)) else (none)) else (none)) = some r := by first | (rw [hji20] at H; exact H) | (simp only [hji20] at H ⊢; exact H)
                  (try rw [hji20] at A19)
                  by_cases c21 : 0 ≤ (ji20)
                  · rw [if_pos c21] at H
                    have c21b0 : decide (0 ≤ (ji20)) = true := decide_eq_true c21
                    clear c21
                    by_cases c22 : (ji20) < (y206.length : Int)
                    · rw [if_pos c22] at H
                      have c22b0 : decide ((ji20) < (y206.length : Int)) = true := decide_eq_true c22
                      clear c22
                      by_cases c23 : t205.size + (rdOf ByteArray.empty y206 (ji20)).size ≤ 9223372036854775807
                      · rw [if_pos c23] at H
                        have c23b0 := eq_true c23
                        have c23b1 : decide (t205.size + (rdOf ByteArray.empty y206 (ji20)).size ≤ 9223372036854775807) = true := decide_eq_true c23
                        try have c23b2 : (9223372036854775807 < t205.size + (rdOf ByteArray.empty y206 (ji20)).size) = False := eq_false (Nat.not_lt.2 c23)
                        by_cases c24 : x8_2.size + (t205 ++ (rdOf ByteArray.empty y206 (ji20))).size ≤ 9223372036854775807
                        · rw [if_pos c24] at H
                          have c24b0 := eq_true c24
                          have c24b1 : decide (x8_2.size + (t205 ++ (rdOf ByteArray.empty y206 (ji20))).size ≤ 9223372036854775807) = true := decide_eq_true c24
                          try have c24b2 : (9223372036854775807 < x8_2.size + (t205 ++ (rdOf ByteArray.empty y206 (ji20))).size) = False := eq_false (Nat.not_lt.2 c24)
                          have H' := Aside0.mk H
                          clear H
                          have p203 : 0 ≤ (x34_2 : Int) := of_decide_eq_true (by first | (with_reducible assumption) | assumption)
                          have q203 : x34_2 < (t196.length : Int) := of_decide_eq_true (by first | (with_reducible assumption) | assumption)
                          obtain ⟨ad203, e203, hx203_0, hx203_1, hx203_2, hx203_3, hx203_4⟩ := at_T28 (Kd.R_reads' HO_32.out).2.2 x34_2 p203 q203
                          cases e203
                          replace p203 := eq_true p203
                          replace q203 := eq_true q203
                          try go_wp2_with (first | ((with_reducible refine gate_dst (N := 10) rfl ?_); (try (refine gate_guard (by rfl) ?_; dsimp only)); refine box_event ?hg (N := 10) ?hd (cs := #[.int .i64 0, .string (⟨#[]⟩ : ByteArray), .int .i64 0, .string (⟨#[]⟩ : ByteArray), .int .i64 0]) (t := 28) ?hr ?_; (case hd => rfl); (case hg => rfl); (case hr => first | (go_simp; done) | (go_simp; rfl)); intro gb204 hg w25 hbox hb; have n0_ := Aside0.mk (Kd.R_below (Kd.R_elderB (by (with_reducible repeat (first | apply Kd.R_alloc | apply Kd.R_drewN | apply Kd.R_drew)); exact HO_5.out) gb204 (Nat.le_of_eq hg.symm)) hb); have n1_ := Aside0.mk (Kd.R_below (Kd.R_elderB (by (with_reducible repeat (first | apply Kd.R_alloc | apply Kd.R_drewN | apply Kd.R_drew)); exact HO_32.out) gb204 (Nat.le_of_eq hg.symm)) hb); have n2_ := Aside0.mk (below_step (by repeat (first | (with_reducible first | exact HB.out | apply below_alloc | apply pw_below_drewN | apply below_drew1) | exact HB.out)) hb); have n3_ := Aside0.mk (hbox); have n4_ := Aside0.mk ((by rw [hg]; exact (below_size (by repeat (first | (with_reducible first | exact HB.out | apply below_alloc | apply pw_below_drewN | apply below_drew1) | exact HB.out))) : w.heap.size ≤ gb204)); have n5_ := Aside0.mk ((by rw [hg]; exact (below_size (by repeat (first | (with_reducible first | exact HB.out | apply below_alloc | apply pw_below_drewN | apply below_drew1) | exact HB.out))) : w.heap.size ≤ gb204)); clear HO_5; clear HO_32; clear HB; have HO_5 := n0_; have HO_32 := n1_; have HB := n2_; have BK204 := n3_; have GW204 := n4_; have GE204 := n5_; clear n0_ n1_ n2_ n3_ n4_ n5_; clear hb hbox hg; have hcz26_0 : w25.cell? ⟨gb204, 0, none⟩ = some (.int .i64 0) := (blk_cell BK204.out 0).trans rfl; have hcz26_1 : w25.cell? ⟨gb204, 1, none⟩ = some (.string (⟨#[]⟩ : ByteArray)) := (blk_cell BK204.out 1).trans rfl; have hcz26_2 : w25.cell? ⟨gb204, 2, none⟩ = some (.int .i64 0) := (blk_cell BK204.out 2).trans rfl; have hcz26_3 : w25.cell? ⟨gb204, 3, none⟩ = some (.string (⟨#[]⟩ : ByteArray)) := (blk_cell BK204.out 3).trans rfl; have hcz26_4 : w25.cell? ⟨gb204, 4, none⟩ = some (.int .i64 0) := (blk_cell BK204.out 4).trans rfl; have hfz26_0 := blk_frozen BK204.out 0; have hfz26_1 := blk_frozen BK204.out 1; have hfz26_2 := blk_frozen BK204.out 2; have hfz26_3 := blk_frozen BK204.out 3; have hfz26_4 := blk_frozen BK204.out 4))
                          have pi209 : (0 ≤ ((ji20) : Int)) = True := eq_true (of_decide_eq_true (by first | (with_reducible assumption) | assumption))
                          have qi209 : ((ji20) < (y206.length : Int)) = True := eq_true (of_decide_eq_true (by first | (with_reducible assumption) | assumption))
                          have n0_ : Aside0 (Kd.R k28 28 (((((w25.setCell ⟨gb204, 0, none⟩ (.int .i64 ((rd_T28 t196 x34_2).f0))).setCell ⟨gb204, 1, none⟩ (.string ((rd_T28 t196 x34_2).f1))).setCell ⟨gb204, 2, none⟩ (.int .i64 ((rd_T28 t196 x34_2).f2))).setCell ⟨gb204, 3, none⟩ (.string ((rd_T28 t196 x34_2).f3))).setCell ⟨gb204, 4, none⟩ (.int .i64 ((rd_T28 t196 x34_2).f4))) w.heap.size (fun k_ => k_ ≠ gb204) (.slice (some ad203) t196.length co15) t196) := ⟨by (with_reducible repeat (first | apply Kd.R_alloc | apply Kd.R_drewN | apply Kd.R_drew)); exact Kd.R_mono (Kd.R_far (p := ⟨gb204, 4, none⟩) (Kd.R_far (p := ⟨gb204, 3, none⟩) (Kd.R_far (p := ⟨gb204, 2, none⟩) (Kd.R_far (p := ⟨gb204, 1, none⟩) (Kd.R_far (p := ⟨gb204, 0, none⟩) (Kd.R_mono HO_5.out (fun k_ hk => (⟨hk, hk.2⟩ : _ ∧ k_ ≠ gb204))) (fun _ hk => hk.2) (.int .i64 ((rd_T28 t196 x34_2).f0))) (fun _ hk => hk.2) (.string ((rd_T28 t196 x34_2).f1))) (fun _ hk => hk.2) (.int .i64 ((rd_T28 t196 x34_2).f2))) (fun _ hk => hk.2) (.string ((rd_T28 t196 x34_2).f3))) (fun _ hk => hk.2) (.int .i64 ((rd_T28 t196 x34_2).f4))) (fun _ hk => hk.1.2)⟩
                          have n1_ : Aside0 (Kd.R k28 28 (((((w25.setCell ⟨gb204, 0, none⟩ (.int .i64 ((rd_T28 t196 x34_2).f0))).setCell ⟨gb204, 1, none⟩ (.string ((rd_T28 t196 x34_2).f1))).setCell ⟨gb204, 2, none⟩ (.int .i64 ((rd_T28 t196 x34_2).f2))).setCell ⟨gb204, 3, none⟩ (.string ((rd_T28 t196 x34_2).f3))).setCell ⟨gb204, 4, none⟩ (.int .i64 ((rd_T28 t196 x34_2).f4))) w.heap.size (fun k_ => k_ ≠ gb204) (.slice (some ad203) t196.length co15) t196) := ⟨by (with_reducible repeat (first | apply Kd.R_alloc | apply Kd.R_drewN | apply Kd.R_drew)); exact Kd.R_mono (Kd.R_far (p := ⟨gb204, 4, none⟩) (Kd.R_far (p := ⟨gb204, 3, none⟩) (Kd.R_far (p := ⟨gb204, 2, none⟩) (Kd.R_far (p := ⟨gb204, 1, none⟩) (Kd.R_far (p := ⟨gb204, 0, none⟩) (Kd.R_mono HO_32.out (fun k_ hk => (⟨hk, hk.2⟩ : _ ∧ k_ ≠ gb204))) (fun _ hk => hk.2) (.int .i64 ((rd_T28 t196 x34_2).f0))) (fun _ hk => hk.2) (.string ((rd_T28 t196 x34_2).f1))) (fun _ hk => hk.2) (.int .i64 ((rd_T28 t196 x34_2).f2))) (fun _ hk => hk.2) (.string ((rd_T28 t196 x34_2).f3))) (fun _ hk => hk.2) (.int .i64 ((rd_T28 t196 x34_2).f4))) (fun _ hk => hk.1.2)⟩
                          have n2_ : Aside0 ((((((w25.setCell ⟨gb204, 0, none⟩ (.int .i64 ((rd_T28 t196 x34_2).f0))).setCell ⟨gb204, 1, none⟩ (.string ((rd_T28 t196 x34_2).f1))).setCell ⟨gb204, 2, none⟩ (.int .i64 ((rd_T28 t196 x34_2).f2))).setCell ⟨gb204, 3, none⟩ (.string ((rd_T28 t196 x34_2).f3))).setCell ⟨gb204, 4, none⟩ (.int .i64 ((rd_T28 t196 x34_2).f4))).heap[gb204]? = some (.cells #[.int .i64 ((rd_T28 t196 x34_2).f0), .string ((rd_T28 t196 x34_2).f1), .int .i64 ((rd_T28 t196 x34_2).f2), .string ((rd_T28 t196 x34_2).f3), .int .i64 ((rd_T28 t196 x34_2).f4)] 28 (0, 0))) := ⟨by (with_reducible repeat (first | refine blk_drewN ?_ _ | refine blk_drew ?_ | refine blk_alloc ?_ _)); refine blk_put (cs := #[.int .i64 ((rd_T28 t196 x34_2).f0), .string ((rd_T28 t196 x34_2).f1), .int .i64 ((rd_T28 t196 x34_2).f2), .string ((rd_T28 t196 x34_2).f3), .int .i64 0]) ?_ 4 _ rfl; (with_reducible repeat (first | refine blk_drewN ?_ _ | refine blk_drew ?_ | refine blk_alloc ?_ _)); refine blk_put (cs := #[.int .i64 ((rd_T28 t196 x34_2).f0), .string ((rd_T28 t196 x34_2).f1), .int .i64 ((rd_T28 t196 x34_2).f2), .string (⟨#[]⟩ : ByteArray), .int .i64 0]) ?_ 3 _ rfl; (with_reducible repeat (first | refine blk_drewN ?_ _ | refine blk_drew ?_ | refine blk_alloc ?_ _)); refine blk_put (cs := #[.int .i64 ((rd_T28 t196 x34_2).f0), .string ((rd_T28 t196 x34_2).f1), .int .i64 0, .string (⟨#[]⟩ : ByteArray), .int .i64 0]) ?_ 2 _ rfl; (with_reducible repeat (first | refine blk_drewN ?_ _ | refine blk_drew ?_ | refine blk_alloc ?_ _)); refine blk_put (cs := #[.int .i64 ((rd_T28 t196 x34_2).f0), .string (⟨#[]⟩ : ByteArray), .int .i64 0, .string (⟨#[]⟩ : ByteArray), .int .i64 0]) ?_ 1 _ rfl; (with_reducible repeat (first | refine blk_drewN ?_ _ | refine blk_drew ?_ | refine blk_alloc ?_ _)); refine blk_put (cs := #[.int .i64 0, .string (⟨#[]⟩ : ByteArray), .int .i64 0, .string (⟨#[]⟩ : ByteArray), .int .i64 0]) ?_ 0 _ rfl; (with_reducible repeat (first | refine blk_drewN ?_ _ | refine blk_drew ?_ | refine blk_alloc ?_ _)); exact BK204.out⟩
                          have n3_ : Aside0 (Below w.heap.size w (((((w25.setCell ⟨gb204, 0, none⟩ (.int .i64 ((rd_T28 t196 x34_2).f0))).setCell ⟨gb204, 1, none⟩ (.string ((rd_T28 t196 x34_2).f1))).setCell ⟨gb204, 2, none⟩ (.int .i64 ((rd_T28 t196 x34_2).f2))).setCell ⟨gb204, 3, none⟩ (.string ((rd_T28 t196 x34_2).f3))).setCell ⟨gb204, 4, none⟩ (.int .i64 ((rd_T28 t196 x34_2).f4)))) := ⟨by repeat (first | (with_reducible first | exact HB.out | apply below_alloc | apply pw_below_drewN | apply below_drew1 | refine below_set ?_ GE204.out) | exact HB.out)⟩
                          (try clear HO_5)
                          (try clear HO_32)
                          (try clear BK204)
                          (try clear HB)
                          generalize (((((w25.setCell ⟨gb204, 0, none⟩ (.int .i64 ((rd_T28 t196 x34_2).f0))).setCell ⟨gb204, 1, none⟩ (.string ((rd_T28 t196 x34_2).f1))).setCell ⟨gb204, 2, none⟩ (.int .i64 ((rd_T28 t196 x34_2).f2))).setCell ⟨gb204, 3, none⟩ (.string ((rd_T28 t196 x34_2).f3))).setCell ⟨gb204, 4, none⟩ (.int .i64 ((rd_T28 t196 x34_2).f4))) = w27 at n0_ n1_ n2_ n3_ ⊢
                          have HO_5 := n0_
                          have HO_32 := n1_
                          have BK204 := n2_
                          have HB := n3_
                          clear n0_ n1_ n2_ n3_
                          have n0_ := Aside0.mk (Kd.R_drew HO_5.out)
                          have n1_ := Aside0.mk (Kd.R_drew HO_32.out)
                          have n2_ := Aside0.mk (blk_drew BK204.out)
                          have n3_ := Aside0.mk (below_drew1 HB.out)
                          clear HO_5
                          clear HO_32
                          clear BK204
                          clear HB
                          have HO_5 := n0_
                          have HO_32 := n1_
                          have BK204 := n2_
                          have HB := n3_
                          clear n0_ n1_ n2_ n3_
                          refine start_ (n := 11) (S := fun w' => True) (ds := []) #[false, false, false, false, false, false, false, false, false, false, false] (by kernel_rfl) rfl rfl trivial (fun hHeld => ?_); refine with_tabW sederuntlaw06_LexerWords.tab8 sederuntlaw06_LexerWords.bits8 (fun HT_ HW_ => ?_)
                          generalize w27.drew = w28 at HO_5 HO_32 BK204 HB hHeld ⊢
                          refine pure_ (i := 0) (N := some 38) (v := ?_) (a' := ?_) #[true, false, false, false, false, false, false, false, false, false, false] rfl rfl (any_of HT_.out (by kernel_rfl)) (fun _ _ _ h => h) (Or.inl ⟨by rfl, ?_⟩) ?_ ?_
                          rotate_left
                          · intro w'
                            go_simp
                            with_reducible rfl
                          rotate_left
                          · simp only [Act.put, List.setIfInBounds_toArray, List.set_cons_zero, List.set_cons_succ, i64_w, i32_w]
                            rfl
                          refine pure_ (i := 4) (N := some 42) (v := ?_) (a' := ?_) #[true, false, false, false, true, false, false, false, false, false, false] rfl rfl (any_of HT_.out (by kernel_rfl)) (fun _ _ _ h => h) (Or.inl ⟨by rfl, ?_⟩) ?_ ?_
                          rotate_left
                          · intro w'
                            go_simp
                            with_reducible rfl
                          rotate_left
                          · simp only [Act.put, List.setIfInBounds_toArray, List.set_cons_zero, List.set_cons_succ, i64_w, i32_w]
                            rfl
                          refine inv_at [1, 2, 3, 5, 6, 7, 8, 9, 10] (fun a0_ b a w' => ∃ (v207 : Value) (adz_v207 : Addr) (m6_ : Value), a = putSel a0_ b [(1, 39, .agg #[.int .i64 ((rd_T28 t196 x34_2).f0), .string ((rd_T28 t196 x34_2).f1), .int .i64 ((rd_T28 t196 x34_2).f2), .string ((rd_T28 t196 x34_2).f3), .int .i64 ((rd_T28 t196 x34_2).f4)]), (2, 40, .string t205), (3, 41, v207), (5, 43, .int .u8 ji20), (6, 44, m6_), (7, 45, .string (rdOf ByteArray.empty y206 (ji20))), (8, 46, .string (t205 ++ (rdOf ByteArray.empty y206 (ji20)))), (9, 47, .string (x8_2 ++ (t205 ++ (rdOf ByteArray.empty y206 (ji20))))), (10, 8, .string (x8_2 ++ (t205 ++ (rdOf ByteArray.empty y206 (ji20)))))] ∧ (Kd.R k28 28 w' w.heap.size (fun k_ => k_ ≠ gb204) (.slice (some ad203) t196.length co15) t196) ∧ (Kd.R k28 28 w' w.heap.size (fun k_ => k_ ≠ gb204) (.slice (some ad203) t196.length co15) t196) ∧ (w'.heap[gb204]? = some (.cells #[.int .i64 ((rd_T28 t196 x34_2).f0), .string ((rd_T28 t196 x34_2).f1), .int .i64 ((rd_T28 t196 x34_2).f2), .string ((rd_T28 t196 x34_2).f3), .int .i64 ((rd_T28 t196 x34_2).f4)] 28 (0, 0))) ∧ (Below w.heap.size w w') ∧ (b 3 = true → Kd.R Kd.string 9 w' w.heap.size (fun _ => True) v207 y206) ∧ (b 3 = true → ∃ c_, (v207 : Value) = .slice (some adz_v207) y206.length c_) ∧ (b 6 = true → (m6_ : Value) = .pointer (some (adz_v207.add ((ji20)).toNat)))) HT_.out HW_.out (by kernel_rfl) (by kernel_rfl) ?_ ?_ ?_
                          · exact ⟨.bool false, ⟨0, 0, none⟩, .bool false, by simp only [putSel, Bool.false_eq_true, if_false], HO_32.out, HO_5.out, BK204.out, HB.out, fun h_ => absurd h_ (by decide), fun h_ => absurd h_ (by decide), fun h_ => absurd h_ (by decide)⟩
                          · skip
                            clear BK204 HB HO_32 HO_5
                            refine steps_cons ?_ ?_
                            · rintro b a w' ⟨v207, adz_v207, m6_, ha, Q_HO_32, Q_HO_5, Q_BK204, Q_HB, Q_HO208, Q_HA_HO208, Q_X6_⟩ hb_ hon hoff
                              refine ⟨_, rfl, fun K hK => ?_⟩
                              have e10 : a.tmps[10]? = some (.pointer (some ⟨gb204, 0, none⟩)) := by rw [ha]; exact (putSel_off rfl).trans rfl
                              replace ha := Aside0.mk ha
                              have HO_32 := Aside0.mk Q_HO_32
                              have HO_5 := Aside0.mk Q_HO_5
                              have BK204 := Aside0.mk Q_BK204
                              have HB := Aside0.mk Q_HB
                              have hc0_ : w'.cell? ⟨gb204, 0, none⟩ = some (.int .i64 ((rd_T28 t196 x34_2).f0)) := (blk_cell BK204.out 0).trans rfl
                              have hc1_ : w'.cell? ⟨gb204, 1, none⟩ = some (.string ((rd_T28 t196 x34_2).f1)) := (blk_cell BK204.out 1).trans rfl
                              have hc2_ : w'.cell? ⟨gb204, 2, none⟩ = some (.int .i64 ((rd_T28 t196 x34_2).f2)) := (blk_cell BK204.out 2).trans rfl
                              have hc3_ : w'.cell? ⟨gb204, 3, none⟩ = some (.string ((rd_T28 t196 x34_2).f3)) := (blk_cell BK204.out 3).trans rfl
                              have hc4_ : w'.cell? ⟨gb204, 4, none⟩ = some (.int .i64 ((rd_T28 t196 x34_2).f4)) := (blk_cell BK204.out 4).trans rfl
                              refine value_ (w1 := w') (v := .agg #[.int .i64 ((rd_T28 t196 x34_2).f0), .string ((rd_T28 t196 x34_2).f1), .int .i64 ((rd_T28 t196 x34_2).f2), .string ((rd_T28 t196 x34_2).f3), .int .i64 ((rd_T28 t196 x34_2).f4)]) (by rfl) rfl ?_ ?_
                              · go_simp
                                (try simp only [i64_w])
                                try (first | rfl | (rw [← ByteArray.size_append]; assumption))
                              refine hK.out _ _ ⟨v207, adz_v207, m6_, (by rw [ha.out]; exact putSel_upk 0 hb_ rfl rfl rfl), Q_HO_32, Q_HO_5, Q_BK204, Q_HB, Q_HO208, Q_HA_HO208, Q_X6_⟩
                            refine steps_cons ?_ ?_
                            · rintro b a w' ⟨v207, adz_v207, m6_, ha, Q_HO_32, Q_HO_5, Q_BK204, Q_HB, Q_HO208, Q_HA_HO208, Q_X6_⟩ hb_ hon hoff
                              refine ⟨_, rfl, fun K hK => ?_⟩
                              have e39 : a.tmps[39]? = some (.agg #[.int .i64 ((rd_T28 t196 x34_2).f0), .string ((rd_T28 t196 x34_2).f1), .int .i64 ((rd_T28 t196 x34_2).f2), .string ((rd_T28 t196 x34_2).f3), .int .i64 ((rd_T28 t196 x34_2).f4)]) := by rw [ha]; exact putSel_on (e := (1, 39, .agg #[.int .i64 ((rd_T28 t196 x34_2).f0), .string ((rd_T28 t196 x34_2).f1), .int .i64 ((rd_T28 t196 x34_2).f2), .string ((rd_T28 t196 x34_2).f3), .int .i64 ((rd_T28 t196 x34_2).f4)])) 0 rfl rfl (hon 1 (by kernel_rfl)) rfl
                              replace ha := Aside0.mk ha
                              have HO_32 := Aside0.mk Q_HO_32
                              have HO_5 := Aside0.mk Q_HO_5
                              have BK204 := Aside0.mk Q_BK204
                              have HB := Aside0.mk Q_HB
                              refine goes_ Tryd.func6 (by kernel_rfl) rfl #[.agg #[.int .i64 ((rd_T28 t196 x34_2).f0), .string ((rd_T28 t196 x34_2).f1), .int .i64 ((rd_T28 t196 x34_2).f2), .string ((rd_T28 t196 x34_2).f3), .int .i64 ((rd_T28 t196 x34_2).f4)]] (by rfl) rfl rfl (by first | (simp only [List.map_toArray, List.map_cons, List.map_nil, Act.eval, Array.getD_eq_getD_getElem?, Option.getD_some, e39]; done) | (simp only [List.map_toArray, List.map_cons, List.map_nil, Act.eval, Array.getD_eq_getD_getElem?, Option.getD_some, e39]; rfl)) ?_
                              with_reducible refine (lexer_Word.calls k2 ((rd_T28 t196 x34_2).f0) ((rd_T28 t196 x34_2).f1) ((rd_T28 t196 x34_2).f2) ((rd_T28 t196 x34_2).f3) ((rd_T28 t196 x34_2).f4) t205 _ (Glob.below HG.out (by repeat (first | (with_reducible first | exact HB.out | apply below_alloc | apply pw_below_drewN | apply below_drew1) | exact HB.out))) A19.out).mono ?_
                              rintro e w29 ⟨rfl, hb⟩
                              refine ⟨_, rfl, ?_⟩
                              have n0_ := Aside0.mk (Kd.R_below (by (with_reducible repeat (first | apply Kd.R_alloc | apply Kd.R_drewN | apply Kd.R_drew)); exact HO_5.out) hb)
                              have n1_ := Aside0.mk (Kd.R_below (by (with_reducible repeat (first | apply Kd.R_alloc | apply Kd.R_drewN | apply Kd.R_drew)); exact HO_32.out) hb)
                              have n2_ := Aside0.mk (blk_below (g := gb204) (o := .cells #[.int .i64 ((rd_T28 t196 x34_2).f0), .string ((rd_T28 t196 x34_2).f1), .int .i64 ((rd_T28 t196 x34_2).f2), .string ((rd_T28 t196 x34_2).f3), .int .i64 ((rd_T28 t196 x34_2).f4)] 28 (0, 0)) (by (with_reducible repeat (first | refine blk_drewN ?_ _ | refine blk_drew ?_ | refine blk_alloc ?_ _)); exact BK204.out) hb)
                              have n3_ := Aside0.mk (below_step (by repeat (first | (with_reducible first | exact HB.out | apply below_alloc | apply pw_below_drewN | apply below_drew1 | refine below_set ?_ GE204.out) | exact HB.out)) hb)
                              have z_HO208 := fun (h0_ : b 3 = true) => (show Kd.R Kd.string 9 w29 w.heap.size (fun _ => True) v207 y206 from by first | exact (Kd.R_below (by (with_reducible repeat (first | apply Kd.R_alloc | apply Kd.R_drewN | apply Kd.R_drew)); exact (Q_HO208 h0_)) hb) | exact Kd.R_mono (Kd.R_below (by (with_reducible repeat (first | apply Kd.R_alloc | apply Kd.R_drewN | apply Kd.R_drew)); exact (Q_HO208 h0_)) hb) (fun _ h_ => by first | trivial | exact h_ | exact h_.1))
                              clear HO_5
                              clear HO_32
                              clear BK204
                              clear HB
                              have HO_5 := n0_
                              have HO_32 := n1_
                              have BK204 := n2_
                              have HB := n3_
                              clear n0_ n1_ n2_ n3_
                              (try clear hb)
                              (try clear hb2)
                              (try clear hk)
                              (try clear hi)
                              refine hK.out _ _ ⟨v207, adz_v207, m6_, (by rw [ha.out]; exact putSel_upk 1 hb_ rfl rfl rfl), (by (with_reducible repeat (first | apply Kd.R_alloc | apply Kd.R_drewN | apply Kd.R_drew)); exact HO_32.out), (by (with_reducible repeat (first | apply Kd.R_alloc | apply Kd.R_drewN | apply Kd.R_drew)); exact HO_5.out), (by (with_reducible repeat (first | refine blk_drewN ?_ _ | refine blk_drew ?_ | refine blk_alloc ?_ _)); exact BK204.out), (by repeat (first | (with_reducible first | exact HB.out | apply below_alloc | apply pw_below_drewN | apply below_drew1 | refine below_set ?_ GE204.out) | exact HB.out)), z_HO208, Q_HA_HO208, Q_X6_⟩
                            refine steps_cons ?_ ?_
                            · rintro b a w' ⟨v207, adz_v207, m6_, ha, Q_HO_32, Q_HO_5, Q_BK204, Q_HB, Q_HO208, Q_HA_HO208, Q_X6_⟩ hb_ hon hoff
                              refine ⟨_, rfl, fun K hK => ?_⟩
                              replace ha := Aside0.mk ha
                              have HO_32 := Aside0.mk Q_HO_32
                              have HO_5 := Aside0.mk Q_HO_5
                              have BK204 := Aside0.mk Q_BK204
                              have HB := Aside0.mk Q_HB
                              refine Kd.R_lit_step Kd.string _ 9 ?hg (N := 41) ?hd (xs := ([(⟨#[32]⟩ : ByteArray), (⟨#[10]⟩ : ByteArray), (⟨#[9, 13]⟩ : ByteArray), (⟨#[32, 47, 47, 32, 34, 10]⟩ : ByteArray), (⟨#[32, 47, 47, 10]⟩ : ByteArray)] : List ByteArray)) (inner := [.string (⟨#[32]⟩ : ByteArray), .string (⟨#[10]⟩ : ByteArray), .string (⟨#[9, 13]⟩ : ByteArray), .string (⟨#[32, 47, 47, 32, 34, 10]⟩ : ByteArray), .string (⟨#[32, 47, 47, 10]⟩ : ByteArray)]) (ok := fun _ => True) (okp := fun _ => True) ?hr ?hp (fun _ hk => hk) trivial (Below.refl _ _) (Nat.le_refl _) (by simp) ?_; (case hd => rfl); (case hg => rfl); (case hr => first | (go_simp; done) | (go_simp; rfl)); (case hp => exact (Reps.one (show Kd.M Kd.string _ _ _ (⟨#[32]⟩ : ByteArray) [.string (⟨#[32]⟩ : ByteArray)] from rfl) (Reps.one (show Kd.M Kd.string _ _ _ (⟨#[10]⟩ : ByteArray) [.string (⟨#[10]⟩ : ByteArray)] from rfl) (Reps.one (show Kd.M Kd.string _ _ _ (⟨#[9, 13]⟩ : ByteArray) [.string (⟨#[9, 13]⟩ : ByteArray)] from rfl) (Reps.one (show Kd.M Kd.string _ _ _ (⟨#[32, 47, 47, 32, 34, 10]⟩ : ByteArray) [.string (⟨#[32, 47, 47, 32, 34, 10]⟩ : ByteArray)] from rfl) (Reps.one (show Kd.M Kd.string _ _ _ (⟨#[32, 47, 47, 10]⟩ : ByteArray) [.string (⟨#[32, 47, 47, 10]⟩ : ByteArray)] from rfl) (Reps.none _ _)))))))
                              intro v207 w29 ho30 hb hg_ hnew_
                              clear hg_ hnew_
                              (first | rw [← Ny206.out] at ho30 | (simp only [Int.reduceToNat] at ho30; rw [← Ny206.out] at ho30))
                              have n0_ := Aside0.mk (Kd.R_below (by (with_reducible repeat (first | apply Kd.R_alloc | apply Kd.R_drewN | apply Kd.R_drew)); exact HO_5.out) hb)
                              have n1_ := Aside0.mk (Kd.R_below (by (with_reducible repeat (first | apply Kd.R_alloc | apply Kd.R_drewN | apply Kd.R_drew)); exact HO_32.out) hb)
                              have n2_ := Aside0.mk (Kd.R_lower ho30 (below_size (by repeat (first | (with_reducible first | exact HB.out | apply below_alloc | apply pw_below_drewN | apply below_drew1 | refine below_set ?_ GE204.out) | exact HB.out))))
                              have n3_ := Aside0.mk (blk_below (g := gb204) (o := .cells #[.int .i64 ((rd_T28 t196 x34_2).f0), .string ((rd_T28 t196 x34_2).f1), .int .i64 ((rd_T28 t196 x34_2).f2), .string ((rd_T28 t196 x34_2).f3), .int .i64 ((rd_T28 t196 x34_2).f4)] 28 (0, 0)) (by (with_reducible repeat (first | refine blk_drewN ?_ _ | refine blk_drew ?_ | refine blk_alloc ?_ _)); exact BK204.out) hb)
                              have n4_ := Aside0.mk (below_step (by repeat (first | (with_reducible first | exact HB.out | apply below_alloc | apply pw_below_drewN | apply below_drew1 | refine below_set ?_ GE204.out) | exact HB.out)) hb)
                              clear HO_5
                              clear HO_32
                              clear BK204
                              clear HB
                              have HO_5 := n0_
                              have HO_32 := n1_
                              have HO208 := n2_
                              have BK204 := n3_
                              have HB := n4_
                              clear n0_ n1_ n2_ n3_ n4_
                              clear hb ho30
                              obtain ⟨Ao31, co31, eo31⟩ := Kd.R_slice HO208.out
                              subst eo31
                              obtain ⟨ado31, fo31, _⟩ := Kd.at_string (Kd.R_reads' HO208.out).2.2 0 (by decide) (by rw [Ny206.out]; simp)
                              cases fo31
                              refine hK.out _ _ ⟨.slice (some ado31) y206.length co31, ado31, m6_, (by rw [ha.out]; exact putSel_upk 2 hb_ rfl rfl rfl), (by (with_reducible repeat (first | apply Kd.R_alloc | apply Kd.R_drewN | apply Kd.R_drew)); exact HO_32.out), (by (with_reducible repeat (first | apply Kd.R_alloc | apply Kd.R_drewN | apply Kd.R_drew)); exact HO_5.out), (by (with_reducible repeat (first | refine blk_drewN ?_ _ | refine blk_drew ?_ | refine blk_alloc ?_ _)); exact BK204.out), (by repeat (first | (with_reducible first | exact HB.out | apply below_alloc | apply pw_below_drewN | apply below_drew1 | refine below_set ?_ GE204.out) | exact HB.out)), fun _ => (by (with_reducible repeat (first | apply Kd.R_alloc | apply Kd.R_drewN | apply Kd.R_drew)); exact HO208.out), fun _ => ⟨_, rfl⟩, fun h0_ => absurd ((hoff 6 (by kernel_rfl)).symm.trans h0_) (by decide)⟩
                            refine steps_cons ?_ ?_
                            · rintro b a w' ⟨v207, adz_v207, m6_, ha, Q_HO_32, Q_HO_5, Q_BK204, Q_HB, Q_HO208, Q_HA_HO208, Q_X6_⟩ hb_ hon hoff
                              refine ⟨_, rfl, fun K hK => ?_⟩
                              have e42 : a.tmps[42]? = some (.int .u8 a1) := by rw [ha]; exact (putSel_off rfl).trans rfl
                              replace ha := Aside0.mk ha
                              have HO_32 := Aside0.mk Q_HO_32
                              have HO_5 := Aside0.mk Q_HO_5
                              have BK204 := Aside0.mk Q_BK204
                              have HB := Aside0.mk Q_HB
                              refine value_ (w1 := w') (v := .int .u8 ji20) (by rfl) rfl ?_ ?_
                              · go_simp
                                (try simp only [i64_w])
                                try (first | rfl | (rw [← ByteArray.size_append]; assumption))
                              refine hK.out _ _ ⟨v207, adz_v207, m6_, (by rw [ha.out]; exact putSel_upk 3 hb_ rfl rfl rfl), Q_HO_32, Q_HO_5, Q_BK204, Q_HB, Q_HO208, Q_HA_HO208, fun h0_ => absurd ((hoff 6 (by kernel_rfl)).symm.trans h0_) (by decide)⟩
                            refine steps_cons ?_ ?_
                            · rintro b a w' ⟨v207, adz_v207, m6_, ha, Q_HO_32, Q_HO_5, Q_BK204, Q_HB, Q_HO208, Q_HA_HO208, Q_X6_⟩ hb_ hon hoff
                              refine ⟨_, rfl, fun K hK => ?_⟩
                              have e41 : a.tmps[41]? = some (v207) := by rw [ha]; exact putSel_on (e := (3, 41, v207)) 2 rfl rfl (hon 3 (by kernel_rfl)) rfl
                              have e43 : a.tmps[43]? = some (.int .u8 ji20) := by rw [ha]; exact putSel_on (e := (5, 43, .int .u8 ji20)) 3 rfl rfl (hon 5 (by kernel_rfl)) rfl
                              replace ha := Aside0.mk ha
                              have HO_32 := Aside0.mk Q_HO_32
                              have HO_5 := Aside0.mk Q_HO_5
                              have BK204 := Aside0.mk Q_BK204
                              have HB := Aside0.mk Q_HB
                              have HO208 := Aside0.mk (Q_HO208 (hon 3 (by kernel_rfl)))
                              have HA_HO208 := Aside0.mk (Q_HA_HO208 (hon 3 (by kernel_rfl)))
                              obtain ⟨c_, hv_⟩ := HA_HO208.out
                              rw [hv_] at e41
                              refine value_ (w1 := w') (v := .pointer (some (adz_v207.add ((ji20)).toNat))) (by rfl) rfl ?_ ?_
                              · go_simp
                                (try simp only [i64_w])
                                try (first | rfl | (rw [← ByteArray.size_append]; assumption))
                              refine hK.out _ _ ⟨v207, adz_v207, (.pointer (some (adz_v207.add ((ji20)).toNat))), (by rw [ha.out]; exact putSel_upk 4 hb_ rfl rfl rfl), Q_HO_32, Q_HO_5, Q_BK204, Q_HB, Q_HO208, Q_HA_HO208, fun _ => rfl⟩
                            refine steps_cons ?_ ?_
                            · rintro b a w' ⟨v207, adz_v207, m6_, ha, Q_HO_32, Q_HO_5, Q_BK204, Q_HB, Q_HO208, Q_HA_HO208, Q_X6_⟩ hb_ hon hoff
                              refine ⟨_, rfl, fun K hK => ?_⟩
                              have e44 : a.tmps[44]? = some (m6_) := by rw [ha]; exact putSel_on (e := (6, 44, m6_)) 4 rfl rfl (hon 6 (by kernel_rfl)) rfl
                              rw [Q_X6_ (hon 6 (by kernel_rfl))] at e44
                              replace ha := Aside0.mk ha
                              have HO_32 := Aside0.mk Q_HO_32
                              have HO_5 := Aside0.mk Q_HO_5
                              have BK204 := Aside0.mk Q_BK204
                              have HB := Aside0.mk Q_HB
                              have HO208 := Aside0.mk (Q_HO208 (hon 3 (by kernel_rfl)))
                              have HA_HO208 := Aside0.mk (Q_HA_HO208 (hon 3 (by kernel_rfl)))
                              obtain ⟨c_, hv_⟩ := HA_HO208.out
                              have hF_ := HO208.out
                              rw [hv_] at hF_
                              obtain ⟨ad_, ea_, hx_⟩ := Kd.at_string (Kd.R_reads' hF_).2.2 (ji20) (of_eq_true pi209) (of_eq_true qi209)
                              cases ea_
                              refine value_ (w1 := w') (v := .string (rdOf ByteArray.empty y206 (ji20))) (by rfl) rfl ?_ ?_
                              · go_simp
                                (try simp only [i64_w])
                                try (first | rfl | (rw [← ByteArray.size_append]; assumption))
                              refine hK.out _ _ ⟨v207, adz_v207, m6_, (by rw [ha.out]; exact putSel_upk 5 hb_ rfl rfl rfl), Q_HO_32, Q_HO_5, Q_BK204, Q_HB, Q_HO208, Q_HA_HO208, Q_X6_⟩
                            refine steps_cons ?_ ?_
                            · rintro b a w' ⟨v207, adz_v207, m6_, ha, Q_HO_32, Q_HO_5, Q_BK204, Q_HB, Q_HO208, Q_HA_HO208, Q_X6_⟩ hb_ hon hoff
                              refine ⟨_, rfl, fun K hK => ?_⟩
                              have e40 : a.tmps[40]? = some (.string t205) := by rw [ha]; exact putSel_on (e := (2, 40, .string t205)) 1 rfl rfl (hon 2 (by kernel_rfl)) rfl
                              have e45 : a.tmps[45]? = some (.string (rdOf ByteArray.empty y206 (ji20))) := by rw [ha]; exact putSel_on (e := (7, 45, .string (rdOf ByteArray.empty y206 (ji20)))) 5 rfl rfl (hon 7 (by kernel_rfl)) rfl
                              replace ha := Aside0.mk ha
                              have HO_32 := Aside0.mk Q_HO_32
                              have HO_5 := Aside0.mk Q_HO_5
                              have BK204 := Aside0.mk Q_BK204
                              have HB := Aside0.mk Q_HB
                              have HO208 := Aside0.mk (Q_HO208 (hon 3 (by kernel_rfl)))
                              have HA_HO208 := Aside0.mk (Q_HA_HO208 (hon 3 (by kernel_rfl)))
                              refine value_ (w1 := w') (v := .string (t205 ++ (rdOf ByteArray.empty y206 (ji20)))) (by rfl) rfl ?_ ?_
                              · go_simp
                                (try simp only [i64_w])
                                try (first | rfl | (rw [← ByteArray.size_append]; assumption))
                              refine hK.out _ _ ⟨v207, adz_v207, m6_, (by rw [ha.out]; exact putSel_upk 6 hb_ rfl rfl rfl), Q_HO_32, Q_HO_5, Q_BK204, Q_HB, Q_HO208, Q_HA_HO208, Q_X6_⟩
                            refine steps_cons ?_ ?_
                            · rintro b a w' ⟨v207, adz_v207, m6_, ha, Q_HO_32, Q_HO_5, Q_BK204, Q_HB, Q_HO208, Q_HA_HO208, Q_X6_⟩ hb_ hon hoff
                              refine ⟨_, rfl, fun K hK => ?_⟩
                              have e38 : a.tmps[38]? = some (.string x8_2) := by rw [ha]; exact (putSel_off rfl).trans rfl
                              have e46 : a.tmps[46]? = some (.string (t205 ++ (rdOf ByteArray.empty y206 (ji20)))) := by rw [ha]; exact putSel_on (e := (8, 46, .string (t205 ++ (rdOf ByteArray.empty y206 (ji20))))) 6 rfl rfl (hon 8 (by kernel_rfl)) rfl
                              replace ha := Aside0.mk ha
                              have HO_32 := Aside0.mk Q_HO_32
                              have HO_5 := Aside0.mk Q_HO_5
                              have BK204 := Aside0.mk Q_BK204
                              have HB := Aside0.mk Q_HB
                              have HO208 := Aside0.mk (Q_HO208 (hon 3 (by kernel_rfl)))
                              have HA_HO208 := Aside0.mk (Q_HA_HO208 (hon 3 (by kernel_rfl)))
                              refine value_ (w1 := w') (v := .string (x8_2 ++ (t205 ++ (rdOf ByteArray.empty y206 (ji20))))) (by rfl) rfl ?_ ?_
                              · go_simp
                                (try simp only [i64_w])
                                try (first | rfl | (rw [← ByteArray.size_append]; assumption))
                              refine hK.out _ _ ⟨v207, adz_v207, m6_, (by rw [ha.out]; exact putSel_upk 7 hb_ rfl rfl rfl), Q_HO_32, Q_HO_5, Q_BK204, Q_HB, Q_HO208, Q_HA_HO208, Q_X6_⟩
                            refine steps_cons ?_ ?_
                            · rintro b a w' ⟨v207, adz_v207, m6_, ha, Q_HO_32, Q_HO_5, Q_BK204, Q_HB, Q_HO208, Q_HA_HO208, Q_X6_⟩ hb_ hon hoff
                              refine ⟨_, rfl, fun K hK => ?_⟩
                              have e47 : a.tmps[47]? = some (.string (x8_2 ++ (t205 ++ (rdOf ByteArray.empty y206 (ji20))))) := by rw [ha]; exact putSel_on (e := (9, 47, .string (x8_2 ++ (t205 ++ (rdOf ByteArray.empty y206 (ji20)))))) 7 rfl rfl (hon 9 (by kernel_rfl)) rfl
                              replace ha := Aside0.mk ha
                              have HO_32 := Aside0.mk Q_HO_32
                              have HO_5 := Aside0.mk Q_HO_5
                              have BK204 := Aside0.mk Q_BK204
                              have HB := Aside0.mk Q_HB
                              have HO208 := Aside0.mk (Q_HO208 (hon 3 (by kernel_rfl)))
                              have HA_HO208 := Aside0.mk (Q_HA_HO208 (hon 3 (by kernel_rfl)))
                              refine value_ (w1 := w') (v := .string (x8_2 ++ (t205 ++ (rdOf ByteArray.empty y206 (ji20))))) (by rfl) rfl ?_ ?_
                              · go_simp
                                (try simp only [i64_w])
                                try (first | rfl | (rw [← ByteArray.size_append]; assumption))
                              refine hK.out _ _ ⟨v207, adz_v207, m6_, (by rw [ha.out]; exact putSel_upk 8 hb_ rfl rfl rfl), Q_HO_32, Q_HO_5, Q_BK204, Q_HB, Q_HO208, Q_HA_HO208, Q_X6_⟩
                            exact steps_nil
                          rintro b a w33 hall ⟨v207, adz_v207, m6_, ha, Q_HO_32, Q_HO_5, Q_BK204, Q_HB, Q_HO208, Q_HA_HO208, Q_X6_⟩
                          clear BK204 HB HO_32 HO_5
                          have hb1_ := hall 1 (by kernel_rfl)
                          have hb2_ := hall 2 (by kernel_rfl)
                          have hb3_ := hall 3 (by kernel_rfl)
                          have hb5_ := hall 5 (by kernel_rfl)
                          have hb6_ := hall 6 (by kernel_rfl)
                          have hb7_ := hall 7 (by kernel_rfl)
                          have hb8_ := hall 8 (by kernel_rfl)
                          have hb9_ := hall 9 (by kernel_rfl)
                          have hb10_ := hall 10 (by kernel_rfl)
                          subst ha
                          obtain rfl := Q_X6_ hb6_
                          simp only [putSel, hb1_, hb2_, hb3_, hb5_, hb6_, hb7_, hb8_, hb9_, hb10_, if_true, Act.put, List.setIfInBounds_toArray, List.set_cons_zero, List.set_cons_succ]
                          have HO_32 := Aside0.mk Q_HO_32
                          clear Q_HO_32
                          have HO_5 := Aside0.mk Q_HO_5
                          clear Q_HO_5
                          have BK204 := Aside0.mk Q_BK204
                          clear Q_BK204
                          have HB := Aside0.mk Q_HB
                          clear Q_HB
                          have HO208 := Aside0.mk (Q_HO208 hb3_)
                          clear Q_HO208
                          have HA_HO208 := Aside0.mk (Q_HA_HO208 hb3_)
                          clear Q_HA_HO208
                          clear hall hb1_ hb2_ hb3_ hb5_ hb6_ hb7_ hb8_ hb9_ hb10_
                          obtain ⟨co34, eo34⟩ := HA_HO208.out
                          clear HA_HO208
                          subst eo34
                          try go_wp2
                          go_roundg k2
                          case measure => have := HJ3.out; have := HK2.out; omega
                          case rel => exact ⟨(x8_2 ++ (t205 ++ (rdOf ByteArray.empty y206 (ji20)))), (wrap64 (x34_2 + 1)), (by first | rfl | (simp; done) | (simp only [← hji20] <;> (first | rfl | simp)) | (simp [*]; done)), (by first | rfl | (simp; done) | (simp [*]; done) | (simp only [gw_u8, i64_w, ne_nil_bool] <;> rfl)), H', ⟨by have := HJ3.out; have := HK2.out; omega⟩, ⟨by (with_reducible repeat (first | apply Kd.R_alloc | apply Kd.R_drewN | apply Kd.R_drew)); exact Kd.R_mono HO_5.out (fun _ hk => trivial)⟩, ⟨by (with_reducible repeat (first | apply Kd.R_alloc | apply Kd.R_drewN | apply Kd.R_drew)); exact Kd.R_mono HO_32.out (fun _ hk => trivial)⟩, ⟨by repeat (first | (with_reducible first | exact HB.out | apply below_alloc | apply pw_below_drewN | apply below_drew1 | refine below_set ?_ GE204.out) | exact HB.out)⟩⟩
                        · rw [if_neg c24] at H
                          exact absurd H (by simp)
                      · rw [if_neg c23] at H
                        exact absurd H (by simp)
                    · rw [if_neg c22] at H
                      exact absurd H (by simp)
                  · rw [if_neg c21] at H
                    exact absurd H (by simp)
                · rw [if_neg c18] at H
                  exact absurd H (by simp)
              · rw [if_neg c17] at H
                exact absurd H (by simp)
            · rw [if_neg c16] at H
              have c16b0 : decide (x34_2 < (t196.length : Int)) = false := decide_eq_false c16
              clear c16
              replace H := Option.bind_eq_some_iff.mp H
              obtain ⟨⟨t210, t211, t212⟩, A350, H⟩ := H
              replace H : (if t212 = 0 then ((sederuntref06_Same.f k2 t196 t210 false).bind fun t215 => (some t215)) else (some false)) = some r := H
              have A35 := Aside0.mk A350
              clear A350
              by_cases c36 : t212 = 0
              · rw [if_pos c36] at H
                have c36b0 : (t212 == 0) = true := beq_iff_eq.mpr c36
                have c36b1 : (t212 != 0) = false := bne_eq_false_iff_eq.mpr c36
                clear c36
                replace H := Option.bind_eq_some_iff.mp H
                obtain ⟨t215, A370, H⟩ := H
                replace H : (some t215) = some r := H
                have A37 := Aside0.mk A370
                clear A370
                obtain rfl := Option.some.inj H
                go_wp2_with (first | ((with_reducible refine gate_callee (f := 7) rfl ?_); refine goesL_ (some 51) rfl rfl Tryd.func7 (by kernel_rfl) rfl #[.string x8_2] rfl (by (try simp only [List.map_toArray, List.map_cons, List.map_nil]); first | done | rfl | (simp only [List.length_drop, List.length_take]; rfl)) ?_; (with_reducible refine (lexer_Tokens.calls k2 x8_2 t210 t211 t212 _ A35.out).mono ?_); rintro e w38 ⟨v213, rfl, ho0, hb⟩; refine ⟨_, rfl, ?_⟩; have n0_ := Aside0.mk (Kd.R_elder' (by (with_reducible repeat (first | apply Kd.R_alloc | apply Kd.R_drewN | apply Kd.R_drew)); exact HO_5.out) (Kd.R_base ho0) hb); have n1_ := Aside0.mk (Kd.R_elder' (by (with_reducible repeat (first | apply Kd.R_alloc | apply Kd.R_drewN | apply Kd.R_drew)); exact HO_32.out) (Kd.R_base ho0) hb); have n2_ := Aside0.mk (Kd.R_lower (Kd.R_new' (Kd.R_new' ho0 (Kd.R_lt (by (with_reducible repeat (first | apply Kd.R_alloc | apply Kd.R_drewN | apply Kd.R_drew)); exact HO_5.out))) (Kd.R_lt (by (with_reducible repeat (first | apply Kd.R_alloc | apply Kd.R_drewN | apply Kd.R_drew)); exact HO_32.out))) (below_size (by repeat (first | (with_reducible first | exact HB.out | apply below_alloc | apply pw_below_drewN | apply below_drew1) | exact HB.out)))); have n3_ := Aside0.mk (below_step (by repeat (first | (with_reducible first | exact HB.out | apply below_alloc | apply pw_below_drewN | apply below_drew1) | exact HB.out)) hb); clear HO_5; clear HO_32; clear HB; have HO_5 := n0_; have HO_32 := n1_; have HO214 := n2_; have HB := n3_; clear n0_ n1_ n2_ n3_; (try clear hb); (try clear hb2); (try clear hk); (try clear hi); (try clear ho0); obtain ⟨Ao39, co39, eo39⟩ := Kd.R_slice HO214.out; subst eo39) | (go_at_call 8; (with_reducible refine (sederuntref06_Same.calls k2 _ _ t196 _ _ t210 false t215 _ ?side1 ?side2 ?side3 ?side4 A37.out).mono ?_); (case side1 => repeat (first | exact (Kd.R_reads' HO_5.out).2.2 | (with_reducible refine Kd.C_alloc ?_ _) | (with_reducible refine Kd.C_drewN ?_ _) | (with_reducible refine Kd.C_drew ?_))); (case side2 => exact (Kd.R_reads' HO_5.out).2.1); (case side3 => repeat (first | exact (Kd.R_reads' HO214.out).2.2 | (with_reducible refine Kd.C_alloc ?_ _) | (with_reducible refine Kd.C_drewN ?_ _) | (with_reducible refine Kd.C_drew ?_))); (case side4 => exact (Kd.R_reads' HO214.out).2.1); rintro e w40 ⟨rfl, hb⟩; have n0_ := Aside0.mk (Kd.R_below (by (with_reducible repeat (first | apply Kd.R_alloc | apply Kd.R_drewN | apply Kd.R_drew)); exact HO_5.out) hb); have n1_ := Aside0.mk (Kd.R_below (by (with_reducible repeat (first | apply Kd.R_alloc | apply Kd.R_drewN | apply Kd.R_drew)); exact HO_32.out) hb); have n2_ := Aside0.mk (Kd.R_below (by (with_reducible repeat (first | apply Kd.R_alloc | apply Kd.R_drewN | apply Kd.R_drew)); exact HO214.out) hb); have n3_ := Aside0.mk (below_step (by repeat (first | (with_reducible first | exact HB.out | apply below_alloc | apply pw_below_drewN | apply below_drew1) | exact HB.out)) hb); clear HO_5; clear HO_32; clear HO214; clear HB; have HO_5 := n0_; have HO_32 := n1_; have HO214 := n2_; have HB := n3_; clear n0_ n1_ n2_ n3_; (try clear hb); (try clear hb2); (try clear hk); (try clear hi)))
                go_ret
                exact ⟨by first | rfl | (simp [errW_none, errW_some] <;> rfl) | (simp [*, errW_none, errW_some] <;> rfl), by repeat (first | (with_reducible first | exact HB.out | apply below_alloc | apply pw_below_drewN | apply below_drew1) | exact HB.out)⟩
              · rw [if_neg c36] at H
                have c36b0 : (t212 == 0) = false := beq_eq_false_iff_ne.mpr c36
                have c36b1 : (t212 != 0) = true := bne_iff_ne.mpr c36
                obtain rfl := Option.some.inj H
                go_wp2_with (first | ((with_reducible refine gate_callee (f := 7) rfl ?_); refine goesL_ (some 51) rfl rfl Tryd.func7 (by kernel_rfl) rfl #[.string x8_2] rfl (by (try simp only [List.map_toArray, List.map_cons, List.map_nil]); first | done | rfl | (simp only [List.length_drop, List.length_take]; rfl)) ?_; (with_reducible refine (lexer_Tokens.calls k2 x8_2 t210 t211 t212 _ A35.out).mono ?_); rintro e w41 ⟨v213, rfl, ho0, hb⟩; refine ⟨_, rfl, ?_⟩; have n0_ := Aside0.mk (Kd.R_elder' (by (with_reducible repeat (first | apply Kd.R_alloc | apply Kd.R_drewN | apply Kd.R_drew)); exact HO_5.out) (Kd.R_base ho0) hb); have n1_ := Aside0.mk (Kd.R_elder' (by (with_reducible repeat (first | apply Kd.R_alloc | apply Kd.R_drewN | apply Kd.R_drew)); exact HO_32.out) (Kd.R_base ho0) hb); have n2_ := Aside0.mk (Kd.R_lower (Kd.R_new' (Kd.R_new' ho0 (Kd.R_lt (by (with_reducible repeat (first | apply Kd.R_alloc | apply Kd.R_drewN | apply Kd.R_drew)); exact HO_5.out))) (Kd.R_lt (by (with_reducible repeat (first | apply Kd.R_alloc | apply Kd.R_drewN | apply Kd.R_drew)); exact HO_32.out))) (below_size (by repeat (first | (with_reducible first | exact HB.out | apply below_alloc | apply pw_below_drewN | apply below_drew1) | exact HB.out)))); have n3_ := Aside0.mk (below_step (by repeat (first | (with_reducible first | exact HB.out | apply below_alloc | apply pw_below_drewN | apply below_drew1) | exact HB.out)) hb); clear HO_5; clear HO_32; clear HB; have HO_5 := n0_; have HO_32 := n1_; have HO214 := n2_; have HB := n3_; clear n0_ n1_ n2_ n3_; (try clear hb); (try clear hb2); (try clear hk); (try clear hi); (try clear ho0)))
                go_ret
                exact ⟨by first | rfl | (simp [errW_none, errW_some] <;> rfl) | (simp [*, errW_none, errW_some] <;> rfl), by repeat (first | (with_reducible first | exact HB.out | apply below_alloc | apply pw_below_drewN | apply below_drew1) | exact HB.out)⟩

/-- THE ONE PURE STATEMENT of sederuntlaw06_LexerWords: yours. -/
def sederuntlaw06_LexerWords.Pure : Prop := ∀ (a0 : ByteArray) (a1 : Int), a0.size ≤ 140737488351232 → (Lit.int .u8 a1).wf = true → ∃ k, sederuntlaw06_LexerWords.f k a0 a1 = some true
theorem sederuntlaw06_LexerWords.walk (P : sederuntlaw06_LexerWords.Pure) (a0 : ByteArray) (a1 : Int) (w : World) (w0 : a0.size ≤ 140737488351232) (w1 : (Lit.int .u8 a1).wf = true) (hG : Glob w) :
    Calls Tryd.prog 3 #[.string a0, .int .u8 a1] w fun e w' => e = .returned (.bool true) ∧ Below w.heap.size w w' := by
  obtain ⟨k, h⟩ := P a0 a1 w0 w1
  refine (sederuntlaw06_LexerWords.calls k a0 a1 true w hG h).mono ?_
  rintro e w' ⟨rfl, hd⟩
  exact ⟨rfl, hd⟩

end Go.Proofs.YtlgkeeajcbooaaaDoor.PL
