/- Printed by a program of this session: what functions of the program come to, as Lean functions, with their contracts. -/
import Derived.Test.YtlgkeeajcbooaaaDoorPLx0
import Derived.Test.YtlgkeeajcbooaaaDoorPLx3
namespace Go.Proofs.YtlgkeeajcbooaaaDoor.PL
open Go.RowKit Go.Proofs.YtlgkeeajcbooaaaDoorW.PrintWords Go.Proofs.YtlgkeeajcbooaaaDoorW.PrintLast Go.Proofs.YtlgkeeajcbooaaaDoorW.PrintMore
attribute [local go_sem] max2_int min2_int max_two min_two max_three min_three max_four min_four   -- for this text's walks alone
set_option linter.unusedVariables false
set_option linter.unusedSimpArgs false

/-! ### sederuntref06_str: function 25 -/
mutual
def sederuntref06_str.j0 : Nat → ByteArray → Bool → Option (ByteArray × Int)
  | 0, _, _ => none
  | k + 1, x0, x14 => if x14 = true then (some ((⟨#[]⟩ : ByteArray), 0)) else (sederuntref06_str.l0 k x0 (⟨#[]⟩ : ByteArray) 1)
def sederuntref06_str.l0 : Nat → ByteArray → ByteArray → Int → Option (ByteArray × Int)
  | 0, _, _, _ => none
  | k + 1, x0, x4, x5 => if x5 < (x0.size : Int) then (if 0 ≤ x5 then (sederuntref06_str.j2 k x0 x4 x5 ((bt x0 x5) != 34)) else (none)) else (sederuntref06_str.j2 k x0 x4 x5 false)
def sederuntref06_str.j2 : Nat → ByteArray → ByteArray → Int → Bool → Option (ByteArray × Int)
  | 0, _, _, _, _ => none
  | k + 1, x0, x4, x5, x24 => if x24 = true then (if 0 ≤ x5 then (if x5 ≤ (x0.size : Int) then ((sederuntref06_char.f k (x0.extract (x5 : Int).toNat x0.size)).bind fun bt106 => (if bt106.2 = 0 then (some ((⟨#[]⟩ : ByteArray), 0)) else ((some (([bt106.1] : List Int) : List Int)).bind fun y108 => (if x4.size + (strOfNums y108).size ≤ 9223372036854775807 then (sederuntref06_str.l0 k x0 (x4 ++ (strOfNums y108)) (wrap64 (x5 + bt106.2))) else (none))))) else (none)) else (none)) else (if x5 = (x0.size : Int) then (some ((⟨#[]⟩ : ByteArray), 0)) else (some (x4, wrap64 (x5 + 1))))
end
def sederuntref06_str.f (k : Nat) (a0 : ByteArray) : Option (ByteArray × Int) := if a0.toList = ([] : List UInt8) then (sederuntref06_str.j0 k a0 true) else (if 0 < (a0.size : Int) then (sederuntref06_str.j0 k a0 ((bt a0 0) != 34)) else (none))
theorem sederuntref06_str.mono_l : ∀ k, (∀ y0 y1, LeO (sederuntref06_str.j0 k y0 y1) (sederuntref06_str.j0 (k + 1) y0 y1)) ∧ (∀ y0 y1 y2, LeO (sederuntref06_str.l0 k y0 y1 y2) (sederuntref06_str.l0 (k + 1) y0 y1 y2)) ∧ (∀ y0 y1 y2 y3, LeO (sederuntref06_str.j2 k y0 y1 y2 y3) (sederuntref06_str.j2 (k + 1) y0 y1 y2 y3))
  | 0 => ⟨fun _ _ r h => by simp [sederuntref06_str.j0] at h, fun _ _ _ r h => by simp [sederuntref06_str.l0] at h, fun _ _ _ _ r h => by simp [sederuntref06_str.j2] at h⟩
  | k + 1 => by
    obtain ⟨ih0, ih1, ih2⟩ := sederuntref06_str.mono_l k
    refine ⟨?_, ?_, ?_⟩
    · intro y0 y1
      unfold sederuntref06_str.j0
      repeat' first
      | (with_reducible exact ih0 _ _)
      | (with_reducible exact ih1 _ _ _)
      | (with_reducible exact ih2 _ _ _ _)
      | (with_reducible exact sederuntref06_char.mono _ _)
      | (with_reducible exact LeO.refl _)
      | (with_reducible exact LeO.none _)
      | (with_reducible refine LeO.ite ?_ ?_)
      | (with_reducible refine LeO.bind ?_ (fun _ => ?_))
      | exact ih0 _ _
      | exact ih1 _ _ _
      | exact ih2 _ _ _ _
      | exact sederuntref06_char.mono _ _
      | exact LeO.none _
      | refine LeO.ite ?_ ?_
      | refine LeO.bind ?_ (fun _ => ?_)
    · intro y0 y1 y2
      unfold sederuntref06_str.l0
      repeat' first
      | (with_reducible exact ih0 _ _)
      | (with_reducible exact ih1 _ _ _)
      | (with_reducible exact ih2 _ _ _ _)
      | (with_reducible exact sederuntref06_char.mono _ _)
      | (with_reducible exact LeO.refl _)
      | (with_reducible exact LeO.none _)
      | (with_reducible refine LeO.ite ?_ ?_)
      | (with_reducible refine LeO.bind ?_ (fun _ => ?_))
      | exact ih0 _ _
      | exact ih1 _ _ _
      | exact ih2 _ _ _ _
      | exact sederuntref06_char.mono _ _
      | exact LeO.none _
      | refine LeO.ite ?_ ?_
      | refine LeO.bind ?_ (fun _ => ?_)
    · intro y0 y1 y2 y3
      unfold sederuntref06_str.j2
      repeat' first
      | (with_reducible exact ih0 _ _)
      | (with_reducible exact ih1 _ _ _)
      | (with_reducible exact ih2 _ _ _ _)
      | (with_reducible exact sederuntref06_char.mono _ _)
      | (with_reducible exact LeO.refl _)
      | (with_reducible exact LeO.none _)
      | (with_reducible refine LeO.ite ?_ ?_)
      | (with_reducible refine LeO.bind ?_ (fun _ => ?_))
      | exact ih0 _ _
      | exact ih1 _ _ _
      | exact ih2 _ _ _ _
      | exact sederuntref06_char.mono _ _
      | exact LeO.none _
      | refine LeO.ite ?_ ?_
      | refine LeO.bind ?_ (fun _ => ?_)
theorem sederuntref06_str.mono : ∀ a0 k, LeO (sederuntref06_str.f k a0) (sederuntref06_str.f (k + 1) a0) := by
  intro a0 k
  obtain ⟨ih0, ih1, ih2⟩ := sederuntref06_str.mono_l k
  unfold sederuntref06_str.f
  repeat' first
      | (with_reducible exact ih0 _ _)
      | (with_reducible exact ih1 _ _ _)
      | (with_reducible exact ih2 _ _ _ _)
      | (with_reducible exact sederuntref06_char.mono _ _)
      | (with_reducible exact LeO.refl _)
      | (with_reducible exact LeO.none _)
      | (with_reducible refine LeO.ite ?_ ?_)
      | (with_reducible refine LeO.bind ?_ (fun _ => ?_))
      | exact ih0 _ _
      | exact ih1 _ _ _
      | exact ih2 _ _ _ _
      | exact sederuntref06_char.mono _ _
      | exact LeO.none _
      | refine LeO.ite ?_ ?_
      | refine LeO.bind ?_ (fun _ => ?_)
set_option maxHeartbeats 8000000 in
set_option maxRecDepth 100000 in
theorem sederuntref06_str.calls (k : Nat) (a0 : ByteArray) (r1 : ByteArray) (r2 : Int) (w : World) (h : sederuntref06_str.f k a0 = some (r1, r2)) :
    Calls Tryd.prog 25 #[.string a0] w fun e w' => e = .returned (.tuple #[.string r1, .int .i64 r2]) ∧ Below w.heap.size w w' := by
  have HB := Aside0.mk (Below.refl w.heap.size w)
  have H : (if a0.toList = ([] : List UInt8) then (sederuntref06_str.j0 k a0 true) else (if 0 < (a0.size : Int) then (sederuntref06_str.j0 k a0 ((bt a0 0) != 34)) else (none))) = some (r1, r2) := h
  clear h
  have HC2 := Aside0.mk H
  clear H
  go_enter Tryd.func25, Tryd.ntmps25
  go_upto_region 1 with (fail)
  go_cut [14] (fun v14 wc => ∃ (kq : Nat) (x14_1 : Bool), v14 = .bool x14_1 ∧ Aside0 (sederuntref06_str.j0 kq a0 x14_1 = some (r1, r2)) ∧ Aside0 (kq ≤ k) ∧ Aside0 (Below w.heap.size w wc))
  case first =>
    have H := HC2.out
    clear HC2
    by_cases c3 : a0.toList = ([] : List UInt8)
    · rw [if_pos c3] at H
      have c3b0 : (a0.toList == ([] : List UInt8)) = true := beq_iff_eq.mpr c3
      have c3b1 : (a0.toList != ([] : List UInt8)) = false := bne_eq_false_iff_eq.mpr c3
      clear c3
      (first | rw [c3b0] | (simp only [i64_w, i32_w]; rw [c3b0]) | skip)
      have H' := Aside0.mk H
      clear H
      go_wp2
      go_meet
      case rel => exact ⟨_, (true), (by first | rfl | (simp; done) | (simp [*]; done) | (simp only [gw_u8, i64_w, ne_nil_bool] <;> rfl)), H', ⟨by first | omega | exact Nat.le_refl _⟩, ⟨by repeat (first | (with_reducible first | exact HB.out | apply below_alloc | apply pw_below_drewN | apply below_drew1) | exact HB.out)⟩⟩
    · rw [if_neg c3] at H
      have c3b0 : (a0.toList == ([] : List UInt8)) = false := beq_eq_false_iff_ne.mpr c3
      have c3b1 : (a0.toList != ([] : List UInt8)) = true := bne_iff_ne.mpr c3
      (first | rw [c3b0] | (simp only [i64_w, i32_w]; rw [c3b0]) | skip)
      by_cases c4 : 0 < (a0.size : Int)
      · rw [if_pos c4] at H
        have c4b0 : decide (0 < (a0.size : Int)) = true := decide_eq_true c4
        have c4b1 : decide (0 < a0.size) = true := decide_eq_true (by omega)
        clear c4
        have H' := Aside0.mk H
        clear H
        have p5 : 0 ≤ (0 : Int) := (by omega)
        have q5 : 0 < a0.size := (by have : (0 : Int) < (a0.size : Int) := of_decide_eq_true (by first | (with_reducible assumption) | assumption); omega)
        have hx5 : ∀ h : 0 < a0.size, ((a0[0]'h).toNat : Int) = bt a0 0 := bt_at a0 0
        clear p5
        have qi5 : (0 < (a0.size : Int)) = True := eq_true (of_decide_eq_true (by first | (with_reducible assumption) | assumption))
        replace q5 := eq_true q5
        go_wp2
        go_meet
        case rel => exact ⟨_, (((bt a0 0) != 34)), (by first | rfl | (simp; done) | (simp [*]; done) | (simp only [gw_u8, i64_w, ne_nil_bool] <;> rfl)), H', ⟨by first | omega | exact Nat.le_refl _⟩, ⟨by repeat (first | (with_reducible first | exact HB.out | apply below_alloc | apply pw_below_drewN | apply below_drew1) | exact HB.out)⟩⟩
      · rw [if_neg c4] at H
        exact absurd H (by simp)
  case rest =>
    clear HC2
    try clear c2
    try clear p2
    try clear c3
    try clear c3b0
    try clear c3b1
    try clear c4
    try clear c4b0
    try clear c4b1
    try clear p5
    try clear q5
    try clear hx5
    try clear qi5
    try clear p5
    try clear q5
    obtain ⟨kq, x14_1, rfl, HA, HJ1, HB⟩ := hcut
    cases kq with
    | zero => exact absurd HA.out (by simp [sederuntref06_str.j0])
    | succ kj1 =>
      have H := HA.out
      clear HA
      simp only [sederuntref06_str.j0] at H
      by_cases c6 : x14_1 = true
      · subst c6
        have H1 : (some ((⟨#[]⟩ : ByteArray), 0)) = some (r1, r2) := by rw [if_pos rfl] at H; exact H
        clear H
        have H := H1
        clear H1
        simp only [Option.some.injEq, Prod.mk.injEq] at H
        obtain ⟨rfl, rfl⟩ := H
        go_wp2
        go_ret2
        exact ⟨by first | rfl | (simp [errW_none, errW_some] <;> rfl) | (simp [*, errW_none, errW_some] <;> rfl), by repeat (first | (with_reducible first | exact HB.out | apply below_alloc | apply pw_below_drewN | apply below_drew1) | exact HB.out)⟩
      · replace c6 := Bool.eq_false_iff.mpr c6
        subst c6
        have H1 : (sederuntref06_str.l0 kj1 a0 (⟨#[]⟩ : ByteArray) 1) = some (r1, r2) := by rw [if_neg (show ¬ (false = true) by decide)] at H; exact H
        clear H
        have H := H1
        clear H1
        have H' := Aside0.mk H
        clear H
        go_wp2
        go_loopg [4, 5] kj1 (fun kq v4 v5 w' => ∃ (x4_2 : ByteArray) (x5_2 : Int), v4 = .string x4_2 ∧ v5 = .int .i64 x5_2 ∧ Aside0 (sederuntref06_str.l0 kq a0 x4_2 x5_2 = some (r1, r2)) ∧ Aside0 (kq ≤ kj1) ∧ Aside0 (Below w.heap.size w w'))
        case atStart => exact ⟨((⟨#[]⟩ : ByteArray)), (1), (by first | rfl | (simp; done) | (simp [*]; done) | (simp only [gw_u8, i64_w, ne_nil_bool] <;> rfl)), (by first | rfl | (simp; done) | (simp [*]; done) | (simp only [gw_u8, i64_w, ne_nil_bool] <;> rfl)), H', ⟨Nat.le_refl _⟩, ⟨by repeat (first | (with_reducible first | exact HB.out | apply below_alloc | apply pw_below_drewN | apply below_drew1) | exact HB.out)⟩⟩
        case round =>
          clear H'
          try clear c2
          try clear p2
          try clear c3
          try clear c3b0
          try clear c3b1
          try clear c4
          try clear c4b0
          try clear c4b1
          try clear p5
          try clear q5
          try clear hx5
          try clear qi5
          try clear c6
          try clear p2
          try clear p5
          try clear q5
          obtain ⟨x4_2, x5_2, rfl, rfl, HA, HK2, HB⟩ := hrel
          cases gk with
          | zero => exact absurd HA.out (by simp [sederuntref06_str.l0])
          | succ k2 =>
            have H := HA.out
            clear HA
            simp only [sederuntref06_str.l0] at H
            have HC7 := Aside0.mk H
            clear H
            go_upto_region 5 with (fail)
            go_cut [24] (fun v24 wc => ∃ (kq : Nat) (x24_6 : Bool), v24 = .bool x24_6 ∧ Aside0 (sederuntref06_str.j2 kq a0 x4_2 x5_2 x24_6 = some (r1, r2)) ∧ Aside0 (kq ≤ k2) ∧ Aside0 (Below w.heap.size w wc))
            case first =>
              have H := HC7.out
              clear HC7
              by_cases c8 : x5_2 < (a0.size : Int)
              · rw [if_pos c8] at H
                have c8b0 : decide (x5_2 < (a0.size : Int)) = true := decide_eq_true c8
                clear c8
                (first | rw [c8b0] | (simp only [i64_w, i32_w]; rw [c8b0]) | skip)
                by_cases c9 : 0 ≤ x5_2
                · rw [if_pos c9] at H
                  have c9b0 : decide (0 ≤ x5_2) = true := decide_eq_true c9
                  clear c9
                  have H' := Aside0.mk H
                  clear H
                  have p10 : 0 ≤ (x5_2 : Int) := of_decide_eq_true (by first | (with_reducible assumption) | assumption)
                  have q10 : x5_2 < (a0.size : Int) := of_decide_eq_true (by first | (with_reducible assumption) | assumption)
                  have hx10 := bt_at a0 x5_2
                  replace p10 := eq_true p10
                  replace q10 := eq_true q10
                  go_wp2
                  go_meet
                  case rel => exact ⟨_, (((bt a0 x5_2) != 34)), (by first | rfl | (simp; done) | (simp [*]; done) | (simp only [gw_u8, i64_w, ne_nil_bool] <;> rfl)), H', ⟨by have := HJ1.out; have := HK2.out; first | omega | exact Nat.le_refl _⟩, ⟨by repeat (first | (with_reducible first | exact HB.out | apply below_alloc | apply pw_below_drewN | apply below_drew1) | exact HB.out)⟩⟩
                · rw [if_neg c9] at H
                  exact absurd H (by simp)
              · rw [if_neg c8] at H
                have c8b0 : decide (x5_2 < (a0.size : Int)) = false := decide_eq_false c8
                clear c8
                (first | rw [c8b0] | (simp only [i64_w, i32_w]; rw [c8b0]) | skip)
                have H' := Aside0.mk H
                clear H
                go_wp2
                go_meet
                case rel => exact ⟨_, (false), (by first | rfl | (simp; done) | (simp [*]; done) | (simp only [gw_u8, i64_w, ne_nil_bool] <;> rfl)), H', ⟨by have := HJ1.out; have := HK2.out; first | omega | exact Nat.le_refl _⟩, ⟨by repeat (first | (with_reducible first | exact HB.out | apply below_alloc | apply pw_below_drewN | apply below_drew1) | exact HB.out)⟩⟩
            case rest =>
              clear HC7
              try clear p1
              try clear q1
              try clear hx1
              try clear c2
              try clear p2
              try clear c3
              try clear c3b0
              try clear c3b1
              try clear c4
              try clear c4b0
              try clear c4b1
              try clear p5
              try clear q5
              try clear hx5
              try clear qi5
              try clear c6
              try clear c8
              try clear c8b0
              try clear c9
              try clear c9b0
              try clear p10
              try clear q10
              try clear hx10
              try clear p10
              try clear p2
              try clear p5
              try clear q10
              try clear q5
              obtain ⟨kq, x24_6, rfl, HA, HJ6, HB⟩ := hcut
              cases kq with
              | zero => exact absurd HA.out (by simp [sederuntref06_str.j2])
              | succ kj6 =>
                have H := HA.out
                clear HA
                simp only [sederuntref06_str.j2] at H
                by_cases c11 : x24_6 = true
                · subst c11
                  have H1 : (if 0 ≤ x5_2 then (if x5_2 ≤ (a0.size : Int) then ((sederuntref06_char.f kj6 (a0.extract (x5_2 : Int).toNat a0.size)).bind fun bt106 => (if bt106.2 = 0 then (some ((⟨#[]⟩ : ByteArray), 0)) else ((some (([bt106.1] : List Int) : List Int)).bind fun y108 => (if x4_2.size + (strOfNums y108).size ≤ 9223372036854775807 then (sederuntref06_str.l0 kj6 a0 (x4_2 ++ (strOfNums y108)) (wrap64 (x5_2 + bt106.2))) else (none))))) else (none)) else (none)) = some (r1, r2) := by rw [if_pos rfl] at H; exact H
                  clear H
                  have H := H1
                  clear H1
                  by_cases c12 : 0 ≤ x5_2
                  · rw [if_pos c12] at H
                    have c12b0 := eq_true c12
                    have c12b1 : decide (0 ≤ x5_2) = true := decide_eq_true c12
                    clear c12
                    by_cases c13 : x5_2 ≤ (a0.size : Int)
                    · rw [if_pos c13] at H
                      have c13b0 := eq_true c13
                      have c13b1 : decide (x5_2 ≤ (a0.size : Int)) = true := decide_eq_true c13
                      clear c13
                      replace H := Option.bind_eq_some_iff.mp H
                      obtain ⟨⟨t106, t107⟩, A140, H⟩ := H
                      replace H : (if t107 = 0 then (some ((⟨#[]⟩ : ByteArray), 0)) else ((some (([t106] : List Int) : List Int)).bind fun y108 => (if x4_2.size + (strOfNums y108).size ≤ 9223372036854775807 then (sederuntref06_str.l0 kj6 a0 (x4_2 ++ (strOfNums y108)) (wrap64 (x5_2 + t107))) else (none)))) = some (r1, r2) := H
                      have A14 := Aside0.mk A140
                      clear A140
                      by_cases c15 : t107 = 0
                      · rw [if_pos c15] at H
                        have c15b0 : (t107 == 0) = true := beq_iff_eq.mpr c15
                        have c15b1 : (t107 != 0) = false := bne_eq_false_iff_eq.mpr c15
                        clear c15
                        simp only [Option.some.injEq, Prod.mk.injEq] at H
                        obtain ⟨rfl, rfl⟩ := H
                        go_wp2_with (first | ((with_reducible refine gate_callee (f := 41) rfl ?_); refine goesL_ (some 29) rfl rfl Tryd.func41 (by kernel_rfl) rfl #[.string (a0.extract (x5_2 : Int).toNat a0.size)] rfl (by (try simp only [List.map_toArray, List.map_cons, List.map_nil]); first | done | rfl | (simp only [List.length_drop, List.length_take]; rfl)) ?_; (with_reducible refine (sederuntref06_char.calls kj6 (a0.extract (x5_2 : Int).toNat a0.size) t106 t107 _ A14.out).mono ?_); rintro e w' ⟨rfl, ⟨nd, rfl⟩⟩; refine ⟨_, rfl, ?_⟩))
                        go_ret2
                        exact ⟨by first | rfl | (simp [errW_none, errW_some] <;> rfl) | (simp [*, errW_none, errW_some] <;> rfl), by repeat (first | (with_reducible first | exact HB.out | apply below_alloc | apply pw_below_drewN | apply below_drew1) | exact HB.out)⟩
                      · rw [if_neg c15] at H
                        have c15b0 : (t107 == 0) = false := beq_eq_false_iff_ne.mpr c15
                        have c15b1 : (t107 != 0) = true := bne_iff_ne.mpr c15
                        obtain ⟨y108, hy108⟩ : ∃ y_ : List Int, y_ = (([t106] : List Int)) := ⟨_, rfl⟩
                        replace H : (if x4_2.size + (strOfNums y108).size ≤ 9223372036854775807 then (sederuntref06_str.l0 kj6 a0 (x4_2 ++ (strOfNums y108)) (wrap64 (x5_2 + t107))) else (none)) = some (r1, r2) := by first | (rw [hy108]; with_reducible exact H) | (have H2_ := (Option.bind_some _ _).symm.trans H; rw [hy108]; with_reducible exact H2_) | (have H2_ := (Option.bind_some _ _).symm.trans H; with_reducible exact H2_) | with_reducible exact H | (rw [hy108]; exact H) | exact H
                        have Ny108 := Aside0.mk hy108
                        clear hy108
                        by_cases c16 : x4_2.size + (strOfNums y108).size ≤ 9223372036854775807
                        · rw [if_pos c16] at H
                          have c16b0 := eq_true c16
                          have c16b1 : decide (x4_2.size + (strOfNums y108).size ≤ 9223372036854775807) = true := decide_eq_true c16
                          try have c16b2 : (9223372036854775807 < x4_2.size + (strOfNums y108).size) = False := eq_false (Nat.not_lt.2 c16)
                          have H' := Aside0.mk H
                          clear H
                          go_wp2_with (first | ((with_reducible refine gate_callee (f := 41) rfl ?_); refine goesL_ (some 29) rfl rfl Tryd.func41 (by kernel_rfl) rfl #[.string (a0.extract (x5_2 : Int).toNat a0.size)] rfl (by (try simp only [List.map_toArray, List.map_cons, List.map_nil]); first | done | rfl | (simp only [List.length_drop, List.length_take]; rfl)) ?_; (with_reducible refine (sederuntref06_char.calls kj6 (a0.extract (x5_2 : Int).toNat a0.size) t106 t107 _ A14.out).mono ?_); rintro e w' ⟨rfl, ⟨nd, rfl⟩⟩; refine ⟨_, rfl, ?_⟩) | ((with_reducible refine gate_dst (N := 36) rfl ?_); refine Kd.R_lit (Kd.int .u8) _ 5 ?hg (N := 36) ?hd (xs := ([t106] : List Int)) (inner := [.int .u8 t106]) (ok := fun _ => True) (okp := fun _ => True) ?hr ?hp (fun _ hk => hk) trivial (Below.refl _ _) (Nat.le_refl _) (by simp) ?_; (case hd => rfl); (case hg => rfl); (case hr => first | (go_simp; done) | (go_simp; rfl)); (case hp => exact (Reps.one (show Kd.M (Kd.int .u8) _ _ _ t106 [.int .u8 t106] from rfl) (Reps.none _ _))); intro v109 w17 ho18 hb hg_ hnew_; clear hg_ hnew_; (first | rw [← Ny108.out] at ho18 | (simp only [Int.reduceToNat] at ho18; rw [← Ny108.out] at ho18)); have n0_ := Aside0.mk (Kd.R_lower ho18 (below_size (by repeat (first | (with_reducible first | exact HB.out | apply below_alloc | apply pw_below_drewN | apply below_drew1) | exact HB.out)))); have n1_ := Aside0.mk (below_step (by repeat (first | (with_reducible first | exact HB.out | apply below_alloc | apply pw_below_drewN | apply below_drew1) | exact HB.out)) hb); clear HB; have HO110 := n0_; have HB := n1_; clear n0_ n1_; clear hb ho18; have hcv19 := own_string (P := Tryd.prog) Tryd.underlying51 Tryd.underlying5 Tryd.underlying9 (Kd.own_of_R HO110.out)))
                          go_roundg kj6
                          case measure => have := HJ1.out; have := HK2.out; have := HJ6.out; omega
                          case rel => exact ⟨(x4_2 ++ (strOfNums y108)), (wrap64 (x5_2 + t107)), (by first | rfl | (simp; done) | (simp [*]; done) | (simp only [gw_u8, i64_w, ne_nil_bool] <;> rfl)), (by first | rfl | (simp; done) | (simp [*]; done) | (simp only [gw_u8, i64_w, ne_nil_bool] <;> rfl)), H', ⟨by have := HJ1.out; have := HK2.out; have := HJ6.out; omega⟩, ⟨by repeat (first | (with_reducible first | exact HB.out | apply below_alloc | apply pw_below_drewN | apply below_drew1) | exact HB.out)⟩⟩
                        · rw [if_neg c16] at H
                          exact absurd H (by simp)
                    · rw [if_neg c13] at H
                      exact absurd H (by simp)
                  · rw [if_neg c12] at H
                    exact absurd H (by simp)
                · replace c11 := Bool.eq_false_iff.mpr c11
                  subst c11
                  have H1 : (if x5_2 = (a0.size : Int) then (some ((⟨#[]⟩ : ByteArray), 0)) else (some (x4_2, wrap64 (x5_2 + 1)))) = some (r1, r2) := by rw [if_neg (show ¬ (false = true) by decide)] at H; exact H
                  clear H
                  have H := H1
                  clear H1
                  by_cases c20 : x5_2 = (a0.size : Int)
                  · rw [if_pos c20] at H
                    have c20b0 : (x5_2 == (a0.size : Int)) = true := beq_iff_eq.mpr c20
                    have c20b1 : (x5_2 != (a0.size : Int)) = false := bne_eq_false_iff_eq.mpr c20
                    clear c20
                    simp only [Option.some.injEq, Prod.mk.injEq] at H
                    obtain ⟨rfl, rfl⟩ := H
                    go_wp2
                    go_ret2
                    exact ⟨by first | rfl | (simp [errW_none, errW_some] <;> rfl) | (simp [*, errW_none, errW_some] <;> rfl), by repeat (first | (with_reducible first | exact HB.out | apply below_alloc | apply pw_below_drewN | apply below_drew1) | exact HB.out)⟩
                  · rw [if_neg c20] at H
                    have c20b0 : (x5_2 == (a0.size : Int)) = false := beq_eq_false_iff_ne.mpr c20
                    have c20b1 : (x5_2 != (a0.size : Int)) = true := bne_iff_ne.mpr c20
                    simp only [Option.some.injEq, Prod.mk.injEq] at H
                    obtain ⟨rfl, rfl⟩ := H
                    go_wp2
                    go_ret2
                    exact ⟨by first | rfl | (simp [errW_none, errW_some] <;> rfl) | (simp [*, errW_none, errW_some] <;> rfl), by repeat (first | (with_reducible first | exact HB.out | apply below_alloc | apply pw_below_drewN | apply below_drew1) | exact HB.out)⟩

end Go.Proofs.YtlgkeeajcbooaaaDoor.PL
