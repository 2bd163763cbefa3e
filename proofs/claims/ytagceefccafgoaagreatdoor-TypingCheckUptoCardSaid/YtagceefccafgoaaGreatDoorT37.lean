/- awake; the statement's answer. No condition. awake answers true; the statement's answer. No condition. -/
import Derived.Test.YtagceefccafgoaaGreatDoorT35
import Derived.Test.YtagceefccafgoaaGreatDoorT36
set_option linter.all false
namespace Go.Ev.Ty
open Go.Ev
variable [GF]
set_option maxRecDepth 1000000
set_option linter.unusedSimpArgs false
set_option linter.unusedVariables false
set_option maxHeartbeats 0
theorem callP_ev {f : FuncId} {us : List V} {r : V} (k : Nat) (h : ∀ n, evPure pg (n + k) f us = some r) : CallP pg f us r :=
  ⟨k, fun n hn => by have := h (n - k); rwa [Nat.sub_add_cancel hn] at this⟩
theorem c6 (hG : FmtIs) (l : List D) (hb : declsB l ≤ 1048576) (a b : Int) (he : checkOf (fmtR ⟨#[]⟩ l).2 l = (a, b)) : CallP pg 6 [declsV l] (.tup [iV a, iV b]) := by
  have hlen := declsB_len l
  have htl := table_len l
  have h6 := s6 l _ (by omega) (dec_of hb) (fun _ => by omega) (s13 hG l hb)
  rw [he] at h6
  exact h6
theorem c8 (t : ByteArray) (l : List D) (h9 : CallP pg 9 [.str t] (.tup [.lst 22 (l.map D.cells), iV 0, iV 0])) (a b : Int) (h6 : CallP pg 6 [declsV l] (.tup [iV a, iV b])) (hdp : ∀ rd, deepByss rd (deepCells rd 19) (l.map D.cells) = some (l.map D.cells)) : CallP pg 8 [.str t] (.tup [iV a, iV b]) := by
  refine CallP.go rfl (show _ = some m8 from rfl) ?_
  unfold m8
  simp [callK_eq h9, callK_eq h6, hdp]
theorem wb0 : declsB ds0 ≤ 1048576 := Nat.le_of_ble_eq_true (by kernel_rfl)
theorem wc0 : checkOf (fmtR ⟨#[]⟩ ds0).2 ds0 = (0, 0) := by kernel_rfl
theorem w9_0 : CallP pg 9 [.str aw0] (.tup [.lst 22 (ds0.map D.cells), iV 0, iV 0]) := callP_ev (f := 9) (us := [.str aw0]) (r := .tup [.lst 22 (ds0.map D.cells), iV 0, iV 0]) 110 rd0
theorem w8_0 (hG : FmtIs) : CallP pg 8 [.str aw0] (.tup [iV 0, iV 0]) := c8 aw0 ds0 w9_0 0 0 (c6 hG ds0 wb0 0 0 wc0) (fun rd => by kernel_rfl)
theorem wb1 : declsB ds1 ≤ 1048576 := Nat.le_of_ble_eq_true (by kernel_rfl)
theorem wc1 : checkOf (fmtR ⟨#[]⟩ ds1).2 ds1 = (3, 11) := by kernel_rfl
theorem w9_1 : CallP pg 9 [.str aw1] (.tup [.lst 22 (ds1.map D.cells), iV 0, iV 0]) := callP_ev (f := 9) (us := [.str aw1]) (r := .tup [.lst 22 (ds1.map D.cells), iV 0, iV 0]) 110 rd1
theorem w8_1 (hG : FmtIs) : CallP pg 8 [.str aw1] (.tup [iV 3, iV 11]) := c8 aw1 ds1 w9_1 3 11 (c6 hG ds1 wb1 3 11 wc1) (fun rd => by kernel_rfl)
theorem wb2 : declsB ds2 ≤ 1048576 := Nat.le_of_ble_eq_true (by kernel_rfl)
theorem wc2 : checkOf (fmtR ⟨#[]⟩ ds2).2 ds2 = (4, 12) := by kernel_rfl
theorem w9_2 : CallP pg 9 [.str aw2] (.tup [.lst 22 (ds2.map D.cells), iV 0, iV 0]) := callP_ev (f := 9) (us := [.str aw2]) (r := .tup [.lst 22 (ds2.map D.cells), iV 0, iV 0]) 110 rd2
theorem w8_2 (hG : FmtIs) : CallP pg 8 [.str aw2] (.tup [iV 4, iV 12]) := c8 aw2 ds2 w9_2 4 12 (c6 hG ds2 wb2 4 12 wc2) (fun rd => by kernel_rfl)
theorem wb3 : declsB ds3 ≤ 1048576 := Nat.le_of_ble_eq_true (by kernel_rfl)
theorem wc3 : checkOf (fmtR ⟨#[]⟩ ds3).2 ds3 = (4, 5) := by kernel_rfl
theorem w9_3 : CallP pg 9 [.str aw3] (.tup [.lst 22 (ds3.map D.cells), iV 0, iV 0]) := callP_ev (f := 9) (us := [.str aw3]) (r := .tup [.lst 22 (ds3.map D.cells), iV 0, iV 0]) 110 rd3
theorem w8_3 (hG : FmtIs) : CallP pg 8 [.str aw3] (.tup [iV 4, iV 5]) := c8 aw3 ds3 w9_3 4 5 (c6 hG ds3 wb3 4 5 wc3) (fun rd => by kernel_rfl)
theorem w11e (n : Nat) : evPure pg (n + 100) 11 [declsV ds4, .str ⟨#[113]⟩] = some (.lst 1 [[.str ⟨#[99, 49]⟩]]) := by kernel_rfl
theorem w11 : CallP pg 11 [declsV ds4, .str ⟨#[113]⟩] (.lst 1 [[.str ⟨#[99, 49]⟩]]) := callP_ev 100 w11e
theorem w10e (n : Nat) : evPure pg (n + 100) 10 [.slc [[.str ⟨#[99, 49]⟩]], .slc [[.str ⟨#[99, 49]⟩]]] = some (.bool true) := by kernel_rfl
theorem w10 : CallP pg 10 [.slc [[.str ⟨#[99, 49]⟩]], .slc [[.str ⟨#[99, 49]⟩]]] (.bool true) := callP_ev 100 w10e
theorem w9_4 : CallP pg 9 [.str aw4] (.tup [.lst 22 (ds4.map D.cells), iV 0, iV 0]) := callP_ev (f := 9) (us := [.str aw4]) (r := .tup [.lst 22 (ds4.map D.cells), iV 0, iV 0]) 110 rd4
end Go.Ev.Ty
namespace Go.Ev.Ty
open Go.Ev
variable [GF]
set_option maxRecDepth 1000000
set_option linter.unusedSimpArgs false
set_option linter.unusedVariables false
noncomputable def m4b : MFun := ⟨[(.t 0, 0)], .seq (.reg [⟨some 0, none, .mv (.c (.bool false)), none, [], []⟩] (some [])) (.seq (.reg [⟨some 13, none, .callp (.c (.fn 8 [] [])) [.c (.str aw0)], none, [], []⟩, ⟨some 12, none, .mv (.t 13), none, [], []⟩, ⟨some 14, none, .ext (.t 12) 0, none, [], []⟩, ⟨some 15, none, .ext (.t 12) 1, none, [], []⟩, ⟨some 1, none, .mv (.t 14), none, [], []⟩, ⟨some 2, none, .mv (.t 15), none, [], []⟩] (some [1, 2])) (.seq (.reg [⟨some 17, none, .callp (.c (.fn 8 [] [])) [.c (.str aw1)], none, [], []⟩, ⟨some 16, none, .mv (.t 17), none, [], []⟩, ⟨some 18, none, .ext (.t 16) 0, none, [], []⟩, ⟨some 19, none, .ext (.t 16) 1, none, [], []⟩, ⟨some 3, none, .mv (.t 18), none, [], []⟩, ⟨some 4, none, .mv (.t 19), none, [], []⟩] (some [1, 2, 3, 4])) (.seq (.reg [⟨some 21, none, .callp (.c (.fn 8 [] [])) [.c (.str aw2)], none, [], []⟩, ⟨some 20, none, .mv (.t 21), none, [], []⟩, ⟨some 22, none, .ext (.t 20) 0, none, [], []⟩, ⟨some 23, none, .ext (.t 20) 1, none, [], []⟩, ⟨some 5, none, .mv (.t 22), none, [], []⟩, ⟨some 6, none, .mv (.t 23), none, [], []⟩] (some [1, 2, 3, 4, 5, 6])) (.seq (.reg [⟨some 25, none, .callp (.c (.fn 8 [] [])) [.c (.str aw3)], none, [], []⟩, ⟨some 24, none, .mv (.t 25), none, [], []⟩, ⟨some 26, none, .ext (.t 24) 0, none, [], []⟩, ⟨some 27, none, .ext (.t 24) 1, none, [], []⟩, ⟨some 7, none, .mv (.t 26), none, [], []⟩, ⟨some 8, none, .mv (.t 27), none, [], []⟩] (some [1, 2, 3, 4, 5, 6, 7, 8])) (.seq (.reg [⟨some 29, none, .callp (.c (.fn 9 [] [])) [.c (.str aw4)], none, [], []⟩, ⟨some 28, none, .mv (.t 29), none, [], []⟩, ⟨some 30, none, .ext (.t 28) 0, none, [], []⟩, ⟨some 31, none, .ext (.t 28) 1, none, [], []⟩, ⟨some 32, none, .ext (.t 28) 2, none, [], []⟩, ⟨some 9, none, .mv (.t 30), none, [], []⟩, ⟨some 10, none, .mv (.t 31), none, [], []⟩, ⟨some 11, none, .mv (.t 32), none, [], []⟩] (some [1, 2, 3, 4, 5, 6, 7, 8, 9])) (.seq (.reg [⟨some 33, none, .mv (.t 1), none, [], []⟩, ⟨some 34, none, .bin .eql .no (.t 33) (.c (.int .i64 0)), none, [], []⟩, ⟨some 35, none, .mv (.t 34), none, [], []⟩, ⟨some 36, some (35, true), .mv (.t 2), none, [], []⟩, ⟨some 37, some (35, true), .bin .eql .no (.t 36) (.c (.int .i64 0)), none, [], []⟩, ⟨some 38, none, .pick (.t 35) (.t 37) (.c (.bool false)), none, [], []⟩, ⟨some 39, none, .mv (.t 38), none, [], []⟩, ⟨some 40, some (39, true), .mv (.t 3), none, [], []⟩, ⟨some 41, some (39, true), .bin .eql .no (.t 40) (.c (.int .i64 3)), none, [], []⟩, ⟨some 42, none, .pick (.t 39) (.t 41) (.c (.bool false)), none, [], []⟩, ⟨some 43, none, .mv (.t 42), none, [], []⟩, ⟨some 44, some (43, true), .mv (.t 4), none, [], []⟩, ⟨some 45, some (43, true), .bin .eql .no (.t 44) (.c (.int .i64 11)), none, [], []⟩, ⟨some 46, none, .pick (.t 43) (.t 45) (.c (.bool false)), none, [], []⟩, ⟨some 47, none, .mv (.t 46), none, [], []⟩, ⟨some 48, some (47, true), .mv (.t 5), none, [], []⟩, ⟨some 49, some (47, true), .bin .eql .no (.t 48) (.c (.int .i64 4)), none, [], []⟩, ⟨some 50, none, .pick (.t 47) (.t 49) (.c (.bool false)), none, [], []⟩, ⟨some 51, none, .mv (.t 50), none, [], []⟩, ⟨some 52, some (51, true), .mv (.t 6), none, [], []⟩, ⟨some 53, some (51, true), .bin .eql .no (.t 52) (.c (.int .i64 12)), none, [], []⟩, ⟨some 54, none, .pick (.t 51) (.t 53) (.c (.bool false)), none, [], []⟩, ⟨some 55, none, .mv (.t 54), none, [], []⟩, ⟨some 56, some (55, true), .mv (.t 7), none, [], []⟩, ⟨some 57, some (55, true), .bin .eql .no (.t 56) (.c (.int .i64 4)), none, [], []⟩, ⟨some 58, none, .pick (.t 55) (.t 57) (.c (.bool false)), none, [], []⟩, ⟨some 59, none, .mv (.t 58), none, [], []⟩, ⟨some 60, some (59, true), .mv (.t 8), none, [], []⟩, ⟨some 61, some (59, true), .bin .eql .no (.t 60) (.c (.int .i64 5)), none, [], []⟩, ⟨some 62, none, .pick (.t 59) (.t 61) (.c (.bool false)), none, [], []⟩, ⟨some 63, none, .mv (.t 62), none, [], []⟩, ⟨some 64, some (63, true), .mv (.t 9), none, [], []⟩, ⟨some 65, some (63, true), .callp (.c (.fn 11 [] [])) [.t 64, .c (.str ⟨#[113]⟩)], none, [], []⟩, ⟨some 66, some (63, true), .bsl 1 [.str ⟨#[]⟩] 1 [(0, .c (.str ⟨#[99, 49]⟩))], none, [], []⟩, ⟨some 67, some (63, true), .callp (.c (.fn 10 [] [])) [.t 65, .t 66], none, [], []⟩, ⟨some 68, none, .pick (.t 63) (.t 67) (.c (.bool false)), none, [], []⟩, ⟨some 0, none, .mv (.t 68), none, [], []⟩] (some [0])) .ret))))))⟩
theorem m4b_eq : pg.fn 4 = some m4b := rfl
theorem s4 (hG : FmtIs) : CallP pg 4 [] (.bool true) := by
  have h0 := w8_0 hG
  have h1 := w8_1 hG
  have h2 := w8_2 hG
  have h3 := w8_3 hG
  have h4 := w9_4
  have h11 := w11
  have hdp : ∀ rd, deepByss rd (deepCells rd 19) (ds4.map D.cells) = some (ds4.map D.cells) := fun rd => by kernel_rfl
  generalize ds4 = l at *
  refine CallP.go rfl m4b_eq ?_
  unfold m4b
  generalize aw0 = a0 at *
  generalize aw1 = a1 at *
  generalize aw2 = a2 at *
  generalize aw3 = a3 at *
  generalize aw4 = a4 at *
  simp only [esc_block_exit, esc_code_exit, esc_nil, if_true, go_reg, go_seq, go_cond, go_block, go_skip, Env.arg, Env.look, condK_true, condK_false, if_false, Nat.reduceEqDiff, reduceCtorEq]
  refine opsW_cut (e' := []) (σ' := []) (by intro k Q hk; simpa using hk) ?_
  simp only [esc_block_exit, esc_code_exit, esc_nil, if_true, go_reg, go_seq, go_cond, go_block, go_skip, Env.arg, Env.look, condK_true, condK_false, if_false, Nat.reduceEqDiff, reduceCtorEq]
  refine opsW_cut (e' := [(1, iV 0), (2, iV 0)]) (σ' := []) ?_ ?_
  · intro k Q hk
    simpa [callK_eq h0] using hk
  simp only [esc_block_exit, esc_code_exit, esc_nil, if_true, go_reg, go_seq, go_cond, go_block, go_skip, Env.arg, Env.look, condK_true, condK_false, if_false, Nat.reduceEqDiff, reduceCtorEq]
  refine opsW_cut (e' := [(1, iV 0), (2, iV 0), (3, iV 3), (4, iV 11)]) (σ' := []) ?_ ?_
  · intro k Q hk
    simpa [callK_eq h1] using hk
  simp only [esc_block_exit, esc_code_exit, esc_nil, if_true, go_reg, go_seq, go_cond, go_block, go_skip, Env.arg, Env.look, condK_true, condK_false, if_false, Nat.reduceEqDiff, reduceCtorEq]
  refine opsW_cut (e' := [(1, iV 0), (2, iV 0), (3, iV 3), (4, iV 11), (5, iV 4), (6, iV 12)]) (σ' := []) ?_ ?_
  · intro k Q hk
    simpa [callK_eq h2] using hk
  simp only [esc_block_exit, esc_code_exit, esc_nil, if_true, go_reg, go_seq, go_cond, go_block, go_skip, Env.arg, Env.look, condK_true, condK_false, if_false, Nat.reduceEqDiff, reduceCtorEq]
  refine opsW_cut (e' := [(1, iV 0), (2, iV 0), (3, iV 3), (4, iV 11), (5, iV 4), (6, iV 12), (7, iV 4), (8, iV 5)]) (σ' := []) ?_ ?_
  · intro k Q hk
    simpa [callK_eq h3] using hk
  simp only [esc_block_exit, esc_code_exit, esc_nil, if_true, go_reg, go_seq, go_cond, go_block, go_skip, Env.arg, Env.look, condK_true, condK_false, if_false, Nat.reduceEqDiff, reduceCtorEq]
  refine opsW_cut (e' := [(1, iV 0), (2, iV 0), (3, iV 3), (4, iV 11), (5, iV 4), (6, iV 12), (7, iV 4), (8, iV 5), (9, .ref 0 l.length)]) (σ' := [some (.arr 22 (l.map D.cells))]) ?_ ?_
  · intro k Q hk
    simpa [callK_eq h4] using hk
  clear h0 h1 h2 h3 h4
  simp [callK_eq h11, callK_eq w10, hdp]
theorem s3a (hG : FmtIs) (l : List D) (hb : declsB l ≤ 1048576) : CallP pg 3 [declsV l] (.bool true) := s3 hG (s4 hG) l hb
end Go.Ev.Ty
