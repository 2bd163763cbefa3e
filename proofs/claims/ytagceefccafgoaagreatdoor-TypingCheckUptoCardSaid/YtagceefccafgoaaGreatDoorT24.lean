/- Functions of the program as code of the reader: printed by funs.py. No condition. The table of the reader's functions: printed by funs.py. No condition. The reader's program for the typing statements: functions by their code, functions by a Lean function. No condition. -/
import Derived.KernelRfl
import Derived.Test.YtagceefccafgoaaGreatDoorProg
import Derived.Test.YtagceefccafgoaaGreatDoorT13
import Derived.Test.YtagceefccafgoaaGreatDoorT17
import Derived.Test.YtagceefccafgoaaGreatDoorT18
import Derived.Test.YtagceefccafgoaaGreatDoorT19
import Derived.Test.YtagceefccafgoaaGreatDoorT20
import Derived.Test.YtagceefccafgoaaGreatDoorT21
import Derived.Test.YtagceefccafgoaaGreatDoorT22
import Derived.Test.YtagceefccafgoaaGreatDoorT23
set_option linter.all false
namespace Go.Ev
set_option maxRecDepth 100000
set_option maxHeartbeats 0
noncomputable def m161 : MFun := (convF Go.Proofs.Tryz.prog 161 (anns 161)).getD ⟨[], .skip⟩
theorem m161_ok : convF Go.Proofs.Tryz.prog 161 (anns 161) = some m161 := by kernel_rfl
end Go.Ev
namespace Go.Ev
set_option maxRecDepth 100000
noncomputable def funs : Nat → Option MFun
  | 3 => some m3
  | 4 => some m4
  | 5 => some m5
  | 6 => some m6
  | 7 => some m7
  | 8 => some m8
  | 9 => some m9
  | 10 => some m10
  | 11 => some m11
  | 12 => some m12
  | 13 => some m13
  | 14 => some m14
  | 15 => some m15
  | 16 => some m16
  | 17 => some m17
  | 18 => some m18
  | 19 => some m19
  | 20 => some m20
  | 21 => some m21
  | 22 => some m22
  | 23 => some m23
  | 24 => some m24
  | 25 => some m25
  | 26 => some m26
  | 27 => some m27
  | 28 => some m28
  | 29 => some m29
  | 30 => some m30
  | 31 => some m31
  | 32 => some m32
  | 33 => some m33
  | 34 => some m34
  | 35 => some m35
  | 36 => some m36
  | 37 => some m37
  | 38 => some m38
  | 39 => some m39
  | 40 => some m40
  | 41 => some m41
  | 42 => some m42
  | 43 => some m43
  | 44 => some m44
  | 45 => some m45
  | 46 => some m46
  | 47 => some m47
  | 48 => some m48
  | 49 => some m49
  | 50 => some m50
  | 51 => some m51
  | 52 => some m52
  | 53 => some m53
  | 55 => some m55
  | 56 => some m56
  | 57 => some m57
  | 58 => some m58
  | 59 => some m59
  | 60 => some m60
  | 61 => some m61
  | 63 => some m63
  | 64 => some m64
  | 65 => some m65
  | 66 => some m66
  | 67 => some m67
  | 68 => some m68
  | 69 => some m69
  | 70 => some m70
  | 71 => some m71
  | 72 => some m72
  | 73 => some m73
  | 74 => some m74
  | 75 => some m75
  | 76 => some m76
  | 78 => some m78
  | 79 => some m79
  | 80 => some m80
  | 81 => some m81
  | 82 => some m82
  | 83 => some m83
  | 84 => some m84
  | 85 => some m85
  | 87 => some m87
  | 88 => some m88
  | 90 => some m90
  | 91 => some m91
  | 92 => some m92
  | 93 => some m93
  | 94 => some m94
  | 95 => some m95
  | 96 => some m96
  | 97 => some m97
  | 98 => some m98
  | 99 => some m99
  | 100 => some m100
  | 101 => some m101
  | 102 => some m102
  | 103 => some m103
  | 104 => some m104
  | 105 => some m105
  | 106 => some m106
  | 107 => some m107
  | 108 => some m108
  | 109 => some m109
  | 110 => some m110
  | 111 => some m111
  | 112 => some m112
  | 113 => some m113
  | 114 => some m114
  | 115 => some m115
  | 116 => some m116
  | 117 => some m117
  | 118 => some m118
  | 122 => some m122
  | 123 => some m123
  | 124 => some m124
  | 125 => some m125
  | 126 => some m126
  | 127 => some m127
  | 128 => some m128
  | 129 => some m129
  | 130 => some m130
  | 131 => some m131
  | 132 => some m132
  | 133 => some m133
  | 134 => some m134
  | 135 => some m135
  | 138 => some m138
  | 139 => some m139
  | 140 => some m140
  | 141 => some m141
  | 142 => some m142
  | 143 => some m143
  | 144 => some m144
  | 149 => some m149
  | 150 => some m150
  | 151 => some m151
  | 152 => some m152
  | 153 => some m153
  | 160 => some m160
  | 161 => some m161
  | _ => none
theorem funs_ok (f : Nat) (m : MFun) (h : funs f = some m) : ∃ an, convF Go.Proofs.Tryz.prog f an = some m := by
  unfold funs at h
  split at h
  · cases h; exact ⟨_, m3_ok⟩
  · cases h; exact ⟨_, m4_ok⟩
  · cases h; exact ⟨_, m5_ok⟩
  · cases h; exact ⟨_, m6_ok⟩
  · cases h; exact ⟨_, m7_ok⟩
  · cases h; exact ⟨_, m8_ok⟩
  · cases h; exact ⟨_, m9_ok⟩
  · cases h; exact ⟨_, m10_ok⟩
  · cases h; exact ⟨_, m11_ok⟩
  · cases h; exact ⟨_, m12_ok⟩
  · cases h; exact ⟨_, m13_ok⟩
  · cases h; exact ⟨_, m14_ok⟩
  · cases h; exact ⟨_, m15_ok⟩
  · cases h; exact ⟨_, m16_ok⟩
  · cases h; exact ⟨_, m17_ok⟩
  · cases h; exact ⟨_, m18_ok⟩
  · cases h; exact ⟨_, m19_ok⟩
  · cases h; exact ⟨_, m20_ok⟩
  · cases h; exact ⟨_, m21_ok⟩
  · cases h; exact ⟨_, m22_ok⟩
  · cases h; exact ⟨_, m23_ok⟩
  · cases h; exact ⟨_, m24_ok⟩
  · cases h; exact ⟨_, m25_ok⟩
  · cases h; exact ⟨_, m26_ok⟩
  · cases h; exact ⟨_, m27_ok⟩
  · cases h; exact ⟨_, m28_ok⟩
  · cases h; exact ⟨_, m29_ok⟩
  · cases h; exact ⟨_, m30_ok⟩
  · cases h; exact ⟨_, m31_ok⟩
  · cases h; exact ⟨_, m32_ok⟩
  · cases h; exact ⟨_, m33_ok⟩
  · cases h; exact ⟨_, m34_ok⟩
  · cases h; exact ⟨_, m35_ok⟩
  · cases h; exact ⟨_, m36_ok⟩
  · cases h; exact ⟨_, m37_ok⟩
  · cases h; exact ⟨_, m38_ok⟩
  · cases h; exact ⟨_, m39_ok⟩
  · cases h; exact ⟨_, m40_ok⟩
  · cases h; exact ⟨_, m41_ok⟩
  · cases h; exact ⟨_, m42_ok⟩
  · cases h; exact ⟨_, m43_ok⟩
  · cases h; exact ⟨_, m44_ok⟩
  · cases h; exact ⟨_, m45_ok⟩
  · cases h; exact ⟨_, m46_ok⟩
  · cases h; exact ⟨_, m47_ok⟩
  · cases h; exact ⟨_, m48_ok⟩
  · cases h; exact ⟨_, m49_ok⟩
  · cases h; exact ⟨_, m50_ok⟩
  · cases h; exact ⟨_, m51_ok⟩
  · cases h; exact ⟨_, m52_ok⟩
  · cases h; exact ⟨_, m53_ok⟩
  · cases h; exact ⟨_, m55_ok⟩
  · cases h; exact ⟨_, m56_ok⟩
  · cases h; exact ⟨_, m57_ok⟩
  · cases h; exact ⟨_, m58_ok⟩
  · cases h; exact ⟨_, m59_ok⟩
  · cases h; exact ⟨_, m60_ok⟩
  · cases h; exact ⟨_, m61_ok⟩
  · cases h; exact ⟨_, m63_ok⟩
  · cases h; exact ⟨_, m64_ok⟩
  · cases h; exact ⟨_, m65_ok⟩
  · cases h; exact ⟨_, m66_ok⟩
  · cases h; exact ⟨_, m67_ok⟩
  · cases h; exact ⟨_, m68_ok⟩
  · cases h; exact ⟨_, m69_ok⟩
  · cases h; exact ⟨_, m70_ok⟩
  · cases h; exact ⟨_, m71_ok⟩
  · cases h; exact ⟨_, m72_ok⟩
  · cases h; exact ⟨_, m73_ok⟩
  · cases h; exact ⟨_, m74_ok⟩
  · cases h; exact ⟨_, m75_ok⟩
  · cases h; exact ⟨_, m76_ok⟩
  · cases h; exact ⟨_, m78_ok⟩
  · cases h; exact ⟨_, m79_ok⟩
  · cases h; exact ⟨_, m80_ok⟩
  · cases h; exact ⟨_, m81_ok⟩
  · cases h; exact ⟨_, m82_ok⟩
  · cases h; exact ⟨_, m83_ok⟩
  · cases h; exact ⟨_, m84_ok⟩
  · cases h; exact ⟨_, m85_ok⟩
  · cases h; exact ⟨_, m87_ok⟩
  · cases h; exact ⟨_, m88_ok⟩
  · cases h; exact ⟨_, m90_ok⟩
  · cases h; exact ⟨_, m91_ok⟩
  · cases h; exact ⟨_, m92_ok⟩
  · cases h; exact ⟨_, m93_ok⟩
  · cases h; exact ⟨_, m94_ok⟩
  · cases h; exact ⟨_, m95_ok⟩
  · cases h; exact ⟨_, m96_ok⟩
  · cases h; exact ⟨_, m97_ok⟩
  · cases h; exact ⟨_, m98_ok⟩
  · cases h; exact ⟨_, m99_ok⟩
  · cases h; exact ⟨_, m100_ok⟩
  · cases h; exact ⟨_, m101_ok⟩
  · cases h; exact ⟨_, m102_ok⟩
  · cases h; exact ⟨_, m103_ok⟩
  · cases h; exact ⟨_, m104_ok⟩
  · cases h; exact ⟨_, m105_ok⟩
  · cases h; exact ⟨_, m106_ok⟩
  · cases h; exact ⟨_, m107_ok⟩
  · cases h; exact ⟨_, m108_ok⟩
  · cases h; exact ⟨_, m109_ok⟩
  · cases h; exact ⟨_, m110_ok⟩
  · cases h; exact ⟨_, m111_ok⟩
  · cases h; exact ⟨_, m112_ok⟩
  · cases h; exact ⟨_, m113_ok⟩
  · cases h; exact ⟨_, m114_ok⟩
  · cases h; exact ⟨_, m115_ok⟩
  · cases h; exact ⟨_, m116_ok⟩
  · cases h; exact ⟨_, m117_ok⟩
  · cases h; exact ⟨_, m118_ok⟩
  · cases h; exact ⟨_, m122_ok⟩
  · cases h; exact ⟨_, m123_ok⟩
  · cases h; exact ⟨_, m124_ok⟩
  · cases h; exact ⟨_, m125_ok⟩
  · cases h; exact ⟨_, m126_ok⟩
  · cases h; exact ⟨_, m127_ok⟩
  · cases h; exact ⟨_, m128_ok⟩
  · cases h; exact ⟨_, m129_ok⟩
  · cases h; exact ⟨_, m130_ok⟩
  · cases h; exact ⟨_, m131_ok⟩
  · cases h; exact ⟨_, m132_ok⟩
  · cases h; exact ⟨_, m133_ok⟩
  · cases h; exact ⟨_, m134_ok⟩
  · cases h; exact ⟨_, m135_ok⟩
  · cases h; exact ⟨_, m138_ok⟩
  · cases h; exact ⟨_, m139_ok⟩
  · cases h; exact ⟨_, m140_ok⟩
  · cases h; exact ⟨_, m141_ok⟩
  · cases h; exact ⟨_, m142_ok⟩
  · cases h; exact ⟨_, m143_ok⟩
  · cases h; exact ⟨_, m144_ok⟩
  · cases h; exact ⟨_, m149_ok⟩
  · cases h; exact ⟨_, m150_ok⟩
  · cases h; exact ⟨_, m151_ok⟩
  · cases h; exact ⟨_, m152_ok⟩
  · cases h; exact ⟨_, m153_ok⟩
  · cases h; exact ⟨_, m160_ok⟩
  · cases h; exact ⟨_, m161_ok⟩
  · cases h
end Go.Ev
namespace Go.Ev
/-- slices.Concat over lists of texts. -/
def textsOf : List (List V) → Option (List ByteArray)
  | [] => some []
  | [.str s] :: r => (textsOf r).map (s :: ·)
  | _ :: _ => none
def listsOf : List (List V) → Option (List (List ByteArray))
  | [] => some []
  | [.slc xs] :: r => match textsOf xs with
    | some l => (listsOf r).map (l :: ·)
    | none => none
  | [.nils] :: r => (listsOf r).map ([] :: ·)
  | _ :: _ => none
/-- How long they are together. -/
def totalL (ls : List (List ByteArray)) : Nat := (ls.map List.length).sum
def natConcat : List V → Option V
  | [.slc xss] => match listsOf xss with
    | some (l :: ls) => if (l :: ls).length ≤ 4294967296 ∧ totalL (l :: ls) ≤ 8589934592 then some (.lst 1 ((l :: ls).flatten.map fun s => [.str s])) else none
    | _ => none
  | _ => none
def strs : List (List V) → Option (List (List UInt8))
  | [] => some []
  | [.str s] :: r => (strs r).map (s.data.toList :: ·)
  | _ :: _ => none
def joinB (sep : List UInt8) : List (List UInt8) → List UInt8
  | [] => []
  | [x] => x
  | x :: xs => x ++ sep ++ joinB sep xs
def mkStr (l : List UInt8) : V := .str ⟨l.toArray⟩
def natJoin : List V → Option V
  | [.slc xs, .str sep] => match strs xs with
    | some l => if l.length ≤ 140737488355328 ∧ (joinB sep.data.toList l).length ≤ 140737488355328 then some (mkStr (joinB sep.data.toList l)) else none
    | none => none
  | [.nils, .str _] => some (mkStr [])
  | _ => none
def digitsB : Nat → Nat → List UInt8 → List UInt8
  | 0, _, acc => acc
  | k + 1, n, acc => if n < 10 then (48 + UInt8.ofNat n) :: acc else digitsB k (n / 10) ((48 + UInt8.ofNat (n % 10)) :: acc)
def natItoa : List V → Option V
  | [.int .i64 n] => if 0 ≤ n ∧ n ≤ 9223372036854775807 then some (mkStr (digitsB 20 n.toNat [])) else none
  | _ => none
def countB (c : Nat) : List UInt8 → Nat
  | [] => 0
  | x :: xs => (if x.toNat = c then 1 else 0) + countB c xs
def indexB (c : Nat) : List UInt8 → Int → Int
  | [], _ => -1
  | x :: xs, i => if x.toNat = c then i else indexB c xs (i + 1)
def natCount : List V → Option V
  | [.str s, .int .u8 c] => if c.toNat < 256 then some (.int .i64 (countB c.toNat s.data.toList)) else none
  | _ => none
def natIndex : List V → Option V
  | [.str s, .int .u8 c] => if c.toNat < 256 then some (.int .i64 (indexB c.toNat s.data.toList 0)) else none
  | _ => none
def natString : List V → Store → Option (V × Store)
  | [.ptr b n i o], σ => match σ.rd b with
    | some (.arr _ xs) => if xs.length = n then (match xs[i]? with
      | some c => match c[o + 1]? with
        | some buf => match elems σ.rd buf with
          | some rows => (bytesOf rows).map fun l => (mkStr l, σ)
          | none => none
        | none => none
      | none => none) else none
    | _ => none
  | _, _ => none
def natCopy : List V → Store → Option (V × Store)
  | [.ptr b n i o], σ => match σ.rd b with
    | some (.arr sz xs) => if xs.length = n then (match xs[i]? with
      | some c => match c[o]? with
        | some .nilp => some (.tup [], σ.set b (some (.arr sz (xs.set i (c.set o (.ptr b n i o))))))
        | some (.ptr b' n' i' o') => if b' = b ∧ n' = n ∧ i' = i ∧ o' = o then some (.tup [], σ) else none
        | _ => none
      | none => none) else none
    | _ => none
  | _, _ => none
/-- What Format answers: proved by hand, outside the reader. -/
class GF where
  g : List V → Option V
noncomputable def pg [GF] : Prog where
  fn := funs
  nat := fun f => match f with
    | 54 => some natConcat
    | 89 => some natJoin
    | 120 => some natItoa
    | 148 => some natCount
    | 159 => some natIndex
    | 26 => some GF.g
    | _ => none
  nats := fun f => match f with
    | _ => none
end Go.Ev
