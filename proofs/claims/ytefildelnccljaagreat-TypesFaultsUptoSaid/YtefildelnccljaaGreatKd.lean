/- Part Kd. No condition. -/
import Derived.Test.YtefildelnccljaaGreatEg
import Derived.Test.YtefildelnccljaaGreatKb
import Derived.Test.YtefildelnccljaaGreatChecked
import Derived.KernelRfl
set_option linter.unusedVariables false
set_option linter.unusedSimpArgs false
namespace Go.Proofs.YtefildelnccljaaGreat
open Go Ai
def a67_0 : ACode := (.seq (.seq (.reg [Jm 13 10,
 Jm 14 9,
 Jn 15 14,
 Ji 16 (.bin .lss (.t 13) (.t 15))])
 (.cond (.t 16) .skip
 (.exit 0)))
 (.seq (.block 1 (.seq (.reg [Jd 19 0 7,
 Jl 20 19])
 (.block 2 (.seq (.seq (.reg [Je 22 20 4,
 Jm 21 22])
 (.cond (.t 21) .skip
 (.seq (.reg [Je 23 20 6,
 Jm 21 23])
 (.cond (.t 21) .skip
 (.seq (.reg [Je 24 20 7,
 Jm 21 24])
 (.cond (.t 21) .skip
 (.seq (.reg [Je 25 20 8,
 Jm 21 25])
 (.cond (.t 21) .skip
 (.seq (.reg [Je 26 20 9,
 Jm 21 26])
 (.cond (.t 21) .skip
 (.seq (.reg [Je 27 20 10,
 Jm 21 27])
 (.cond (.t 21) .skip
 (.seq (.reg [Je 28 20 11,
 Jm 21 28])
 (.cond (.t 21) .skip
 (.reg [Je 29 20 21,
 Jm 21 29])))))))))))))))
 (.cond (.t 21) (.plan [Js 0 (Jm 30 0),
 Js 1 (Jo 31 2 5),
 Js 2 (Jm 32 2),
 Js 3 (Jm 33 9),
 Js 4 (Jm 34 10),
 Js 5 (Ji 35 (.indexAddr 1 false none (.t 33) (.t 34))),
 Js 6 (Jl 36 35),
 ⟨7, Ji 37 (.call (Jf 66) [(.t 30), (.t 31), (.t 32), (.t 36), (Jk 1)]), []⟩,
 Js 8 (Jm 0 37)])
 (.seq (.seq (.reg [Je 39 20 5,
 Jm 38 39])
 (.cond (.t 38) .skip
 (.seq (.reg [Je 40 20 13,
 Jm 38 40])
 (.cond (.t 38) .skip
 (.reg [Je 41 20 14,
 Jm 38 41])))))
 (.cond (.t 38) (.plan [Js 0 (Jm 42 0),
 Js 1 (Jo 43 2 5),
 Js 2 (Jm 44 2),
 Js 3 (Jm 45 9),
 Js 4 (Jm 46 10),
 Js 5 (Ji 47 (.indexAddr 1 false none (.t 45) (.t 46))),
 Js 6 (Jl 48 47),
 ⟨7, Ji 49 (.call (Jf 66) [(.t 42), (.t 43), (.t 44), (.t 48), (Jk 2)]), []⟩,
 Js 8 (Jm 0 49)])
 (.seq (.seq (.reg [Je 51 20 12,
 Jm 50 51])
 (.cond (.t 50) .skip
 (.seq (.reg [Je 52 20 17,
 Jm 50 52])
 (.cond (.t 50) .skip
 (.reg [Je 53 20 18,
 Jm 50 53])))))
 (.cond (.t 50) (.plan [Js 0 (Jm 54 0),
 Js 1 (Jo 55 2 5),
 Js 2 (Jm 56 2),
 Js 3 (Jm 57 9),
 Js 4 (Jm 58 10),
 Js 5 (Ji 59 (.indexAddr 1 false none (.t 57) (.t 58))),
 Js 6 (Jl 60 59),
 Js 7 (Jo 61 2 5),
 Js 8 (Jm 62 2),
 Js 9 (Jm 63 9),
 Js 10 (Ji 64 (.indexAddr 1 false none (.t 63) (Jk 0))),
 Js 11 (Jl 65 64),
 ⟨12, Ji 66 (.call (Jf 42) [(.t 61), (.t 62), (.t 65)]), [1, 6]⟩,
 ⟨13, Ji 67 (.call (Jf 66) [(.t 54), (.t 55), (.t 56), (.t 60), (.t 66)]), []⟩,
 Js 14 (Jm 0 67)])
 (.seq (.reg [Je 69 20 15,
 Jm 68 69])
 (.cond (.t 68) (.seq (.reg [Jm 70 10,
 Je 71 70 0])
 (.cond (.t 71) (.plan [Js 0 (Jm 72 0),
 Js 1 (Jo 73 2 5),
 Js 2 (Jm 74 2),
 Js 3 (Jm 75 9),
 Js 4 (Ji 76 (.indexAddr 1 false none (.t 75) (Jk 0))),
 Js 5 (Jl 77 76),
 ⟨6, Ji 78 (.call (Jf 66) [(.t 72), (.t 73), (.t 74), (.t 77), (Jk 2)]), []⟩,
 Js 7 (Jm 0 78)])
 (.plan [Js 0 (Jm 79 0),
 Js 1 (Jo 80 2 5),
 Js 2 (Jm 81 2),
 Js 3 (Jm 82 9),
 Js 4 (Jm 83 10),
 Js 5 (Ji 84 (.indexAddr 1 false none (.t 82) (.t 83))),
 Js 6 (Jl 85 84),
 Js 7 (Jo 86 2 5),
 Js 8 (Jm 87 2),
 Js 9 (Jm 88 9),
 Js 10 (Ji 89 (.indexAddr 1 false none (.t 88) (Jk 1))),
 Js 11 (Jl 90 89),
 ⟨12, Ji 91 (.call (Jf 42) [(.t 86), (.t 87), (.t 90)]), [1, 6]⟩,
 ⟨13, Ji 92 (.call (Jf 66) [(.t 79), (.t 80), (.t 81), (.t 85), (.t 91)]), []⟩,
 Js 14 (Jm 0 92)])))
 (.seq (.reg [Je 94 20 19,
 Jm 93 94])
 (.cond (.t 93) (.plan [Js 0 (Jm 95 0),
 Js 1 (Jo 96 2 5),
 Js 2 (Jm 97 2),
 Js 3 (Jm 98 9),
 Js 4 (Jm 99 10),
 Js 5 (Ji 100 (.indexAddr 1 false none (.t 98) (.t 99))),
 Js 6 (Jl 101 100),
 Js 7 (Jd 102 0 5),
 Js 8 (Jl 103 102),
 Js 9 (Jo 104 2 5),
 Js 10 (Jd 105 4 7),
 Js 11 (Jl 106 105),
 Js 16 (Jm 111 10),
 ⟨12, Ji 107 (.call (Jf 29) [(.t 104), (.t 106)]), [1, 6, 8]⟩,
 Js 13 (Jx 108 7 103 107),
 Js 14 (Jd 109 2 108),
 Js 15 (Jl 110 109),
 Js 17 (Jx 112 2 110 111),
 Js 18 (Jd 113 1 112),
 Js 19 (Jl 114 113),
 ⟨20, Ji 115 (.call (Jf 66) [(.t 95), (.t 96), (.t 97), (.t 101), (.t 114)]), []⟩,
 Js 21 (Jm 0 115)])
 .skip)))))))))))))
 (.reg [Jm 17 10,
 Ja 18 17,
 Jm 10 18])))
def a67 : AFunc := ⟨117, [.tmp 8],
 (.seq (.reg [Ji 5 (.box 2 (.t 1) false),
 Ji 7 (.box 9 (.t 3) false),
 Ji 8 (.mov (.k (.lst 2 [] .tight)))])
 (.seq (.reg [Jo 11 9 7,
 Ji 12 (.call (Jf 68) [(.t 11)]),
 Jm 9 12])
 (.seq (.seq (.reg [Ji 10 (.mov (Jk 0))])
 (.block 0 (.loop a67_0)))
 (.seq (.reg [Jm 116 0,
 Jm 8 116])
 .ret)))),
 [], false⟩
def a68 : AFunc := ⟨24, [.tmp 2],
 (.seq (.reg [Ji 1 (.box 9 (.t 0) false),
 Ji 2 (.mov (.k (.lst 1 [] .tight)))])
 (.seq (.reg [Jd 5 0 1,
 Jl 6 5,
 Ji 7 (.call (Jf 105) [(.t 6)]),
 Jm 3 7])
 (.seq (.seq (.reg [Jm 8 3,
 Ji 9 (.bin .lss (.t 8) (Jk 0))])
 (.cond (.t 9) (.seq (.reg [Ji 10 (.mkLit 1 [] [] false),
 Jd 11 7 1,
 Jl 12 11,
 Ji 13 (.append 1 8 (some 3) (.t 10) (.t 12)),
 Jm 2 13])
 .ret)
 .skip))
 (.seq (.reg [Jd 14 1 1,
 Jl 15 14,
 Jd 16 2 1,
 Jl 17 16,
 Jd 18 3 1,
 Jl 19 18,
 Ji 20 (.mkLit 1 [(.int .i64 0), (.int .i64 0), (.int .i64 0)] [(0, 1, (.t 15)), (1, 1, (.t 17)), (2, 1, (.t 19))] false),
 Jm 4 20])
 (.seq (.reg [Jm 21 4,
 Jm 22 3,
 Ji 23 (.sliceLst 1 (.t 21) none (some (.t 22)) none),
 Jm 2 23])
 .ret))))),
 [], false⟩
def a69_0 : ACode := (.seq (.reg [Ji 23 (.bin .lss (.t 22) (.t 21))])
 (.seq (.cond (.t 23) .skip
 (.exit 0))
 (.seq (.block 1 (.seq (.reg [Jm 24 22,
 Jx 25 9 20 22,
 Jo 26 9 25,
 Ji 9 (.new (.agg [(.int .i64 0), (.int .i64 0), (.int .i64 0), (.int .i64 0), (.str []), (.str []), (.int .i64 0), (.lst 1 [] .tight), (.int .i64 0)]) true none),
 Jm 8 24,
 ⟨none, .store 9 (.t 9) (.t 26), none⟩])
 (.seq (.reg [Jd 27 0 9,
 Jl 28 27])
 (.block 2 (.seq (.reg [Je 37 28 3,
 Jm 36 37])
 (.cond (.t 36) (.reg [Jm 38 7,
 Jm 39 8,
 Jm 40 5,
 Jd 41 4 9,
 Jl 42 41,
 Ji 43 (.lookup 1 (.int .i64 0) false (.t 40) (.t 42)),
 Ji 44 (.indexAddr 1 false none (.t 38) (.t 39)),
 ⟨none, .store 1 (.t 44) (.t 43), none⟩])
 (.seq (.reg [Je 46 28 19,
 Jm 45 46])
 (.cond (.t 45) (.seq (.reg [Jo 47 2 2,
 Jd 48 4 9,
 Jl 49 48,
 Ji 50 (.call (Jf 28) [(.t 47), (.t 49)]),
 Jm 10 50])
 (.seq (.reg [Jm 51 10,
 Ji 52 (.bin .geq (.t 51) (Jk 0))])
 (.cond (.t 52) (.reg [Jm 53 7,
 Jm 54 8,
 Jd 55 0 2,
 Jl 56 55,
 Jm 57 10,
 Jx 58 7 56 57,
 Jd 59 4 58,
 Jl 60 59,
 Ji 61 (.indexAddr 1 false none (.t 53) (.t 54)),
 ⟨none, .store 1 (.t 61) (.t 60), none⟩])
 .skip)))
 (.seq (.reg [Je 63 28 15,
 Jm 62 63])
 (.cond (.t 62) (.reg [Jm 64 7,
 Jm 65 8,
 Jm 66 7,
 Jd 67 2 9,
 Jl 68 67,
 Ji 69 (.indexAddr 1 false none (.t 66) (.t 68)),
 Jl 70 69,
 Ji 71 (.indexAddr 1 false none (.t 64) (.t 65)),
 ⟨none, .store 1 (.t 71) (.t 70), none⟩])
 (.seq (.seq (.reg [Je 73 28 16,
 Jm 72 73])
 (.cond (.t 72) .skip
 (.seq (.reg [Je 74 28 17,
 Jm 72 74])
 (.cond (.t 72) .skip
 (.reg [Je 75 28 18,
 Jm 72 75])))))
 (.cond (.t 72) (.reg [Jm 76 7,
 Jm 77 8,
 Jm 78 7,
 Jd 79 1 9,
 Jl 80 79,
 Ji 81 (.indexAddr 1 false none (.t 78) (.t 80)),
 Jl 82 81,
 Ji 83 (.indexAddr 1 false none (.t 76) (.t 77)),
 ⟨none, .store 1 (.t 83) (.t 82), none⟩])
 (.reg [Jm 29 7,
 Jm 30 8,
 Jm 31 6,
 Jd 32 0 9,
 Jl 33 32,
 Ji 34 (.lookup 0 (.int .i64 0) false (.t 31) (.t 33)),
 Ji 35 (.indexAddr 1 false none (.t 29) (.t 30)),
 ⟨none, .store 1 (.t 35) (.t 34), none⟩])))))))))))))
 (.reg [Ja 84 22,
 Jm 22 84]))))
def a69 : AFunc := ⟨86, [.tmp 4],
 (.seq (.reg [Ji 2 (.box 2 (.t 0) false),
 Ji 4 (.mov (.k (.lst 1 [] .tight)))])
 (.seq (.reg [Jo 11 2 2,
 Jm 12 1,
 Ji 13 (.call (Jf 106) [(.t 11), (.t 12)]),
 Ji 14 (.call (Jf 107) []),
 Jm 5 13,
 Jm 6 14])
 (.seq (.reg [Jd 15 1 2,
 Jl 16 15,
 Jn 17 16,
 Ji 18 (.mkSlice 1 8 [(.int .i64 0)] (.t 17) (.t 17) false),
 Jm 7 18])
 (.seq (.seq (.reg [Jd 19 1 2,
 Jl 20 19,
 Jn 21 20,
 Ji 22 (.mov (Jk 0))])
 (.block 0 (.loop a69_0)))
 (.seq (.reg [Jm 85 7,
 Jm 4 85])
 .ret))))),
 [], false⟩
def a72 : AFunc := ⟨6, [.tmp 2],
 (.seq (.reg [Ji 2 (.mov (.k (.bool false)))])
 (.seq (.reg [Jm 3 0,
 Jm 4 0,
 Ji 5 (.bin .neq (.t 3) (.t 4)),
 Jm 2 5])
 .ret)),
 [], false⟩
def a73 : AFunc := ⟨6, [.tmp 2],
 (.seq (.reg [Ji 2 (.mov (.k (.bool false)))])
 (.seq (.reg [Jm 3 0,
 Jm 4 0,
 Ji 5 (.bin .neq (.t 3) (.t 4)),
 Jm 2 5])
 .ret)),
 [], false⟩
def a74_0 : ACode := (.seq (.seq (.reg [Jm 22 7,
 Jm 23 6,
 Jn 24 23,
 Ji 25 (.bin .lss (.t 22) (.t 24))])
 (.cond (.t 25) .skip
 (.exit 0)))
 (.seq (.block 1 (.seq (.reg [Jm 28 6,
 Jm 29 7,
 Ji 30 (.indexAddr 1 false none (.t 28) (.t 29)),
 Jl 31 30,
 Ji 32 (.bin .lss (.t 31) (Jk 0)),
 Jm 33 32,
 Jh 34 33 (.mov (.t 6)),
 Jh 35 33 (.mov (.t 7)),
 Jh 36 33 (.indexAddr 1 false none (.t 34) (.t 35)),
 Jh 37 33 (.load 1 false (.t 36)),
 Jh 38 33 (.mov (.t 1)),
 Jh 39 33 (.bin .geq (.t 37) (.t 38)),
 Ji 40 (.pick (.t 33) (.k (.bool true)) (.t 39))])
 (.cond (.t 40) (.seq (.reg [Ji 4 (.mov (.k (.bool false)))])
 .ret)
 .skip)))
 (.reg [Jm 26 7,
 Ja 27 26,
 Jm 7 27])))
def a74 : AFunc := ⟨122, [.tmp 4],
 (.seq (.reg [Ji 2 (.box 9 (.t 0) false),
 Ji 4 (.mov (.k (.bool false)))])
 (.seq (.seq (.reg [Jd 9 0 2,
 Jl 10 9,
 Ji 11 (.bin .lss (.t 10) (Jk 1)),
 Jm 12 11,
 Jh 13 12 (.fieldAddr 0 1 false (.t 2)),
 Jh 14 12 (.load 1 false (.t 13)),
 Jh 15 12 (.bin .gtr (.t 14) (Jk 21)),
 Ji 16 (.pick (.t 12) (.k (.bool true)) (.t 15))])
 (.cond (.t 16) (.seq (.reg [Ji 4 (.mov (.k (.bool false)))])
 .ret)
 .skip))
 (.seq (.reg [Jd 17 0 2,
 Jl 18 17,
 Ji 19 (.call (Jf 105) [(.t 18)]),
 Jm 5 19])
 (.seq (.reg [Jo 20 9 2,
 Ji 21 (.call (Jf 68) [(.t 20)]),
 Jm 6 21])
 (.seq (.seq (.reg [Ji 7 (.mov (Jk 0))])
 (.block 0 (.loop a74_0)))
 (.seq (.seq (.reg [Jm 41 5,
 Ji 42 (.bin .lss (.t 41) (Jk 1)),
 Jm 43 42,
 Jg 44 43 (.fieldAddr 1 1 false (.t 2)),
 Jg 45 43 (.load 1 false (.t 44)),
 Jg 46 43 (.bin .neq (.t 45) (Jk 0)),
 Ji 47 (.pick (.t 43) (.t 46) (.k (.bool false))),
 Jm 48 47,
 Jh 49 48 (.mov (.t 5)),
 Jh 50 48 (.bin .lss (.t 49) (Jk 2)),
 Jh 51 48 (.mov (.t 50)),
 Jg 52 51 (.fieldAddr 2 1 false (.t 2)),
 Jg 53 51 (.load 1 false (.t 52)),
 Jg 54 51 (.bin .neq (.t 53) (Jk 0)),
 Jh 55 48 (.pick (.t 51) (.t 54) (.k (.bool false))),
 Ji 56 (.pick (.t 48) (.k (.bool true)) (.t 55)),
 Jm 57 56,
 Jh 58 57 (.mov (.t 5)),
 Jh 59 57 (.bin .lss (.t 58) (Jk 3)),
 Jh 60 57 (.mov (.t 59)),
 Jg 61 60 (.fieldAddr 3 1 false (.t 2)),
 Jg 62 60 (.load 1 false (.t 61)),
 Jg 63 60 (.bin .neq (.t 62) (Jk 0)),
 Jh 64 57 (.pick (.t 60) (.t 63) (.k (.bool false))),
 Ji 65 (.pick (.t 57) (.k (.bool true)) (.t 64)),
 Jm 66 65,
 Jh 67 66 (.mov (.t 5)),
 Jh 68 66 (.bin .geq (.t 67) (Jk 0)),
 Jh 69 66 (.mov (.t 68)),
 Jg 70 69 (.fieldAddr 7 1 false (.t 2)),
 Jg 71 69 (.load 1 false (.t 70)),
 Jg 72 69 (.lenSl (.t 71)),
 Jg 73 69 (.bin .gtr (.t 72) (Jk 0)),
 Jh 74 66 (.pick (.t 69) (.t 73) (.k (.bool false))),
 Ji 75 (.pick (.t 66) (.k (.bool true)) (.t 74))])
 (.cond (.t 75) (.seq (.reg [Ji 4 (.mov (.k (.bool false)))])
 .ret)
 .skip))
 (.seq (.reg [Jd 76 0 2,
 Jl 77 76,
 Je 78 77 3,
 Jm 79 78,
 Jh 80 79 (.fieldAddr 0 1 false (.t 2)),
 Jh 81 79 (.load 1 false (.t 80)),
 Jh 82 79 (.bin .eql (.t 81) (Jk 19)),
 Ji 83 (.pick (.t 79) (.k (.bool true)) (.t 82)),
 Jm 84 83,
 Jh 85 84 (.fieldAddr 0 1 false (.t 2)),
 Jh 86 84 (.load 1 false (.t 85)),
 Jh 87 84 (.bin .eql (.t 86) (Jk 20)),
 Ji 88 (.pick (.t 84) (.k (.bool true)) (.t 87)),
 Jm 8 88])
 (.seq (.seq (.reg [Jm 89 8,
 Jd 90 4 2,
 Jl 91 90,
 Ji 92 (.bin .neq (.t 91) (.k (.str []))),
 Ji 93 (.eqBool true (.t 89) (.t 92)),
 Jm 94 93,
 Jh 95 94 (.fieldAddr 0 1 false (.t 2)),
 Jh 96 94 (.load 1 false (.t 95)),
 Jh 97 94 (.bin .eql (.t 96) (Jk 20)),
 Jh 98 94 (.fieldAddr 5 1 false (.t 2)),
 Jh 99 94 (.load 1 false (.t 98)),
 Jh 100 94 (.bin .neq (.t 99) (.k (.str []))),
 Jh 101 94 (.eqBool true (.t 97) (.t 100)),
 Ji 102 (.pick (.t 94) (.k (.bool true)) (.t 101))])
 (.cond (.t 102) (.seq (.reg [Ji 4 (.mov (.k (.bool false)))])
 .ret)
 .skip))
 (.seq (.seq (.reg [Jd 103 0 2,
 Jl 104 103,
 Ji 105 (.bin .gtr (.t 104) (Jk 2))])
 (.cond (.t 105) (.seq (.reg [Jd 106 6 2,
 Jl 107 106,
 Je 108 107 0,
 Jm 4 108])
 .ret)
 .skip))
 (.seq (.reg [Jd 109 6 2,
 Jl 110 109,
 Ji 111 (.bin .geq (.t 110) (Jk 0)),
 Jm 112 111,
 Jg 113 112 (.fieldAddr 0 1 false (.t 2)),
 Jg 114 112 (.load 1 false (.t 113)),
 Jg 115 112 (.bin .eql (.t 114) (Jk 1)),
 Jg 116 112 (.mov (.t 115)),
 Jh 117 116 (.fieldAddr 6 1 false (.t 2)),
 Jh 118 116 (.load 1 false (.t 117)),
 Jh 119 116 (.bin .leq (.t 118) (Jk 1)),
 Jg 120 112 (.pick (.t 116) (.k (.bool true)) (.t 119)),
 Ji 121 (.pick (.t 112) (.t 120) (.k (.bool false))),
 Jm 4 121])
 .ret)))))))))),
 [], false⟩
def a75 : AFunc := ⟨27, [.tmp 6],
 (.seq (.reg [Ji 3 (.box 2 (.t 0) false),
 Ji 6 (.mov (.k (.bool false)))])
 (.seq (.reg [Jm 7 2,
 Jm 8 7,
 Jg 9 8 (.mov (.t 1)),
 Jg 10 8 (.bin .geq (.t 9) (Jk 0)),
 Ji 11 (.pick (.t 8) (.t 10) (.k (.bool false))),
 Jm 12 11,
 Jg 13 12 (.mov (.t 1)),
 Jg 14 12 (.fieldAddr 1 1 false (.t 3)),
 Jg 15 12 (.load 1 false (.t 14)),
 Jg 16 12 (.lenSl (.t 15)),
 Jg 17 12 (.bin .lss (.t 13) (.t 16)),
 Ji 18 (.pick (.t 12) (.t 17) (.k (.bool false))),
 Jm 19 18,
 Jh 20 19 (.mov (.t 2)),
 Jh 21 19 (.un .not (.t 20)),
 Jh 22 19 (.mov (.t 21)),
 Jg 23 22 (.mov (.t 1)),
 Jg 24 22 (.bin .eql (.t 23) (Jk 0)),
 Jh 25 19 (.pick (.t 22) (.t 24) (.k (.bool false))),
 Ji 26 (.pick (.t 19) (.k (.bool true)) (.t 25)),
 Jm 6 26])
 .ret)),
 [], false⟩
def a76 : AFunc := ⟨22, [.tmp 2],
 (.seq (.reg [Ji 1 (.box 9 (.t 0) false),
 Ji 2 (.mov (.k (.bool false)))])
 (.seq (.reg [Jd 3 0 1,
 Jl 4 3,
 Ji 5 (.bin .lss (.t 4) (Jk 1)),
 Jm 6 5,
 Jh 7 6 (.fieldAddr 0 1 false (.t 1)),
 Jh 8 6 (.load 1 false (.t 7)),
 Jh 9 6 (.bin .gtr (.t 8) (Jk 8)),
 Ji 10 (.pick (.t 6) (.k (.bool true)) (.t 9)),
 Jm 11 10,
 Jh 12 11 (.fieldAddr 0 1 false (.t 1)),
 Jh 13 11 (.load 1 false (.t 12)),
 Jh 14 11 (.bin .eql (.t 13) (Jk 6)),
 Jh 15 11 (.mov (.t 14)),
 Jg 16 15 (.fieldAddr 5 1 false (.t 1)),
 Jg 17 15 (.load 1 false (.t 16)),
 Jg 18 15 (.lenSl (.t 17)),
 Jg 19 15 (.bin .eql (.t 18) (Jk 0)),
 Jh 20 11 (.pick (.t 15) (.t 19) (.k (.bool false))),
 Ji 21 (.pick (.t 11) (.k (.bool true)) (.t 20)),
 Jm 2 21])
 .ret)),
 [], false⟩
def a77 : AFunc := ⟨6, [.tmp 2],
 (.seq (.reg [Ji 1 (.box 9 (.t 0) false),
 Ji 2 (.mov (.k (.bool false)))])
 (.seq (.reg [Jd 3 0 1,
 Jl 4 3,
 Ji 5 (.bin .neq (.t 4) (Jk 1)),
 Jm 2 5])
 .ret)),
 [], false⟩
def a78 : AFunc := ⟨30, [.tmp 4],
 (.seq (.reg [Ji 3 (.box 7 (.t 0) false),
 Ji 4 (.mov (.k (.bool false)))])
 (.seq (.reg [Jd 5 0 3,
 Jl 6 5,
 Ji 7 (.bin .lss (.t 6) (Jk 1)),
 Jm 8 7,
 Jh 9 8 (.fieldAddr 0 1 false (.t 3)),
 Jh 10 8 (.load 1 false (.t 9)),
 Jh 11 8 (.bin .gtr (.t 10) (Jk 3)),
 Ji 12 (.pick (.t 8) (.k (.bool true)) (.t 11)),
 Jm 13 12,
 Jh 14 13 (.fieldAddr 3 1 false (.t 3)),
 Jh 15 13 (.load 1 false (.t 14)),
 Jh 16 13 (.load 1 false (.t 1)),
 Jh 17 13 (.call (Jf 79) [(.t 15), (.t 16)]),
 Ji 18 (.pick (.t 13) (.k (.bool true)) (.t 17)),
 Jm 19 18,
 Jh 20 19 (.fieldAddr 0 1 false (.t 3)),
 Jh 21 19 (.load 1 false (.t 20)),
 Jh 22 19 (.bin .neq (.t 21) (Jk 3)),
 Jh 23 19 (.mov (.t 22)),
 Jg 24 23 (.fieldAddr 3 1 false (.t 3)),
 Jg 25 23 (.load 1 false (.t 24)),
 Jg 26 23 (.load 1 false (.t 2)),
 Jg 27 23 (.call (Jf 79) [(.t 25), (.t 26)]),
 Jh 28 19 (.pick (.t 23) (.t 27) (.k (.bool false))),
 Ji 29 (.pick (.t 19) (.k (.bool true)) (.t 28)),
 Jm 4 29])
 .ret)),
 [], true⟩
def a79 : AFunc := ⟨9, [.tmp 4],
 (.seq (.reg [Ji 4 (.mov (.k (.bool false)))])
 (.seq (.reg [Jm 5 0,
 Jm 6 1,
 Ji 7 (.call (Jf 118) [(.t 5), (.t 6)]),
 Ji 8 (.bin .geq (.t 7) (Jk 0)),
 Jm 4 8])
 .ret)),
 [], false⟩
def a80_0 : ACode := (.seq (.reg [Ji 9 (.bin .lss (.t 8) (.t 7))])
 (.seq (.cond (.t 9) .skip
 (.exit 0))
 (.seq (.block 1 (.seq (.reg [Jm 10 8,
 Jx 11 9 6 8,
 Jo 12 9 11,
 Ji 4 (.new (.agg [(.int .i64 0), (.int .i64 0), (.int .i64 0), (.int .i64 0), (.str []), (.str []), (.int .i64 0), (.lst 1 [] .tight), (.int .i64 0)]) true none),
 Jm 3 10,
 ⟨none, .store 9 (.t 4) (.t 12), none⟩])
 (.seq (.reg [Jo 13 9 4,
 Jm 14 3,
 Ji 15 (.call (Jf 119) [(.t 13), (.t 14)]),
 Ji 16 (.un .not (.t 15))])
 (.cond (.t 16) (.seq (.reg [Ji 2 (.mov (.k (.bool false)))])
 .ret)
 .skip))))
 (.reg [Ja 17 8,
 Jm 8 17]))))
def a80 : AFunc := ⟨23, [.tmp 2],
 (.seq (.reg [Ji 1 (.box 2 (.t 0) false),
 Ji 2 (.mov (.k (.bool false)))])
 (.seq (.seq (.reg [Jd 5 1 1,
 Jl 6 5,
 Jn 7 6,
 Ji 8 (.mov (Jk 0))])
 (.block 0 (.loop a80_0)))
 (.seq (.reg [Jd 18 0 1,
 Jl 19 18,
 Ji 20 (.mkFunc 120 [] [(.t 1)]),
 Ji 21 (.call (Jf 81) [(.t 19), (.t 20)]),
 Ji 22 (.un .not (.t 21)),
 Jm 2 22])
 .ret))),
 [], false⟩
def a81 : AFunc := ⟨9, [.tmp 4],
 (.seq (.reg [Ji 4 (.mov (.k (.bool false)))])
 (.seq (.reg [Jm 5 0,
 Jm 6 1,
 Ji 7 (.call (Jf 99) [(.t 5), (.t 6)]),
 Ji 8 (.bin .geq (.t 7) (Jk 0)),
 Jm 4 8])
 .ret)),
 [], false⟩
def a82_0 : ACode := (.seq (.reg [Ji 10 (.bin .lss (.t 9) (.t 8))])
 (.seq (.cond (.t 10) .skip
 (.exit 0))
 (.seq (.block 1 (.seq (.reg [Jm 11 9,
 Jx 12 7 7 9,
 Jo 13 7 12,
 Ji 5 (.new (.agg [(.int .i64 0), (.str []), (.lst 2 [] .tight), (.lst 9 [] .tight), (.int .i64 0), (.int .i64 0), (.int .i64 0)]) true none),
 Jm 4 11,
 ⟨none, .store 7 (.t 5) (.t 13), none⟩])
 (.seq (.seq (.reg [Jd 14 0 5,
 Jl 15 14,
 Je 16 15 3])
 (.cond (.t 16) (.reg [Jm 17 3,
 Ja 18 17,
 Jm 3 18])
 .skip))
 (.seq (.seq (.reg [Jd 19 0 5,
 Jl 20 19,
 Je 21 20 3,
 Jm 22 21,
 Jg 23 22 (.mov (.t 3)),
 Jg 24 22 (.bin .gtr (.t 23) (Jk 1)),
 Ji 25 (.pick (.t 22) (.t 24) (.k (.bool false))),
 Jm 26 25,
 Jh 27 26 (.load 2 true (.t 1)),
 Jh 28 26 (.fieldAddr 1 1 false (.t 5)),
 Jh 29 26 (.load 1 false (.t 28)),
 Jh 30 26 (.call (Jf 63) [(.t 27), (.t 29)]),
 Jh 31 26 (.mov (.t 4)),
 Jh 32 26 (.bin .lss (.t 30) (.t 31)),
 Ji 33 (.pick (.t 26) (.k (.bool true)) (.t 32))])
 (.cond (.t 33) (.reg [Jl 34 2,
 Jd 35 6 5,
 Jl 36 35,
 Ji 37 (.call (.t 34) [(.t 36)])])
 .skip))
 (.reg [Jo 38 2 1,
 Jo 39 7 5,
 Ji 40 (.mkFunc 84 [] [(.t 2)]),
 Ji 41 (.call (Jf 83) [(.t 38), (.t 39), (.t 40)])])))))
 (.reg [Ja 42 9,
 Jm 9 42]))))
def a82 : AFunc := ⟨47, [],
 (.seq (.reg [Ji 2 (.box 1 (.t 0) false)])
 (.seq (.reg [Ji 3 (.mov (Jk 0))])
 (.seq (.seq (.reg [Jd 6 0 1,
 Jl 7 6,
 Jn 8 7,
 Ji 9 (.mov (Jk 0))])
 (.block 0 (.loop a82_0)))
 (.seq (.reg [Jm 43 3,
 Je 44 43 0])
 (.cond (.t 44) (.reg [Jl 45 2,
 Ji 46 (.call (.t 45) [(Jk 0)])])
 .skip))))),
 [], true⟩
def a83_0 : ACode := (.seq (.reg [Ji 84 (.bin .lss (.t 83) (.t 82))])
 (.seq (.cond (.t 84) .skip
 (.exit 4))
 (.seq (.block 5 (.seq (.reg [Jm 85 83,
 Ji 86 (.indexAddr 1 false none (.t 81) (.t 83)),
 Jl 87 86,
 Jm 15 85,
 Jm 16 87])
 (.seq (.plan [Js 0 (Jm 88 16),
 Js 1 (Jm 89 88),
 Js 2 (Jg 90 89 (.load 2 true (.t 3))),
 Js 3 (Jg 91 89 (.load 7 true (.t 4))),
 Js 4 (Jg 92 89 (.mov (.t 6))),
 Js 5 (Jg 93 89 (.fieldAddr 1 1 false (.t 3))),
 Js 6 (Jg 94 89 (.load 1 false (.t 93))),
 Js 7 (Jg 95 89 (.mov (.t 15))),
 Js 8 (Jg 96 89 (.indexAddr 9 true none (.t 94) (.t 95))),
 Js 9 (Jg 97 89 (.load 9 true (.t 96))),
 ⟨10, Jg 98 89 (.call (Jf 125) [(.t 90), (.t 91), (.t 92), (.t 97)]), []⟩,
 Js 11 (Ji 99 (.pick (.t 89) (.t 98) (.k (.bool false))))])
 (.cond (.t 99) (.reg [Jm 100 2,
 Jd 101 1 3,
 Jl 102 101,
 Jm 103 15,
 Jx 104 9 102 103,
 Jd 105 8 104,
 Jl 106 105,
 Ji 107 (.call (.t 100) [(.t 106)])])
 .skip))))
 (.reg [Ja 108 83,
 Jm 83 108]))))
def a83_1 : ACode := (.seq (.reg [Ji 42 (.bin .lss (.t 41) (.t 40))])
 (.seq (.cond (.t 42) .skip
 (.exit 2))
 (.seq (.block 3 (.seq (.reg [Jm 43 41,
 Jx 44 9 39 41,
 Jo 45 9 44,
 Ji 11 (.new (.agg [(.int .i64 0), (.str []), (.int .i64 0), (.int .i64 0), (.int .i64 0), (.lst 1 [] .tight), (.str []), (.str []), (.int .i64 0)]) true none),
 Jm 10 43,
 ⟨none, .store 9 (.t 11) (.t 45), none⟩])
 (.seq (.reg [Jo 47 9 11,
 Ji 48 (.call (Jf 97) [(.t 47)]),
 Jm 46 48,
 Ji 49 (.extract (.t 46) 0),
 Ji 50 (.extract (.t 46) 1),
 Ji 12 (.new (.agg [(.str []), (.int .i64 0), (.int .i64 0), (.int .i64 0)]) true none),
 ⟨none, .store 4 (.t 12) (.t 49), none⟩,
 Jm 13 50])
 (.seq (.reg [Jm 51 13,
 Jm 52 51,
 Jg 53 52 (.mov (.t 6)),
 Jg 54 52 (.fieldAddr 0 1 false (.t 12)),
 Jg 55 52 (.load 1 false (.t 54)),
 Jg 56 52 (.lookup 1 (.agg [(.str []), (.int .i64 0), (.int .i64 0), (.int .i64 0)]) false (.t 53) (.t 55)),
 Jg 57 52 (.fieldAddr 0 1 false (.t 12)),
 Jg 58 52 (.load 1 false (.t 57)),
 Jg 59 52 (.fieldAddr 1 1 false (.t 12)),
 Jg 60 52 (.load 1 false (.t 59)),
 Jg 61 52 (.fieldAddr 2 1 false (.t 12)),
 Jg 62 52 (.load 1 false (.t 61)),
 Jg 63 52 (.mov (.t 10)),
 Jg 64 52 (.build [(.str []), (.int .i64 0), (.int .i64 0), (.int .i64 0)] [(0, 1, (.t 58)), (1, 1, (.t 60)), (2, 1, (.t 62)), (3, 1, (.t 63))]),
 Jg 65 52 (.eqAgg [1, 0, 0, 0] true (.t 56) (.t 64)),
 Ji 66 (.pick (.t 52) (.t 65) (.k (.bool false))),
 Jm 14 66])
 (.seq (.reg [Jm 67 14,
 Jm 68 67,
 Jh 69 68 (.load 7 true (.t 4)),
 Jh 70 68 (.mov (.t 6)),
 Jh 71 68 (.load 9 true (.t 11)),
 Jh 72 68 (.call (Jf 123) [(.t 69), (.t 70), (.t 71)]),
 Ji 73 (.pick (.t 68) (.k (.bool true)) (.t 72))])
 (.cond (.t 73) (.reg [Jm 74 2,
 Jd 75 8 11,
 Jl 76 75,
 Ji 77 (.call (.t 74) [(.t 76)])])
 .skip))))))
 (.reg [Ja 78 41,
 Jm 41 78]))))
def a83_2 : ACode := (.seq (.reg [Ji 23 (.bin .lss (.t 22) (.t 21))])
 (.seq (.cond (.t 23) .skip
 (.exit 0))
 (.seq (.block 1 (.seq (.reg [Jx 24 2 20 22,
 Jo 25 2 24,
 Ji 9 (.new (.agg [(.str []), (.int .i64 0)]) true none),
 ⟨none, .store 2 (.t 9) (.t 25), none⟩])
 (.reg [Jm 26 7,
 Jd 27 0 9,
 Jl 28 27,
 Ji 29 (.mkLit 1 [(.str [])] [(0, 1, (.t 28))] false),
 Ji 30 (.append 1 16 (some 9) (.t 26) (.t 29)),
 Jm 7 30])))
 (.reg [Ja 31 22,
 Jm 22 31]))))
def a83 : AFunc := ⟨109, [],
 (.seq (.reg [Ji 3 (.box 2 (.t 0) false),
 Ji 4 (.box 7 (.t 1) false)])
 (.seq (.reg [Jo 17 7 4,
 Ji 18 (.call (Jf 61) [(.t 17)]),
 Jm 6 18])
 (.seq (.reg [Ji 7 (.mov (.k (.lst 1 [] .tight)))])
 (.seq (.seq (.reg [Jd 19 2 4,
 Jl 20 19,
 Jn 21 20,
 Ji 22 (.mov (Jk 0))])
 (.block 0 (.loop a83_2)))
 (.seq (.seq (.reg [Jm 32 7,
 Ji 33 (.call (Jf 122) [(.t 32)])])
 (.cond (.t 33) (.reg [Jm 34 2,
 Jd 35 6 4,
 Jl 36 35,
 Ji 37 (.call (.t 34) [(.t 36)])])
 .skip))
 (.seq (.seq (.reg [Jd 38 3 4,
 Jl 39 38,
 Jn 40 39,
 Ji 41 (.mov (Jk 0))])
 (.block 2 (.loop a83_1)))
 (.seq (.reg [Jo 79 2 3,
 Jo 80 7 4,
 Ji 81 (.call (Jf 124) [(.t 79), (.t 80)]),
 Jn 82 81,
 Ji 83 (.mov (Jk 0))])
 (.block 4 (.loop a83_0))))))))),
 [], true⟩
def a84 : AFunc := ⟨6, [],
 (.reg [Jl 3 1,
 Jm 4 0,
 Ji 5 (.call (.t 3) [(.t 4)])]),
 [], true⟩
def a85_0 : ACode := (.seq (.seq (.reg [Jm 7 1,
 Jm 8 0,
 Ji 9 (.lenStr (.t 8)),
 Ji 10 (.bin .lss (.t 7) (.t 9))])
 (.cond (.t 10) .skip
 (.exit 0)))
 (.block 1 (.seq (.reg [Jm 11 0,
 Jm 12 1,
 Ji 13 (.indexStr (.t 11) (.t 12)),
 Jm 6 13])
 (.seq (.seq (.reg [Jm 14 5])
 (.cond (.t 14) (.seq (.reg [Jm 15 6,
 Ji 16 (.bin .eql (.t 15) (.k (.int .u8 10)))])
 (.cond (.t 16) (.reg [Ji 5 (.mov (.k (.bool false)))])
 .skip))
 (.seq (.reg [Jm 17 6,
 Ji 18 (.bin .eql (.t 17) (.k (.int .u8 35)))])
 (.cond (.t 18) (.reg [Ji 5 (.mov (.k (.bool true)))])
 (.seq (.reg [Jm 19 6,
 Ji 20 (.bin .neq (.t 19) (.k (.int .u8 32))),
 Jm 21 20,
 Jg 22 21 (.mov (.t 6)),
 Jg 23 21 (.bin .neq (.t 22) (.k (.int .u8 9))),
 Ji 24 (.pick (.t 21) (.t 23) (.k (.bool false))),
 Jm 25 24,
 Jg 26 25 (.mov (.t 6)),
 Jg 27 25 (.bin .neq (.t 26) (.k (.int .u8 10))),
 Ji 28 (.pick (.t 25) (.t 27) (.k (.bool false))),
 Jm 29 28,
 Jg 30 29 (.mov (.t 6)),
 Jg 31 29 (.bin .neq (.t 30) (.k (.int .u8 13))),
 Ji 32 (.pick (.t 29) (.t 31) (.k (.bool false)))])
 (.cond (.t 32) (.seq (.reg [Jm 33 1,
 Jm 4 33])
 .ret)
 .skip))))))
 (.reg [Jm 34 1,
 Ja 35 34,
 Jm 1 35])))))
def a85 : AFunc := ⟨37, [.tmp 4],
 (.seq (.reg [Ji 4 (.mov (Jk 0))])
 (.seq (.reg [Ji 5 (.mov (.k (.bool false)))])
 (.seq (.block 0 (.loop a85_0))
 (.seq (.reg [Jm 36 1,
 Jm 4 36])
 .ret)))),
 [], false⟩
def a86_0 : ACode := (.seq (.seq (.reg [Jm 116 12,
 Jm 117 11,
 Jn 118 117,
 Ji 119 (.bin .lss (.t 116) (.t 118))])
 (.cond (.t 119) .skip
 (.exit 6)))
 (.seq (.block 7 (.seq (.reg [Jm 122 11,
 Jm 123 12,
 Ji 124 (.indexAddr 1 false none (.t 122) (.t 123)),
 Jl 125 124,
 Ji 126 (.lenStr (.t 125)),
 Jm 13 126])
 (.seq (.plan [Js 0 (Jm 127 1),
 Js 1 (Jm 128 13),
 Js 2 (Ji 129 (.bin .add (.t 127) (.t 128))),
 Js 3 (Jm 130 0),
 Js 4 (Ji 131 (.lenStr (.t 130))),
 Js 5 (Ji 132 (.bin .leq (.t 129) (.t 131))),
 Js 6 (Jm 133 132),
 Js 7 (Jg 134 133 (.mov (.t 0))),
 Js 8 (Jg 135 133 (.mov (.t 1))),
 Js 9 (Jg 136 133 (.mov (.t 1))),
 Js 10 (Jg 137 133 (.mov (.t 13))),
 Js 11 (Jg 138 133 (.bin .add (.t 136) (.t 137))),
 Js 12 (Jg 139 133 (.sliceStr (.t 134) (some (.t 135)) (some (.t 138)))),
 Js 13 (Jg 140 133 (.mov (.t 11))),
 Js 14 (Jg 141 133 (.mov (.t 12))),
 Js 15 (Jg 142 133 (.indexAddr 1 false none (.t 140) (.t 141))),
 Js 16 (Jg 143 133 (.load 1 false (.t 142))),
 Js 17 (Jg 144 133 (.bin .eql (.t 139) (.t 143))),
 Js 18 (Ji 145 (.pick (.t 133) (.t 144) (.k (.bool false))))])
 (.cond (.t 145) (.seq (.reg [Jm 146 11,
 Jm 147 12,
 Ji 148 (.indexAddr 1 false none (.t 146) (.t 147)),
 Jl 149 148,
 Jm 150 1,
 Ji 151 (.build [(.int .i64 0), (.str []), (.int .i64 0), (.int .i64 0)] [(0, 1, (Jk 4)), (1, 1, (.t 149)), (3, 1, (.t 150))]),
 ⟨none, .store 4 (.t 4) (.t 151), none⟩,
 Ji 5 (.mov (.k (.bool true)))])
 .ret)
 .skip))))
 (.reg [Jm 120 12,
 Ja 121 120,
 Jm 12 121])))
def a86_1 : ACode := (.seq (.seq (.reg [Jm 87 7,
 Jm 88 0,
 Ji 89 (.lenStr (.t 88)),
 Ji 90 (.bin .lss (.t 87) (.t 89)),
 Jm 91 90,
 Jg 92 91 (.mov (.t 0)),
 Jg 93 91 (.mov (.t 7)),
 Jg 94 91 (.indexStr (.t 92) (.t 93)),
 Jg 95 91 (.call (Jf 127) [(.t 94)]),
 Ji 96 (.pick (.t 91) (.t 95) (.k (.bool false)))])
 (.cond (.t 96) .skip
 (.exit 4)))
 (.block 5 (.reg [Jm 97 7,
 Ja 98 97,
 Jm 7 98])))
def a86_2 : ACode := (.seq (.seq (.reg [Jm 55 7,
 Jm 56 0,
 Ji 57 (.lenStr (.t 56)),
 Ji 58 (.bin .lss (.t 55) (.t 57)),
 Jm 59 58,
 Jg 60 59 (.mov (.t 0)),
 Jg 61 59 (.mov (.t 7)),
 Jg 62 59 (.indexStr (.t 60) (.t 61)),
 Jg 63 59 (.call (Jf 127) [(.t 62)]),
 Ji 64 (.pick (.t 59) (.t 63) (.k (.bool false)))])
 (.cond (.t 64) .skip
 (.exit 2)))
 (.block 3 (.reg [Jm 65 7,
 Ja 66 65,
 Jm 7 66])))
def a86_3 : ACode := (.seq (.seq (.reg [Jm 20 7,
 Jm 21 0,
 Ji 22 (.lenStr (.t 21)),
 Ji 23 (.bin .lss (.t 20) (.t 22)),
 Jm 24 23,
 Jg 25 24 (.mov (.t 0)),
 Jg 26 24 (.mov (.t 7)),
 Jg 27 24 (.indexStr (.t 25) (.t 26)),
 Jg 28 24 (.call (Jf 126) [(.t 27)]),
 Jg 29 24 (.mov (.t 28)),
 Jh 30 29 (.mov (.t 0)),
 Jh 31 29 (.mov (.t 7)),
 Jh 32 29 (.indexStr (.t 30) (.t 31)),
 Jh 33 29 (.call (Jf 127) [(.t 32)]),
 Jg 34 24 (.pick (.t 29) (.k (.bool true)) (.t 33)),
 Ji 35 (.pick (.t 24) (.t 34) (.k (.bool false)))])
 (.cond (.t 35) .skip
 (.exit 0)))
 (.block 1 (.reg [Jm 36 7,
 Ja 37 36,
 Jm 7 37])))
def a86 : AFunc := ⟨153, [.cell 4 4 true, .tmp 5],
 (.seq (.reg [Ji 4 (.new (.agg [(.int .i64 0), (.str []), (.int .i64 0), (.int .i64 0)]) true none),
 Ji 5 (.mov (.k (.bool false)))])
 (.seq (.reg [Jm 14 0,
 Jm 15 1,
 Ji 16 (.indexStr (.t 14) (.t 15)),
 Jm 6 16])
 (.seq (.reg [Jm 17 1,
 Jm 7 17])
 (.seq (.seq (.reg [Jm 18 6,
 Ji 19 (.call (Jf 126) [(.t 18)])])
 (.cond (.t 19) (.seq (.block 0 (.loop a86_3))
 (.seq (.reg [Jm 38 0,
 Jm 39 1,
 Jm 40 7,
 Ji 41 (.sliceStr (.t 38) (some (.t 39)) (some (.t 40))),
 Jm 42 1,
 Ji 43 (.build [(.int .i64 0), (.str []), (.int .i64 0), (.int .i64 0)] [(0, 1, (Jk 1)), (1, 1, (.t 41)), (3, 1, (.t 42))]),
 Ji 8 (.new (.agg [(.int .i64 0), (.str []), (.int .i64 0), (.int .i64 0)]) true none),
 ⟨none, .store 4 (.t 8) (.t 43), none⟩])
 (.seq (.seq (.reg [Jd 44 1 8,
 Jl 45 44,
 Ji 46 (.call (Jf 128) [(.t 45)])])
 (.cond (.t 46) (.reg [Jd 47 0 8,
 ⟨none, .store 1 (.t 47) (Jk 3), none⟩])
 .skip))
 (.seq (.reg [Jo 48 4 8,
 Jm 49 7,
 Jm 50 1,
 Ji 51 (.bin .sub (.t 49) (.t 50)),
 Ji 52 (.bin .leq (.t 51) (Jk 16)),
 ⟨none, .store 4 (.t 4) (.t 48), none⟩,
 Jm 5 52])
 .ret))))
 .skip))
 (.seq (.seq (.reg [Jm 53 6,
 Ji 54 (.call (Jf 127) [(.t 53)])])
 (.cond (.t 54) (.seq (.block 2 (.loop a86_2))
 (.seq (.seq (.reg [Jm 67 7,
 Ja 68 67,
 Jm 69 0,
 Ji 70 (.lenStr (.t 69)),
 Ji 71 (.bin .lss (.t 68) (.t 70)),
 Jm 72 71,
 Jg 73 72 (.mov (.t 0)),
 Jg 74 72 (.mov (.t 7)),
 Jg 75 72 (.indexStr (.t 73) (.t 74)),
 Jg 76 72 (.bin .eql (.t 75) (.k (.int .u8 46))),
 Ji 77 (.pick (.t 72) (.t 76) (.k (.bool false))),
 Jm 78 77,
 Jg 79 78 (.mov (.t 0)),
 Jg 80 78 (.mov (.t 7)),
 Jg 81 78 (.bin .add (.t 80) (Jk 1)),
 Jg 82 78 (.indexStr (.t 79) (.t 81)),
 Jg 83 78 (.call (Jf 127) [(.t 82)]),
 Ji 84 (.pick (.t 78) (.t 83) (.k (.bool false)))])
 (.cond (.t 84) (.seq (.reg [Jm 85 7,
 Ja 86 85,
 Jm 7 86])
 (.block 4 (.loop a86_1)))
 .skip))
 (.seq (.reg [Jm 100 0,
 Jm 101 1,
 Jm 102 7,
 Ji 103 (.sliceStr (.t 100) (some (.t 101)) (some (.t 102))),
 Ji 104 (.call (Jf 129) [(.t 103)]),
 Jm 99 104,
 Ji 105 (.extract (.t 99) 0),
 Ji 106 (.extract (.t 99) 1),
 Jm 9 105,
 Jm 10 106])
 (.seq (.reg [Jm 107 0,
 Jm 108 1,
 Jm 109 7,
 Ji 110 (.sliceStr (.t 107) (some (.t 108)) (some (.t 109))),
 Jm 111 9,
 Jm 112 1,
 Ji 113 (.build [(.int .i64 0), (.str []), (.int .i64 0), (.int .i64 0)] [(0, 1, (Jk 2)), (1, 1, (.t 110)), (2, 1, (.t 111)), (3, 1, (.t 112))]),
 Jm 114 10,
 ⟨none, .store 4 (.t 4) (.t 113), none⟩,
 Jm 5 114])
 .ret))))
 .skip))
 (.seq (.reg [Ji 115 (.mkLit 1 [(.str []), (.str []), (.str []), (.str []), (.str []), (.str []), (.str []), (.str []), (.str []), (.str []), (.str []), (.str []), (.str []), (.str []), (.str []), (.str []), (.str [])] [(0, 1, (.k (.str [45, 62]))), (1, 1, (.k (.str [60, 61]))), (2, 1, (.k (.str [61, 61]))), (3, 1, (.k (.str [40]))), (4, 1, (.k (.str [41]))), (5, 1, (.k (.str [123]))), (6, 1, (.k (.str [125]))), (7, 1, (.k (.str [44]))), (8, 1, (.k (.str [59]))), (9, 1, (.k (.str [58]))), (10, 1, (.k (.str [61]))), (11, 1, (.k (.str [43]))), (12, 1, (.k (.str [45]))), (13, 1, (.k (.str [42]))), (14, 1, (.k (.str [47]))), (15, 1, (.k (.str [60]))), (16, 1, (.k (.str [46])))] false),
 Jm 11 115])
 (.seq (.seq (.reg [Ji 12 (.mov (Jk 0))])
 (.block 6 (.loop a86_0)))
 (.seq (.reg [Ji 152 (.build [(.int .i64 0), (.str []), (.int .i64 0), (.int .i64 0)] []),
 ⟨none, .store 4 (.t 4) (.t 152), none⟩,
 Ji 5 (.mov (.k (.bool false)))])
 .ret)))))))),
 [], false⟩
def a87 : AFunc := ⟨31, [.tmp 2],
 (.seq (.reg [Ji 2 (.mov (.k (.bool false)))])
 (.seq (.seq (.reg [Jm 3 0,
 Ji 4 (.nilCheck (.t 3)),
 Ji 5 (.fieldAddr 5 2 true (.t 4)),
 Jd 6 0 5,
 Jl 7 6,
 Je 8 7 0,
 Jm 9 8,
 Jg 10 9 (.mov (.t 0)),
 Jg 11 9 (.nilCheck (.t 10)),
 Jg 12 9 (.fieldAddr 4 1 false (.t 11)),
 Jg 13 9 (.load 1 false (.t 12)),
 Jg 14 9 (.bin .eql (.t 13) (Jk 30)),
 Ji 15 (.pick (.t 9) (.t 14) (.k (.bool false)))])
 (.cond (.t 15) (.reg [Jm 16 0,
 Ji 17 (.call (Jf 58) [(.t 16), (Jk 3)])])
 .skip))
 (.seq (.reg [Jm 18 0,
 Ji 19 (.nilCheck (.t 18)),
 Jd 20 4 19,
 Jl 21 20,
 Ja 22 21,
 Ji 23 (.nilCheck (.t 18)),
 Jd 24 4 23,
 ⟨none, .store 1 (.t 24) (.t 22), none⟩])
 (.seq (.reg [Jm 25 0,
 Ji 26 (.nilCheck (.t 25)),
 Ji 27 (.fieldAddr 5 2 true (.t 26)),
 Jd 28 0 27,
 Jl 29 28,
 Je 30 29 0,
 Jm 2 30])
 .ret)))),
 [], true⟩
def a88 : AFunc := ⟨16, [.tmp 4],
 (.seq (.reg [Ji 4 (.mov (.k (.bool false)))])
 (.seq (.seq (.reg [Jm 5 0,
 Jm 6 1,
 Ji 7 (.call (Jf 92) [(.t 5), (.t 6)]),
 Ji 8 (.un .not (.t 7))])
 (.cond (.t 8) (.seq (.reg [Ji 4 (.mov (.k (.bool false)))])
 .ret)
 .skip))
 (.seq (.reg [Jm 9 0,
 Ji 10 (.nilCheck (.t 9)),
 Jd 11 1 10,
 Jl 12 11,
 Ja 13 12,
 Ji 14 (.nilCheck (.t 9)),
 Jd 15 1 14,
 ⟨none, .store 1 (.t 15) (.t 13), none⟩])
 (.seq (.reg [Ji 4 (.mov (.k (.bool true)))])
 .ret)))),
 [], true⟩
def a89 : AFunc := ⟨10, [],
 (.seq (.reg [Jm 4 0,
 Jm 5 1,
 Ji 6 (.call (Jf 88) [(.t 4), (.t 5)]),
 Ji 7 (.un .not (.t 6))])
 (.cond (.t 7) (.reg [Jm 8 0,
 Ji 9 (.call (Jf 58) [(.t 8), (Jk 2)])])
 .skip)),
 [], true⟩
def a90 : AFunc := ⟨24, [.tmp 4],
 (.seq (.reg [Ji 3 (.box 9 (.t 1) false),
 Ji 4 (.mov (Jk 0))])
 (.seq (.plan [Js 0 (Jm 5 0),
 Js 1 (Jm 6 0),
 Js 2 (Ji 7 (.nilCheck (.t 6))),
 Js 3 (Ji 8 (.fieldAddr 2 2 true (.t 7))),
 Js 4 (Jd 9 1 8),
 Js 5 (Jl 10 9),
 Js 6 (Jo 11 9 3),
 ⟨7, Ji 12 (.mkLit 9 [(.int .i64 0), (.int .i64 0), (.int .i64 0), (.int .i64 0), (.str []), (.str []), (.int .i64 0), (.lst 1 [] .tight), (.int .i64 0)] [(0, 9, (.t 11))] false), []⟩,
 Js 8 (Ji 13 (.append 9 104 (some 61) (.t 10) (.t 12))),
 Js 9 (Ji 14 (.nilCheck (.t 5))),
 Js 10 (Ji 15 (.fieldAddr 2 2 true (.t 14))),
 Js 11 (Jd 16 1 15),
 ⟨12, ⟨none, .store 1 (.t 16) (.t 13), none⟩, []⟩])
 (.seq (.reg [Jm 17 0,
 Ji 18 (.nilCheck (.t 17)),
 Ji 19 (.fieldAddr 2 2 true (.t 18)),
 Jd 20 1 19,
 Jl 21 20,
 Jn 22 21,
 Ji 23 (.bin .sub (.t 22) (Jk 1)),
 Jm 4 23])
 .ret))),
 [], true⟩
def a91_0 : ACode := (.seq (.seq (.reg [Jm 18 0,
 Ji 19 (.nilCheck (.t 18)),
 Ji 20 (.fieldAddr 5 2 true (.t 19)),
 Jd 21 0 20,
 Jl 22 21,
 Je 23 22 0])
 (.cond (.t 23) .skip
 (.exit 0)))
 (.block 1 (.seq (.reg [Jm 25 0,
 Ji 26 (.call (Jf 131) [(.t 25)]),
 Jm 24 26,
 Ji 27 (.extract (.t 24) 0),
 Ji 28 (.extract (.t 24) 1),
 Jm 6 27,
 Jm 7 28])
 (.seq (.seq (.reg [Jm 29 6,
 Jm 30 1,
 Ji 31 (.bin .neq (.t 29) (.t 30))])
 (.cond (.t 31) (.seq (.reg [Jm 32 5,
 Jm 4 32])
 .ret)
 .skip))
 (.seq (.plan [Js 0 (Jm 33 0),
 Js 1 (Ji 34 (.nilCheck (.t 33))),
 Js 2 (Jd 35 0 34),
 Js 3 (Jl 36 35),
 Js 4 (Jm 37 0),
 Js 5 (Ji 38 (.nilCheck (.t 37))),
 Js 6 (Jd 39 1 38),
 Js 7 (Jl 40 39),
 Js 8 (Jx 41 4 36 40),
 Js 9 (Jd 42 3 41),
 Js 10 (Jl 43 42),
 Js 11 (Jm 8 43)])
 (.seq (.reg [Jm 44 0,
 Ji 45 (.nilCheck (.t 44)),
 Jd 46 1 45,
 Jl 47 46,
 Ja 48 47,
 Ji 49 (.nilCheck (.t 44)),
 Jd 50 1 49,
 ⟨none, .store 1 (.t 50) (.t 48), none⟩])
 (.seq (.reg [Jm 51 0,
 Jm 52 1,
 Ja 53 52,
 Ji 54 (.call (Jf 91) [(.t 51), (.t 53)]),
 Jm 9 54])
 (.seq (.reg [Jm 55 0,
 Jm 56 7,
 Jm 57 5,
 Jm 58 9,
 Jm 59 8,
 Ji 60 (.build [(.int .i64 0), (.int .i64 0), (.int .i64 0), (.int .i64 0), (.str []), (.str []), (.int .i64 0), (.lst 1 [] .tight), (.int .i64 0)] [(0, 1, (.t 56)), (1, 1, (.t 57)), (2, 1, (.t 58)), (8, 1, (.t 59))]),
 Ji 61 (.call (Jf 90) [(.t 55), (.t 60)]),
 Jm 5 61])
 (.seq (.reg [Jm 62 1,
 Je 63 62 3])
 (.cond (.t 63) (.seq (.reg [Jm 64 5,
 Jm 4 64])
 .ret)
 .skip))))))))))
def a91 : AFunc := ⟨66, [.tmp 4],
 (.seq (.reg [Ji 4 (.mov (Jk 0))])
 (.seq (.seq (.reg [Jm 10 1,
 Ji 11 (.bin .gtr (.t 10) (Jk 5))])
 (.cond (.t 11) (.seq (.reg [Jm 12 0,
 Ji 13 (.call (Jf 130) [(.t 12)]),
 Jm 4 13])
 .ret)
 .skip))
 (.seq (.reg [Jm 14 0,
 Jm 15 1,
 Ja 16 15,
 Ji 17 (.call (Jf 91) [(.t 14), (.t 16)]),
 Jm 5 17])
 (.seq (.block 0 (.loop a91_0))
 (.seq (.reg [Jm 65 5,
 Jm 4 65])
 .ret))))),
 [], true⟩
def a92 : AFunc := ⟨38, [.tmp 4],
 (.seq (.reg [Ji 4 (.mov (.k (.bool false)))])
 (.seq (.plan [Js 0 (Jm 6 0),
 Js 1 (Ji 7 (.nilCheck (.t 6))),
 Js 2 (Jd 8 0 7),
 Js 3 (Jl 9 8),
 Js 4 (Jm 10 0),
 Js 5 (Ji 11 (.nilCheck (.t 10))),
 Js 6 (Jd 12 1 11),
 Js 7 (Jl 13 12),
 Js 8 (Jx 14 4 9 13),
 Js 9 (Jo 15 4 14),
 ⟨10, Ji 5 (.new (.agg [(.int .i64 0), (.str []), (.int .i64 0), (.int .i64 0)]) true none), [3, 7, 9]⟩,
 ⟨11, ⟨none, .store 4 (.t 5) (.t 15), none⟩, []⟩])
 (.seq (.reg [Jm 16 0,
 Ji 17 (.nilCheck (.t 16)),
 Ji 18 (.fieldAddr 5 2 true (.t 17)),
 Jd 19 0 18,
 Jl 20 19,
 Je 21 20 0,
 Jm 22 21,
 Jg 23 22 (.fieldAddr 0 1 false (.t 5)),
 Jg 24 22 (.load 1 false (.t 23)),
 Jg 25 22 (.bin .eql (.t 24) (Jk 3)),
 Jg 26 22 (.mov (.t 25)),
 Jh 27 26 (.fieldAddr 0 1 false (.t 5)),
 Jh 28 26 (.load 1 false (.t 27)),
 Jh 29 26 (.bin .eql (.t 28) (Jk 4)),
 Jg 30 22 (.pick (.t 26) (.k (.bool true)) (.t 29)),
 Ji 31 (.pick (.t 22) (.t 30) (.k (.bool false))),
 Jm 32 31,
 Jg 33 32 (.fieldAddr 1 1 false (.t 5)),
 Jg 34 32 (.load 1 false (.t 33)),
 Jg 35 32 (.mov (.t 1)),
 Jg 36 32 (.bin .eql (.t 34) (.t 35)),
 Ji 37 (.pick (.t 32) (.t 36) (.k (.bool false))),
 Jm 4 37])
 .ret))),
 [], true⟩
def a93 : AFunc := ⟨44, [.tmp 2],
 (.seq (.reg [Ji 2 (.mov (.k (.str [])))])
 (.seq (.seq (.plan [Js 0 (Jm 3 0),
 Js 1 (Ji 4 (.nilCheck (.t 3))),
 Js 2 (Ji 5 (.fieldAddr 5 2 true (.t 4))),
 Js 3 (Jd 6 0 5),
 Js 4 (Jl 7 6),
 Js 5 (Ji 8 (.bin .neq (.t 7) (Jk 0))),
 Js 6 (Jm 9 8),
 Js 7 (Jh 10 9 (.mov (.t 0))),
 Js 8 (Jh 11 9 (.nilCheck (.t 10))),
 Js 9 (Jh 12 9 (.fieldAddr 0 1 false (.t 11))),
 Js 10 (Jh 13 9 (.load 1 false (.t 12))),
 Js 11 (Jh 14 9 (.mov (.t 0))),
 Js 12 (Jh 15 9 (.nilCheck (.t 14))),
 Js 13 (Jh 16 9 (.fieldAddr 1 1 false (.t 15))),
 Js 14 (Jh 17 9 (.load 1 false (.t 16))),
 Js 15 (Jh 18 9 (.indexAddr 4 true none (.t 13) (.t 17))),
 Js 16 (Jh 19 9 (.fieldAddr 0 1 false (.t 18))),
 Js 17 (Jh 20 9 (.load 1 false (.t 19))),
 Js 18 (Jh 21 9 (.bin .neq (.t 20) (Jk 1))),
 Js 19 (Ji 22 (.pick (.t 9) (.k (.bool true)) (.t 21)))])
 (.cond (.t 22) (.seq (.reg [Jm 23 0,
 Ji 24 (.call (Jf 58) [(.t 23), (Jk 2)])])
 (.seq (.reg [Ji 2 (.mov (.k (.str [])))])
 .ret))
 .skip))
 (.seq (.reg [Jm 25 0,
 Ji 26 (.nilCheck (.t 25)),
 Jd 27 1 26,
 Jl 28 27,
 Ja 29 28,
 Ji 30 (.nilCheck (.t 25)),
 Jd 31 1 30,
 ⟨none, .store 1 (.t 31) (.t 29), none⟩])
 (.seq (.plan [Js 0 (Jm 32 0),
 Js 1 (Ji 33 (.nilCheck (.t 32))),
 Js 2 (Jd 34 0 33),
 Js 3 (Jl 35 34),
 Js 4 (Jm 36 0),
 Js 5 (Ji 37 (.nilCheck (.t 36))),
 Js 6 (Jd 38 1 37),
 Js 7 (Jl 39 38),
 Js 8 (Ji 40 (.bin .sub (.t 39) (Jk 1))),
 Js 9 (Jx 41 4 35 40),
 Js 10 (Jd 42 1 41),
 Js 11 (Jl 43 42),
 Js 12 (Jm 2 43)])
 .ret)))),
 [], true⟩
def a94_0 : ACode := (.seq (.seq (.reg [Jm 10 0,
 Ji 11 (.nilCheck (.t 10)),
 Ji 12 (.fieldAddr 5 2 true (.t 11)),
 Jd 13 0 12,
 Jl 14 13,
 Je 15 14 0])
 (.cond (.t 15) .skip
 (.exit 0)))
 (.block 1 (.seq (.reg [Jm 16 0,
 Ji 17 (.call (Jf 93) [(.t 16)]),
 Jm 4 17])
 (.seq (.reg [Jm 18 0,
 Ji 19 (.call (Jf 89) [(.t 18), (.k (.str [58]))])])
 (.seq (.reg [Jm 20 3,
 Jm 21 4,
 Jm 22 0,
 Ji 23 (.call (Jf 96) [(.t 22)]),
 Ji 24 (.build [(.str []), (.int .i64 0)] [(0, 1, (.t 21)), (1, 1, (.t 23))]),
 Ji 25 (.mkLit 2 [(.str []), (.int .i64 0)] [(0, 2, (.t 24))] false),
 Ji 26 (.append 2 24 (some 77) (.t 20) (.t 25)),
 Jm 3 26])
 (.seq (.reg [Jm 27 0,
 Ji 28 (.call (Jf 88) [(.t 27), (.k (.str [44]))]),
 Ji 29 (.un .not (.t 28))])
 (.cond (.t 29) (.seq (.reg [Jm 30 0,
 Ji 31 (.call (Jf 89) [(.t 30), (.k (.str [41]))])])
 (.seq (.reg [Jm 32 3,
 Jm 2 32])
 .ret))
 .skip)))))))
def a94 : AFunc := ⟨34, [.tmp 2],
 (.seq (.reg [Ji 2 (.mov (.k (.lst 2 [] .tight)))])
 (.seq (.reg [Ji 3 (.mov (.k (.lst 2 [] .tight)))])
 (.seq (.reg [Jm 5 0,
 Ji 6 (.call (Jf 89) [(.t 5), (.k (.str [40]))])])
 (.seq (.seq (.reg [Jm 7 0,
 Ji 8 (.call (Jf 88) [(.t 7), (.k (.str [41]))])])
 (.cond (.t 8) (.seq (.reg [Jm 9 3,
 Jm 2 9])
 .ret)
 .skip))
 (.seq (.block 0 (.loop a94_0))
 (.seq (.reg [Jm 33 3,
 Jm 2 33])
 .ret)))))),
 [], true⟩
def a95_0 : ACode := (.seq (.seq (.reg [Jm 8 0,
 Ji 9 (.nilCheck (.t 8)),
 Ji 10 (.fieldAddr 5 2 true (.t 9)),
 Jd 11 0 10,
 Jl 12 11,
 Je 13 12 0])
 (.cond (.t 13) .skip
 (.exit 0)))
 (.block 1 (.seq (.reg [Jm 15 0,
 Jm 16 1,
 Ji 17 (.call (Jf 132) [(.t 15), (.t 16)]),
 Jm 14 17,
 Ji 18 (.extract (.t 14) 0),
 Ji 19 (.extract (.t 14) 1),
 Ji 6 (.new (.agg [(.int .i64 0), (.str []), (.int .i64 0), (.int .i64 0), (.int .i64 0), (.lst 1 [] .tight), (.str []), (.str []), (.int .i64 0)]) true none),
 ⟨none, .store 9 (.t 6) (.t 18), none⟩,
 Jm 7 19])
 (.seq (.seq (.reg [Jm 20 7,
 Ji 21 (.un .not (.t 20))])
 (.cond (.t 21) (.seq (.reg [Jm 22 5,
 Jm 4 22])
 .ret)
 .skip))
 (.reg [Jm 23 5,
 Jo 24 9 6,
 Ji 25 (.mkLit 9 [(.int .i64 0), (.str []), (.int .i64 0), (.int .i64 0), (.int .i64 0), (.lst 1 [] .tight), (.str []), (.str []), (.int .i64 0)] [(0, 9, (.t 24))] false),
 Ji 26 (.append 9 112 (some 72) (.t 23) (.t 25)),
 Jm 5 26])))))
def a95 : AFunc := ⟨28, [.tmp 4],
 (.seq (.reg [Ji 4 (.mov (.k (.lst 9 [] .tight)))])
 (.seq (.reg [Ji 5 (.mov (.k (.lst 9 [] .tight)))])
 (.seq (.block 0 (.loop a95_0))
 (.seq (.reg [Jm 27 5,
 Jm 4 27])
 .ret)))),
 [], true⟩
def a96 : AFunc := ⟨7, [.tmp 2],
 (.seq (.reg [Ji 2 (.mov (Jk 0))])
 (.seq (.seq (.reg [Jm 3 0,
 Ji 4 (.call (Jf 88) [(.t 3), (.k (.str [98, 111, 111, 108]))])])
 (.cond (.t 4) (.seq (.reg [Ji 2 (.mov (Jk 2))])
 .ret)
 .skip))
 (.seq (.reg [Jm 5 0,
 Ji 6 (.call (Jf 89) [(.t 5), (.k (.str [102, 105, 120]))])])
 (.seq (.reg [Ji 2 (.mov (Jk 1))])
 .ret)))),
 [], true⟩
def a97 : AFunc := ⟨31, [.cell 2 4 true, .tmp 3],
 (.seq (.reg [Ji 1 (.box 9 (.t 0) false),
 Ji 2 (.new (.agg [(.str []), (.int .i64 0), (.int .i64 0), (.int .i64 0)]) true none),
 Ji 3 (.mov (.k (.bool false)))])
 (.seq (.seq (.reg [Jd 4 0 1,
 Jl 5 4])
 (.block 0 (.seq (.reg [Je 7 5 1,
 Jm 6 7])
 (.cond (.t 6) (.seq (.reg [Jd 8 1 1,
 Jl 9 8,
 Jd 10 2 1,
 Jl 11 10,
 Ji 12 (.build [(.str []), (.int .i64 0), (.int .i64 0), (.int .i64 0)] [(0, 1, (.t 9)), (1, 1, (Jk 2)), (2, 1, (.t 11))]),
 ⟨none, .store 4 (.t 2) (.t 12), none⟩,
 Ji 3 (.mov (.k (.bool true)))])
 .ret)
 (.seq (.reg [Je 14 5 2,
 Jm 13 14])
 (.cond (.t 13) (.seq (.reg [Jd 15 1 1,
 Jl 16 15,
 Ji 17 (.build [(.str []), (.int .i64 0), (.int .i64 0), (.int .i64 0)] [(0, 1, (.t 16)), (1, 1, (Jk 3)), (2, 1, (Jk 1))]),
 ⟨none, .store 4 (.t 2) (.t 17), none⟩,
 Ji 3 (.mov (.k (.bool true)))])
 .ret)
 (.seq (.reg [Je 19 5 4,
 Jm 18 19])
 (.cond (.t 18) (.seq (.reg [Jd 20 1 1,
 Jl 21 20,
 Jd 22 2 1,
 Jl 23 22,
 Ji 24 (.build [(.str []), (.int .i64 0), (.int .i64 0), (.int .i64 0)] [(0, 1, (.t 21)), (1, 1, (Jk 4)), (2, 1, (.t 23))]),
 ⟨none, .store 4 (.t 2) (.t 24), none⟩,
 Ji 3 (.mov (.k (.bool true)))])
 .ret)
 (.seq (.reg [Je 26 5 6,
 Jm 25 26])
 (.cond (.t 25) (.seq (.reg [Jd 27 1 1,
 Jl 28 27,
 Ji 29 (.build [(.str []), (.int .i64 0), (.int .i64 0), (.int .i64 0)] [(0, 1, (.t 28)), (1, 1, (Jk 5))]),
 ⟨none, .store 4 (.t 2) (.t 29), none⟩,
 Ji 3 (.mov (.k (.bool true)))])
 .ret)
 .skip))))))))))
 (.seq (.reg [Ji 30 (.build [(.str []), (.int .i64 0), (.int .i64 0), (.int .i64 0)] []),
 ⟨none, .store 4 (.t 2) (.t 30), none⟩,
 Ji 3 (.mov (.k (.bool false)))])
 .ret))),
 [], false⟩
def a98 : AFunc := ⟨4, [.tmp 2],
 (.seq (.reg [Ji 1 (.box 1 (.t 0) false),
 Ji 2 (.mov (.k .nilFunc))])
 (.seq (.reg [Ji 3 (.mkFunc 133 [] [(.t 1)]),
 Jm 2 3])
 .ret)),
 [], false⟩
def a99_0 : ACode := (.seq (.reg [Ji 9 (.bin .lss (.t 8) (.t 7))])
 (.seq (.cond (.t 9) .skip
 (.exit 0))
 (.seq (.block 1 (.seq (.reg [Jm 10 8,
 Jm 5 10])
 (.seq (.reg [Jm 11 1,
 Jm 12 0,
 Jm 13 5,
 Jx 14 7 12 13,
 Jo 15 7 14,
 Ji 16 (.call (.t 11) [(.t 15)])])
 (.cond (.t 16) (.seq (.reg [Jm 17 5,
 Jm 4 17])
 .ret)
 .skip))))
 (.reg [Ja 18 8,
 Jm 8 18]))))
def a99 : AFunc := ⟨19, [.tmp 4],
 (.seq (.reg [Ji 4 (.mov (Jk 0))])
 (.seq (.seq (.reg [Jm 6 0,
 Jn 7 6,
 Ji 8 (.mov (Jk 0))])
 (.block 0 (.loop a99_0)))
 (.seq (.reg [Ji 4 (.mov (.k (.int .i64 (-1))))])
 .ret))),
 [], false⟩
def a100 : AFunc := ⟨8, [.tmp 3],
 (.seq (.reg [Ji 2 (.box 7 (.t 0) false),
 Ji 3 (.mov (.k (.bool false)))])
 (.seq (.reg [Jd 4 1 2,
 Jl 5 4,
 Jl 6 1,
 Ji 7 (.bin .eql (.t 5) (.t 6)),
 Jm 3 7])
 .ret)),
 [], true⟩
def a101 : AFunc := ⟨23, [],
 (.seq (.reg [Jl 7 2,
 Jm 8 0,
 Ji 9 (.indexAddr 1 false none (.t 7) (.t 8)),
 Jl 10 9,
 Jm 11 1,
 Ji 12 (.bin .neq (.t 10) (.t 11))])
 (.cond (.t 12) (.plan [Js 0 (Jl 13 3),
 Js 1 (Jd 14 1 4),
 Js 2 (Jl 15 14),
 Js 3 (Jm 16 0),
 Js 4 (Jx 17 9 15 16),
 Js 5 (Jd 18 8 17),
 Js 6 (Jl 19 18),
 ⟨7, Ji 20 (.build [(.int .i64 0), (.int .i64 0)] [(0, 1, (Jk 5)), (1, 1, (.t 19))]), []⟩,
 ⟨8, Ji 21 (.mkLit 2 [(.int .i64 0), (.int .i64 0)] [(0, 2, (.t 20))] false), []⟩,
 Js 9 (Ji 22 (.append 2 16 (some 27) (.t 13) (.t 21))),
 ⟨10, ⟨none, .store 1 (.t 3) (.t 22), none⟩, []⟩])
 .skip)),
 [], true⟩
def a102_0 : ACode := (.seq (.reg [Ji 20 (.bin .lss (.t 19) (.t 18))])
 (.seq (.cond (.t 20) .skip
 (.exit 0))
 (.seq (.block 1 (.seq (.reg [Jx 21 9 17 19,
 Jo 22 9 21,
 Ji 8 (.new (.agg [(.int .i64 0), (.str []), (.int .i64 0), (.int .i64 0), (.int .i64 0), (.lst 1 [] .tight), (.str []), (.str []), (.int .i64 0)]) true none),
 ⟨none, .store 9 (.t 8) (.t 22), none⟩])
 (.seq (.reg [Jd 23 0 8,
 Jl 24 23])
 (.block 2 (.seq (.seq (.reg [Je 26 24 1,
 Jm 25 26])
 (.cond (.t 25) .skip
 (.reg [Je 27 24 4,
 Jm 25 27])))
 (.cond (.t 25) (.reg [Jm 28 2,
 Jd 29 3 8,
 Jl 30 29,
 Jd 31 2 8,
 Jl 32 31,
 Ji 33 (.call (.t 28) [(.t 30), (.t 32)])])
 (.seq (.seq (.reg [Je 35 24 2,
 Jm 34 35])
 (.cond (.t 34) .skip
 (.reg [Je 36 24 3,
 Jm 34 36])))
 (.cond (.t 34) (.seq (.reg [Jm 37 2,
 Jd 38 3 8,
 Jl 39 38,
 Ji 40 (.call (.t 37) [(.t 39), (Jk 1)])])
 (.reg [Jm 41 2,
 Jd 42 4 8,
 Jl 43 42,
 Ji 44 (.call (.t 41) [(.t 43), (Jk 1)])]))
 (.seq (.reg [Je 46 24 5,
 Jm 45 46])
 (.cond (.t 45) (.seq (.reg [Jm 47 2,
 Jd 48 3 8,
 Jl 49 48,
 Jm 50 6,
 Jd 51 1 8,
 Jl 52 51,
 Ji 53 (.lookup 1 (.int .i64 0) false (.t 50) (.t 52)),
 Ji 54 (.call (.t 47) [(.t 49), (.t 53)])])
 (.reg [Jm 55 2,
 Jd 56 4 8,
 Jl 57 56,
 Ji 58 (.call (.t 55) [(.t 57), (Jk 1)])]))
 (.seq (.reg [Je 60 24 7,
 Jm 59 60])
 (.cond (.t 59) (.reg [Jm 61 2,
 Jd 62 4 8,
 Jl 63 62,
 Ji 64 (.call (.t 61) [(.t 63), (Jk 1)])])
 .skip))))))))))))
 (.reg [Ja 65 19,
 Jm 19 65]))))
def a102 : AFunc := ⟨87, [],
 (.seq (.reg [Ji 3 (.box 2 (.t 0) false)])
 (.seq (.reg [Jo 9 2 3,
 Jm 10 1,
 Ji 11 (.call (Jf 106) [(.t 9), (.t 10)]),
 Jm 6 11])
 (.seq (.seq (.reg [Jd 12 0 3,
 Jl 13 12,
 Jm 14 1,
 Jx 15 7 13 14,
 Jd 16 3 15,
 Jl 17 16,
 Jn 18 17,
 Ji 19 (.mov (Jk 0))])
 (.block 0 (.loop a102_0)))
 (.seq (.reg [Jd 66 0 3,
 Jl 67 66,
 Jm 68 1,
 Jx 69 7 67 68,
 Jd 70 0 69,
 Jl 71 70,
 Ji 72 (.bin .neq (.t 71) (Jk 3))])
 (.cond (.t 72) (.plan [Js 0 (Jm 73 2),
 Js 1 (Jd 74 0 3),
 Js 2 (Jl 75 74),
 Js 3 (Jm 76 1),
 Js 4 (Jx 77 7 75 76),
 Js 5 (Jd 78 5 77),
 Js 6 (Jl 79 78),
 Js 7 (Jd 80 0 3),
 Js 8 (Jl 81 80),
 Js 9 (Jm 82 1),
 Js 10 (Jx 83 7 81 82),
 Js 11 (Jd 84 4 83),
 Js 12 (Jl 85 84),
 ⟨13, Ji 86 (.call (.t 73) [(.t 79), (.t 85)]), []⟩])
 .skip))))),
 [], true⟩
def a103_0 : ACode := (.seq (.reg [Ji 42 (.bin .lss (.t 41) (.t 40))])
 (.seq (.cond (.t 42) .skip
 (.exit 4))
 (.seq (.block 5 (.seq (.reg [Ji 43 (.indexAddr 1 false none (.t 39) (.t 41)),
 Jl 44 43,
 Jm 10 44])
 (.reg [Jm 45 5,
 Jm 46 10,
 Jm 47 5,
 Jm 48 10,
 Ji 49 (.indexAddr 1 false none (.t 47) (.t 48)),
 Jl 50 49,
 Jm 51 50,
 Jh 52 51 (.mov (.t 5)),
 Jh 53 51 (.mov (.t 8)),
 Jh 54 51 (.indexAddr 1 false none (.t 52) (.t 53)),
 Jh 55 51 (.load 1 false (.t 54)),
 Ji 56 (.pick (.t 51) (.k (.bool true)) (.t 55)),
 Ji 57 (.indexAddr 1 false none (.t 45) (.t 46)),
 ⟨none, .store 1 (.t 57) (.t 56), none⟩])))
 (.reg [Ja 58 41,
 Jm 41 58]))))
def a103_1 : ACode := (.seq (.seq (.reg [Jm 30 8,
 Ji 31 (.bin .geq (.t 30) (Jk 0))])
 (.cond (.t 31) .skip
 (.exit 2)))
 (.seq (.block 3 (.seq (.reg [Jd 34 1 2,
 Jl 35 34,
 Jm 36 8,
 Jx 37 9 35 36,
 Jo 38 9 37,
 Ji 39 (.call (Jf 134) [(.t 38)]),
 Jn 40 39,
 Ji 41 (.mov (Jk 0))])
 (.block 4 (.loop a103_0))))
 (.reg [Jm 32 8,
 Ji 33 (.bin .sub (.t 32) (Jk 1)),
 Jm 8 33])))
def a103_2 : ACode := (.seq (.reg [Ji 20 (.bin .lss (.t 19) (.t 18))])
 (.seq (.cond (.t 20) .skip
 (.exit 0))
 (.seq (.block 1 (.seq (.reg [Ji 21 (.indexAddr 1 false none (.t 17) (.t 19)),
 Jl 22 21,
 Jm 7 22])
 (.reg [Jm 23 5,
 Jm 24 7,
 Ji 25 (.indexAddr 1 false none (.t 23) (.t 24)),
 ⟨none, .store 1 (.t 25) (.k (.bool true)), none⟩])))
 (.reg [Ja 26 19,
 Jm 19 26]))))
def a103 : AFunc := ⟨60, [.tmp 4],
 (.seq (.reg [Ji 2 (.box 2 (.t 0) false),
 Ji 4 (.mov (.k (.lst 1 [] .tight)))])
 (.seq (.reg [Jd 11 1 2,
 Jl 12 11,
 Jn 13 12,
 Ji 14 (.mkSlice 1 1 [(.bool false)] (.t 13) (.t 13) false),
 Jm 5 14])
 (.seq (.seq (.reg [Jo 15 2 2,
 Jm 16 1,
 Ji 17 (.call (Jf 27) [(.t 15), (.t 16)]),
 Jn 18 17,
 Ji 19 (.mov (Jk 0))])
 (.block 0 (.loop a103_2)))
 (.seq (.seq (.reg [Jm 27 5,
 Jn 28 27,
 Ji 29 (.bin .sub (.t 28) (Jk 1)),
 Jm 8 29])
 (.block 2 (.loop a103_1)))
 (.seq (.reg [Jm 59 5,
 Jm 4 59])
 .ret))))),
 [], false⟩
def a104 : AFunc := ⟨8, [.tmp 6],
 (.seq (.reg [Ji 3 (.box 2 (.t 0) false),
 Ji 4 (.box 1 (.t 1) false),
 Ji 5 (.box 9 (.t 2) false),
 Ji 6 (.mov (.k .nilFunc))])
 (.seq (.reg [Ji 7 (.mkFunc 135 [] [(.t 5), (.t 4), (.t 3)]),
 Jm 6 7])
 .ret)),
 [], false⟩
def a105 : AFunc := ⟨25, [.tmp 2],
 (.seq (.reg [Ji 2 (.mov (Jk 0))])
 (.seq (.seq (.reg [Jm 3 0])
 (.block 0 (.seq (.seq (.reg [Je 5 3 4,
 Jm 4 5])
 (.cond (.t 4) .skip
 (.seq (.reg [Je 6 3 5,
 Jm 4 6])
 (.cond (.t 4) .skip
 (.seq (.reg [Je 7 3 16,
 Jm 4 7])
 (.cond (.t 4) .skip
 (.reg [Je 8 3 21,
 Jm 4 8])))))))
 (.cond (.t 4) (.seq (.reg [Ji 2 (.mov (Jk 1))])
 .ret)
 (.seq (.seq (.reg [Je 10 3 6,
 Jm 9 10])
 (.cond (.t 9) .skip
 (.seq (.reg [Je 11 3 7,
 Jm 9 11])
 (.cond (.t 9) .skip
 (.seq (.reg [Je 12 3 8,
 Jm 9 12])
 (.cond (.t 9) .skip
 (.seq (.reg [Je 13 3 9,
 Jm 9 13])
 (.cond (.t 9) .skip
 (.seq (.reg [Je 14 3 10,
 Jm 9 14])
 (.cond (.t 9) .skip
 (.seq (.reg [Je 15 3 11,
 Jm 9 15])
 (.cond (.t 9) .skip
 (.seq (.reg [Je 16 3 12,
 Jm 9 16])
 (.cond (.t 9) .skip
 (.seq (.reg [Je 17 3 13,
 Jm 9 17])
 (.cond (.t 9) .skip
 (.seq (.reg [Je 18 3 14,
 Jm 9 18])
 (.cond (.t 9) .skip
 (.seq (.reg [Je 19 3 17,
 Jm 9 19])
 (.cond (.t 9) .skip
 (.reg [Je 20 3 18,
 Jm 9 20])))))))))))))))))))))
 (.cond (.t 9) (.seq (.reg [Ji 2 (.mov (Jk 2))])
 .ret)
 (.seq (.reg [Je 22 3 15,
 Jm 21 22])
 (.cond (.t 21) (.seq (.reg [Ji 2 (.mov (Jk 3))])
 .ret)
 (.seq (.reg [Je 24 3 19,
 Jm 23 24])
 (.cond (.t 23) (.seq (.reg [Ji 2 (.mov (.k (.int .i64 (-1))))])
 .ret)
 .skip))))))))))
 (.seq (.reg [Ji 2 (.mov (Jk 0))])
 .ret))),
 [], false⟩
def a106_0 : ACode := (.seq (.reg [Ji 14 (.bin .lss (.t 13) (.t 12))])
 (.seq (.cond (.t 14) .skip
 (.exit 0))
 (.seq (.block 1 (.seq (.reg [Jx 15 4 11 13,
 Jo 16 4 15,
 Ji 7 (.new (.agg [(.str []), (.int .i64 0), (.int .i64 0), (.int .i64 0)]) true none),
 ⟨none, .store 4 (.t 7) (.t 16), none⟩])
 (.reg [Jm 17 5,
 Jd 18 0 7,
 Jl 19 18,
 Jd 20 2 7,
 Jl 21 20,
 ⟨none, .mapUpdate 1 (.t 17) (.t 19) (.t 21), none⟩])))
 (.reg [Ja 22 13,
 Jm 13 22]))))
def a106 : AFunc := ⟨24, [.tmp 4],
 (.seq (.reg [Ji 2 (.box 2 (.t 0) false),
 Ji 4 (.mov (.k .nilMap))])
 (.seq (.reg [Ji 8 (.mkMap),
 Jm 5 8])
 (.seq (.seq (.reg [Jo 9 2 2,
 Jm 10 1,
 Ji 11 (.call (Jf 25) [(.t 9), (.t 10)]),
 Jn 12 11,
 Ji 13 (.mov (Jk 0))])
 (.block 0 (.loop a106_0)))
 (.seq (.reg [Jm 23 5,
 Jm 4 23])
 .ret)))),
 [], true⟩
def a107_0 : ACode := (.seq (.reg [Ji 19 (.bin .lss (.t 18) (.t 17))])
 (.seq (.cond (.t 19) .skip
 (.exit 2))
 (.seq (.block 3 (.seq (.reg [Ji 20 (.indexAddr 1 false none (.t 16) (.t 18)),
 Jl 21 20,
 Jm 5 21])
 (.reg [Jm 22 1,
 Jm 23 5,
 ⟨none, .mapUpdate 0 (.t 22) (.t 23) (Jk 2), none⟩])))
 (.reg [Ja 24 18,
 Jm 18 24]))))
def a107_1 : ACode := (.seq (.reg [Ji 10 (.bin .lss (.t 9) (.t 8))])
 (.seq (.cond (.t 10) .skip
 (.exit 0))
 (.seq (.block 1 (.seq (.reg [Ji 11 (.indexAddr 1 false none (.t 7) (.t 9)),
 Jl 12 11,
 Jm 3 12])
 (.reg [Jm 13 1,
 Jm 14 3,
 ⟨none, .mapUpdate 0 (.t 13) (.t 14) (Jk 1), none⟩])))
 (.reg [Ja 15 9,
 Jm 9 15]))))
def a107 : AFunc := ⟨26, [.tmp 0],
 (.seq (.reg [Ji 0 (.mov (.k .nilMap))])
 (.seq (.reg [Ji 6 (.mkMap),
 Jm 1 6])
 (.seq (.seq (.reg [Ji 7 (.mkLit 1 [(.int .i64 0), (.int .i64 0), (.int .i64 0), (.int .i64 0), (.int .i64 0), (.int .i64 0), (.int .i64 0)] [(0, 1, (Jk 1)), (1, 1, (Jk 4)), (2, 1, (Jk 21)), (3, 1, (Jk 6)), (4, 1, (Jk 7)), (5, 1, (Jk 8)), (6, 1, (Jk 9))] false),
 Jn 8 7,
 Ji 9 (.mov (Jk 0))])
 (.block 0 (.loop a107_1)))
 (.seq (.seq (.reg [Ji 16 (.mkLit 1 [(.int .i64 0), (.int .i64 0), (.int .i64 0), (.int .i64 0), (.int .i64 0), (.int .i64 0), (.int .i64 0), (.int .i64 0)] [(0, 1, (Jk 2)), (1, 1, (Jk 5)), (2, 1, (Jk 10)), (3, 1, (Jk 11)), (4, 1, (Jk 12)), (5, 1, (Jk 13)), (6, 1, (Jk 14)), (7, 1, (Jk 20))] false),
 Jn 17 16,
 Ji 18 (.mov (Jk 0))])
 (.block 2 (.loop a107_0)))
 (.seq (.reg [Jm 25 1,
 Jm 0 25])
 .ret))))),
 [], true⟩
def a118_0 : ACode := (.seq (.reg [Ji 9 (.bin .lss (.t 8) (.t 7))])
 (.seq (.cond (.t 9) .skip
 (.exit 0))
 (.seq (.block 1 (.seq (.reg [Jm 10 8,
 Jm 5 10])
 (.seq (.reg [Jm 11 1,
 Jm 12 0,
 Jm 13 5,
 Jx 14 9 12 13,
 Jo 15 9 14,
 Ji 16 (.call (.t 11) [(.t 15)])])
 (.cond (.t 16) (.seq (.reg [Jm 17 5,
 Jm 4 17])
 .ret)
 .skip))))
 (.reg [Ja 18 8,
 Jm 8 18]))))
def a118 : AFunc := ⟨19, [.tmp 4],
 (.seq (.reg [Ji 4 (.mov (Jk 0))])
 (.seq (.seq (.reg [Jm 6 0,
 Jn 7 6,
 Ji 8 (.mov (Jk 0))])
 (.block 0 (.loop a118_0)))
 (.seq (.reg [Ji 4 (.mov (.k (.int .i64 (-1))))])
 .ret))),
 [], false⟩
def a119 : AFunc := ⟨85, [.tmp 4],
 (.seq (.reg [Ji 2 (.box 9 (.t 0) false),
 Ji 3 (.box 1 (.t 1) false),
 Ji 4 (.mov (.k (.bool false)))])
 (.seq (.seq (.reg [Jd 8 0 2,
 Jl 9 8,
 Ji 10 (.bin .lss (.t 9) (Jk 1)),
 Jm 11 10,
 Jh 12 11 (.fieldAddr 0 1 false (.t 2)),
 Jh 13 11 (.load 1 false (.t 12)),
 Jh 14 11 (.bin .gtr (.t 13) (Jk 21)),
 Ji 15 (.pick (.t 11) (.k (.bool true)) (.t 14))])
 (.cond (.t 15) (.seq (.reg [Ji 4 (.mov (.k (.bool false)))])
 .ret)
 .skip))
 (.seq (.reg [Jd 16 0 2,
 Jl 17 16,
 Je 18 17 3,
 Jm 19 18,
 Jh 20 19 (.fieldAddr 0 1 false (.t 2)),
 Jh 21 19 (.load 1 false (.t 20)),
 Jh 22 19 (.bin .eql (.t 21) (Jk 19)),
 Ji 23 (.pick (.t 19) (.k (.bool true)) (.t 22)),
 Jm 24 23,
 Jh 25 24 (.fieldAddr 0 1 false (.t 2)),
 Jh 26 24 (.load 1 false (.t 25)),
 Jh 27 24 (.bin .eql (.t 26) (Jk 20)),
 Ji 28 (.pick (.t 24) (.k (.bool true)) (.t 27)),
 Jm 5 28])
 (.seq (.reg [Jd 29 0 2,
 Jl 30 29,
 Je 31 30 1,
 Jm 32 31,
 Jh 33 32 (.fieldAddr 0 1 false (.t 2)),
 Jh 34 32 (.load 1 false (.t 33)),
 Jh 35 32 (.bin .eql (.t 34) (Jk 2)),
 Ji 36 (.pick (.t 32) (.k (.bool true)) (.t 35)),
 Jm 6 36])
 (.seq (.reg [Ji 37 (.mkFunc 142 [] [(.t 3)]),
 Jm 7 37])
 (.seq (.block 0 (.seq (.plan [Js 0 (Jo 39 9 2),
 Js 1 (Jo 40 9 2),
 Js 2 (Jm 41 5),
 Js 3 (Jd 42 0 2),
 Js 4 (Jl 43 42),
 Js 5 (Je 44 43 20),
 Js 6 (Jm 45 6),
 ⟨7, Ji 46 (.call (Jf 144) [(.t 40), (.t 41), (.t 44), (.t 45)]), [0]⟩,
 ⟨8, Ji 47 (.call (Jf 143) [(.t 39), (.t 46)]), []⟩,
 Js 9 (Ji 48 (.un .not (.t 47))),
 Js 10 (Jm 49 48),
 Js 11 (Jh 50 49 (.load 9 true (.t 2))),
 Js 13 (Jh 52 49 (.mov (.t 7))),
 ⟨12, Jh 51 49 (.call (Jf 134) [(.t 50)]), []⟩,
 ⟨14, Jh 53 49 (.call (Jf 145) [(.t 51), (.t 52)]), []⟩,
 Js 15 (Ji 54 (.pick (.t 49) (.k (.bool true)) (.t 53))),
 Js 16 (Jm 38 54)])
 (.cond (.t 38) (.seq (.reg [Ji 4 (.mov (.k (.bool false)))])
 .ret)
 (.seq (.reg [Jm 56 5,
 Jm 57 56,
 Jg 58 57 (.fieldAddr 4 1 false (.t 2)),
 Jg 59 57 (.load 1 false (.t 58)),
 Jg 60 57 (.bin .eql (.t 59) (.k (.str []))),
 Ji 61 (.pick (.t 57) (.t 60) (.k (.bool false))),
 Jm 62 61,
 Jh 63 62 (.fieldAddr 0 1 false (.t 2)),
 Jh 64 62 (.load 1 false (.t 63)),
 Jh 65 62 (.bin .eql (.t 64) (Jk 20)),
 Jh 66 62 (.mov (.t 65)),
 Jg 67 66 (.fieldAddr 5 1 false (.t 2)),
 Jg 68 66 (.load 1 false (.t 67)),
 Jg 69 66 (.bin .eql (.t 68) (.k (.str []))),
 Jh 70 62 (.pick (.t 66) (.t 69) (.k (.bool false))),
 Ji 71 (.pick (.t 62) (.k (.bool true)) (.t 70)),
 Jm 55 71])
 (.cond (.t 55) (.seq (.reg [Ji 4 (.mov (.k (.bool false)))])
 .ret)
 .skip)))))
 (.seq (.reg [Jd 72 6 2,
 Jl 73 72,
 Ji 74 (.bin .geq (.t 73) (Jk 0)),
 Jm 75 74,
 Jg 76 75 (.fieldAddr 0 1 false (.t 2)),
 Jg 77 75 (.load 1 false (.t 76)),
 Jg 78 75 (.bin .neq (.t 77) (Jk 2)),
 Jg 79 75 (.mov (.t 78)),
 Jh 80 79 (.fieldAddr 6 1 false (.t 2)),
 Jh 81 79 (.load 1 false (.t 80)),
 Jh 82 79 (.bin .leq (.t 81) (Jk 1)),
 Jg 83 75 (.pick (.t 79) (.k (.bool true)) (.t 82)),
 Ji 84 (.pick (.t 75) (.t 83) (.k (.bool false))),
 Jm 4 84])
 .ret))))))),
 [], false⟩
def a120 : AFunc := ⟨8, [.tmp 3],
 (.seq (.reg [Ji 2 (.box 7 (.t 0) false),
 Ji 3 (.mov (.k (.bool false)))])
 (.seq (.reg [Jo 4 2 1,
 Jo 5 7 2,
 Ji 6 (.call (Jf 121) [(.t 4), (.t 5)]),
 Ji 7 (.un .not (.t 6)),
 Jm 3 7])
 .ret)),
 [], true⟩
def a121 : AFunc := ⟨23, [.tmp 4],
 (.seq (.reg [Ji 2 (.box 2 (.t 0) false),
 Ji 3 (.box 7 (.t 1) false),
 Ji 4 (.mov (.k (.bool false)))])
 (.seq (.seq (.reg [Jo 5 2 2,
 Jd 6 5 3,
 Jl 7 6,
 Jd 8 0 3,
 Jl 9 8,
 Je 10 9 1,
 Jm 11 10,
 Jh 12 11 (.fieldAddr 0 1 false (.t 3)),
 Jh 13 11 (.load 1 false (.t 12)),
 Jh 14 11 (.bin .eql (.t 13) (Jk 2)),
 Ji 15 (.pick (.t 11) (.k (.bool true)) (.t 14)),
 Ji 16 (.call (Jf 146) [(.t 5), (.t 7), (.t 15)]),
 Ji 17 (.un .not (.t 16))])
 (.cond (.t 17) (.seq (.reg [Ji 4 (.mov (.k (.bool false)))])
 .ret)
 .skip))
 (.seq (.reg [Jd 18 3 3,
 Jl 19 18,
 Ji 20 (.mkFunc 147 [] [(.t 2)]),
 Ji 21 (.call (Jf 79) [(.t 19), (.t 20)]),
 Ji 22 (.un .not (.t 21)),
 Jm 4 22])
 .ret))),
 [], false⟩
def a122_0 : ACode := (.seq (.reg [Ji 8 (.bin .lss (.t 7) (.t 6))])
 (.seq (.cond (.t 8) .skip
 (.exit 0))
 (.seq (.block 1 (.seq (.reg [Jm 9 7,
 Ji 10 (.indexAddr 1 false none (.t 5) (.t 7)),
 Jl 11 10,
 Jm 3 9,
 Jm 4 11])
 (.seq (.reg [Jm 12 0,
 Jm 13 3,
 Ji 14 (.sliceLst 1 (.t 12) none (some (.t 13)) none),
 Jm 15 4,
 Ji 16 (.call (Jf 149) [(.t 14), (.t 15)])])
 (.cond (.t 16) (.seq (.reg [Ji 2 (.mov (.k (.bool true)))])
 .ret)
 .skip))))
 (.reg [Ja 17 7,
 Jm 7 17]))))
def a122 : AFunc := ⟨18, [.tmp 2],
 (.seq (.reg [Ji 2 (.mov (.k (.bool false)))])
 (.seq (.seq (.reg [Jm 5 0,
 Jn 6 5,
 Ji 7 (.mov (Jk 0))])
 (.block 0 (.loop a122_0)))
 (.seq (.reg [Ji 2 (.mov (.k (.bool false)))])
 .ret))),
 [], false⟩
def a123 : AFunc := ⟨60, [.tmp 6],
 (.seq (.reg [Ji 3 (.box 7 (.t 0) false),
 Ji 5 (.box 9 (.t 2) false),
 Ji 6 (.mov (.k (.bool false)))])
 (.seq (.reg [Jm 9 1,
 Jd 10 1 5,
 Jl 11 10,
 Ji 12 (.lookup 1 (.agg [(.str []), (.int .i64 0), (.int .i64 0), (.int .i64 0)]) false (.t 9) (.t 11)),
 Ji 13 (.field 1 1 false (.t 12)),
 Jm 7 13])
 (.seq (.seq (.reg [Jd 14 0 5,
 Jl 15 14])
 (.block 0 (.seq (.reg [Je 17 15 3,
 Jm 16 17])
 (.cond (.t 16) (.seq (.reg [Jm 18 7,
 Ji 19 (.bin .neq (.t 18) (Jk 3)),
 Jm 6 19])
 .ret)
 (.seq (.reg [Je 21 15 5,
 Jm 20 21])
 (.cond (.t 20) (.seq (.reg [Jm 22 7,
 Ji 23 (.bin .neq (.t 22) (Jk 4)),
 Jm 6 23])
 .ret)
 (.seq (.reg [Je 25 15 7,
 Jm 24 25])
 (.cond (.t 24) (.seq (.reg [Jo 26 7 3,
 Jm 27 1,
 Jd 28 1 5,
 Jl 29 28,
 Ji 30 (.call (Jf 150) [(.t 26), (.t 27), (.t 29)]),
 Jm 8 30])
 (.seq (.reg [Jm 31 8,
 Jd 32 6 5,
 Jl 33 32,
 Ji 34 (.call (Jf 149) [(.t 31), (.t 33)]),
 Ji 35 (.un .not (.t 34)),
 Jm 36 35,
 Jh 37 36 (.mov (.t 8)),
 Jh 38 36 (.fieldAddr 7 1 false (.t 5)),
 Jh 39 36 (.load 1 false (.t 38)),
 Jh 40 36 (.call (Jf 149) [(.t 37), (.t 39)]),
 Jh 41 36 (.un .not (.t 40)),
 Ji 42 (.pick (.t 36) (.k (.bool true)) (.t 41)),
 Jm 6 42])
 .ret))
 (.seq (.reg [Je 44 15 8,
 Jm 43 44])
 (.cond (.t 43) (.seq (.reg [Jm 45 7,
 Ji 46 (.bin .neq (.t 45) (Jk 2)),
 Jm 47 46,
 Jg 48 47 (.mov (.t 7)),
 Jg 49 47 (.bin .neq (.t 48) (Jk 3)),
 Ji 50 (.pick (.t 47) (.t 49) (.k (.bool false))),
 Jm 51 50,
 Jg 52 51 (.mov (.t 7)),
 Jg 53 51 (.bin .neq (.t 52) (Jk 4)),
 Ji 54 (.pick (.t 51) (.t 53) (.k (.bool false))),
 Jm 6 54])
 .ret)
 (.seq (.reg [Je 56 15 6,
 Jm 55 56])
 (.cond (.t 55) (.seq (.reg [Jd 57 5 5,
 Jl 58 57,
 Ji 59 (.call (Jf 122) [(.t 58)]),
 Jm 6 59])
 .ret)
 .skip))))))))))))
 (.seq (.reg [Ji 6 (.mov (.k (.bool false)))])
 .ret)))),
 [], false⟩
def a124_0 : ACode := (.seq (.reg [Ji 40 (.bin .lss (.t 39) (.t 38))])
 (.seq (.cond (.t 40) .skip
 (.exit 4))
 (.seq (.block 5 (.seq (.reg [Ji 41 (.indexAddr 1 false none (.t 37) (.t 39)),
 Jl 42 41,
 Jm 11 42])
 (.reg [Jl 43 5,
 Jm 44 11,
 Ji 45 (.indexAddr 1 false none (.t 43) (.t 44)),
 ⟨none, .store 1 (.t 45) (.k (.bool true)), none⟩])))
 (.reg [Ja 46 39,
 Jm 39 46]))))
def a124_1 : ACode := (.seq (.reg [Ji 20 (.bin .lss (.t 19) (.t 18))])
 (.seq (.cond (.t 20) .skip
 (.exit 0))
 (.seq (.block 1 (.seq (.reg [Ji 21 (.indexAddr 1 false none (.t 17) (.t 19)),
 Jl 22 21,
 Jm 7 22])
 (.reg [Jl 23 5,
 Jm 24 7,
 Ji 25 (.indexAddr 1 false none (.t 23) (.t 24)),
 ⟨none, .store 1 (.t 25) (.k (.bool true)), none⟩])))
 (.reg [Ja 26 19,
 Jm 19 26]))))
def a124 : AFunc := ⟨48, [.tmp 4],
 (.seq (.reg [Ji 2 (.box 2 (.t 0) false),
 Ji 3 (.box 7 (.t 1) false),
 Ji 4 (.mov (.k (.lst 1 [] .tight)))])
 (.seq (.reg [Jd 12 1 2,
 Jl 13 12,
 Jn 14 13,
 Ji 15 (.mkSlice 1 1 [(.bool false)] (.t 14) (.t 14) false),
 Ji 5 (.new (.lst 1 [] .tight) true none),
 ⟨none, .store 1 (.t 5) (.t 15), none⟩])
 (.seq (.seq (.reg [Jo 16 7 3,
 Ji 17 (.call (Jf 62) [(.t 16)]),
 Jn 18 17,
 Ji 19 (.mov (Jk 0))])
 (.block 0 (.loop a124_1)))
 (.seq (.seq (.reg [Jd 27 1 2,
 Jl 28 27,
 Ji 29 (.call (Jf 151) [(.t 28)])])
 (.block 2 (.rangeFunc (.t 29) [30, 31] 0)))
 (.seq (.reg [Jl 47 5,
 Jm 4 47])
 .ret))))),
 [((.seq (.reg [Jm 8 30])
 (.reg [Ji 9 (.new (.agg [(.int .i64 0), (.int .i64 0), (.int .i64 0), (.int .i64 0), (.str []), (.str []), (.int .i64 0), (.lst 1 [] .tight), (.int .i64 0)]) true none),
 ⟨none, .store 9 (.t 9) (.t 31), none⟩])), (.block 3 (.seq (.reg [Jl 32 5,
 Jm 33 8,
 Ji 34 (.indexAddr 1 false none (.t 32) (.t 33)),
 Jl 35 34])
 (.cond (.t 35) (.seq (.reg [Jo 36 9 9,
 Ji 37 (.call (Jf 134) [(.t 36)]),
 Jn 38 37,
 Ji 39 (.mov (Jk 0))])
 (.block 4 (.loop a124_0)))
 .skip))))], false⟩
def a125 : AFunc := ⟨71, [.tmp 8],
 (.seq (.reg [Ji 4 (.box 2 (.t 0) false),
 Ji 5 (.box 7 (.t 1) false),
 Ji 7 (.box 9 (.t 3) false),
 Ji 8 (.mov (.k (.bool false)))])
 (.seq (.seq (.reg [Jd 12 0 7,
 Jl 13 12])
 (.block 0 (.seq (.reg [Je 15 13 3,
 Jm 14 15])
 (.cond (.t 14) (.seq (.reg [Jm 17 2,
 Jd 18 4 7,
 Jl 19 18,
 Ji 20 (.lookup 1 (.agg [(.str []), (.int .i64 0), (.int .i64 0), (.int .i64 0)]) true (.t 17) (.t 19)),
 Jm 16 20,
 Ji 21 (.extract (.t 16) 0),
 Ji 22 (.extract (.t 16) 1),
 Ji 9 (.new (.agg [(.str []), (.int .i64 0), (.int .i64 0), (.int .i64 0)]) true none),
 ⟨none, .store 4 (.t 9) (.t 21), none⟩,
 Jm 10 22])
 (.seq (.reg [Jm 23 10,
 Ji 24 (.un .not (.t 23)),
 Jm 25 24,
 Jh 26 25 (.fieldAddr 1 1 false (.t 9)),
 Jh 27 25 (.load 1 false (.t 26)),
 Jh 28 25 (.bin .eql (.t 27) (Jk 5)),
 Ji 29 (.pick (.t 25) (.k (.bool true)) (.t 28)),
 Jm 8 29])
 .ret))
 (.seq (.reg [Je 31 13 20,
 Jm 30 31])
 (.cond (.t 30) (.seq (.plan [Js 0 (Jo 32 7 5),
 Js 1 (Jm 33 2),
 Js 2 (Jd 34 4 7),
 Js 3 (Jl 35 34),
 Js 5 (Jd 37 5 7),
 Js 6 (Jl 38 37),
 ⟨4, Ji 36 (.call (Jf 150) [(.t 32), (.t 33), (.t 35)]), [6]⟩,
 ⟨7, Ji 39 (.call (Jf 149) [(.t 36), (.t 38)]), []⟩,
 Js 8 (Ji 40 (.un .not (.t 39))),
 Js 9 (Jm 8 40)])
 .ret)
 (.seq (.reg [Je 42 13 19,
 Jm 41 42])
 (.cond (.t 41) (.seq (.reg [Jo 43 2 4,
 Jd 44 4 7,
 Jl 45 44,
 Ji 46 (.call (Jf 63) [(.t 43), (.t 45)]),
 Jm 11 46])
 (.seq (.plan [Js 0 (Jm 47 11),
 Js 1 (Ji 48 (.bin .lss (.t 47) (Jk 0))),
 Js 2 (Jm 49 48),
 Js 3 (Jh 50 49 (.fieldAddr 0 1 false (.t 4))),
 Js 4 (Jh 51 49 (.load 1 false (.t 50))),
 Js 5 (Jh 52 49 (.mov (.t 11))),
 Js 6 (Jh 53 49 (.indexAddr 7 true none (.t 51) (.t 52))),
 Js 7 (Jh 54 49 (.fieldAddr 0 1 false (.t 53))),
 Js 8 (Jh 55 49 (.load 1 false (.t 54))),
 Js 9 (Jh 56 49 (.bin .eql (.t 55) (Jk 3))),
 Js 10 (Ji 57 (.pick (.t 49) (.k (.bool true)) (.t 56))),
 Js 11 (Jm 58 57),
 Js 12 (Jh 59 58 (.fieldAddr 0 1 false (.t 4))),
 Js 13 (Jh 60 58 (.load 1 false (.t 59))),
 Js 14 (Jh 61 58 (.mov (.t 11))),
 Js 15 (Jh 62 58 (.indexAddr 7 true none (.t 60) (.t 61))),
 Js 16 (Jh 63 58 (.fieldAddr 2 1 false (.t 62))),
 Js 17 (Jh 64 58 (.load 1 false (.t 63))),
 Js 18 (Jh 65 58 (.lenSl (.t 64))),
 Js 19 (Jh 66 58 (.fieldAddr 7 1 false (.t 7))),
 Js 20 (Jh 67 58 (.load 1 false (.t 66))),
 Js 21 (Jh 68 58 (.lenSl (.t 67))),
 Js 22 (Jh 69 58 (.bin .neq (.t 65) (.t 68))),
 Js 23 (Ji 70 (.pick (.t 58) (.k (.bool true)) (.t 69))),
 Js 24 (Jm 8 70)])
 .ret))
 .skip))))))))
 (.seq (.reg [Ji 8 (.mov (.k (.bool false)))])
 .ret))),
 [], false⟩
def a126 : AFunc := ⟨21, [.tmp 2],
 (.seq (.reg [Ji 2 (.mov (.k (.bool false)))])
 (.seq (.reg [Jm 3 0,
 Ji 4 (.bin .geq (.t 3) (.k (.int .u8 65))),
 Jm 5 4,
 Jg 6 5 (.mov (.t 0)),
 Jg 7 5 (.bin .leq (.t 6) (.k (.int .u8 90))),
 Ji 8 (.pick (.t 5) (.t 7) (.k (.bool false))),
 Jm 9 8,
 Jh 10 9 (.mov (.t 0)),
 Jh 11 9 (.bin .geq (.t 10) (.k (.int .u8 97))),
 Jh 12 9 (.mov (.t 11)),
 Jg 13 12 (.mov (.t 0)),
 Jg 14 12 (.bin .leq (.t 13) (.k (.int .u8 122))),
 Jh 15 9 (.pick (.t 12) (.t 14) (.k (.bool false))),
 Ji 16 (.pick (.t 9) (.k (.bool true)) (.t 15)),
 Jm 17 16,
 Jh 18 17 (.mov (.t 0)),
 Jh 19 17 (.bin .eql (.t 18) (.k (.int .u8 95))),
 Ji 20 (.pick (.t 17) (.k (.bool true)) (.t 19)),
 Jm 2 20])
 .ret)),
 [], false⟩
def a127 : AFunc := ⟨9, [.tmp 2],
 (.seq (.reg [Ji 2 (.mov (.k (.bool false)))])
 (.seq (.reg [Jm 3 0,
 Ji 4 (.bin .geq (.t 3) (.k (.int .u8 48))),
 Jm 5 4,
 Jg 6 5 (.mov (.t 0)),
 Jg 7 5 (.bin .leq (.t 6) (.k (.int .u8 57))),
 Ji 8 (.pick (.t 5) (.t 7) (.k (.bool false))),
 Jm 2 8])
 .ret)),
 [], false⟩
def a128_0 : ACode := (.seq (.seq (.reg [Jm 6 4,
 Jm 7 3,
 Jn 8 7,
 Ji 9 (.bin .lss (.t 6) (.t 8))])
 (.cond (.t 9) .skip
 (.exit 0)))
 (.seq (.block 1 (.seq (.reg [Jm 12 3,
 Jm 13 4,
 Ji 14 (.indexAddr 1 false none (.t 12) (.t 13)),
 Jl 15 14,
 Jm 16 0,
 Ji 17 (.bin .eql (.t 15) (.t 16))])
 (.cond (.t 17) (.seq (.reg [Ji 2 (.mov (.k (.bool true)))])
 .ret)
 .skip)))
 (.reg [Jm 10 4,
 Ja 11 10,
 Jm 4 11])))
def a128 : AFunc := ⟨18, [.tmp 2],
 (.seq (.reg [Ji 2 (.mov (.k (.bool false)))])
 (.seq (.reg [Ji 5 (.mkLit 1 [(.str []), (.str []), (.str []), (.str []), (.str []), (.str []), (.str []), (.str []), (.str []), (.str []), (.str []), (.str []), (.str []), (.str []), (.str []), (.str []), (.str []), (.str []), (.str []), (.str []), (.str []), (.str []), (.str []), (.str []), (.str []), (.str []), (.str []), (.str []), (.str []), (.str [])] [(0, 1, (.k (.str [102, 117, 110]))), (1, 1, (.k (.str [110, 111, 100, 101]))), (2, 1, (.k (.str [104, 121, 98, 114, 105, 100]))), (3, 1, (.k (.str [108, 101, 116]))), (4, 1, (.k (.str [100, 101, 114]))), (5, 1, (.k (.str [105, 110, 105, 116]))), (6, 1, (.k (.str [114, 101, 115, 101, 116]))), (7, 1, (.k (.str [111, 110]))), (8, 1, (.k (.str [117, 112]))), (9, 1, (.k (.str [109, 101, 109]))), (10, 1, (.k (.str [109, 111, 100, 101]))), (11, 1, (.k (.str [102, 114, 111, 109]))), (12, 1, (.k (.str [103, 111, 116, 111]))), (13, 1, (.k (.str [111, 117, 116]))), (14, 1, (.k (.str [105, 102]))), (15, 1, (.k (.str [116, 104, 101, 110]))), (16, 1, (.k (.str [101, 108, 115, 101]))), (17, 1, (.k (.str [112, 114, 101]))), (18, 1, (.k (.str [102, 98, 121]))), (19, 1, (.k (.str [116, 114, 117, 101]))), (20, 1, (.k (.str [102, 97, 108, 115, 101]))), (21, 1, (.k (.str [110, 111, 116]))), (22, 1, (.k (.str [97, 110, 100]))), (23, 1, (.k (.str [111, 114]))), (24, 1, (.k (.str [105, 115]))), (25, 1, (.k (.str [115, 113, 114, 116]))), (26, 1, (.k (.str [114, 101, 116, 117, 114, 110]))), (27, 1, (.k (.str [115, 101, 116]))), (28, 1, (.k (.str [102, 105, 120]))), (29, 1, (.k (.str [98, 111, 111, 108])))] false),
 Jm 3 5])
 (.seq (.seq (.reg [Ji 4 (.mov (Jk 0))])
 (.block 0 (.loop a128_0)))
 (.seq (.reg [Ji 2 (.mov (.k (.bool false)))])
 .ret)))),
 [], false⟩
def a129 : AFunc := ⟨47, [.tmp 2, .tmp 3],
 (.seq (.reg [Ji 2 (.mov (Jk 0)),
 Ji 3 (.mov (.k (.bool false)))])
 (.seq (.seq (.reg [Jm 8 0,
 Ji 9 (.lenStr (.t 8)),
 Ji 10 (.bin .gtr (.t 9) (Jk 0)),
 Jm 11 10,
 Jg 12 11 (.mov (.t 0)),
 Jg 13 11 (.indexStr (.t 12) (Jk 0)),
 Jg 14 11 (.bin .eql (.t 13) (.k (.int .u8 45))),
 Ji 15 (.pick (.t 11) (.t 14) (.k (.bool false)))])
 (.cond (.t 15) (.seq (.seq (.reg [Jm 16 0,
 Ji 17 (.sliceStr (.t 16) (some (Jk 1)) none),
 Ji 18 (.call (Jf 152) [(.t 17)]),
 Ji 19 (.un .not (.t 18))])
 (.cond (.t 19) (.seq (.reg [Ji 2 (.mov (Jk 0)),
 Ji 3 (.mov (.k (.bool false)))])
 .ret)
 .skip))
 (.seq (.reg [Jm 21 0,
 Ji 22 (.sliceStr (.t 21) (some (Jk 1)) none),
 Ji 23 (.call (Jf 153) [(.t 22)]),
 Jm 20 23,
 Ji 24 (.extract (.t 20) 0),
 Ji 25 (.extract (.t 20) 1),
 Jm 4 24,
 Jm 5 25])
 (.seq (.seq (.reg [Jm 26 5])
 (.cond (.t 26) (.seq (.reg [Ji 2 (.mov (Jk 0)),
 Ji 3 (.mov (.k (.bool false)))])
 .ret)
 .skip))
 (.seq (.seq (.reg [Jm 27 4,
 Ji 28 (.bin .eql (.t 27) (.k (.int .u64 9223372036854775808)))])
 (.cond (.t 28) (.seq (.reg [Ji 2 (.mov (.k (.int .i64 (-9223372036854775808)))),
 Ji 3 (.mov (.k (.bool true)))])
 .ret)
 .skip))
 (.seq (.reg [Jm 29 4,
 Ji 30 (.convInt .i64 (.t 29)),
 Ji 31 (.un .neg (.t 30)),
 Jm 2 31,
 Ji 3 (.mov (.k (.bool true)))])
 .ret)))))
 .skip))
 (.seq (.seq (.reg [Jm 32 0,
 Ji 33 (.call (Jf 152) [(.t 32)]),
 Ji 34 (.un .not (.t 33))])
 (.cond (.t 34) (.seq (.reg [Ji 2 (.mov (Jk 0)),
 Ji 3 (.mov (.k (.bool false)))])
 .ret)
 .skip))
 (.seq (.reg [Jm 36 0,
 Ji 37 (.call (Jf 153) [(.t 36)]),
 Jm 35 37,
 Ji 38 (.extract (.t 35) 0),
 Ji 39 (.extract (.t 35) 1),
 Jm 6 38,
 Jm 7 39])
 (.seq (.seq (.reg [Jm 40 7,
 Jm 41 40,
 Jh 42 41 (.mov (.t 6)),
 Jh 43 41 (.bin .eql (.t 42) (.k (.int .u64 9223372036854775808))),
 Ji 44 (.pick (.t 41) (.k (.bool true)) (.t 43))])
 (.cond (.t 44) (.seq (.reg [Ji 2 (.mov (Jk 0)),
 Ji 3 (.mov (.k (.bool false)))])
 .ret)
 .skip))
 (.seq (.reg [Jm 45 6,
 Ji 46 (.convInt .i64 (.t 45)),
 Jm 2 46,
 Ji 3 (.mov (.k (.bool true)))])
 .ret)))))),
 [], false⟩
def a130_0 : ACode := (.seq (.seq (.reg [Jm 25 8,
 Ji 26 (.bin .lss (.t 25) (Jk 4)),
 Jm 27 26,
 Jg 28 27 (.mov (.t 7)),
 Jg 29 27 (.bin .eql (.t 28) (Jk 0)),
 Ji 30 (.pick (.t 27) (.t 29) (.k (.bool false)))])
 (.cond (.t 30) .skip
 (.exit 0)))
 (.seq (.block 1 (.seq (.reg [Jm 33 0,
 Jm 34 5,
 Jm 35 8,
 Ji 36 (.indexAddr 1 false none (.t 34) (.t 35)),
 Jl 37 36,
 Ji 38 (.call (Jf 88) [(.t 33), (.t 37)])])
 (.cond (.t 38) (.reg [Jm 39 6,
 Jm 40 8,
 Ji 41 (.indexAddr 1 false none (.t 39) (.t 40)),
 Jl 42 41,
 Jm 7 42])
 .skip)))
 (.reg [Jm 31 8,
 Ja 32 31,
 Jm 8 32])))
def a130 : AFunc := ⟨63, [.tmp 2],
 (.seq (.reg [Ji 2 (.mov (Jk 0))])
 (.seq (.reg [Ji 3 (.mov (Jk 0))])
 (.seq (.seq (.reg [Jm 10 0,
 Ji 11 (.call (Jf 87) [(.t 10)])])
 (.cond (.t 11) (.seq (.plan [Js 0 (Jm 12 0),
 Js 1 (Ji 13 (.nilCheck (.t 12))),
 Js 2 (Jd 14 0 13),
 Js 3 (Jl 15 14),
 Js 4 (Jm 16 0),
 Js 5 (Ji 17 (.nilCheck (.t 16))),
 Js 6 (Jd 18 1 17),
 Js 7 (Jl 19 18),
 Js 8 (Jx 20 4 15 19),
 Js 9 (Jd 21 3 20),
 Js 10 (Jl 22 21),
 Js 11 (Jm 4 22)])
 (.seq (.reg [Ji 23 (.mkLit 1 [(.str []), (.str []), (.str []), (.str [])] [(0, 1, (.k (.str [45]))), (1, 1, (.k (.str [110, 111, 116]))), (2, 1, (.k (.str [112, 114, 101]))), (3, 1, (.k (.str [115, 113, 114, 116])))] false),
 Jm 5 23])
 (.seq (.reg [Ji 24 (.mkLit 1 [(.int .i64 0), (.int .i64 0), (.int .i64 0), (.int .i64 0)] [(0, 1, (Jk 4)), (1, 1, (Jk 5)), (2, 1, (Jk 16)), (3, 1, (Jk 21))] false),
 Jm 6 24])
 (.seq (.reg [Ji 7 (.mov (Jk 0))])
 (.seq (.seq (.reg [Ji 8 (.mov (Jk 0))])
 (.block 0 (.loop a130_0)))
 (.seq (.reg [Jm 43 7,
 Je 44 43 0])
 (.cond (.t 44) (.reg [Jm 45 0,
 Ji 46 (.call (Jf 154) [(.t 45)]),
 Jm 3 46])
 (.seq (.reg [Jm 47 0,
 Ji 48 (.call (Jf 130) [(.t 47)]),
 Jm 9 48])
 (.reg [Jm 49 0,
 Jm 50 7,
 Jm 51 9,
 Jm 52 4,
 Ji 53 (.build [(.int .i64 0), (.int .i64 0), (.int .i64 0), (.int .i64 0), (.str []), (.str []), (.int .i64 0), (.lst 1 [] .tight), (.int .i64 0)] [(0, 1, (.t 50)), (1, 1, (.t 51)), (8, 1, (.t 52))]),
 Ji 54 (.call (Jf 90) [(.t 49), (.t 53)]),
 Jm 3 54])))))))))
 .skip))
 (.seq (.reg [Jm 55 0,
 Ji 56 (.nilCheck (.t 55)),
 Jd 57 4 56,
 Jl 58 57,
 Ji 59 (.bin .sub (.t 58) (Jk 1)),
 Ji 60 (.nilCheck (.t 55)),
 Jd 61 4 60,
 ⟨none, .store 1 (.t 61) (.t 59), none⟩])
 (.seq (.reg [Jm 62 3,
 Jm 2 62])
 .ret))))),
 [], true⟩
def a131_0 : ACode := (.seq (.seq (.reg [Jm 11 7,
 Jm 12 4,
 Jn 13 12,
 Ji 14 (.bin .lss (.t 11) (.t 13))])
 (.cond (.t 14) .skip
 (.exit 0)))
 (.seq (.block 1 (.seq (.reg [Jm 17 0,
 Jm 18 4,
 Jm 19 7,
 Ji 20 (.indexAddr 1 false none (.t 18) (.t 19)),
 Jl 21 20,
 Ji 22 (.call (Jf 92) [(.t 17), (.t 21)])])
 (.cond (.t 22) (.seq (.plan [Js 0 (Jm 23 5),
 Js 1 (Jm 24 7),
 Js 2 (Ji 25 (.indexAddr 1 false none (.t 23) (.t 24))),
 Js 3 (Jl 26 25),
 Js 4 (Jm 27 6),
 Js 5 (Jm 28 7),
 Js 6 (Ji 29 (.indexAddr 1 false none (.t 27) (.t 28))),
 Js 7 (Jl 30 29),
 Js 8 (Jm 2 26),
 Js 9 (Jm 3 30)])
 .ret)
 .skip)))
 (.reg [Jm 15 7,
 Ja 16 15,
 Jm 7 16])))
def a131 : AFunc := ⟨31, [.tmp 2, .tmp 3],
 (.seq (.reg [Ji 2 (.mov (Jk 0)),
 Ji 3 (.mov (Jk 0))])
 (.seq (.reg [Ji 8 (.mkLit 1 [(.str []), (.str []), (.str []), (.str []), (.str []), (.str []), (.str []), (.str []), (.str [])] [(0, 1, (.k (.str [111, 114]))), (1, 1, (.k (.str [97, 110, 100]))), (2, 1, (.k (.str [60]))), (3, 1, (.k (.str [60, 61]))), (4, 1, (.k (.str [61, 61]))), (5, 1, (.k (.str [43]))), (6, 1, (.k (.str [45]))), (7, 1, (.k (.str [42]))), (8, 1, (.k (.str [47])))] false),
 Jm 4 8])
 (.seq (.reg [Ji 9 (.mkLit 1 [(.int .i64 0), (.int .i64 0), (.int .i64 0), (.int .i64 0), (.int .i64 0), (.int .i64 0), (.int .i64 0), (.int .i64 0), (.int .i64 0)] [(0, 1, (Jk 1)), (1, 1, (Jk 2)), (2, 1, (Jk 3)), (3, 1, (Jk 3)), (4, 1, (Jk 3)), (5, 1, (Jk 4)), (6, 1, (Jk 4)), (7, 1, (Jk 5)), (8, 1, (Jk 5))] false),
 Jm 5 9])
 (.seq (.reg [Ji 10 (.mkLit 1 [(.int .i64 0), (.int .i64 0), (.int .i64 0), (.int .i64 0), (.int .i64 0), (.int .i64 0), (.int .i64 0), (.int .i64 0), (.int .i64 0)] [(0, 1, (Jk 14)), (1, 1, (Jk 13)), (2, 1, (Jk 10)), (3, 1, (Jk 11)), (4, 1, (Jk 12)), (5, 1, (Jk 6)), (6, 1, (Jk 7)), (7, 1, (Jk 8)), (8, 1, (Jk 9))] false),
 Jm 6 10])
 (.seq (.seq (.reg [Ji 7 (.mov (Jk 0))])
 (.block 0 (.loop a131_0)))
 (.seq (.reg [Ji 2 (.mov (Jk 0)),
 Ji 3 (.mov (Jk 0))])
 .ret)))))),
 [], true⟩
def a132_0 : ACode := (.seq (.seq (.reg [Jm 136 0,
 Ji 137 (.call (Jf 88) [(.t 136), (.k (.str [44]))])])
 (.cond (.t 137) .skip
 (.exit 1)))
 (.block 2 (.plan [Js 0 (Jd 138 5 6),
 Js 1 (Jl 139 138),
 Js 2 (Jm 140 0),
 ⟨3, Ji 141 (.call (Jf 93) [(.t 140)]), [1]⟩,
 ⟨4, Ji 142 (.mkLit 1 [(.str [])] [(0, 1, (.t 141))] false), []⟩,
 Js 5 (Ji 143 (.append 1 16 (some 9) (.t 139) (.t 142))),
 Js 6 (Jd 144 5 6),
 ⟨7, ⟨none, .store 1 (.t 144) (.t 143), none⟩, []⟩])))
def a132 : AFunc := ⟨191, [.cell 4 9 true, .tmp 5],
 (.seq (.reg [Ji 4 (.new (.agg [(.int .i64 0), (.str []), (.int .i64 0), (.int .i64 0), (.int .i64 0), (.lst 1 [] .tight), (.str []), (.str []), (.int .i64 0)]) true none),
 Ji 5 (.mov (.k (.bool false)))])
 (.seq (.reg [Ji 6 (.new (.agg [(.int .i64 0), (.str []), (.int .i64 0), (.int .i64 0), (.int .i64 0), (.lst 1 [] .tight), (.str []), (.str []), (.int .i64 0)]) true none)])
 (.seq (.plan [Js 0 (Jm 7 0),
 Js 1 (Ji 8 (.nilCheck (.t 7))),
 Js 2 (Jd 9 0 8),
 Js 3 (Jl 10 9),
 Js 4 (Jm 11 0),
 Js 5 (Ji 12 (.nilCheck (.t 11))),
 Js 6 (Jd 13 1 12),
 Js 7 (Jl 14 13),
 Js 8 (Jx 15 4 10 14),
 Js 9 (Jd 16 3 15),
 Js 10 (Jl 17 16),
 Js 11 (Jd 18 8 6),
 ⟨12, ⟨none, .store 1 (.t 18) (.t 17), none⟩, []⟩])
 (.seq (.block 0 (.seq (.reg [Jm 21 0,
 Ji 22 (.call (Jf 88) [(.t 21), (.k (.str [108, 101, 116]))]),
 Jm 20 22])
 (.cond (.t 20) (.seq (.reg [Jd 23 0 6,
 ⟨none, .store 1 (.t 23) (Jk 1), none⟩])
 (.seq (.reg [Jm 24 0,
 Ji 25 (.call (Jf 93) [(.t 24)]),
 Jd 26 1 6,
 ⟨none, .store 1 (.t 26) (.t 25), none⟩])
 (.seq (.reg [Jm 27 0,
 Ji 28 (.call (Jf 89) [(.t 27), (.k (.str [58]))])])
 (.seq (.reg [Jm 29 0,
 Ji 30 (.call (Jf 96) [(.t 29)]),
 Jd 31 2 6,
 ⟨none, .store 1 (.t 31) (.t 30), none⟩])
 (.seq (.reg [Jm 32 0,
 Ji 33 (.call (Jf 89) [(.t 32), (.k (.str [61]))])])
 (.reg [Jm 34 0,
 Ji 35 (.call (Jf 56) [(.t 34)]),
 Jd 36 3 6,
 ⟨none, .store 1 (.t 36) (.t 35), none⟩]))))))
 (.seq (.reg [Jm 38 1,
 Jm 39 38,
 Jg 40 39 (.mov (.t 0)),
 Jg 41 39 (.call (Jf 88) [(.t 40), (.k (.str [100, 101, 114]))]),
 Ji 42 (.pick (.t 39) (.t 41) (.k (.bool false))),
 Jm 37 42])
 (.cond (.t 37) (.seq (.reg [Jd 43 0 6,
 ⟨none, .store 1 (.t 43) (Jk 2), none⟩])
 (.seq (.reg [Jm 44 0,
 Ji 45 (.call (Jf 93) [(.t 44)]),
 Jd 46 1 6,
 ⟨none, .store 1 (.t 46) (.t 45), none⟩])
 (.seq (.reg [Jm 47 0,
 Ji 48 (.call (Jf 89) [(.t 47), (.k (.str [61]))])])
 (.seq (.reg [Jm 49 0,
 Ji 50 (.call (Jf 56) [(.t 49)]),
 Jd 51 3 6,
 ⟨none, .store 1 (.t 51) (.t 50), none⟩])
 (.seq (.reg [Jm 52 0,
 Ji 53 (.call (Jf 89) [(.t 52), (.k (.str [105, 110, 105, 116]))])])
 (.reg [Jm 54 0,
 Ji 55 (.call (Jf 56) [(.t 54)]),
 Jd 56 4 6,
 ⟨none, .store 1 (.t 56) (.t 55), none⟩]))))))
 (.seq (.reg [Jm 58 1,
 Jm 59 58,
 Jg 60 59 (.mov (.t 0)),
 Jg 61 59 (.call (Jf 88) [(.t 60), (.k (.str [114, 101, 115, 101, 116]))]),
 Ji 62 (.pick (.t 59) (.t 61) (.k (.bool false))),
 Jm 57 62])
 (.cond (.t 57) (.seq (.reg [Jd 63 0 6,
 ⟨none, .store 1 (.t 63) (Jk 3), none⟩])
 (.seq (.reg [Jm 64 0,
 Ji 65 (.call (Jf 93) [(.t 64)]),
 Jd 66 1 6,
 ⟨none, .store 1 (.t 66) (.t 65), none⟩])
 (.seq (.reg [Jm 67 0,
 Ji 68 (.call (Jf 89) [(.t 67), (.k (.str [111, 110]))])])
 (.seq (.reg [Jm 69 0,
 Ji 70 (.call (Jf 56) [(.t 69)]),
 Jd 71 4 6,
 ⟨none, .store 1 (.t 71) (.t 70), none⟩])
 (.seq (.reg [Jm 72 0,
 Ji 73 (.call (Jf 89) [(.t 72), (.k (.str [61]))])])
 (.reg [Jm 74 0,
 Ji 75 (.call (Jf 56) [(.t 74)]),
 Jd 76 3 6,
 ⟨none, .store 1 (.t 76) (.t 75), none⟩]))))))
 (.seq (.reg [Jm 78 1,
 Jm 79 78,
 Jg 80 79 (.mov (.t 0)),
 Jg 81 79 (.call (Jf 88) [(.t 80), (.k (.str [109, 101, 109]))]),
 Ji 82 (.pick (.t 79) (.t 81) (.k (.bool false))),
 Jm 77 82])
 (.cond (.t 77) (.seq (.reg [Jd 83 0 6,
 ⟨none, .store 1 (.t 83) (Jk 4), none⟩])
 (.seq (.reg [Jm 84 0,
 Ji 85 (.call (Jf 93) [(.t 84)]),
 Jd 86 1 6,
 ⟨none, .store 1 (.t 86) (.t 85), none⟩])
 (.seq (.reg [Jm 87 0,
 Ji 88 (.call (Jf 89) [(.t 87), (.k (.str [58]))])])
 (.seq (.reg [Jm 89 0,
 Ji 90 (.call (Jf 96) [(.t 89)]),
 Jd 91 2 6,
 ⟨none, .store 1 (.t 91) (.t 90), none⟩])
 (.seq (.reg [Jm 92 0,
 Ji 93 (.call (Jf 89) [(.t 92), (.k (.str [105, 110, 105, 116]))])])
 (.reg [Jm 94 0,
 Ji 95 (.call (Jf 56) [(.t 94)]),
 Jd 96 3 6,
 ⟨none, .store 1 (.t 96) (.t 95), none⟩]))))))
 (.seq (.reg [Jm 98 1,
 Jm 99 98,
 Jg 100 99 (.mov (.t 0)),
 Jg 101 99 (.call (Jf 88) [(.t 100), (.k (.str [111, 110]))]),
 Ji 102 (.pick (.t 99) (.t 101) (.k (.bool false))),
 Jm 97 102])
 (.cond (.t 97) (.seq (.reg [Jd 103 0 6,
 ⟨none, .store 1 (.t 103) (Jk 5), none⟩])
 (.seq (.reg [Jm 104 0,
 Ji 105 (.call (Jf 56) [(.t 104)]),
 Jd 106 4 6,
 ⟨none, .store 1 (.t 106) (.t 105), none⟩])
 (.seq (.reg [Jm 107 0,
 Ji 108 (.call (Jf 89) [(.t 107), (.k (.str [115, 101, 116]))])])
 (.seq (.reg [Jm 109 0,
 Ji 110 (.call (Jf 93) [(.t 109)]),
 Jd 111 1 6,
 ⟨none, .store 1 (.t 111) (.t 110), none⟩])
 (.seq (.reg [Jm 112 0,
 Ji 113 (.call (Jf 89) [(.t 112), (.k (.str [61]))])])
 (.reg [Jm 114 0,
 Ji 115 (.call (Jf 56) [(.t 114)]),
 Jd 116 3 6,
 ⟨none, .store 1 (.t 116) (.t 115), none⟩]))))))
 (.seq (.reg [Jm 118 1,
 Jm 119 118,
 Jg 120 119 (.mov (.t 0)),
 Jg 121 119 (.call (Jf 88) [(.t 120), (.k (.str [109, 111, 100, 101]))]),
 Ji 122 (.pick (.t 119) (.t 121) (.k (.bool false))),
 Jm 117 122])
 (.cond (.t 117) (.seq (.reg [Jd 123 0 6,
 ⟨none, .store 1 (.t 123) (Jk 6), none⟩])
 (.seq (.reg [Jm 124 0,
 Ji 125 (.call (Jf 93) [(.t 124)]),
 Jd 126 1 6,
 ⟨none, .store 1 (.t 126) (.t 125), none⟩])
 (.seq (.reg [Jm 127 0,
 Ji 128 (.call (Jf 89) [(.t 127), (.k (.str [123]))])])
 (.seq (.plan [Js 0 (Jd 129 5 6),
 Js 1 (Jl 130 129),
 Js 2 (Jm 131 0),
 ⟨3, Ji 132 (.call (Jf 93) [(.t 131)]), [1]⟩,
 ⟨4, Ji 133 (.mkLit 1 [(.str [])] [(0, 1, (.t 132))] false), []⟩,
 Js 5 (Ji 134 (.append 1 16 (some 9) (.t 130) (.t 133))),
 Js 6 (Jd 135 5 6),
 ⟨7, ⟨none, .store 1 (.t 135) (.t 134), none⟩, []⟩])
 (.seq (.block 1 (.loop a132_0))
 (.reg [Jm 145 0,
 Ji 146 (.call (Jf 89) [(.t 145), (.k (.str [125]))])]))))))
 (.seq (.reg [Jm 148 1,
 Jm 149 148,
 Jg 150 149 (.mov (.t 0)),
 Jg 151 149 (.call (Jf 88) [(.t 150), (.k (.str [102, 114, 111, 109]))]),
 Ji 152 (.pick (.t 149) (.t 151) (.k (.bool false))),
 Jm 147 152])
 (.cond (.t 147) (.seq (.reg [Jd 153 0 6,
 ⟨none, .store 1 (.t 153) (Jk 7), none⟩])
 (.seq (.reg [Jm 154 0,
 Ji 155 (.call (Jf 93) [(.t 154)]),
 Jd 156 1 6,
 ⟨none, .store 1 (.t 156) (.t 155), none⟩])
 (.seq (.reg [Jm 157 0,
 Ji 158 (.call (Jf 89) [(.t 157), (.k (.str [46]))])])
 (.seq (.reg [Jm 159 0,
 Ji 160 (.call (Jf 93) [(.t 159)]),
 Jd 161 6 6,
 ⟨none, .store 1 (.t 161) (.t 160), none⟩])
 (.seq (.reg [Jm 162 0,
 Ji 163 (.call (Jf 89) [(.t 162), (.k (.str [111, 110]))])])
 (.seq (.reg [Jm 164 0,
 Ji 165 (.call (Jf 56) [(.t 164)]),
 Jd 166 4 6,
 ⟨none, .store 1 (.t 166) (.t 165), none⟩])
 (.seq (.reg [Jm 167 0,
 Ji 168 (.call (Jf 89) [(.t 167), (.k (.str [103, 111, 116, 111]))])])
 (.reg [Jm 169 0,
 Ji 170 (.call (Jf 93) [(.t 169)]),
 Jd 171 7 6,
 ⟨none, .store 1 (.t 171) (.t 170), none⟩]))))))))
 (.seq (.reg [Jm 173 1,
 Jm 174 173,
 Jg 175 174 (.mov (.t 0)),
 Jg 176 174 (.call (Jf 88) [(.t 175), (.k (.str [111, 117, 116]))]),
 Ji 177 (.pick (.t 174) (.t 176) (.k (.bool false))),
 Jm 172 177])
 (.cond (.t 172) (.seq (.reg [Jd 178 0 6,
 ⟨none, .store 1 (.t 178) (Jk 8), none⟩])
 (.reg [Jm 179 0,
 Ji 180 (.call (Jf 93) [(.t 179)]),
 Jd 181 1 6,
 ⟨none, .store 1 (.t 181) (.t 180), none⟩]))
 (.seq (.reg [Jo 19 9 6,
 ⟨none, .store 9 (.t 4) (.t 19), none⟩,
 Ji 5 (.mov (.k (.bool false)))])
 .ret))))))))))))))))))
 (.seq (.reg [Jm 182 0,
 Ji 183 (.call (Jf 89) [(.t 182), (.k (.str [59]))])])
 (.seq (.plan [Js 0 (Jo 184 9 6),
 Js 1 (Jm 185 0),
 Js 2 (Ji 186 (.nilCheck (.t 185))),
 Js 3 (Ji 187 (.fieldAddr 5 2 true (.t 186))),
 Js 4 (Jd 188 0 187),
 Js 5 (Jl 189 188),
 Js 6 (Je 190 189 0),
 ⟨7, ⟨none, .store 9 (.t 4) (.t 184), none⟩, [5]⟩,
 Js 8 (Jm 5 190)])
 .ret)))))),
 [], true⟩
def a133_0 : ACode := (.seq (.seq (.reg [Jm 7 3,
 Ji 8 (.bin .geq (.t 7) (Jk 0))])
 (.cond (.t 8) .skip
 (.exit 0)))
 (.seq (.block 1 (.seq (.reg [Jm 11 0,
 Jm 12 3,
 Jl 13 1,
 Jm 14 3,
 Jx 15 4 13 14,
 Jo 16 4 15,
 Ji 17 (.call (.t 11) [(.t 12), (.t 16)]),
 Ji 18 (.un .not (.t 17))])
 (.cond (.t 18) .ret
 .skip)))
 (.reg [Jm 9 3,
 Ji 10 (.bin .sub (.t 9) (Jk 1)),
 Jm 3 10])))
def a133 : AFunc := ⟨19, [],
 (.seq (.reg [Jl 4 1,
 Jn 5 4,
 Ji 6 (.bin .sub (.t 5) (Jk 1)),
 Jm 3 6])
 (.block 0 (.loop a133_0))),
 [], true⟩
def a134 : AFunc := ⟨67, [.tmp 2],
 (.seq (.reg [Ji 1 (.box 9 (.t 0) false),
 Ji 2 (.mov (.k (.lst 1 [] .tight)))])
 (.seq (.block 0 (.seq (.reg [Jd 4 0 1,
 Jl 5 4,
 Je 6 5 4,
 Jm 7 6,
 Jh 8 7 (.fieldAddr 0 1 false (.t 1)),
 Jh 9 7 (.load 1 false (.t 8)),
 Jh 10 7 (.bin .eql (.t 9) (Jk 5)),
 Ji 11 (.pick (.t 7) (.k (.bool true)) (.t 10)),
 Jm 12 11,
 Jh 13 12 (.fieldAddr 0 1 false (.t 1)),
 Jh 14 12 (.load 1 false (.t 13)),
 Jh 15 12 (.bin .eql (.t 14) (Jk 16)),
 Ji 16 (.pick (.t 12) (.k (.bool true)) (.t 15)),
 Jm 17 16,
 Jh 18 17 (.fieldAddr 0 1 false (.t 1)),
 Jh 19 17 (.load 1 false (.t 18)),
 Jh 20 17 (.bin .eql (.t 19) (Jk 21)),
 Ji 21 (.pick (.t 17) (.k (.bool true)) (.t 20)),
 Jm 3 21])
 (.cond (.t 3) (.seq (.reg [Jd 22 1 1,
 Jl 23 22,
 Ji 24 (.mkLit 1 [(.int .i64 0)] [(0, 1, (.t 23))] false),
 Jm 2 24])
 .ret)
 (.seq (.reg [Jd 26 0 1,
 Jl 27 26,
 Ji 28 (.bin .geq (.t 27) (Jk 6)),
 Jm 29 28,
 Jg 30 29 (.fieldAddr 0 1 false (.t 1)),
 Jg 31 29 (.load 1 false (.t 30)),
 Jg 32 29 (.bin .leq (.t 31) (Jk 14)),
 Ji 33 (.pick (.t 29) (.t 32) (.k (.bool false))),
 Jm 34 33,
 Jh 35 34 (.fieldAddr 0 1 false (.t 1)),
 Jh 36 34 (.load 1 false (.t 35)),
 Jh 37 34 (.bin .eql (.t 36) (Jk 17)),
 Ji 38 (.pick (.t 34) (.k (.bool true)) (.t 37)),
 Jm 39 38,
 Jh 40 39 (.fieldAddr 0 1 false (.t 1)),
 Jh 41 39 (.load 1 false (.t 40)),
 Jh 42 39 (.bin .eql (.t 41) (Jk 18)),
 Ji 43 (.pick (.t 39) (.k (.bool true)) (.t 42)),
 Jm 25 43])
 (.cond (.t 25) (.seq (.reg [Jd 44 1 1,
 Jl 45 44,
 Jd 46 2 1,
 Jl 47 46,
 Ji 48 (.mkLit 1 [(.int .i64 0), (.int .i64 0)] [(0, 1, (.t 45)), (1, 1, (.t 47))] false),
 Jm 2 48])
 .ret)
 (.seq (.reg [Jd 50 0 1,
 Jl 51 50,
 Je 52 51 15,
 Jm 49 52])
 (.cond (.t 49) (.seq (.reg [Jd 53 1 1,
 Jl 54 53,
 Jd 55 2 1,
 Jl 56 55,
 Jd 57 3 1,
 Jl 58 57,
 Ji 59 (.mkLit 1 [(.int .i64 0), (.int .i64 0), (.int .i64 0)] [(0, 1, (.t 54)), (1, 1, (.t 56)), (2, 1, (.t 58))] false),
 Jm 2 59])
 .ret)
 (.seq (.reg [Jd 61 0 1,
 Jl 62 61,
 Je 63 62 19,
 Jm 60 63])
 (.cond (.t 60) (.seq (.reg [Jd 64 7 1,
 Jl 65 64,
 Ji 66 (.call (Jf 155) [(.t 65)]),
 Jm 2 66])
 .ret)
 .skip)))))))))
 (.seq (.reg [Ji 2 (.mov (.k (.lst 1 [] .tight)))])
 .ret))),
 [], false⟩
def a135_0 : ACode := (.seq (.reg [Ji 69 (.bin .lss (.t 68) (.t 67))])
 (.seq (.cond (.t 69) .skip
 (.exit 1))
 (.seq (.block 2 (.seq (.reg [Jm 70 68,
 Jx 71 2 66 68,
 Jo 72 2 71,
 Ji 6 (.new (.agg [(.str []), (.int .i64 0)]) true none),
 Jm 5 70,
 ⟨none, .store 2 (.t 6) (.t 72), none⟩])
 (.seq (.plan [Js 0 (Jm 73 0),
 Js 1 (Jd 74 7 1),
 Js 2 (Jl 75 74),
 Js 3 (Jm 76 5),
 Js 4 (Ji 77 (.indexAddr 1 false none (.t 75) (.t 76))),
 Js 5 (Jl 78 77),
 Js 6 (Jd 79 1 6),
 Js 7 (Jl 80 79),
 ⟨8, Ji 81 (.call (.t 73) [(.t 78), (.t 80)]), []⟩,
 Js 9 (Ji 82 (.un .not (.t 81)))])
 (.cond (.t 82) .ret
 .skip))))
 (.reg [Ja 83 68,
 Jm 68 83]))))
def a135 : AFunc := ⟨84, [],
 (.seq (.reg [Jd 7 0 1,
 Jl 8 7])
 (.block 0 (.seq (.seq (.reg [Je 10 8 5,
 Jm 9 10])
 (.cond (.t 9) .skip
 (.seq (.reg [Je 11 8 13,
 Jm 9 11])
 (.cond (.t 9) .skip
 (.reg [Je 12 8 14,
 Jm 9 12])))))
 (.cond (.t 9) (.reg [Jo 13 9 1,
 Jm 14 0,
 Ji 15 (.call (Jf 136) [(.t 13), (Jk 2), (.t 14)])])
 (.seq (.seq (.reg [Je 17 8 4,
 Jm 16 17])
 (.cond (.t 16) .skip
 (.seq (.reg [Je 18 8 21,
 Jm 16 18])
 (.cond (.t 16) .skip
 (.seq (.reg [Je 19 8 6,
 Jm 16 19])
 (.cond (.t 16) .skip
 (.seq (.reg [Je 20 8 7,
 Jm 16 20])
 (.cond (.t 16) .skip
 (.seq (.reg [Je 21 8 8,
 Jm 16 21])
 (.cond (.t 16) .skip
 (.seq (.reg [Je 22 8 9,
 Jm 16 22])
 (.cond (.t 16) .skip
 (.seq (.reg [Je 23 8 10,
 Jm 16 23])
 (.cond (.t 16) .skip
 (.reg [Je 24 8 11,
 Jm 16 24])))))))))))))))
 (.cond (.t 16) (.reg [Jo 25 9 1,
 Jm 26 0,
 Ji 27 (.call (Jf 136) [(.t 25), (Jk 1), (.t 26)])])
 (.seq (.seq (.reg [Je 29 8 12,
 Jm 28 29])
 (.cond (.t 28) .skip
 (.seq (.reg [Je 30 8 17,
 Jm 28 30])
 (.cond (.t 28) .skip
 (.reg [Je 31 8 18,
 Jm 28 31])))))
 (.cond (.t 28) (.plan [Js 0 (Jm 32 0),
 Js 1 (Jd 33 2 1),
 Js 2 (Jl 34 33),
 Js 3 (Jl 35 2),
 Js 4 (Jd 36 1 1),
 Js 5 (Jl 37 36),
 Js 6 (Ji 38 (.indexAddr 1 false none (.t 35) (.t 37))),
 Js 7 (Jl 39 38),
 ⟨8, Ji 40 (.call (.t 32) [(.t 34), (.t 39)]), []⟩])
 (.seq (.reg [Je 42 8 15,
 Jm 41 42])
 (.cond (.t 41) (.seq (.reg [Jm 43 0,
 Jd 44 1 1,
 Jl 45 44,
 Ji 46 (.call (.t 43) [(.t 45), (Jk 2)])])
 (.cond (.t 46) (.plan [Js 0 (Jm 47 0),
 Js 1 (Jd 48 3 1),
 Js 2 (Jl 49 48),
 Js 3 (Jl 50 2),
 Js 4 (Jd 51 2 1),
 Js 5 (Jl 52 51),
 Js 6 (Ji 53 (.indexAddr 1 false none (.t 50) (.t 52))),
 Js 7 (Jl 54 53),
 ⟨8, Ji 55 (.call (.t 47) [(.t 49), (.t 54)]), []⟩])
 .skip))
 (.seq (.reg [Je 57 8 19,
 Jm 56 57])
 (.cond (.t 56) (.seq (.plan [Js 0 (Jd 58 0 3),
 Js 1 (Jl 59 58),
 Js 2 (Jo 60 2 3),
 Js 3 (Jd 61 4 1),
 Js 4 (Jl 62 61),
 Js 10 (Ji 68 (.mov (Jk 0))),
 ⟨5, Ji 63 (.call (Jf 28) [(.t 60), (.t 62)]), [1]⟩,
 Js 6 (Jx 64 7 59 63),
 Js 7 (Jd 65 2 64),
 Js 8 (Jl 66 65),
 Js 9 (Jn 67 66)])
 (.block 1 (.loop a135_0)))
 .skip)))))))))))),
 [], true⟩
def a136_0 : ACode := (.seq (.reg [Ji 12 (.bin .lss (.t 11) (.t 10))])
 (.seq (.cond (.t 12) .skip
 (.exit 0))
 (.seq (.block 1 (.seq (.reg [Ji 13 (.indexAddr 1 false none (.t 9) (.t 11)),
 Jl 14 13,
 Jm 7 14])
 (.seq (.reg [Jm 15 2,
 Jm 16 7,
 Jm 17 1,
 Ji 18 (.call (.t 15) [(.t 16), (.t 17)]),
 Ji 19 (.un .not (.t 18))])
 (.cond (.t 19) .ret
 .skip))))
 (.reg [Ja 20 11,
 Jm 11 20]))))
def a136 : AFunc := ⟨21, [],
 (.seq (.reg [Ji 3 (.box 9 (.t 0) false)])
 (.seq (.reg [Jo 8 9 3,
 Ji 9 (.call (Jf 134) [(.t 8)]),
 Jn 10 9,
 Ji 11 (.mov (Jk 0))])
 (.block 0 (.loop a136_0)))),
 [], true⟩
def a142 : AFunc := ⟨11, [.tmp 3],
 (.seq (.reg [Ji 3 (.mov (.k (.bool false)))])
 (.seq (.reg [Jm 4 0,
 Ji 5 (.bin .lss (.t 4) (Jk 0)),
 Jm 6 5,
 Jh 7 6 (.mov (.t 0)),
 Jh 8 6 (.load 1 false (.t 1)),
 Jh 9 6 (.bin .geq (.t 7) (.t 8)),
 Ji 10 (.pick (.t 6) (.k (.bool true)) (.t 9)),
 Jm 3 10])
 .ret)),
 [], true⟩
def a143 : AFunc := ⟨59, [.tmp 4],
 (.seq (.reg [Ji 2 (.box 9 (.t 0) false),
 Ji 3 (.box 9 (.t 1) false),
 Ji 4 (.mov (.k (.bool false)))])
 (.seq (.reg [Jd 5 0 2,
 Jl 6 5,
 Jd 7 0 3,
 Jl 8 7,
 Ji 9 (.bin .eql (.t 6) (.t 8)),
 Jm 10 9,
 Jg 11 10 (.fieldAddr 1 1 false (.t 2)),
 Jg 12 10 (.load 1 false (.t 11)),
 Jg 13 10 (.fieldAddr 1 1 false (.t 3)),
 Jg 14 10 (.load 1 false (.t 13)),
 Jg 15 10 (.bin .eql (.t 12) (.t 14)),
 Ji 16 (.pick (.t 10) (.t 15) (.k (.bool false))),
 Jm 17 16,
 Jg 18 17 (.fieldAddr 2 1 false (.t 2)),
 Jg 19 17 (.load 1 false (.t 18)),
 Jg 20 17 (.fieldAddr 2 1 false (.t 3)),
 Jg 21 17 (.load 1 false (.t 20)),
 Jg 22 17 (.bin .eql (.t 19) (.t 21)),
 Ji 23 (.pick (.t 17) (.t 22) (.k (.bool false))),
 Jm 24 23,
 Jg 25 24 (.fieldAddr 3 1 false (.t 2)),
 Jg 26 24 (.load 1 false (.t 25)),
 Jg 27 24 (.fieldAddr 3 1 false (.t 3)),
 Jg 28 24 (.load 1 false (.t 27)),
 Jg 29 24 (.bin .eql (.t 26) (.t 28)),
 Ji 30 (.pick (.t 24) (.t 29) (.k (.bool false))),
 Jm 31 30,
 Jg 32 31 (.fieldAddr 4 1 false (.t 2)),
 Jg 33 31 (.load 1 false (.t 32)),
 Jg 34 31 (.fieldAddr 4 1 false (.t 3)),
 Jg 35 31 (.load 1 false (.t 34)),
 Jg 36 31 (.bin .eql (.t 33) (.t 35)),
 Ji 37 (.pick (.t 31) (.t 36) (.k (.bool false))),
 Jm 38 37,
 Jg 39 38 (.fieldAddr 5 1 false (.t 2)),
 Jg 40 38 (.load 1 false (.t 39)),
 Jg 41 38 (.fieldAddr 5 1 false (.t 3)),
 Jg 42 38 (.load 1 false (.t 41)),
 Jg 43 38 (.bin .eql (.t 40) (.t 42)),
 Ji 44 (.pick (.t 38) (.t 43) (.k (.bool false))),
 Jm 45 44,
 Jg 46 45 (.fieldAddr 6 1 false (.t 2)),
 Jg 47 45 (.load 1 false (.t 46)),
 Jg 48 45 (.fieldAddr 6 1 false (.t 3)),
 Jg 49 45 (.load 1 false (.t 48)),
 Jg 50 45 (.bin .eql (.t 47) (.t 49)),
 Ji 51 (.pick (.t 45) (.t 50) (.k (.bool false))),
 Jm 52 51,
 Jg 53 52 (.fieldAddr 7 1 false (.t 2)),
 Jg 54 52 (.load 1 false (.t 53)),
 Jg 55 52 (.fieldAddr 7 1 false (.t 3)),
 Jg 56 52 (.load 1 false (.t 55)),
 Jg 57 52 (.call (Jf 157) [(.t 54), (.t 56)]),
 Ji 58 (.pick (.t 52) (.t 57) (.k (.bool false))),
 Jm 4 58])
 .ret)),
 [], false⟩
def a144 : AFunc := ⟨51, [.cell 8 9 true],
 (.seq (.reg [Ji 4 (.box 9 (.t 0) false),
 Ji 8 (.new (.agg [(.int .i64 0), (.int .i64 0), (.int .i64 0), (.int .i64 0), (.str []), (.str []), (.int .i64 0), (.lst 1 [] .tight), (.int .i64 0)]) true none)])
 (.seq (.reg [Jd 11 0 4,
 Jl 12 11,
 Jd 13 8 4,
 Jl 14 13,
 Ji 15 (.build [(.int .i64 0), (.int .i64 0), (.int .i64 0), (.int .i64 0), (.str []), (.str []), (.int .i64 0), (.lst 1 [] .tight), (.int .i64 0)] [(0, 1, (.t 12)), (8, 1, (.t 14))]),
 Ji 9 (.new (.agg [(.int .i64 0), (.int .i64 0), (.int .i64 0), (.int .i64 0), (.str []), (.str []), (.int .i64 0), (.lst 1 [] .tight), (.int .i64 0)]) true none),
 ⟨none, .store 9 (.t 9) (.t 15), none⟩])
 (.seq (.seq (.reg [Jo 16 9 4,
 Ji 17 (.call (Jf 134) [(.t 16)]),
 Jm 10 17])
 (.seq (.reg [Jd 18 0 4,
 Jl 19 18,
 Je 20 19 19])
 (.cond (.t 20) (.reg [Jm 21 10,
 Jd 22 7 9,
 ⟨none, .store 1 (.t 22) (.t 21), none⟩])
 (.seq (.reg [Jm 23 10,
 Ji 24 (.mkLit 1 [(.int .i64 0), (.int .i64 0), (.int .i64 0)] [(0, 1, (Jk 0)), (1, 1, (Jk 0)), (2, 1, (Jk 0))] false),
 Ji 25 (.append 1 8 (some 3) (.t 23) (.t 24)),
 Jm 10 25])
 (.plan [Js 0 (Jm 26 10),
 Js 1 (Ji 27 (.indexAddr 1 false none (.t 26) (Jk 0))),
 Js 2 (Jl 28 27),
 Js 3 (Jm 29 10),
 Js 4 (Ji 30 (.indexAddr 1 false none (.t 29) (Jk 1))),
 Js 5 (Jl 31 30),
 Js 6 (Jm 32 10),
 Js 7 (Ji 33 (.indexAddr 1 false none (.t 32) (Jk 2))),
 Js 8 (Jl 34 33),
 Js 9 (Jd 35 1 9),
 ⟨10, ⟨none, .store 1 (.t 35) (.t 28), none⟩, [5, 8]⟩,
 Js 11 (Jd 36 2 9),
 ⟨12, ⟨none, .store 1 (.t 36) (.t 31), none⟩, [8]⟩,
 Js 13 (Jd 37 3 9),
 ⟨14, ⟨none, .store 1 (.t 37) (.t 34), none⟩, []⟩])))))
 (.seq (.seq (.reg [Jm 38 1])
 (.cond (.t 38) (.reg [Jd 39 4 4,
 Jl 40 39,
 Jd 41 4 9,
 ⟨none, .store 1 (.t 41) (.t 40), none⟩])
 .skip))
 (.seq (.seq (.reg [Jm 42 2])
 (.cond (.t 42) (.reg [Jd 43 5 4,
 Jl 44 43,
 Jd 45 5 9,
 ⟨none, .store 1 (.t 45) (.t 44), none⟩])
 .skip))
 (.seq (.seq (.reg [Jm 46 3])
 (.cond (.t 46) (.reg [Jd 47 6 4,
 Jl 48 47,
 Jd 49 6 9,
 ⟨none, .store 1 (.t 49) (.t 48), none⟩])
 .skip))
 (.seq (.reg [Jo 50 9 9,
 ⟨none, .store 9 (.t 8) (.t 50), none⟩])
 .ret))))))),
 [], false⟩
def a145 : AFunc := ⟨9, [.tmp 4],
 (.seq (.reg [Ji 4 (.mov (.k (.bool false)))])
 (.seq (.reg [Jm 5 0,
 Jm 6 1,
 Ji 7 (.call (Jf 158) [(.t 5), (.t 6)]),
 Ji 8 (.bin .geq (.t 7) (Jk 0)),
 Jm 4 8])
 .ret)),
 [], false⟩
def a146 : AFunc := ⟨19, [.tmp 6],
 (.seq (.reg [Ji 3 (.box 2 (.t 0) false),
 Ji 6 (.mov (.k (.bool false)))])
 (.seq (.seq (.reg [Jm 7 2])
 (.cond (.t 7) (.seq (.reg [Jm 8 1,
 Ji 9 (.bin .geq (.t 8) (Jk 0)),
 Jm 10 9,
 Jg 11 10 (.mov (.t 1)),
 Jg 12 10 (.fieldAddr 1 1 false (.t 3)),
 Jg 13 10 (.load 1 false (.t 12)),
 Jg 14 10 (.lenSl (.t 13)),
 Jg 15 10 (.bin .lss (.t 11) (.t 14)),
 Ji 16 (.pick (.t 10) (.t 15) (.k (.bool false))),
 Jm 6 16])
 .ret)
 .skip))
 (.seq (.reg [Jm 17 1,
 Je 18 17 0,
 Jm 6 18])
 .ret))),
 [], false⟩
def a147 : AFunc := ⟨26, [.tmp 3],
 (.seq (.reg [Ji 2 (.box 9 (.t 0) false),
 Ji 3 (.mov (.k (.bool false)))])
 (.seq (.reg [Jd 7 0 2,
 Jl 8 7,
 Ji 9 (.call (Jf 148) [(.t 8)]),
 Jm 6 9,
 Ji 10 (.extract (.t 6) 0),
 Ji 11 (.extract (.t 6) 1),
 Jm 4 10,
 Jm 5 11])
 (.seq (.reg [Jo 12 2 1,
 Jd 13 3 2,
 Jl 14 13,
 Jm 15 4,
 Ji 16 (.call (Jf 146) [(.t 12), (.t 14), (.t 15)]),
 Ji 17 (.un .not (.t 16)),
 Jm 18 17,
 Jh 19 18 (.load 2 true (.t 1)),
 Jh 20 18 (.fieldAddr 4 1 false (.t 2)),
 Jh 21 18 (.load 1 false (.t 20)),
 Jh 22 18 (.mov (.t 5)),
 Jh 23 18 (.call (Jf 146) [(.t 19), (.t 21), (.t 22)]),
 Jh 24 18 (.un .not (.t 23)),
 Ji 25 (.pick (.t 18) (.k (.bool true)) (.t 24)),
 Jm 3 25])
 .ret))),
 [], true⟩
def a148 : AFunc := ⟨14, [.tmp 2, .tmp 3],
 (.seq (.reg [Ji 2 (.mov (.k (.bool false))),
 Ji 3 (.mov (.k (.bool false)))])
 (.seq (.seq (.reg [Jm 4 0])
 (.block 0 (.seq (.seq (.reg [Je 6 4 1,
 Jm 5 6])
 (.cond (.t 5) .skip
 (.reg [Je 7 4 4,
 Jm 5 7])))
 (.cond (.t 5) (.seq (.reg [Ji 2 (.mov (.k (.bool true))),
 Ji 3 (.mov (.k (.bool false)))])
 .ret)
 (.seq (.seq (.reg [Je 9 4 2,
 Jm 8 9])
 (.cond (.t 8) .skip
 (.seq (.reg [Je 10 4 3,
 Jm 8 10])
 (.cond (.t 8) .skip
 (.reg [Je 11 4 5,
 Jm 8 11])))))
 (.cond (.t 8) (.seq (.reg [Ji 2 (.mov (.k (.bool true))),
 Ji 3 (.mov (.k (.bool true)))])
 .ret)
 (.seq (.reg [Je 13 4 7,
 Jm 12 13])
 (.cond (.t 12) (.seq (.reg [Ji 2 (.mov (.k (.bool false))),
 Ji 3 (.mov (.k (.bool true)))])
 .ret)
 .skip))))))))
 (.seq (.reg [Ji 2 (.mov (.k (.bool false))),
 Ji 3 (.mov (.k (.bool false)))])
 .ret))),
 [], false⟩
def a149 : AFunc := ⟨9, [.tmp 4],
 (.seq (.reg [Ji 4 (.mov (.k (.bool false)))])
 (.seq (.reg [Jm 5 0,
 Jm 6 1,
 Ji 7 (.call (Jf 159) [(.t 5), (.t 6)]),
 Ji 8 (.bin .geq (.t 7) (Jk 0)),
 Jm 4 8])
 .ret)),
 [], false⟩
def a150 : AFunc := ⟨21, [.tmp 6],
 (.seq (.reg [Ji 3 (.box 7 (.t 0) false),
 Ji 6 (.mov (.k (.lst 1 [] .tight)))])
 (.seq (.seq (.reg [Jm 8 1,
 Jm 9 2,
 Ji 10 (.lookup 1 (.agg [(.str []), (.int .i64 0), (.int .i64 0), (.int .i64 0)]) false (.t 8) (.t 9)),
 Ji 7 (.new (.agg [(.str []), (.int .i64 0), (.int .i64 0), (.int .i64 0)]) true none),
 ⟨none, .store 4 (.t 7) (.t 10), none⟩])
 (.seq (.reg [Jd 11 1 7,
 Jl 12 11,
 Je 13 12 5])
 (.cond (.t 13) (.seq (.reg [Jd 14 3 3,
 Jl 15 14,
 Jd 16 3 7,
 Jl 17 16,
 Jx 18 9 15 17,
 Jd 19 5 18,
 Jl 20 19,
 Jm 6 20])
 .ret)
 .skip)))
 (.seq (.reg [Ji 6 (.mov (.k (.lst 1 [] .tight)))])
 .ret))),
 [], false⟩
def a151 : AFunc := ⟨4, [.tmp 2],
 (.seq (.reg [Ji 1 (.box 1 (.t 0) false),
 Ji 2 (.mov (.k .nilFunc))])
 (.seq (.reg [Ji 3 (.mkFunc 160 [] [(.t 1)]),
 Jm 2 3])
 .ret)),
 [], false⟩
def a152_0 : ACode := (.seq (.seq (.reg [Jm 7 6,
 Jm 8 0,
 Ji 9 (.lenStr (.t 8)),
 Ji 10 (.bin .lss (.t 7) (.t 9))])
 (.cond (.t 10) .skip
 (.exit 0)))
 (.seq (.block 1 (.seq (.seq (.reg [Jm 13 0,
 Jm 14 6,
 Ji 15 (.indexStr (.t 13) (.t 14)),
 Ji 16 (.bin .eql (.t 15) (.k (.int .u8 46)))])
 (.cond (.t 16) (.seq (.reg [Jm 17 5,
 Ja 18 17,
 Jm 5 18])
 (.exit 1))
 .skip))
 (.seq (.seq (.reg [Jm 19 0,
 Jm 20 6,
 Ji 21 (.indexStr (.t 19) (.t 20)),
 Ji 22 (.bin .lss (.t 21) (.k (.int .u8 48))),
 Jm 23 22,
 Jh 24 23 (.mov (.t 0)),
 Jh 25 23 (.mov (.t 6)),
 Jh 26 23 (.indexStr (.t 24) (.t 25)),
 Jh 27 23 (.bin .gtr (.t 26) (.k (.int .u8 57))),
 Ji 28 (.pick (.t 23) (.k (.bool true)) (.t 27))])
 (.cond (.t 28) (.seq (.reg [Ji 2 (.mov (.k (.bool false)))])
 .ret)
 .skip))
 (.seq (.reg [Jm 29 5,
 Je 30 29 0])
 (.cond (.t 30) (.reg [Jm 31 3,
 Ja 32 31,
 Jm 3 32])
 (.reg [Jm 33 4,
 Ja 34 33,
 Jm 4 34]))))))
 (.reg [Jm 11 6,
 Ja 12 11,
 Jm 6 12])))
def a152 : AFunc := ⟨64, [.tmp 2],
 (.seq (.reg [Ji 2 (.mov (.k (.bool false)))])
 (.seq (.reg [Ji 3 (.mov (Jk 0)),
 Ji 4 (.mov (Jk 0)),
 Ji 5 (.mov (Jk 0))])
 (.seq (.seq (.reg [Ji 6 (.mov (Jk 0))])
 (.block 0 (.loop a152_0)))
 (.seq (.seq (.reg [Jm 35 3,
 Ji 36 (.bin .lss (.t 35) (Jk 1)),
 Jm 37 36,
 Jh 38 37 (.mov (.t 3)),
 Jh 39 37 (.bin .gtr (.t 38) (Jk 10)),
 Ji 40 (.pick (.t 37) (.k (.bool true)) (.t 39)),
 Jm 41 40,
 Jh 42 41 (.mov (.t 5)),
 Jh 43 41 (.bin .gtr (.t 42) (Jk 1)),
 Ji 44 (.pick (.t 41) (.k (.bool true)) (.t 43)),
 Jm 45 44,
 Jh 46 45 (.mov (.t 5)),
 Jh 47 45 (.bin .eql (.t 46) (Jk 1)),
 Jh 48 45 (.mov (.t 47)),
 Jg 49 48 (.mov (.t 4)),
 Jg 50 48 (.bin .lss (.t 49) (Jk 1)),
 Jg 51 48 (.mov (.t 50)),
 Jh 52 51 (.mov (.t 4)),
 Jh 53 51 (.bin .gtr (.t 52) (Jk 40)),
 Jg 54 48 (.pick (.t 51) (.k (.bool true)) (.t 53)),
 Jh 55 45 (.pick (.t 48) (.t 54) (.k (.bool false))),
 Ji 56 (.pick (.t 45) (.k (.bool true)) (.t 55))])
 (.cond (.t 56) (.seq (.reg [Ji 2 (.mov (.k (.bool false)))])
 .ret)
 .skip))
 (.seq (.reg [Jm 57 3,
 Je 58 57 1,
 Jm 59 58,
 Jh 60 59 (.mov (.t 0)),
 Jh 61 59 (.indexStr (.t 60) (Jk 0)),
 Jh 62 59 (.bin .neq (.t 61) (.k (.int .u8 48))),
 Ji 63 (.pick (.t 59) (.k (.bool true)) (.t 62)),
 Jm 2 63])
 .ret))))),
 [], false⟩
def a153_0 : ACode := (.seq (.seq (.reg [Jm 58 10,
 Ji 59 (.bin .geq (.t 58) (Jk 0))])
 (.cond (.t 59) .skip
 (.exit 6)))
 (.seq (.block 7 (.seq (.reg [Jm 62 6,
 Jm 63 10,
 Ji 64 (.indexAddr 1 false none (.t 62) (.t 63)),
 Jl 65 64,
 Ji 66 (.bin .mul (Jk 2) (.t 65)),
 Jm 67 9,
 Ji 68 (.bin .add (.t 66) (.t 67)),
 Jm 11 68])
 (.seq (.reg [Jm 69 6,
 Jm 70 10,
 Jm 71 11,
 Ji 72 (.bin .rem (.t 71) (Jk 10)),
 Ji 73 (.indexAddr 1 false none (.t 69) (.t 70)),
 ⟨none, .store 1 (.t 73) (.t 72), none⟩])
 (.reg [Jm 74 11,
 Ji 75 (.bin .quo (.t 74) (Jk 10)),
 Jm 9 75]))))
 (.reg [Jm 60 10,
 Ji 61 (.bin .sub (.t 60) (Jk 1)),
 Jm 10 61])))
def a153_1 : ACode := (.seq (.seq (.reg [Jm 51 8,
 Ji 52 (.bin .lss (.t 51) (Jk 32))])
 (.cond (.t 52) .skip
 (.exit 4)))
 (.seq (.block 5 (.seq (.reg [Ji 9 (.mov (Jk 0))])
 (.seq (.seq (.reg [Jm 55 6,
 Jn 56 55,
 Ji 57 (.bin .sub (.t 56) (Jk 1)),
 Jm 10 57])
 (.block 6 (.loop a153_0)))
 (.reg [Jm 76 7,
 Ji 77 (.bin .mul (.k (.int .u64 2)) (.t 76)),
 Jm 78 9,
 Ji 79 (.convInt .u64 (.t 78)),
 Ji 80 (.bin .add (.t 77) (.t 79)),
 Jm 7 80]))))
 (.reg [Jm 53 8,
 Ja 54 53,
 Jm 8 54])))
def a153_2 : ACode := (.seq (.seq (.reg [Jm 34 5,
 Jm 35 0,
 Ji 36 (.lenStr (.t 35)),
 Ji 37 (.bin .lss (.t 34) (.t 36))])
 (.cond (.t 37) .skip
 (.exit 2)))
 (.seq (.block 3 (.reg [Jm 40 6,
 Jm 41 0,
 Jm 42 5,
 Ji 43 (.indexStr (.t 41) (.t 42)),
 Ji 44 (.convInt .i64 (.t 43)),
 Ji 45 (.bin .sub (.t 44) (Jk 48)),
 Ji 46 (.mkLit 1 [(.int .i64 0)] [(0, 1, (.t 45))] false),
 Ji 47 (.appendM 1 8 (.t 40) (.t 46)),
 Jm 6 47]))
 (.reg [Jm 38 5,
 Ja 39 38,
 Jm 5 39])))
def a153_3 : ACode := (.seq (.seq (.reg [Jm 12 5,
 Jm 13 0,
 Ji 14 (.lenStr (.t 13)),
 Ji 15 (.bin .lss (.t 12) (.t 14)),
 Jm 16 15,
 Jg 17 16 (.mov (.t 0)),
 Jg 18 16 (.mov (.t 5)),
 Jg 19 16 (.indexStr (.t 17) (.t 18)),
 Jg 20 16 (.bin .neq (.t 19) (.k (.int .u8 46))),
 Ji 21 (.pick (.t 16) (.t 20) (.k (.bool false)))])
 (.cond (.t 21) .skip
 (.exit 0)))
 (.block 1 (.seq (.reg [Jm 22 4,
 Ji 23 (.bin .mul (.k (.int .u64 10)) (.t 22)),
 Jm 24 0,
 Jm 25 5,
 Ji 26 (.indexStr (.t 24) (.t 25)),
 Ji 27 (.bin .sub (.t 26) (.k (.int .u8 48))),
 Ji 28 (.convInt .u64 (.t 27)),
 Ji 29 (.bin .add (.t 23) (.t 28)),
 Jm 4 29])
 (.reg [Jm 30 5,
 Ja 31 30,
 Jm 5 31]))))
def a153 : AFunc := ⟨84, [.tmp 2, .tmp 3],
 (.seq (.reg [Ji 2 (.mov (.k (.int .u64 0))),
 Ji 3 (.mov (.k (.bool false)))])
 (.seq (.reg [Ji 4 (.mov (.k (.int .u64 0)))])
 (.seq (.reg [Ji 5 (.mov (Jk 0))])
 (.seq (.block 0 (.loop a153_3))
 (.seq (.reg [Ji 6 (.mov (.k (.lst 1 [] .tight)))])
 (.seq (.seq (.reg [Jm 32 5,
 Ja 33 32,
 Jm 5 33])
 (.block 2 (.loop a153_2)))
 (.seq (.seq (.reg [Jm 48 4,
 Ji 49 (.bin .gtr (.t 48) (.k (.int .u64 2147483648)))])
 (.cond (.t 49) (.seq (.reg [Ji 2 (.mov (.k (.int .u64 0))),
 Ji 3 (.mov (.k (.bool true)))])
 .ret)
 .skip))
 (.seq (.reg [Jm 50 4,
 Jm 7 50])
 (.seq (.seq (.reg [Ji 8 (.mov (Jk 0))])
 (.block 4 (.loop a153_1)))
 (.seq (.reg [Jm 81 7,
 Jm 82 7,
 Ji 83 (.bin .gtr (.t 82) (.k (.int .u64 9223372036854775808))),
 Jm 2 81,
 Jm 3 83])
 .ret)))))))))),
 [], false⟩
def a154_0 : ACode := (.seq (.seq (.reg [Jm 86 0,
 Ji 87 (.call (Jf 88) [(.t 86), (.k (.str [44]))])])
 (.cond (.t 87) .skip
 (.exit 0)))
 (.block 1 (.reg [Jm 88 4,
 Jm 89 0,
 Ji 90 (.call (Jf 56) [(.t 89)]),
 Ji 91 (.mkLit 1 [(.int .i64 0)] [(0, 1, (.t 90))] false),
 Ji 92 (.append 1 8 (some 3) (.t 88) (.t 91)),
 Jm 4 92])))
def a154 : AFunc := ⟨110, [.tmp 2],
 (.seq (.reg [Ji 2 (.mov (Jk 0))])
 (.seq (.plan [Js 0 (Jm 6 0),
 Js 1 (Ji 7 (.nilCheck (.t 6))),
 Js 2 (Jd 8 0 7),
 Js 3 (Jl 9 8),
 Js 4 (Jm 10 0),
 Js 5 (Ji 11 (.nilCheck (.t 10))),
 Js 6 (Jd 12 1 11),
 Js 7 (Jl 13 12),
 Js 8 (Jx 14 4 9 13),
 Js 9 (Jo 15 4 14),
 ⟨10, Ji 3 (.new (.agg [(.int .i64 0), (.str []), (.int .i64 0), (.int .i64 0)]) true none), [3, 7, 9]⟩,
 ⟨11, ⟨none, .store 4 (.t 3) (.t 15), none⟩, []⟩])
 (.seq (.seq (.reg [Jd 16 0 3,
 Jl 17 16,
 Je 18 17 2])
 (.cond (.t 18) (.seq (.reg [Jm 19 0,
 Ji 20 (.nilCheck (.t 19)),
 Jd 21 1 20,
 Jl 22 21,
 Ja 23 22,
 Ji 24 (.nilCheck (.t 19)),
 Jd 25 1 24,
 ⟨none, .store 1 (.t 25) (.t 23), none⟩])
 (.seq (.reg [Jm 26 0,
 Jd 27 2 3,
 Jl 28 27,
 Jd 29 3 3,
 Jl 30 29,
 Ji 31 (.build [(.int .i64 0), (.int .i64 0), (.int .i64 0), (.int .i64 0), (.str []), (.str []), (.int .i64 0), (.lst 1 [] .tight), (.int .i64 0)] [(0, 1, (Jk 1)), (6, 1, (.t 28)), (8, 1, (.t 30))]),
 Ji 32 (.call (Jf 90) [(.t 26), (.t 31)]),
 Jm 2 32])
 .ret))
 .skip))
 (.seq (.seq (.reg [Jm 33 0,
 Ji 34 (.call (Jf 88) [(.t 33), (.k (.str [116, 114, 117, 101]))])])
 (.cond (.t 34) (.seq (.reg [Jm 35 0,
 Jd 36 3 3,
 Jl 37 36,
 Ji 38 (.build [(.int .i64 0), (.int .i64 0), (.int .i64 0), (.int .i64 0), (.str []), (.str []), (.int .i64 0), (.lst 1 [] .tight), (.int .i64 0)] [(0, 1, (Jk 2)), (6, 1, (Jk 1)), (8, 1, (.t 37))]),
 Ji 39 (.call (Jf 90) [(.t 35), (.t 38)]),
 Jm 2 39])
 .ret)
 .skip))
 (.seq (.seq (.reg [Jm 40 0,
 Ji 41 (.call (Jf 88) [(.t 40), (.k (.str [102, 97, 108, 115, 101]))])])
 (.cond (.t 41) (.seq (.reg [Jm 42 0,
 Jd 43 3 3,
 Jl 44 43,
 Ji 45 (.build [(.int .i64 0), (.int .i64 0), (.int .i64 0), (.int .i64 0), (.str []), (.str []), (.int .i64 0), (.lst 1 [] .tight), (.int .i64 0)] [(0, 1, (Jk 2)), (8, 1, (.t 44))]),
 Ji 46 (.call (Jf 90) [(.t 42), (.t 45)]),
 Jm 2 46])
 .ret)
 .skip))
 (.seq (.seq (.reg [Jd 47 0 3,
 Jl 48 47,
 Je 49 48 1])
 (.cond (.t 49) (.seq (.reg [Jm 50 0,
 Ji 51 (.nilCheck (.t 50)),
 Jd 52 1 51,
 Jl 53 52,
 Ja 54 53,
 Ji 55 (.nilCheck (.t 50)),
 Jd 56 1 55,
 ⟨none, .store 1 (.t 56) (.t 54), none⟩])
 (.seq (.seq (.reg [Jm 57 0,
 Ji 58 (.call (Jf 88) [(.t 57), (.k (.str [105, 115]))])])
 (.cond (.t 58) (.seq (.plan [Js 0 (Jm 59 0),
 Js 1 (Jd 60 1 3),
 Js 2 (Jl 61 60),
 Js 3 (Jm 62 0),
 Js 5 (Jd 64 3 3),
 Js 6 (Jl 65 64),
 ⟨4, Ji 63 (.call (Jf 93) [(.t 62)]), [2, 6]⟩,
 ⟨7, Ji 66 (.build [(.int .i64 0), (.int .i64 0), (.int .i64 0), (.int .i64 0), (.str []), (.str []), (.int .i64 0), (.lst 1 [] .tight), (.int .i64 0)] [(0, 1, (Jk 20)), (4, 1, (.t 61)), (5, 1, (.t 63)), (8, 1, (.t 65))]), []⟩,
 ⟨8, Ji 67 (.call (Jf 90) [(.t 59), (.t 66)]), []⟩,
 Js 9 (Jm 2 67)])
 .ret)
 .skip))
 (.seq (.seq (.reg [Jm 68 0,
 Ji 69 (.call (Jf 88) [(.t 68), (.k (.str [40]))]),
 Ji 70 (.un .not (.t 69))])
 (.cond (.t 70) (.seq (.reg [Jm 71 0,
 Jd 72 1 3,
 Jl 73 72,
 Jd 74 3 3,
 Jl 75 74,
 Ji 76 (.build [(.int .i64 0), (.int .i64 0), (.int .i64 0), (.int .i64 0), (.str []), (.str []), (.int .i64 0), (.lst 1 [] .tight), (.int .i64 0)] [(0, 1, (Jk 3)), (4, 1, (.t 73)), (8, 1, (.t 75))]),
 Ji 77 (.call (Jf 90) [(.t 71), (.t 76)]),
 Jm 2 77])
 .ret)
 .skip))
 (.seq (.reg [Ji 4 (.mov (.k (.lst 1 [] .tight)))])
 (.seq (.seq (.reg [Jm 78 0,
 Ji 79 (.call (Jf 88) [(.t 78), (.k (.str [41]))]),
 Ji 80 (.un .not (.t 79))])
 (.cond (.t 80) (.seq (.reg [Jm 81 4,
 Jm 82 0,
 Ji 83 (.call (Jf 56) [(.t 82)]),
 Ji 84 (.mkLit 1 [(.int .i64 0)] [(0, 1, (.t 83))] false),
 Ji 85 (.append 1 8 (some 3) (.t 81) (.t 84)),
 Jm 4 85])
 (.seq (.block 0 (.loop a154_0))
 (.reg [Jm 93 0,
 Ji 94 (.call (Jf 89) [(.t 93), (.k (.str [41]))])])))
 .skip))
 (.seq (.reg [Jm 95 0,
 Jd 96 1 3,
 Jl 97 96,
 Jm 98 4,
 Jd 99 3 3,
 Jl 100 99,
 Ji 101 (.build [(.int .i64 0), (.int .i64 0), (.int .i64 0), (.int .i64 0), (.str []), (.str []), (.int .i64 0), (.lst 1 [] .tight), (.int .i64 0)] [(0, 1, (Jk 19)), (4, 1, (.t 97)), (7, 1, (.t 98)), (8, 1, (.t 100))]),
 Ji 102 (.call (Jf 90) [(.t 95), (.t 101)]),
 Jm 2 102])
 .ret))))))
 .skip))
 (.seq (.reg [Jm 103 0,
 Ji 104 (.call (Jf 89) [(.t 103), (.k (.str [40]))])])
 (.seq (.reg [Jm 105 0,
 Ji 106 (.call (Jf 56) [(.t 105)]),
 Jm 5 106])
 (.seq (.reg [Jm 107 0,
 Ji 108 (.call (Jf 89) [(.t 107), (.k (.str [41]))])])
 (.seq (.reg [Jm 109 5,
 Jm 2 109])
 .ret)))))))))),
 [], true⟩
def a157_0 : ACode := (.seq (.reg [Ji 14 (.bin .lss (.t 13) (.t 12))])
 (.seq (.cond (.t 14) .skip
 (.exit 0))
 (.seq (.block 1 (.seq (.reg [Jm 15 13,
 Jm 5 15])
 (.seq (.plan [Js 0 (Jm 16 0),
 Js 1 (Jm 17 5),
 Js 2 (Ji 18 (.indexAddr 1 false none (.t 16) (.t 17))),
 Js 3 (Jl 19 18),
 Js 4 (Jm 20 1),
 Js 5 (Jm 21 5),
 Js 6 (Ji 22 (.indexAddr 1 false none (.t 20) (.t 21))),
 Js 7 (Jl 23 22),
 Js 8 (Ji 24 (.bin .neq (.t 19) (.t 23)))])
 (.cond (.t 24) (.seq (.reg [Ji 4 (.mov (.k (.bool false)))])
 .ret)
 .skip))))
 (.reg [Ja 25 13,
 Jm 13 25]))))
def a157 : AFunc := ⟨26, [.tmp 4],
 (.seq (.reg [Ji 4 (.mov (.k (.bool false)))])
 (.seq (.seq (.reg [Jm 6 0,
 Jn 7 6,
 Jm 8 1,
 Jn 9 8,
 Ji 10 (.bin .neq (.t 7) (.t 9))])
 (.cond (.t 10) (.seq (.reg [Ji 4 (.mov (.k (.bool false)))])
 .ret)
 .skip))
 (.seq (.seq (.reg [Jm 11 0,
 Jn 12 11,
 Ji 13 (.mov (Jk 0))])
 (.block 0 (.loop a157_0)))
 (.seq (.reg [Ji 4 (.mov (.k (.bool true)))])
 .ret)))),
 [], false⟩
def a158_0 : ACode := (.seq (.reg [Ji 9 (.bin .lss (.t 8) (.t 7))])
 (.seq (.cond (.t 9) .skip
 (.exit 0))
 (.seq (.block 1 (.seq (.reg [Jm 10 8,
 Jm 5 10])
 (.seq (.reg [Jm 11 1,
 Jm 12 0,
 Jm 13 5,
 Ji 14 (.indexAddr 1 false none (.t 12) (.t 13)),
 Jl 15 14,
 Ji 16 (.call (.t 11) [(.t 15)])])
 (.cond (.t 16) (.seq (.reg [Jm 17 5,
 Jm 4 17])
 .ret)
 .skip))))
 (.reg [Ja 18 8,
 Jm 8 18]))))
def a158 : AFunc := ⟨19, [.tmp 4],
 (.seq (.reg [Ji 4 (.mov (Jk 0))])
 (.seq (.seq (.reg [Jm 6 0,
 Jn 7 6,
 Ji 8 (.mov (Jk 0))])
 (.block 0 (.loop a158_0)))
 (.seq (.reg [Ji 4 (.mov (.k (.int .i64 (-1))))])
 .ret))),
 [], false⟩
def a159_0 : ACode := (.seq (.reg [Ji 9 (.bin .lss (.t 8) (.t 7))])
 (.seq (.cond (.t 9) .skip
 (.exit 0))
 (.seq (.block 1 (.seq (.reg [Jm 10 8,
 Jm 5 10])
 (.seq (.reg [Jm 11 1,
 Jm 12 0,
 Jm 13 5,
 Ji 14 (.indexAddr 1 false none (.t 12) (.t 13)),
 Jl 15 14,
 Ji 16 (.bin .eql (.t 11) (.t 15))])
 (.cond (.t 16) (.seq (.reg [Jm 17 5,
 Jm 4 17])
 .ret)
 .skip))))
 (.reg [Ja 18 8,
 Jm 8 18]))))
def a159 : AFunc := ⟨19, [.tmp 4],
 (.seq (.reg [Ji 4 (.mov (Jk 0))])
 (.seq (.seq (.reg [Jm 6 0,
 Jn 7 6,
 Ji 8 (.mov (Jk 0))])
 (.block 0 (.loop a159_0)))
 (.seq (.reg [Ji 4 (.mov (.k (.int .i64 (-1))))])
 .ret))),
 [], false⟩
def a160_0 : ACode := (.seq (.seq (.reg [Jm 7 3,
 Ji 8 (.bin .geq (.t 7) (Jk 0))])
 (.cond (.t 8) .skip
 (.exit 0)))
 (.seq (.block 1 (.seq (.reg [Jm 11 0,
 Jm 12 3,
 Jl 13 1,
 Jm 14 3,
 Jx 15 9 13 14,
 Jo 16 9 15,
 Ji 17 (.call (.t 11) [(.t 12), (.t 16)]),
 Ji 18 (.un .not (.t 17))])
 (.cond (.t 18) .ret
 .skip)))
 (.reg [Jm 9 3,
 Ji 10 (.bin .sub (.t 9) (Jk 1)),
 Jm 3 10])))
def a160 : AFunc := ⟨19, [],
 (.seq (.reg [Jl 4 1,
 Jn 5 4,
 Ji 6 (.bin .sub (.t 5) (Jk 1)),
 Jm 3 6])
 (.block 0 (.loop a160_0))),
 [], true⟩
def tab : List (Nat × AFunc) := [(10, a10), (15, a15), (16, a16), (17, a17), (18, a18), (19, a19), (20, a20), (21, a21), (22, a22), (23, a23), (24, a24), (25, a25), (27, a27), (28, a28), (29, a29), (30, a30), (31, a31), (32, a32), (33, a33), (34, a34), (35, a35), (36, a36), (37, a37), (38, a38), (39, a39), (42, a42), (43, a43), (46, a46), (47, a47), (48, a48), (49, a49), (50, a50), (51, a51), (52, a52), (53, a53), (54, a54), (55, a55), (56, a56), (57, a57), (58, a58), (59, a59), (60, a60), (61, a61), (62, a62), (63, a63), (64, a64), (65, a65), (66, a66), (67, a67), (68, a68), (69, a69), (72, a72), (73, a73), (74, a74), (75, a75), (76, a76), (77, a77), (78, a78), (79, a79), (80, a80), (81, a81), (82, a82), (83, a83), (84, a84), (85, a85), (86, a86), (87, a87), (88, a88), (89, a89), (90, a90), (91, a91), (92, a92), (93, a93), (94, a94), (95, a95), (96, a96), (97, a97), (98, a98), (99, a99), (100, a100), (101, a101), (102, a102), (103, a103), (104, a104), (105, a105), (106, a106), (107, a107), (118, a118), (119, a119), (120, a120), (121, a121), (122, a122), (123, a123), (124, a124), (125, a125), (126, a126), (127, a127), (128, a128), (129, a129), (130, a130), (131, a131), (132, a132), (133, a133), (134, a134), (135, a135), (136, a136), (142, a142), (143, a143), (144, a144), (145, a145), (146, a146), (147, a147), (148, a148), (149, a149), (150, a150), (151, a151), (152, a152), (153, a153), (154, a154), (157, a157), (158, a158), (159, a159), (160, a160)]
def gl : List (Nat × AV) := []
def prims : List (Nat × (List AV → St → Option (AOut × St))) := [(44, cloneA 2 16), (155, cloneA 1 8), (45, sortA 46 ltF)]
def A : AProg := ⟨fun f => (tab.find? fun e => e.1 == f).map (·.2), fun f => (prims.find? fun e => e.1 == f).map (·.2)⟩
set_option maxRecDepth 100000 in
theorem tabFits : (tab.all fun e => funcFits Tryz.prog gl e.1 e.2) = true := by kernel_rfl
theorem fits : ∀ f F, A.fn f = some F → funcFits Tryz.prog gl f F = true := by
  intro f F h
  simp only [A, Option.map_eq_some_iff] at h
  obtain ⟨e, he, rfl⟩ := h
  have h1 := List.mem_of_find?_eq_some he
  have h2 := List.find?_some he
  have := List.all_eq_true.1 tabFits e h1
  rw [beq_iff_eq] at h2
  rwa [h2] at this
end Go.Proofs.YtefildelnccljaaGreat

namespace Go.Proofs.YtefildelnccljaaGreat
open Go Ai
end Go.Proofs.YtefildelnccljaaGreat

