/- A part of the proof of: Exponents above 65535 are refused, and powers beyond 64 (PolynomialLimits), for every input. -/
import Derived.Test.YtnjccbacinbhgaaGreatPmA1
import Derived.Test.YtnjccbacinbhgaaGreatProg
set_option linter.unusedSimpArgs false
set_option linter.unusedVariables false
namespace Go.Vm.G
open Go Go.Vm Go.Proofs
def ir23 : IR := (.seq (.reg [oD 2 (.alloc [.b false,.sl 1 true [],.b false,.sl 1 true []]) 0] [] [0,2] [2]) (.seq (.reg [oD 3 (.mv (.t 0)) 0,oD 4 (.call 84 [(.t 3)]) 1,oD 5 (.call 84 [(.k (.i .i64 1))]) 2,oD 6 (.build [.b false,.sl 1 true [],.b false,.sl 1 true []] [(0,2,(.t 4)),(2,2,(.t 5))]) 3,oN (.store 4 (.t 2) (.t 6)) 4] [] [2] [2]) .ret))
def rv23 : List RVar := [.c 2 4 true]
theorem fnr23 : FT Tryz.prog 23 7 ir23 rv23 := fnK Tryz.func23 (by decide +kernel)
def ir29 : IR := (.seq (.reg [oD 2 (.box (.t 0)) 0,oD 3 (.box (.t 1)) 1,oD 4 (.mv (.k (.b false))) 2] [] [2,3] [2,3]) (.seq (.reg [oD 5 (.fld 0 (.t 2)) 0,oD 6 (.load 2 true (.t 5)) 1,oD 7 (.fld 0 (.t 3)) 2,oD 8 (.load 2 true (.t 7)) 3,oD 9 (.call 92 [(.t 6),(.t 8)]) 4,oD 10 (.mv (.t 9)) 5,oT 11 (.fld 2 (.t 2)) 10 6,oT 12 (.load 2 true (.t 11)) 10 7,oT 13 (.fld 2 (.t 3)) 10 8,oT 14 (.load 2 true (.t 13)) 10 9,oT 15 (.call 92 [(.t 12),(.t 14)]) 10 10,oD 16 (.pick (.t 10) (.t 15) (.k (.b false))) 11,oD 4 (.mv (.t 16)) 12] [] [4] []) .ret))
def rv29 : List RVar := [.t 4]
theorem fnr29 : FT Tryz.prog 29 17 ir29 rv29 := fnK Tryz.func29 (by decide +kernel)
def ir31 : IR := (.seq (.reg [oD 2 (.box (.t 0)) 0,oD 3 (.box (.t 1)) 1,oD 4 (.alloc [.b false,.sl 1 true [],.b false,.sl 1 true []]) 2] [] [2,3,4] [2,3,4]) (.seq (.reg [oD 5 (.fld 0 (.t 2)) 0,oD 6 (.load 2 true (.t 5)) 1,oD 7 (.fld 2 (.t 3)) 2,oD 8 (.load 2 true (.t 7)) 3,oD 9 (.call 96 [(.t 6),(.t 8)]) 4,oD 10 (.fld 0 (.t 3)) 5,oD 11 (.load 2 true (.t 10)) 6,oD 12 (.fld 2 (.t 2)) 7,oD 13 (.load 2 true (.t 12)) 8,oD 14 (.call 96 [(.t 11),(.t 13)]) 9,oD 15 (.call 95 [(.t 9),(.t 14)]) 10,oD 16 (.fld 2 (.t 2)) 11,oD 17 (.load 2 true (.t 16)) 12,oD 18 (.fld 2 (.t 3)) 13,oD 19 (.load 2 true (.t 18)) 14,oD 20 (.call 96 [(.t 17),(.t 19)]) 15,oD 21 (.call 94 [(.t 15),(.t 20)]) 16,oN (.store 4 (.t 4) (.t 21)) 17] [] [4] [4]) .ret))
def rv31 : List RVar := [.c 4 4 true]
theorem fnr31 : FT Tryz.prog 31 22 ir31 rv31 := fnK Tryz.func31 (by decide +kernel)
def ir32 : IR := (.seq (.reg [oD 2 (.box (.t 0)) 0,oD 3 (.box (.t 1)) 1,oD 4 (.alloc [.b false,.sl 1 true [],.b false,.sl 1 true []]) 2] [] [2,3,4] [2,3,4]) (.seq (.reg [oD 5 (.fld 0 (.t 2)) 0,oD 6 (.load 2 true (.t 5)) 1,oD 7 (.fld 0 (.t 3)) 2,oD 8 (.load 2 true (.t 7)) 3,oD 9 (.call 96 [(.t 6),(.t 8)]) 4,oD 10 (.fld 2 (.t 2)) 5,oD 11 (.load 2 true (.t 10)) 6,oD 12 (.fld 2 (.t 3)) 7,oD 13 (.load 2 true (.t 12)) 8,oD 14 (.call 96 [(.t 11),(.t 13)]) 9,oD 15 (.call 94 [(.t 9),(.t 14)]) 10,oN (.store 4 (.t 4) (.t 15)) 11] [] [4] [4]) .ret))
def rv32 : List RVar := [.c 4 4 true]
theorem fnr32 : FT Tryz.prog 32 16 ir32 rv32 := fnK Tryz.func32 (by decide +kernel)
def ir71 : IR := (.seq (.reg [oD 1 (.box (.t 0)) 0,oD 2 (.mv (.k (.i .i64 0))) 1] [] [1] [1]) (.seq (.reg [oD 3 (.fld 0 (.t 1)) 0,oD 4 (.load 2 true (.t 3)) 1,oD 5 (.call 89 [(.t 4)]) 2,oD 2 (.mv (.t 5)) 3] [] [2] []) .ret))
def rv71 : List RVar := [.t 2]
theorem fnr71 : FT Tryz.prog 71 6 ir71 rv71 := fnK Tryz.func71 (by decide +kernel)
def ir84 : IR := (.seq (.reg [oD 2 (.alloc [.b false,.sl 1 true []]) 0] [] [0,2] [2]) (.seq (.seq (.reg [oD 3 (.mv (.t 0)) 0,oD 4 (.bin .lss (.t 3) (.k (.i .i64 0))) 1] [] [0,2,4] [2]) (.cond (.t 4) (.seq (.reg [oD 5 (.mv (.t 0)) 0,oD 6 (.bin .add (.t 5) (.k (.i .i64 1))) 1,oD 7 (.un .neg (.t 6)) 2,oD 8 (.conv .u64 (.t 7)) 3,oD 9 (.bin .add (.t 8) (.k (.i .u64 1))) 4,oD 10 (.call 139 [(.t 9)]) 5,oD 11 (.call 138 [(.k (.b true)),(.t 10)]) 6,oN (.store 2 (.t 2) (.t 11)) 7] [] [2] [2]) .ret) .skip)) (.seq (.reg [oD 12 (.mv (.t 0)) 0,oD 13 (.conv .u64 (.t 12)) 1,oD 14 (.call 139 [(.t 13)]) 2,oD 15 (.call 138 [(.k (.b false)),(.t 14)]) 3,oN (.store 2 (.t 2) (.t 15)) 4] [] [2] [2]) .ret)))
def rv84 : List RVar := [.c 2 2 true]
theorem fnr84 : FT Tryz.prog 84 16 ir84 rv84 := fnK Tryz.func84 (by decide +kernel)
def ir89 : IR := (.seq (.reg [oD 1 (.box (.t 0)) 0,oD 2 (.mv (.k (.i .i64 0))) 1] [] [1] [1]) (.seq (.seq (.reg [oD 3 (.fld 0 (.t 1)) 0,oD 4 (.load 1 false (.t 3)) 1] [] [1,4] [1]) (.cond (.t 4) (.seq (.reg [oD 2 (.mv (.k (.i .i64 (-1)))) 0] [] [2] []) .ret) .skip)) (.seq (.reg [oD 5 (.fld 1 (.t 1)) 0,oD 6 (.load 1 false (.t 5)) 1,oD 7 (.len (.t 6)) 2,oD 8 (.mn (.t 7) (.k (.i .i64 1))) 3,oD 2 (.mv (.t 8)) 4] [] [2] []) .ret)))
def rv89 : List RVar := [.t 2]
theorem fnr89 : FT Tryz.prog 89 9 ir89 rv89 := fnK Tryz.func89 (by decide +kernel)
def ir91 : IR := (.seq (.reg [oD 2 (.box (.t 0)) 0,oD 3 (.box (.t 1)) 1,oD 4 (.alloc [.b false,.sl 1 true []]) 2] [] [2,3,4] [2,3,4]) (.seq (.reg [oD 5 (.fld 1 (.t 2)) 0,oD 6 (.load 1 false (.t 5)) 1,oD 7 (.fld 1 (.t 3)) 2,oD 8 (.load 1 false (.t 7)) 3,oD 9 (.call 143 [(.t 6),(.t 8)]) 4,oD 10 (.call 138 [(.k (.b false)),(.t 9)]) 5,oN (.store 2 (.t 4) (.t 10)) 6] [] [4] [4]) .ret))
def rv91 : List RVar := [.c 4 2 true]
theorem fnr91 : FT Tryz.prog 91 11 ir91 rv91 := fnK Tryz.func91 (by decide +kernel)
def b92_0 : IR := (.seq (.seq (.reg [oD 20 (.mv (.t 5)) 0,oD 21 (.fld 1 (.t 2)) 1,oD 22 (.load 1 false (.t 21)) 2,oD 23 (.len (.t 22)) 3,oD 24 (.bin .lss (.t 20) (.t 23)) 4] [] [2,3,5,24] [2,3]) (.cond (.t 24) .skip (.exit 0))) (.seq (.block 1 (.seq (.reg [oD 27 (.fld 1 (.t 2)) 0,oD 28 (.load 1 false (.t 27)) 1,oD 29 (.mv (.t 5)) 2,oD 30 (.ixs 1 (.t 28) (.t 29)) 3,oD 31 (.load 1 false (.t 30)) 4,oD 32 (.fld 1 (.t 3)) 5,oD 33 (.load 1 false (.t 32)) 6,oD 34 (.mv (.t 5)) 7,oD 35 (.ixs 1 (.t 33) (.t 34)) 8,oD 36 (.load 1 false (.t 35)) 9,oD 37 (.bin .neq (.t 31) (.t 36)) 10] [] [2,3,5,37] [2,3]) (.cond (.t 37) (.seq (.reg [oD 4 (.mv (.k (.b false))) 0] [] [4] []) .ret) .skip))) (.reg [oD 25 (.mv (.t 5)) 0,oD 26 (.bin .add (.t 25) (.k (.i .i64 1))) 1,oD 5 (.mv (.t 26)) 2] [] [2,3,5] [2,3])))
theorem wb92_0 : type_of% (@wbEq _ _ b92_0.eq_1) := @wbEq _ _ b92_0.eq_1
def ir92 : IR := (.seq (.reg [oD 2 (.box (.t 0)) 0,oD 3 (.box (.t 1)) 1,oD 4 (.mv (.k (.b false))) 2] [] [2,3] [2,3]) (.seq (.seq (.reg [oD 6 (.fld 0 (.t 2)) 0,oD 7 (.load 1 false (.t 6)) 1,oD 8 (.fld 0 (.t 3)) 2,oD 9 (.load 1 false (.t 8)) 3,oD 10 (.eqb true (.t 7) (.t 9)) 4,oD 11 (.mv (.t 10)) 5,oF 12 (.fld 1 (.t 2)) 11 6,oF 13 (.load 1 false (.t 12)) 11 7,oF 14 (.len (.t 13)) 11 8,oF 15 (.fld 1 (.t 3)) 11 9,oF 16 (.load 1 false (.t 15)) 11 10,oF 17 (.len (.t 16)) 11 11,oF 18 (.bin .neq (.t 14) (.t 17)) 11 12,oD 19 (.pick (.t 11) (.k (.b true)) (.t 18)) 13] [] [2,3,19] [2,3]) (.cond (.t 19) (.seq (.reg [oD 4 (.mv (.k (.b false))) 0] [] [4] []) .ret) .skip)) (.seq (.seq (.reg [oD 5 (.mv (.k (.i .i64 0))) 0] [] [2,3,5] [2,3]) (.block 0 (.loop [2,3,5] [2,3] b92_0))) (.seq (.reg [oD 4 (.mv (.k (.b true))) 0] [] [4] []) .ret))))
def rv92 : List RVar := [.t 4]
theorem fnr92 : FT Tryz.prog 92 38 ir92 rv92 := fnK Tryz.func92 (by decide +kernel)
def ir94 : IR := (.seq (.reg [oD 2 (.box (.t 0)) 0,oD 3 (.box (.t 1)) 1,oD 4 (.alloc [.b false,.sl 1 true [],.b false,.sl 1 true []]) 2] [] [2,3,4] [2,3,4]) (.seq (.reg [oD 6 (.load 2 true (.t 2)) 0,oD 7 (.load 2 true (.t 3)) 1,oD 8 (.call 91 [(.t 6),(.t 7)]) 2,oD 5 (.alloc [.b false,.sl 1 true []]) 3,oN (.store 2 (.t 5) (.t 8)) 4] [] [2,3,4,5] [2,3,4,5]) (.seq (.seq (.reg [oD 9 (.load 2 true (.t 3)) 0,oD 10 (.call 89 [(.t 9)]) 1,oD 11 (.bin .lss (.t 10) (.k (.i .i64 0))) 2] [] [2,3,4,5,11] [2,3,4,5]) (.cond (.t 11) (.reg [oD 12 (.load 2 true (.t 5)) 0,oD 13 (.call 144 [(.t 12)]) 1,oN (.store 2 (.t 5) (.t 13)) 2] [] [2,3,4,5] [2,3,4,5]) .skip)) (.seq (.reg [oD 14 (.load 2 true (.t 2)) 0,oD 15 (.load 2 true (.t 5)) 1,oD 16 (.call 145 [(.t 14),(.t 15)]) 2,oD 17 (.load 2 true (.t 3)) 3,oD 18 (.load 2 true (.t 5)) 4,oD 19 (.call 145 [(.t 17),(.t 18)]) 5,oD 20 (.build [.b false,.sl 1 true [],.b false,.sl 1 true []] [(0,2,(.t 16)),(2,2,(.t 19))]) 6,oN (.store 4 (.t 4) (.t 20)) 7] [] [4] [4]) .ret))))
def rv94 : List RVar := [.c 4 4 true]
theorem fnr94 : FT Tryz.prog 94 21 ir94 rv94 := fnK Tryz.func94 (by decide +kernel)
def ir95 : IR := (.seq (.reg [oD 2 (.box (.t 0)) 0,oD 3 (.box (.t 1)) 1,oD 4 (.alloc [.b false,.sl 1 true []]) 2] [] [2,3,4] [2,3,4]) (.seq (.seq (.reg [oD 5 (.fld 0 (.t 2)) 0,oD 6 (.load 1 false (.t 5)) 1,oD 7 (.fld 0 (.t 3)) 2,oD 8 (.load 1 false (.t 7)) 3,oD 9 (.eqb false (.t 6) (.t 8)) 4] [] [2,3,4,9] [2,3,4]) (.cond (.t 9) (.seq (.reg [oD 10 (.fld 0 (.t 2)) 0,oD 11 (.load 1 false (.t 10)) 1,oD 12 (.fld 1 (.t 2)) 2,oD 13 (.load 1 false (.t 12)) 3,oD 14 (.fld 1 (.t 3)) 4,oD 15 (.load 1 false (.t 14)) 5,oD 16 (.call 146 [(.t 13),(.t 15)]) 6,oD 17 (.call 138 [(.t 11),(.t 16)]) 7,oN (.store 2 (.t 4) (.t 17)) 8] [] [4] [4]) .ret) .skip)) (.seq (.seq (.reg [oD 18 (.fld 1 (.t 2)) 0,oD 19 (.load 1 false (.t 18)) 1,oD 20 (.fld 1 (.t 3)) 2,oD 21 (.load 1 false (.t 20)) 3,oD 22 (.call 142 [(.t 19),(.t 21)]) 4,oD 23 (.bin .lss (.t 22) (.k (.i .i64 0))) 5] [] [2,3,4,23] [2,3,4]) (.cond (.t 23) (.seq (.reg [oD 24 (.fld 0 (.t 3)) 0,oD 25 (.load 1 false (.t 24)) 1,oD 26 (.fld 1 (.t 3)) 2,oD 27 (.load 1 false (.t 26)) 3,oD 28 (.fld 1 (.t 2)) 4,oD 29 (.load 1 false (.t 28)) 5,oD 30 (.call 147 [(.t 27),(.t 29)]) 6,oD 31 (.call 138 [(.t 25),(.t 30)]) 7,oN (.store 2 (.t 4) (.t 31)) 8] [] [4] [4]) .ret) .skip)) (.seq (.reg [oD 32 (.fld 0 (.t 2)) 0,oD 33 (.load 1 false (.t 32)) 1,oD 34 (.fld 1 (.t 2)) 2,oD 35 (.load 1 false (.t 34)) 3,oD 36 (.fld 1 (.t 3)) 4,oD 37 (.load 1 false (.t 36)) 5,oD 38 (.call 147 [(.t 35),(.t 37)]) 6,oD 39 (.call 138 [(.t 33),(.t 38)]) 7,oN (.store 2 (.t 4) (.t 39)) 8] [] [4] [4]) .ret))))
def rv95 : List RVar := [.c 4 2 true]
theorem fnr95 : FT Tryz.prog 95 40 ir95 rv95 := fnK Tryz.func95 (by decide +kernel)
def ir96 : IR := (.seq (.reg [oD 2 (.box (.t 0)) 0,oD 3 (.box (.t 1)) 1,oD 4 (.alloc [.b false,.sl 1 true []]) 2] [] [2,3,4] [2,3,4]) (.seq (.reg [oD 5 (.fld 0 (.t 2)) 0,oD 6 (.load 1 false (.t 5)) 1,oD 7 (.fld 0 (.t 3)) 2,oD 8 (.load 1 false (.t 7)) 3,oD 9 (.eqb true (.t 6) (.t 8)) 4,oD 10 (.fld 1 (.t 2)) 5,oD 11 (.load 1 false (.t 10)) 6,oD 12 (.fld 1 (.t 3)) 7,oD 13 (.load 1 false (.t 12)) 8,oD 14 (.call 148 [(.t 11),(.t 13)]) 9,oD 15 (.call 138 [(.t 9),(.t 14)]) 10,oN (.store 2 (.t 4) (.t 15)) 11] [] [4] [4]) .ret))
def rv96 : List RVar := [.c 4 2 true]
theorem fnr96 : FT Tryz.prog 96 16 ir96 rv96 := fnK Tryz.func96 (by decide +kernel)
def ir138 : IR := (.seq (.reg [oD 4 (.alloc [.b false,.sl 1 true []]) 0] [] [0,1,4] [4]) (.seq (.reg [oD 6 (.mv (.t 1)) 0,oD 7 (.call 165 [(.t 6)]) 1,oD 5 (.mv (.t 7)) 2] [] [0,4,5] [4]) (.seq (.reg [oD 8 (.mv (.t 0)) 0,oD 9 (.mv (.t 8)) 1,oT 10 (.mv (.t 5)) 9 2,oT 11 (.len (.t 10)) 9 3,oT 12 (.bin .gtr (.t 11) (.k (.i .i64 0))) 9 4,oD 13 (.pick (.t 9) (.t 12) (.k (.b false))) 5,oD 14 (.mv (.t 5)) 6,oD 15 (.build [.b false,.sl 1 true []] [(0,1,(.t 13)),(1,1,(.t 14))]) 7,oN (.store 2 (.t 4) (.t 15)) 8] [] [4] [4]) .ret)))
def rv138 : List RVar := [.c 4 2 true]
theorem fnr138 : FT Tryz.prog 138 16 ir138 rv138 := fnK Tryz.func138 (by decide +kernel)
def ir139 : IR := (.seq (.reg [oD 2 (.mv (.k (.sl 1 true []))) 0] [] [0] []) (.seq (.reg [oD 3 (.mv (.t 0)) 0,oD 4 (.bin .rem (.t 3) (.k (.i .u64 4294967296))) 1,oD 5 (.conv .u32 (.t 4)) 2,oD 6 (.mv (.t 0)) 3,oD 7 (.bin .quo (.t 6) (.k (.i .u64 4294967296))) 4,oD 8 (.conv .u32 (.t 7)) 5,oD 9 (.bsl 1 [(.t 5),(.t 8)]) 6,oD 10 (.call 165 [(.t 9)]) 7,oD 2 (.mv (.t 10)) 8] [] [2] []) .ret))
def rv139 : List RVar := [.t 2]
theorem fnr139 : FT Tryz.prog 139 11 ir139 rv139 := fnK Tryz.func139 (by decide +kernel)
def b142_0 : IR := (.seq (.seq (.reg [oD 19 (.mv (.t 5)) 0,oD 20 (.bin .geq (.t 19) (.k (.i .i64 0))) 1] [] [0,1,5,20] []) (.cond (.t 20) .skip (.exit 0))) (.seq (.block 1 (.seq (.seq (.reg [oD 23 (.mv (.t 0)) 0,oD 24 (.mv (.t 5)) 1,oD 25 (.ixs 1 (.t 23) (.t 24)) 2,oD 26 (.load 1 false (.t 25)) 3,oD 27 (.mv (.t 1)) 4,oD 28 (.mv (.t 5)) 5,oD 29 (.ixs 1 (.t 27) (.t 28)) 6,oD 30 (.load 1 false (.t 29)) 7,oD 31 (.bin .lss (.t 26) (.t 30)) 8] [] [0,1,5,31] []) (.cond (.t 31) (.seq (.reg [oD 4 (.mv (.k (.i .i64 (-1)))) 0] [] [4] []) .ret) .skip)) (.seq (.reg [oD 32 (.mv (.t 0)) 0,oD 33 (.mv (.t 5)) 1,oD 34 (.ixs 1 (.t 32) (.t 33)) 2,oD 35 (.load 1 false (.t 34)) 3,oD 36 (.mv (.t 1)) 4,oD 37 (.mv (.t 5)) 5,oD 38 (.ixs 1 (.t 36) (.t 37)) 6,oD 39 (.load 1 false (.t 38)) 7,oD 40 (.bin .gtr (.t 35) (.t 39)) 8] [] [0,1,5,40] []) (.cond (.t 40) (.seq (.reg [oD 4 (.mv (.k (.i .i64 1))) 0] [] [4] []) .ret) .skip)))) (.reg [oD 21 (.mv (.t 5)) 0,oD 22 (.bin .sub (.t 21) (.k (.i .i64 1))) 1,oD 5 (.mv (.t 22)) 2] [] [0,1,5] [])))
theorem wb142_0 : type_of% (@wbEq _ _ b142_0.eq_1) := @wbEq _ _ b142_0.eq_1
def ir142 : IR := (.seq (.reg [oD 4 (.mv (.k (.i .i64 0))) 0] [] [0,1] []) (.seq (.seq (.reg [oD 6 (.mv (.t 0)) 0,oD 7 (.len (.t 6)) 1,oD 8 (.mv (.t 1)) 2,oD 9 (.len (.t 8)) 3,oD 10 (.bin .lss (.t 7) (.t 9)) 4] [] [0,1,10] []) (.cond (.t 10) (.seq (.reg [oD 4 (.mv (.k (.i .i64 (-1)))) 0] [] [4] []) .ret) .skip)) (.seq (.seq (.reg [oD 11 (.mv (.t 0)) 0,oD 12 (.len (.t 11)) 1,oD 13 (.mv (.t 1)) 2,oD 14 (.len (.t 13)) 3,oD 15 (.bin .gtr (.t 12) (.t 14)) 4] [] [0,1,15] []) (.cond (.t 15) (.seq (.reg [oD 4 (.mv (.k (.i .i64 1))) 0] [] [4] []) .ret) .skip)) (.seq (.seq (.reg [oD 16 (.mv (.t 0)) 0,oD 17 (.len (.t 16)) 1,oD 18 (.bin .sub (.t 17) (.k (.i .i64 1))) 2,oD 5 (.mv (.t 18)) 3] [] [0,1,5] []) (.block 0 (.loop [0,1,5] [] b142_0))) (.seq (.reg [oD 4 (.mv (.k (.i .i64 0))) 0] [] [4] []) .ret)))))
def rv142 : List RVar := [.t 4]
theorem fnr142 : FT Tryz.prog 142 41 ir142 rv142 := fnK Tryz.func142 (by decide +kernel)
def b143_0 : IR := (.seq (.seq (.reg [oD 7 (.mv (.t 1)) 0,oD 8 (.len (.t 7)) 1,oD 9 (.bin .gtr (.t 8) (.k (.i .i64 0))) 2] [] [0,1,9] []) (.cond (.t 9) .skip (.exit 0))) (.block 1 (.seq (.seq (.reg [oD 10 (.mv (.t 0)) 0,oD 11 (.len (.t 10)) 1,oD 12 (.bin .leq (.t 11) (.k (.i .i64 2))) 2,oD 13 (.mv (.t 12)) 3,oT 14 (.mv (.t 1)) 13 4,oT 15 (.len (.t 14)) 13 5,oT 16 (.bin .leq (.t 15) (.k (.i .i64 2))) 13 6,oD 17 (.pick (.t 13) (.t 16) (.k (.b false))) 7] [] [0,1,17] []) (.cond (.t 17) (.seq (.reg [oD 18 (.mv (.t 0)) 0,oD 19 (.call 167 [(.t 18)]) 1,oD 20 (.mv (.t 1)) 2,oD 21 (.call 167 [(.t 20)]) 3,oD 22 (.call 166 [(.t 19),(.t 21)]) 4,oD 23 (.call 139 [(.t 22)]) 5,oD 4 (.mv (.t 23)) 6] [] [4] []) .ret) .skip)) (.seq (.reg [oD 25 (.mv (.t 0)) 0,oD 26 (.mv (.t 1)) 1,oD 27 (.call 168 [(.t 25),(.t 26)]) 2,oD 24 (.mv (.t 27)) 3,oD 28 (.ext 0 (.t 24)) 4,oD 29 (.ext 1 (.t 24)) 5,oD 5 (.mv (.t 28)) 6,oD 6 (.mv (.t 29)) 7] [] [1,6] []) (.seq (.reg [oD 30 (.mv (.t 1)) 0,oD 0 (.mv (.t 30)) 1] [] [0,6] []) (.reg [oD 31 (.mv (.t 6)) 0,oD 1 (.mv (.t 31)) 1] [] [0,1] []))))))
theorem wb143_0 : type_of% (@wbEq _ _ b143_0.eq_1) := @wbEq _ _ b143_0.eq_1
def ir143 : IR := (.seq (.reg [oD 4 (.mv (.k (.sl 1 true []))) 0] [] [0,1] []) (.seq (.block 0 (.loop [0,1] [] b143_0)) (.seq (.reg [oD 32 (.mv (.t 0)) 0,oD 4 (.mv (.t 32)) 1] [] [4] []) .ret)))
def rv143 : List RVar := [.t 4]
theorem fnr143 : FT Tryz.prog 143 33 ir143 rv143 := fnK Tryz.func143 (by decide +kernel)
def ir144 : IR := (.seq (.reg [oD 1 (.box (.t 0)) 0,oD 2 (.alloc [.b false,.sl 1 true []]) 1] [] [1,2] [1,2]) (.seq (.reg [oD 3 (.fld 0 (.t 1)) 0,oD 4 (.load 1 false (.t 3)) 1,oD 5 (.un .not (.t 4)) 2,oD 6 (.fld 1 (.t 1)) 3,oD 7 (.load 1 false (.t 6)) 4,oD 8 (.call 138 [(.t 5),(.t 7)]) 5,oN (.store 2 (.t 2) (.t 8)) 6] [] [2] [2]) .ret))
def rv144 : List RVar := [.c 2 2 true]
theorem fnr144 : FT Tryz.prog 144 9 ir144 rv144 := fnK Tryz.func144 (by decide +kernel)
def ir145 : IR := (.seq (.reg [oD 2 (.box (.t 0)) 0,oD 3 (.box (.t 1)) 1,oD 4 (.alloc [.b false,.sl 1 true []]) 2] [] [2,3,4] [2,3,4]) (.seq (.reg [oD 9 (.load 2 true (.t 2)) 0,oD 10 (.load 2 true (.t 3)) 1,oD 11 (.call 169 [(.t 9),(.t 10)]) 2,oD 8 (.mv (.t 11)) 3,oD 12 (.ext 0 (.t 8)) 4,oD 13 (.ext 1 (.t 8)) 5,oD 14 (.ext 2 (.t 8)) 6,oD 5 (.alloc [.b false,.sl 1 true []]) 7,oD 6 (.alloc [.b false,.sl 1 true []]) 8,oN (.store 2 (.t 5) (.t 12)) 9,oN (.store 2 (.t 6) (.t 13)) 10,oD 7 (.mv (.t 14)) 11] [] [4,5] [4,5]) (.seq (.reg [oD 15 (.load 2 true (.t 5)) 0,oN (.store 2 (.t 4) (.t 15)) 1] [] [4] [4]) .ret)))
def rv145 : List RVar := [.c 4 2 true]
theorem fnr145 : FT Tryz.prog 145 16 ir145 rv145 := fnK Tryz.func145 (by decide +kernel)
def b146_0 : IR := (.seq (.seq (.reg [oD 18 (.mv (.t 8)) 0,oD 19 (.mv (.t 5)) 1,oD 20 (.bin .lss (.t 18) (.t 19)) 2] [] [0,1,5,6,7,8,20] [17]) (.cond (.t 20) .skip (.exit 0))) (.seq (.block 1 (.seq (.reg [oD 23 (.mv (.t 0)) 0,oD 24 (.mv (.t 8)) 1,oD 25 (.call 170 [(.t 23),(.t 24)]) 2,oD 26 (.mv (.t 1)) 3,oD 27 (.mv (.t 8)) 4,oD 28 (.call 170 [(.t 26),(.t 27)]) 5,oD 29 (.bin .add (.t 25) (.t 28)) 6,oD 30 (.mv (.t 7)) 7,oD 31 (.bin .add (.t 29) (.t 30)) 8,oD 9 (.mv (.t 31)) 9] [] [0,1,5,6,8,9] [17]) (.seq (.reg [oD 32 (.mv (.t 6)) 0,oD 33 (.mv (.t 8)) 1,oD 34 (.mv (.t 9)) 2,oD 35 (.bin .rem (.t 34) (.k (.i .u64 4294967296))) 3,oD 36 (.conv .u32 (.t 35)) 4,oD 37 (.ixs 1 (.t 32) (.t 33)) 5,oN (.store 1 (.t 37) (.t 36)) 6] [] [0,1,5,6,8,9] [17]) (.reg [oD 38 (.mv (.t 9)) 0,oD 39 (.bin .quo (.t 38) (.k (.i .u64 4294967296))) 1,oD 7 (.mv (.t 39)) 2] [] [0,1,5,6,7,8] [17])))) (.reg [oD 21 (.mv (.t 8)) 0,oD 22 (.bin .add (.t 21) (.k (.i .i64 1))) 1,oD 8 (.mv (.t 22)) 2] [] [0,1,5,6,7,8] [17])))
theorem wb146_0 : type_of% (@wbEq _ _ b146_0.eq_1) := @wbEq _ _ b146_0.eq_1
def ir146 : IR := (.seq (.reg [oD 4 (.mv (.k (.sl 1 true []))) 0] [] [0,1] []) (.seq (.reg [oD 10 (.mv (.t 0)) 0,oD 11 (.len (.t 10)) 1,oD 12 (.mv (.t 1)) 2,oD 13 (.len (.t 12)) 3,oD 14 (.mx (.t 11) (.t 13)) 4,oD 15 (.bin .add (.t 14) (.k (.i .i64 1))) 5,oD 5 (.mv (.t 15)) 6] [] [0,1,5] []) (.seq (.reg [oD 16 (.mv (.t 5)) 0,oD 17 (.mk 1 4 [.i .u32 0] (.t 16) (.t 16)) 1,oD 6 (.mv (.t 17)) 2] [] [0,1,5,6] [17]) (.seq (.reg [oD 7 (.mv (.k (.i .u64 0))) 0] [] [0,1,5,6,7] [17]) (.seq (.seq (.reg [oD 8 (.mv (.k (.i .i64 0))) 0] [] [0,1,5,6,7,8] [17]) (.block 0 (.loop [0,1,5,6,7,8] [17] b146_0))) (.seq (.frz 6 (.reg [oD 40 (.mv (.t 6)) 0,oD 41 (.call 165 [(.t 40)]) 1,oD 4 (.mv (.t 41)) 2] [] [4] [])) .ret))))))
def rv146 : List RVar := [.t 4]
theorem fnr146 : FT Tryz.prog 146 42 ir146 rv146 := fnK Tryz.func146 (by decide +kernel)
def b147_0 : IR := (.seq (.seq (.reg [oD 12 (.mv (.t 7)) 0,oD 13 (.mv (.t 0)) 1,oD 14 (.len (.t 13)) 2,oD 15 (.bin .lss (.t 12) (.t 14)) 3] [] [0,1,5,6,7,15] [11]) (.cond (.t 15) .skip (.exit 0))) (.seq (.block 1 (.seq (.reg [oD 18 (.mv (.t 0)) 0,oD 19 (.mv (.t 7)) 1,oD 20 (.ixs 1 (.t 18) (.t 19)) 2,oD 21 (.load 1 false (.t 20)) 3,oD 22 (.conv .u64 (.t 21)) 4,oD 23 (.bin .add (.k (.i .u64 4294967296)) (.t 22)) 5,oD 24 (.mv (.t 1)) 6,oD 25 (.mv (.t 7)) 7,oD 26 (.call 170 [(.t 24),(.t 25)]) 8,oD 27 (.bin .sub (.t 23) (.t 26)) 9,oD 28 (.mv (.t 6)) 10,oD 29 (.bin .sub (.t 27) (.t 28)) 11,oD 8 (.mv (.t 29)) 12] [] [0,1,5,7,8] [11]) (.seq (.reg [oD 30 (.mv (.t 5)) 0,oD 31 (.mv (.t 7)) 1,oD 32 (.mv (.t 8)) 2,oD 33 (.bin .rem (.t 32) (.k (.i .u64 4294967296))) 3,oD 34 (.conv .u32 (.t 33)) 4,oD 35 (.ixs 1 (.t 30) (.t 31)) 5,oN (.store 1 (.t 35) (.t 34)) 6] [] [0,1,5,7,8] [11]) (.reg [oD 36 (.mv (.t 8)) 0,oD 37 (.bin .quo (.t 36) (.k (.i .u64 4294967296))) 1,oD 38 (.bin .sub (.k (.i .u64 1)) (.t 37)) 2,oD 6 (.mv (.t 38)) 3] [] [0,1,5,6,7] [11])))) (.reg [oD 16 (.mv (.t 7)) 0,oD 17 (.bin .add (.t 16) (.k (.i .i64 1))) 1,oD 7 (.mv (.t 17)) 2] [] [0,1,5,6,7] [11])))
theorem wb147_0 : type_of% (@wbEq _ _ b147_0.eq_1) := @wbEq _ _ b147_0.eq_1
def ir147 : IR := (.seq (.reg [oD 4 (.mv (.k (.sl 1 true []))) 0] [] [0,1] []) (.seq (.reg [oD 9 (.mv (.t 0)) 0,oD 10 (.len (.t 9)) 1,oD 11 (.mk 1 4 [.i .u32 0] (.t 10) (.t 10)) 2,oD 5 (.mv (.t 11)) 3] [] [0,1,5] [11]) (.seq (.reg [oD 6 (.mv (.k (.i .u64 0))) 0] [] [0,1,5,6] [11]) (.seq (.seq (.reg [oD 7 (.mv (.k (.i .i64 0))) 0] [] [0,1,5,6,7] [11]) (.block 0 (.loop [0,1,5,6,7] [11] b147_0))) (.seq (.frz 5 (.reg [oD 39 (.mv (.t 5)) 0,oD 40 (.call 165 [(.t 39)]) 1,oD 4 (.mv (.t 40)) 2] [] [4] [])) .ret)))))
def rv147 : List RVar := [.t 4]
theorem fnr147 : FT Tryz.prog 147 41 ir147 rv147 := fnK Tryz.func147 (by decide +kernel)
def b148_0 : IR := (.seq (.seq (.reg [oD 22 (.mv (.t 8)) 0,oD 23 (.mv (.t 1)) 1,oD 24 (.len (.t 23)) 2,oD 25 (.bin .lss (.t 22) (.t 24)) 3] [] [0,1,5,6,7,8,25] [15]) (.cond (.t 25) .skip (.exit 2))) (.seq (.block 3 (.seq (.reg [oD 28 (.mv (.t 0)) 0,oD 29 (.mv (.t 6)) 1,oD 30 (.ixs 1 (.t 28) (.t 29)) 2,oD 31 (.load 1 false (.t 30)) 3,oD 32 (.conv .u64 (.t 31)) 4,oD 33 (.mv (.t 1)) 5,oD 34 (.mv (.t 8)) 6,oD 35 (.ixs 1 (.t 33) (.t 34)) 7,oD 36 (.load 1 false (.t 35)) 8,oD 37 (.conv .u64 (.t 36)) 9,oD 38 (.bin .mul (.t 32) (.t 37)) 10,oD 39 (.mv (.t 5)) 11,oD 40 (.mv (.t 6)) 12,oD 41 (.mv (.t 8)) 13,oD 42 (.bin .add (.t 40) (.t 41)) 14,oD 43 (.ixs 1 (.t 39) (.t 42)) 15,oD 44 (.load 1 false (.t 43)) 16,oD 45 (.conv .u64 (.t 44)) 17,oD 46 (.bin .add (.t 38) (.t 45)) 18,oD 47 (.mv (.t 7)) 19,oD 48 (.bin .add (.t 46) (.t 47)) 20,oD 9 (.mv (.t 48)) 21] [] [0,1,5,6,8,9] [15]) (.seq (.reg [oD 49 (.mv (.t 5)) 0,oD 50 (.mv (.t 6)) 1,oD 51 (.mv (.t 8)) 2,oD 52 (.bin .add (.t 50) (.t 51)) 3,oD 53 (.mv (.t 9)) 4,oD 54 (.bin .rem (.t 53) (.k (.i .u64 4294967296))) 5,oD 55 (.conv .u32 (.t 54)) 6,oD 56 (.ixs 1 (.t 49) (.t 52)) 7,oN (.store 1 (.t 56) (.t 55)) 8] [] [0,1,5,6,8,9] [15]) (.reg [oD 57 (.mv (.t 9)) 0,oD 58 (.bin .quo (.t 57) (.k (.i .u64 4294967296))) 1,oD 7 (.mv (.t 58)) 2] [] [0,1,5,6,7,8] [15])))) (.reg [oD 26 (.mv (.t 8)) 0,oD 27 (.bin .add (.t 26) (.k (.i .i64 1))) 1,oD 8 (.mv (.t 27)) 2] [] [0,1,5,6,7,8] [15])))
theorem wb148_0 : type_of% (@wbEq _ _ b148_0.eq_1) := @wbEq _ _ b148_0.eq_1
def b148_1 : IR := (.seq (.seq (.reg [oD 16 (.mv (.t 6)) 0,oD 17 (.mv (.t 0)) 1,oD 18 (.len (.t 17)) 2,oD 19 (.bin .lss (.t 16) (.t 18)) 3] [] [0,1,5,6,19] [15]) (.cond (.t 19) .skip (.exit 0))) (.seq (.block 1 (.seq (.reg [oD 7 (.mv (.k (.i .u64 0))) 0] [] [0,1,5,6,7] [15]) (.seq (.seq (.reg [oD 8 (.mv (.k (.i .i64 0))) 0] [] [0,1,5,6,7,8] [15]) (.block 2 (.loop [0,1,5,6,7,8] [15] b148_0))) (.reg [oD 59 (.mv (.t 5)) 0,oD 60 (.mv (.t 6)) 1,oD 61 (.mv (.t 1)) 2,oD 62 (.len (.t 61)) 3,oD 63 (.bin .add (.t 60) (.t 62)) 4,oD 64 (.mv (.t 7)) 5,oD 65 (.conv .u32 (.t 64)) 6,oD 66 (.ixs 1 (.t 59) (.t 63)) 7,oN (.store 1 (.t 66) (.t 65)) 8] [] [0,1,5,6] [15])))) (.reg [oD 20 (.mv (.t 6)) 0,oD 21 (.bin .add (.t 20) (.k (.i .i64 1))) 1,oD 6 (.mv (.t 21)) 2] [] [0,1,5,6] [15])))
theorem wb148_1 : type_of% (@wbEq _ _ b148_1.eq_1) := @wbEq _ _ b148_1.eq_1
def ir148 : IR := (.seq (.reg [oD 4 (.mv (.k (.sl 1 true []))) 0] [] [0,1] []) (.seq (.reg [oD 10 (.mv (.t 0)) 0,oD 11 (.len (.t 10)) 1,oD 12 (.mv (.t 1)) 2,oD 13 (.len (.t 12)) 3,oD 14 (.bin .add (.t 11) (.t 13)) 4,oD 15 (.mk 1 4 [.i .u32 0] (.t 14) (.t 14)) 5,oD 5 (.mv (.t 15)) 6] [] [0,1,5] [15]) (.seq (.seq (.reg [oD 6 (.mv (.k (.i .i64 0))) 0] [] [0,1,5,6] [15]) (.block 0 (.loop [0,1,5,6] [15] b148_1))) (.seq (.frz 5 (.reg [oD 67 (.mv (.t 5)) 0,oD 68 (.call 165 [(.t 67)]) 1,oD 4 (.mv (.t 68)) 2] [] [4] [])) .ret))))
def rv148 : List RVar := [.t 4]
theorem fnr148 : FT Tryz.prog 148 69 ir148 rv148 := fnK Tryz.func148 (by decide +kernel)
def b165_0 : IR := (.seq (.seq (.reg [oD 6 (.mv (.t 3)) 0,oD 7 (.bin .gtr (.t 6) (.k (.i .i64 0))) 1,oD 8 (.mv (.t 7)) 2,oT 9 (.mv (.t 0)) 8 3,oT 10 (.mv (.t 3)) 8 4,oT 11 (.bin .sub (.t 10) (.k (.i .i64 1))) 8 5,oT 12 (.ixs 1 (.t 9) (.t 11)) 8 6,oT 13 (.load 1 false (.t 12)) 8 7,oT 14 (.bin .eql (.t 13) (.k (.i .u32 0))) 8 8,oD 15 (.pick (.t 8) (.t 14) (.k (.b false))) 9] [] [0,3,15] []) (.cond (.t 15) .skip (.exit 0))) (.block 1 (.reg [oD 16 (.mv (.t 3)) 0,oD 17 (.bin .sub (.t 16) (.k (.i .i64 1))) 1,oD 3 (.mv (.t 17)) 2] [] [0,3] [])))
theorem wb165_0 : type_of% (@wbEq _ _ b165_0.eq_1) := @wbEq _ _ b165_0.eq_1
def ir165 : IR := (.seq (.reg [oD 2 (.mv (.k (.sl 1 true []))) 0] [] [0] []) (.seq (.reg [oD 4 (.mv (.t 0)) 0,oD 5 (.len (.t 4)) 1,oD 3 (.mv (.t 5)) 2] [] [0,3] []) (.seq (.block 0 (.loop [0,3] [] b165_0)) (.seq (.reg [oD 18 (.mv (.t 0)) 0,oD 19 (.mv (.t 3)) 1,oD 20 (.slc 1 (.t 18) none (some (.t 19)) none) 2,oD 2 (.mv (.t 20)) 3] [] [2] []) .ret))))
def rv165 : List RVar := [.t 2]
theorem fnr165 : FT Tryz.prog 165 21 ir165 rv165 := fnK Tryz.func165 (by decide +kernel)
def b166_0 : IR := (.seq (.seq (.reg [oD 6 (.mv (.t 1)) 0,oD 7 (.bin .gtr (.t 6) (.k (.i .u64 0))) 1] [] [0,1,7] []) (.cond (.t 7) .skip (.exit 0))) (.block 1 (.seq (.reg [oD 8 (.mv (.t 0)) 0,oD 9 (.mv (.t 1)) 1,oD 10 (.bin .rem (.t 8) (.t 9)) 2,oD 5 (.mv (.t 10)) 3] [] [1,5] []) (.seq (.reg [oD 11 (.mv (.t 1)) 0,oD 0 (.mv (.t 11)) 1] [] [0,5] []) (.reg [oD 12 (.mv (.t 5)) 0,oD 1 (.mv (.t 12)) 1] [] [0,1] [])))))
theorem wb166_0 : type_of% (@wbEq _ _ b166_0.eq_1) := @wbEq _ _ b166_0.eq_1
def ir166 : IR := (.seq (.reg [oD 4 (.mv (.k (.i .u64 0))) 0] [] [0,1] []) (.seq (.block 0 (.loop [0,1] [] b166_0)) (.seq (.reg [oD 13 (.mv (.t 0)) 0,oD 4 (.mv (.t 13)) 1] [] [4] []) .ret)))
def rv166 : List RVar := [.t 4]
theorem fnr166 : FT Tryz.prog 166 14 ir166 rv166 := fnK Tryz.func166 (by decide +kernel)
def ir167 : IR := (.seq (.reg [oD 2 (.mv (.k (.i .u64 0))) 0] [] [0] []) (.seq (.reg [oD 3 (.mv (.t 0)) 0,oD 4 (.call 170 [(.t 3),(.k (.i .i64 1))]) 1,oD 5 (.bin .mul (.t 4) (.k (.i .u64 4294967296))) 2,oD 6 (.mv (.t 0)) 3,oD 7 (.call 170 [(.t 6),(.k (.i .i64 0))]) 4,oD 8 (.bin .add (.t 5) (.t 7)) 5,oD 2 (.mv (.t 8)) 6] [] [2] []) .ret))
def rv167 : List RVar := [.t 2]
theorem fnr167 : FT Tryz.prog 167 9 ir167 rv167 := fnK Tryz.func167 (by decide +kernel)
def b168_0 : IR := (.seq (.seq (.reg [oD 72 (.mv (.t 13)) 0,oD 73 (.bin .geq (.t 72) (.k (.i .i64 0))) 1] [] [8,9,10,11,12,13,73] [55,67]) (.cond (.t 73) .skip (.exit 0))) (.seq (.block 1 (.seq (.reg [oD 76 (.mv (.t 11)) 0,oD 77 (.mv (.t 13)) 1,oD 78 (.mv (.t 13)) 2,oD 79 (.mv (.t 8)) 3,oD 80 (.bin .add (.t 78) (.t 79)) 4,oD 81 (.bin .add (.t 80) (.k (.i .i64 1))) 5,oD 82 (.slc 1 (.t 76) (some (.t 77)) (some (.t 81)) none) 6,oD 14 (.mv (.t 82)) 7] [] [8,9,10,11,12,13,14] [55,67]) (.seq (.reg [oD 83 (.mv (.t 14)) 0,oD 84 (.mv (.t 10)) 1,oD 85 (.callR 195 [(.t 83),(.t 84)]) 2,oD 15 (.mv (.t 85)) 3] [] [8,9,10,11,12,13,14,15] [55,67]) (.seq (.seq (.reg [oD 86 (.mv (.t 14)) 0,oD 87 (.mv (.t 10)) 1,oD 88 (.mv (.t 15)) 2,oD 89 (.callR 196 [(.t 86),(.t 87),(.t 88)]) 3] [] [8,9,10,11,12,13,14,15,89] [55,67]) (.cond (.t 89) (.seq (.reg [oD 90 (.mv (.t 15)) 0,oD 91 (.bin .sub (.t 90) (.k (.i .u64 1))) 1,oD 15 (.mv (.t 91)) 2] [] [8,9,10,11,12,13,14,15] [55,67]) (.reg [oD 92 (.mv (.t 14)) 0,oD 93 (.mv (.t 10)) 1,oD 94 (.callR 197 [(.t 92),(.t 93)]) 2] [] [8,9,10,11,12,13,15] [55,67])) .skip)) (.reg [oD 95 (.mv (.t 12)) 0,oD 96 (.mv (.t 13)) 1,oD 97 (.mv (.t 15)) 2,oD 98 (.conv .u32 (.t 97)) 3,oD 99 (.ixs 1 (.t 95) (.t 96)) 4,oN (.store 1 (.t 99) (.t 98)) 5] [] [8,9,10,11,12,13] [55,67]))))) (.reg [oD 74 (.mv (.t 13)) 0,oD 75 (.bin .sub (.t 74) (.k (.i .i64 1))) 1,oD 13 (.mv (.t 75)) 2] [] [8,9,10,11,12,13] [55,67])))
theorem wb168_0 : type_of% (@wbEq _ _ b168_0.eq_1) := @wbEq _ _ b168_0.eq_1
def ir168 : IR := (.seq (.reg [oD 4 (.mv (.k (.sl 1 true []))) 0,oD 5 (.mv (.k (.sl 1 true []))) 1] [] [0,1] []) (.seq (.seq (.reg [oD 18 (.mv (.t 0)) 0,oD 19 (.mv (.t 1)) 1,oD 20 (.call 142 [(.t 18),(.t 19)]) 2,oD 21 (.bin .lss (.t 20) (.k (.i .i64 0))) 3] [] [0,1,21] []) (.cond (.t 21) (.seq (.reg [oD 22 (.mv (.t 0)) 0,oD 4 (.mv (.k (.sl 1 true []))) 1,oD 5 (.mv (.t 22)) 2] [] [4,5] []) .ret) .skip)) (.seq (.seq (.reg [oD 23 (.mv (.t 1)) 0,oD 24 (.len (.t 23)) 1,oD 25 (.bin .eql (.t 24) (.k (.i .i64 1))) 2] [] [0,1,25] []) (.cond (.t 25) (.seq (.reg [oD 27 (.mv (.t 0)) 0,oD 28 (.mv (.t 1)) 1,oD 29 (.ixs 1 (.t 28) (.k (.i .i64 0))) 2,oD 30 (.load 1 false (.t 29)) 3,oD 31 (.conv .u64 (.t 30)) 4,oD 32 (.call 194 [(.t 27),(.t 31)]) 5,oD 26 (.mv (.t 32)) 6,oD 33 (.ext 0 (.t 26)) 7,oD 34 (.ext 1 (.t 26)) 8,oD 6 (.mv (.t 33)) 9,oD 7 (.mv (.t 34)) 10] [] [6,7] []) (.seq (.reg [oD 35 (.mv (.t 6)) 0,oD 36 (.mv (.t 7)) 1,oD 37 (.call 139 [(.t 36)]) 2,oD 4 (.mv (.t 35)) 3,oD 5 (.mv (.t 37)) 4] [] [4,5] []) .ret)) .skip)) (.seq (.reg [oD 38 (.mv (.t 1)) 0,oD 39 (.len (.t 38)) 1,oD 8 (.mv (.t 39)) 2] [] [0,1,8] []) (.seq (.reg [oD 40 (.mv (.t 1)) 0,oD 41 (.mv (.t 8)) 1,oD 42 (.bin .sub (.t 41) (.k (.i .i64 1))) 2,oD 43 (.ixs 1 (.t 40) (.t 42)) 3,oD 44 (.load 1 false (.t 43)) 4,oD 45 (.conv .u64 (.t 44)) 5,oD 46 (.bin .add (.t 45) (.k (.i .u64 1))) 6,oD 47 (.bin .quo (.k (.i .u64 4294967296)) (.t 46)) 7,oD 9 (.mv (.t 47)) 8] [] [0,1,8,9] []) (.seq (.reg [oD 48 (.mv (.t 1)) 0,oD 49 (.mv (.t 9)) 1,oD 50 (.call 139 [(.t 49)]) 2,oD 51 (.call 148 [(.t 48),(.t 50)]) 3,oD 10 (.mv (.t 51)) 4] [] [0,8,9,10] []) (.seq (.reg [oD 52 (.mv (.t 0)) 0,oD 53 (.len (.t 52)) 1,oD 54 (.bin .add (.t 53) (.k (.i .i64 1))) 2,oD 55 (.mk 1 4 [.i .u32 0] (.t 54) (.t 54)) 3,oD 11 (.mv (.t 55)) 4] [] [0,8,9,10,11] [55]) (.seq (.reg [oD 56 (.mv (.t 11)) 0,oD 57 (.mv (.t 0)) 1,oD 58 (.mv (.t 9)) 2,oD 59 (.call 139 [(.t 58)]) 3,oD 60 (.call 148 [(.t 57),(.t 59)]) 4,oD 61 (.cpy 1 (.t 56) (.t 60)) 5] [] [0,8,9,10,11] [55]) (.seq (.reg [oD 62 (.mv (.t 0)) 0,oD 63 (.len (.t 62)) 1,oD 64 (.mv (.t 8)) 2,oD 65 (.bin .sub (.t 63) (.t 64)) 3,oD 66 (.bin .add (.t 65) (.k (.i .i64 1))) 4,oD 67 (.mk 1 4 [.i .u32 0] (.t 66) (.t 66)) 5,oD 12 (.mv (.t 67)) 6] [] [0,8,9,10,11,12] [55,67]) (.seq (.seq (.reg [oD 68 (.mv (.t 0)) 0,oD 69 (.len (.t 68)) 1,oD 70 (.mv (.t 8)) 2,oD 71 (.bin .sub (.t 69) (.t 70)) 3,oD 13 (.mv (.t 71)) 4] [] [8,9,10,11,12,13] [55,67]) (.block 0 (.loop [8,9,10,11,12,13] [55,67] b168_0))) (.seq (.frz 11 (.reg [oD 101 (.mv (.t 11)) 0,oD 102 (.call 165 [(.t 101)]) 1,oD 103 (.mv (.t 9)) 2,oD 104 (.call 194 [(.t 102),(.t 103)]) 3,oD 100 (.mv (.t 104)) 4,oD 105 (.ext 0 (.t 100)) 5,oD 106 (.ext 1 (.t 100)) 6,oD 16 (.mv (.t 105)) 7,oD 17 (.mv (.t 106)) 8] [] [12,16] [67])) (.seq (.frz 12 (.reg [oD 107 (.mv (.t 12)) 0,oD 108 (.call 165 [(.t 107)]) 1,oD 109 (.mv (.t 16)) 2,oD 4 (.mv (.t 108)) 3,oD 5 (.mv (.t 109)) 4] [] [4,5] [])) .ret))))))))))))
def rv168 : List RVar := [.t 4, .t 5]
theorem fnr168 : FT Tryz.prog 168 110 ir168 rv168 := fnK Tryz.func168 (by decide +kernel)
def ir169 : IR := (.seq (.reg [oD 2 (.box (.t 0)) 0,oD 3 (.box (.t 1)) 1,oD 4 (.alloc [.b false,.sl 1 true []]) 2,oD 5 (.alloc [.b false,.sl 1 true []]) 3,oD 6 (.mv (.k (.i .i64 0))) 4] [] [2,3,4,5] [2,3,4,5]) (.seq (.seq (.reg [oD 9 (.fld 1 (.t 3)) 0,oD 10 (.load 1 false (.t 9)) 1,oD 11 (.len (.t 10)) 2,oD 12 (.bin .eql (.t 11) (.k (.i .i64 0))) 3] [] [2,3,4,5,12] [2,3,4,5]) (.cond (.t 12) (.seq (.reg [oD 13 (.build [.b false,.sl 1 true []] []) 0,oD 14 (.build [.b false,.sl 1 true []] []) 1,oN (.store 2 (.t 4) (.t 13)) 2,oN (.store 2 (.t 5) (.t 14)) 3,oD 6 (.mv (.k (.i .i64 10))) 4] [] [4,5,6] [4,5]) .ret) .skip)) (.seq (.reg [oD 16 (.fld 1 (.t 2)) 0,oD 17 (.load 1 false (.t 16)) 1,oD 18 (.fld 1 (.t 3)) 2,oD 19 (.load 1 false (.t 18)) 3,oD 20 (.call 168 [(.t 17),(.t 19)]) 4,oD 15 (.mv (.t 20)) 5,oD 21 (.ext 0 (.t 15)) 6,oD 22 (.ext 1 (.t 15)) 7,oD 7 (.mv (.t 21)) 8,oD 8 (.mv (.t 22)) 9] [] [2,3,4,5,7,8] [2,3,4,5]) (.seq (.seq (.reg [oD 23 (.fld 0 (.t 2)) 0,oD 24 (.load 1 false (.t 23)) 1,oD 25 (.mv (.t 24)) 2,oT 26 (.mv (.t 8)) 25 3,oT 27 (.len (.t 26)) 25 4,oT 28 (.bin .gtr (.t 27) (.k (.i .i64 0))) 25 5,oD 29 (.pick (.t 25) (.t 28) (.k (.b false))) 6] [] [2,3,4,5,7,8,29] [2,3,4,5]) (.cond (.t 29) (.seq (.reg [oD 30 (.mv (.t 7)) 0,oD 31 (.bsl 1 [(.k (.i .u32 1))]) 1,oD 32 (.call 146 [(.t 30),(.t 31)]) 2,oD 7 (.mv (.t 32)) 3] [] [2,3,4,5,7,8] [2,3,4,5]) (.reg [oD 33 (.fld 1 (.t 3)) 0,oD 34 (.load 1 false (.t 33)) 1,oD 35 (.mv (.t 8)) 2,oD 36 (.call 147 [(.t 34),(.t 35)]) 3,oD 8 (.mv (.t 36)) 4] [] [2,3,4,5,7,8] [2,3,4,5])) .skip)) (.seq (.reg [oD 37 (.fld 0 (.t 2)) 0,oD 38 (.load 1 false (.t 37)) 1,oD 39 (.fld 0 (.t 3)) 2,oD 40 (.load 1 false (.t 39)) 3,oD 41 (.eqb true (.t 38) (.t 40)) 4,oD 42 (.mv (.t 7)) 5,oD 43 (.call 138 [(.t 41),(.t 42)]) 6,oD 44 (.mv (.t 8)) 7,oD 45 (.call 138 [(.k (.b false)),(.t 44)]) 8,oN (.store 2 (.t 4) (.t 43)) 9,oN (.store 2 (.t 5) (.t 45)) 10,oD 6 (.mv (.k (.i .i64 0))) 11] [] [4,5,6] [4,5]) .ret)))))
def rv169 : List RVar := [.c 4 2 true, .c 5 2 true, .t 6]
theorem fnr169 : FT Tryz.prog 169 46 ir169 rv169 := fnK Tryz.func169 (by decide +kernel)
def ir170 : IR := (.seq (.reg [oD 4 (.mv (.k (.i .u64 0))) 0] [] [0,1] []) (.seq (.seq (.reg [oD 5 (.mv (.t 1)) 0,oD 6 (.mv (.t 0)) 1,oD 7 (.len (.t 6)) 2,oD 8 (.bin .lss (.t 5) (.t 7)) 3] [] [0,1,8] []) (.cond (.t 8) (.seq (.reg [oD 9 (.mv (.t 0)) 0,oD 10 (.mv (.t 1)) 1,oD 11 (.ixs 1 (.t 9) (.t 10)) 2,oD 12 (.load 1 false (.t 11)) 3,oD 13 (.conv .u64 (.t 12)) 4,oD 4 (.mv (.t 13)) 5] [] [4] []) .ret) .skip)) (.seq (.reg [oD 4 (.mv (.k (.i .u64 0))) 0] [] [4] []) .ret)))
def rv170 : List RVar := [.t 4]
theorem fnr170 : FT Tryz.prog 170 14 ir170 rv170 := fnK Tryz.func170 (by decide +kernel)
def b194_0 : IR := (.seq (.seq (.reg [oD 16 (.mv (.t 8)) 0,oD 17 (.bin .geq (.t 16) (.k (.i .i64 0))) 1] [] [0,1,6,7,8,17] [12]) (.cond (.t 17) .skip (.exit 0))) (.seq (.block 1 (.seq (.reg [oD 20 (.mv (.t 7)) 0,oD 21 (.bin .mul (.t 20) (.k (.i .u64 4294967296))) 1,oD 22 (.mv (.t 0)) 2,oD 23 (.mv (.t 8)) 3,oD 24 (.ixs 1 (.t 22) (.t 23)) 4,oD 25 (.load 1 false (.t 24)) 5,oD 26 (.conv .u64 (.t 25)) 6,oD 27 (.bin .add (.t 21) (.t 26)) 7,oD 9 (.mv (.t 27)) 8] [] [0,1,6,8,9] [12]) (.seq (.reg [oD 28 (.mv (.t 6)) 0,oD 29 (.mv (.t 8)) 1,oD 30 (.mv (.t 9)) 2,oD 31 (.mv (.t 1)) 3,oD 32 (.bin .quo (.t 30) (.t 31)) 4,oD 33 (.conv .u32 (.t 32)) 5,oD 34 (.ixs 1 (.t 28) (.t 29)) 6,oN (.store 1 (.t 34) (.t 33)) 7] [] [0,1,6,8,9] [12]) (.reg [oD 35 (.mv (.t 9)) 0,oD 36 (.mv (.t 1)) 1,oD 37 (.bin .rem (.t 35) (.t 36)) 2,oD 7 (.mv (.t 37)) 3] [] [0,1,6,7,8] [12])))) (.reg [oD 18 (.mv (.t 8)) 0,oD 19 (.bin .sub (.t 18) (.k (.i .i64 1))) 1,oD 8 (.mv (.t 19)) 2] [] [0,1,6,7,8] [12])))
theorem wb194_0 : type_of% (@wbEq _ _ b194_0.eq_1) := @wbEq _ _ b194_0.eq_1
def ir194 : IR := (.seq (.reg [oD 4 (.mv (.k (.sl 1 true []))) 0,oD 5 (.mv (.k (.i .u64 0))) 1] [] [0,1] []) (.seq (.reg [oD 10 (.mv (.t 0)) 0,oD 11 (.len (.t 10)) 1,oD 12 (.mk 1 4 [.i .u32 0] (.t 11) (.t 11)) 2,oD 6 (.mv (.t 12)) 3] [] [0,1,6] [12]) (.seq (.reg [oD 7 (.mv (.k (.i .u64 0))) 0] [] [0,1,6,7] [12]) (.seq (.seq (.reg [oD 13 (.mv (.t 0)) 0,oD 14 (.len (.t 13)) 1,oD 15 (.bin .sub (.t 14) (.k (.i .i64 1))) 2,oD 8 (.mv (.t 15)) 3] [] [0,1,6,7,8] [12]) (.block 0 (.loop [0,1,6,7,8] [12] b194_0))) (.seq (.frz 6 (.reg [oD 38 (.mv (.t 6)) 0,oD 39 (.call 165 [(.t 38)]) 1,oD 40 (.mv (.t 7)) 2,oD 4 (.mv (.t 39)) 3,oD 5 (.mv (.t 40)) 4] [] [4,5] [])) .ret)))))
def rv194 : List RVar := [.t 4, .t 5]
theorem fnr194 : FT Tryz.prog 194 41 ir194 rv194 := fnK Tryz.func194 (by decide +kernel)
def b195_0 : IR := (.seq (.seq (.reg [oD 40 (.mv (.t 7)) 0,oD 41 (.bin .geq (.t 40) (.k (.i .u64 4294967296))) 1,oD 42 (.mv (.t 41)) 2,oF 43 (.mv (.t 7)) 42 3,oF 44 (.mv (.t 1)) 42 4,oF 45 (.mv (.t 5)) 42 5,oF 46 (.bin .sub (.t 45) (.k (.i .i64 2))) 42 6,oF 47 (.ixs 1 (.t 44) (.t 46)) 42 7,oF 48 (.load 1 false (.t 47)) 42 8,oF 49 (.conv .u64 (.t 48)) 42 9,oF 50 (.bin .mul (.t 43) (.t 49)) 42 10,oF 51 (.mv (.t 8)) 42 11,oF 52 (.bin .mul (.t 51) (.k (.i .u64 4294967296))) 42 12,oF 53 (.mv (.t 0)) 42 13,oF 54 (.mv (.t 5)) 42 14,oF 55 (.bin .sub (.t 54) (.k (.i .i64 2))) 42 15,oF 56 (.ixs 1 (.t 53) (.t 55)) 42 16,oF 57 (.load 1 false (.t 56)) 42 17,oF 58 (.conv .u64 (.t 57)) 42 18,oF 59 (.bin .add (.t 52) (.t 58)) 42 19,oF 60 (.bin .gtr (.t 50) (.t 59)) 42 20,oD 61 (.pick (.t 42) (.k (.b true)) (.t 60)) 21] [] [0,1,5,7,8,61] []) (.cond (.t 61) .skip (.exit 0))) (.block 1 (.seq (.reg [oD 62 (.mv (.t 7)) 0,oD 63 (.bin .sub (.t 62) (.k (.i .u64 1))) 1,oD 7 (.mv (.t 63)) 2] [] [0,1,5,7,8] []) (.seq (.reg [oD 64 (.mv (.t 8)) 0,oD 65 (.mv (.t 1)) 1,oD 66 (.mv (.t 5)) 2,oD 67 (.bin .sub (.t 66) (.k (.i .i64 1))) 3,oD 68 (.ixs 1 (.t 65) (.t 67)) 4,oD 69 (.load 1 false (.t 68)) 5,oD 70 (.conv .u64 (.t 69)) 6,oD 71 (.bin .add (.t 64) (.t 70)) 7,oD 8 (.mv (.t 71)) 8] [] [0,1,5,7,8] []) (.seq (.reg [oD 72 (.mv (.t 8)) 0,oD 73 (.bin .geq (.t 72) (.k (.i .u64 4294967296))) 1] [] [0,1,5,7,8,73] []) (.cond (.t 73) (.exit 0) .skip))))))
theorem wb195_0 : type_of% (@wbEq _ _ b195_0.eq_1) := @wbEq _ _ b195_0.eq_1
def ir195 : IR := (.seq (.reg [oD 4 (.mv (.k (.i .u64 0))) 0] [] [0,1] []) (.seq (.reg [oD 9 (.mv (.t 1)) 0,oD 10 (.len (.t 9)) 1,oD 5 (.mv (.t 10)) 2] [] [0,1,5] []) (.seq (.reg [oD 11 (.mv (.t 0)) 0,oD 12 (.mv (.t 5)) 1,oD 13 (.ixs 1 (.t 11) (.t 12)) 2,oD 14 (.load 1 false (.t 13)) 3,oD 15 (.conv .u64 (.t 14)) 4,oD 16 (.bin .mul (.t 15) (.k (.i .u64 4294967296))) 5,oD 17 (.mv (.t 0)) 6,oD 18 (.mv (.t 5)) 7,oD 19 (.bin .sub (.t 18) (.k (.i .i64 1))) 8,oD 20 (.ixs 1 (.t 17) (.t 19)) 9,oD 21 (.load 1 false (.t 20)) 10,oD 22 (.conv .u64 (.t 21)) 11,oD 23 (.bin .add (.t 16) (.t 22)) 12,oD 6 (.mv (.t 23)) 13] [] [0,1,5,6] []) (.seq (.reg [oD 24 (.mv (.t 6)) 0,oD 25 (.mv (.t 1)) 1,oD 26 (.mv (.t 5)) 2,oD 27 (.bin .sub (.t 26) (.k (.i .i64 1))) 3,oD 28 (.ixs 1 (.t 25) (.t 27)) 4,oD 29 (.load 1 false (.t 28)) 5,oD 30 (.conv .u64 (.t 29)) 6,oD 31 (.bin .quo (.t 24) (.t 30)) 7,oD 7 (.mv (.t 31)) 8] [] [0,1,5,6,7] []) (.seq (.reg [oD 32 (.mv (.t 6)) 0,oD 33 (.mv (.t 1)) 1,oD 34 (.mv (.t 5)) 2,oD 35 (.bin .sub (.t 34) (.k (.i .i64 1))) 3,oD 36 (.ixs 1 (.t 33) (.t 35)) 4,oD 37 (.load 1 false (.t 36)) 5,oD 38 (.conv .u64 (.t 37)) 6,oD 39 (.bin .rem (.t 32) (.t 38)) 7,oD 8 (.mv (.t 39)) 8] [] [0,1,5,7,8] []) (.seq (.block 0 (.loop [0,1,5,7,8] [] b195_0)) (.seq (.reg [oD 74 (.mv (.t 7)) 0,oD 4 (.mv (.t 74)) 1] [] [4] []) .ret)))))))
def rv195 : List RVar := [.t 4]
theorem fnr195 : FT Tryz.prog 195 75 ir195 rv195 := fnK Tryz.func195 (by decide +kernel)
def b196_0 : IR := (.seq (.seq (.reg [oD 12 (.mv (.t 9)) 0,oD 13 (.mv (.t 0)) 1,oD 14 (.len (.t 13)) 2,oD 15 (.bin .lss (.t 12) (.t 14)) 3] [] [0,1,2,7,8,9,15] []) (.cond (.t 15) .skip (.exit 0))) (.seq (.block 1 (.seq (.reg [oD 18 (.mv (.t 2)) 0,oD 19 (.mv (.t 1)) 1,oD 20 (.mv (.t 9)) 2,oD 21 (.call 170 [(.t 19),(.t 20)]) 3,oD 22 (.bin .mul (.t 18) (.t 21)) 4,oD 23 (.mv (.t 7)) 5,oD 24 (.bin .add (.t 22) (.t 23)) 6,oD 10 (.mv (.t 24)) 7] [] [0,1,2,8,9,10] []) (.seq (.reg [oD 25 (.mv (.t 10)) 0,oD 26 (.bin .quo (.t 25) (.k (.i .u64 4294967296))) 1,oD 7 (.mv (.t 26)) 2] [] [0,1,2,7,8,9,10] []) (.seq (.reg [oD 27 (.mv (.t 0)) 0,oD 28 (.mv (.t 9)) 1,oD 29 (.ixs 1 (.t 27) (.t 28)) 2,oD 30 (.load 1 false (.t 29)) 3,oD 31 (.conv .u64 (.t 30)) 4,oD 32 (.bin .add (.k (.i .u64 4294967296)) (.t 31)) 5,oD 33 (.mv (.t 10)) 6,oD 34 (.bin .rem (.t 33) (.k (.i .u64 4294967296))) 7,oD 35 (.bin .sub (.t 32) (.t 34)) 8,oD 36 (.mv (.t 8)) 9,oD 37 (.bin .sub (.t 35) (.t 36)) 10,oD 11 (.mv (.t 37)) 11] [] [0,1,2,7,9,11] []) (.seq (.reg [oD 38 (.mv (.t 0)) 0,oD 39 (.mv (.t 9)) 1,oD 40 (.mv (.t 11)) 2,oD 41 (.bin .rem (.t 40) (.k (.i .u64 4294967296))) 3,oD 42 (.conv .u32 (.t 41)) 4,oD 43 (.ixs 1 (.t 38) (.t 39)) 5,oN (.store 1 (.t 43) (.t 42)) 6] [] [0,1,2,7,9,11] []) (.reg [oD 44 (.mv (.t 11)) 0,oD 45 (.bin .quo (.t 44) (.k (.i .u64 4294967296))) 1,oD 46 (.bin .sub (.k (.i .u64 1)) (.t 45)) 2,oD 8 (.mv (.t 46)) 3] [] [0,1,2,7,8,9] [])))))) (.reg [oD 16 (.mv (.t 9)) 0,oD 17 (.bin .add (.t 16) (.k (.i .i64 1))) 1,oD 9 (.mv (.t 17)) 2] [] [0,1,2,7,8,9] [])))
theorem wb196_0 : type_of% (@wbEq _ _ b196_0.eq_1) := @wbEq _ _ b196_0.eq_1
def ir196 : IR := (.seq (.reg [oD 6 (.mv (.k (.b false))) 0] [] [0,1,2] []) (.seq (.reg [oD 7 (.mv (.k (.i .u64 0))) 0] [] [0,1,2,7] []) (.seq (.reg [oD 8 (.mv (.k (.i .u64 0))) 0] [] [0,1,2,7,8] []) (.seq (.seq (.reg [oD 9 (.mv (.k (.i .i64 0))) 0] [] [0,1,2,7,8,9] []) (.block 0 (.loop [0,1,2,7,8,9] [] b196_0))) (.seq (.reg [oD 47 (.mv (.t 8)) 0,oD 48 (.bin .eql (.t 47) (.k (.i .u64 1))) 1,oD 6 (.mv (.t 48)) 2] [] [6] []) .ret)))))
def rv196 : List RVar := [.t 6]
theorem fnr196 : FT Tryz.prog 196 49 ir196 rv196 := fnK Tryz.func196 (by decide +kernel)
def b197_0 : IR := (.seq (.seq (.reg [oD 7 (.mv (.t 5)) 0,oD 8 (.mv (.t 0)) 1,oD 9 (.len (.t 8)) 2,oD 10 (.bin .lss (.t 7) (.t 9)) 3] [] [0,1,4,5,10] []) (.cond (.t 10) .skip (.exit 0))) (.seq (.block 1 (.seq (.reg [oD 13 (.mv (.t 0)) 0,oD 14 (.mv (.t 5)) 1,oD 15 (.ixs 1 (.t 13) (.t 14)) 2,oD 16 (.load 1 false (.t 15)) 3,oD 17 (.conv .u64 (.t 16)) 4,oD 18 (.mv (.t 1)) 5,oD 19 (.mv (.t 5)) 6,oD 20 (.call 170 [(.t 18),(.t 19)]) 7,oD 21 (.bin .add (.t 17) (.t 20)) 8,oD 22 (.mv (.t 4)) 9,oD 23 (.bin .add (.t 21) (.t 22)) 10,oD 6 (.mv (.t 23)) 11] [] [0,1,5,6] []) (.seq (.reg [oD 24 (.mv (.t 0)) 0,oD 25 (.mv (.t 5)) 1,oD 26 (.mv (.t 6)) 2,oD 27 (.bin .rem (.t 26) (.k (.i .u64 4294967296))) 3,oD 28 (.conv .u32 (.t 27)) 4,oD 29 (.ixs 1 (.t 24) (.t 25)) 5,oN (.store 1 (.t 29) (.t 28)) 6] [] [0,1,5,6] []) (.reg [oD 30 (.mv (.t 6)) 0,oD 31 (.bin .quo (.t 30) (.k (.i .u64 4294967296))) 1,oD 4 (.mv (.t 31)) 2] [] [0,1,4,5] [])))) (.reg [oD 11 (.mv (.t 5)) 0,oD 12 (.bin .add (.t 11) (.k (.i .i64 1))) 1,oD 5 (.mv (.t 12)) 2] [] [0,1,4,5] [])))
theorem wb197_0 : type_of% (@wbEq _ _ b197_0.eq_1) := @wbEq _ _ b197_0.eq_1
def ir197 : IR := (.seq (.reg [oD 4 (.mv (.k (.i .u64 0))) 0] [] [0,1,4] []) (.seq (.reg [oD 5 (.mv (.k (.i .i64 0))) 0] [] [0,1,4,5] []) (.block 0 (.loop [0,1,4,5] [] b197_0))))
def rv197 : List RVar := []
theorem fnr197 : FT Tryz.prog 197 32 ir197 rv197 := fnK Tryz.func197 (by decide +kernel)
def ir67 : IR := (.seq (.reg [oD 1 (.box (.t 0)) 0,oD 2 (.mv (.k (.b false))) 1] [] [1] [1]) (.seq (.seq (.reg [oD 3 (.fld 0 (.t 1)) 0,oD 4 (.load 2 true (.t 3)) 1,oD 5 (.call 123 [(.t 4)]) 2,oD 6 (.un .not (.t 5)) 3,oD 7 (.mv (.t 6)) 4,oF 8 (.fld 2 (.t 1)) 7 5,oF 9 (.load 2 true (.t 8)) 7 6,oF 10 (.call 123 [(.t 9)]) 7 7,oF 11 (.un .not (.t 10)) 7 8,oD 12 (.pick (.t 7) (.k (.b true)) (.t 11)) 9,oD 13 (.mv (.t 12)) 10,oF 14 (.fld 2 (.t 1)) 13 11,oF 15 (.load 2 true (.t 14)) 13 12,oF 16 (.call 124 [(.t 15)]) 13 13,oF 17 (.bin .leq (.t 16) (.k (.i .i64 0))) 13 14,oD 18 (.pick (.t 13) (.k (.b true)) (.t 17)) 15] [] [1,18] [1]) (.cond (.t 18) (.seq (.reg [oD 2 (.mv (.k (.b false))) 0] [] [2] []) .ret) .skip)) (.seq (.reg [oD 19 (.fld 0 (.t 1)) 0,oD 20 (.load 2 true (.t 19)) 1,oD 21 (.fld 2 (.t 1)) 2,oD 22 (.load 2 true (.t 21)) 3,oD 23 (.call 126 [(.t 20),(.t 22)]) 4,oD 24 (.call 127 [(.k (.i .i64 1))]) 5,oD 25 (.call 125 [(.t 23),(.t 24)]) 6,oD 26 (.bin .eql (.t 25) (.k (.i .i64 0))) 7,oD 2 (.mv (.t 26)) 8] [] [2] []) .ret)))
def rv67 : List RVar := [.t 2]
theorem fnr67 : FT Tryz.prog 67 27 ir67 rv67 := fnK Tryz.func67 (by decide +kernel)
def ir68 : IR := (.seq (.reg [oD 1 (.box (.t 0)) 0,oD 2 (.mv (.k (.i .i64 0))) 1] [] [1] [1]) (.seq (.reg [oD 3 (.fld 0 (.t 1)) 0,oD 4 (.load 2 true (.t 3)) 1,oD 5 (.call 124 [(.t 4)]) 2,oD 2 (.mv (.t 5)) 3] [] [2] []) .ret))
def rv68 : List RVar := [.t 2]
theorem fnr68 : FT Tryz.prog 68 6 ir68 rv68 := fnK Tryz.func68 (by decide +kernel)
def ir76 : IR := (.seq (.reg [oD 2 (.box (.t 0)) 0,oD 3 (.box (.t 1)) 1,oD 4 (.alloc [.b false,.sl 1 true [],.b false,.sl 1 true []]) 2] [] [2,3,4] [2,3,4]) (.seq (.reg [oD 5 (.fld 0 (.t 2)) 0,oD 6 (.load 2 true (.t 5)) 1,oD 7 (.fld 0 (.t 3)) 2,oD 8 (.load 2 true (.t 7)) 3,oD 9 (.bsl 2 [(.t 6),(.t 8)]) 4,oD 10 (.call 132 [(.t 9)]) 5,oD 11 (.fld 2 (.t 2)) 6,oD 12 (.load 2 true (.t 11)) 7,oD 13 (.fld 2 (.t 3)) 8,oD 14 (.load 2 true (.t 13)) 9,oD 15 (.bsl 2 [(.t 12),(.t 14)]) 10,oD 16 (.call 132 [(.t 15)]) 11,oD 17 (.call 131 [(.t 10),(.t 16)]) 12,oN (.store 4 (.t 4) (.t 17)) 13] [] [4] [4]) .ret))
def rv76 : List RVar := [.c 4 4 true]
theorem fnr76 : FT Tryz.prog 76 18 ir76 rv76 := fnK Tryz.func76 (by decide +kernel)
def ir80 : IR := (.seq (.reg [oD 2 (.box (.t 0)) 0,oD 3 (.box (.t 1)) 1,oD 4 (.alloc [.b false,.sl 1 true [],.b false,.sl 1 true []]) 2] [] [2,3,4] [2,3,4]) (.seq (.reg [oD 5 (.fld 0 (.t 2)) 0,oD 6 (.load 2 true (.t 5)) 1,oD 7 (.fld 2 (.t 3)) 2,oD 8 (.load 2 true (.t 7)) 3,oD 9 (.bsl 2 [(.t 6),(.t 8)]) 4,oD 10 (.call 132 [(.t 9)]) 5,oD 11 (.fld 0 (.t 3)) 6,oD 12 (.load 2 true (.t 11)) 7,oD 13 (.fld 2 (.t 2)) 8,oD 14 (.load 2 true (.t 13)) 9,oD 15 (.bsl 2 [(.t 12),(.t 14)]) 10,oD 16 (.call 132 [(.t 15)]) 11,oD 17 (.call 135 [(.t 10),(.t 16)]) 12,oD 18 (.fld 2 (.t 2)) 13,oD 19 (.load 2 true (.t 18)) 14,oD 20 (.fld 2 (.t 3)) 15,oD 21 (.load 2 true (.t 20)) 16,oD 22 (.bsl 2 [(.t 19),(.t 21)]) 17,oD 23 (.call 132 [(.t 22)]) 18,oD 24 (.call 131 [(.t 17),(.t 23)]) 19,oN (.store 4 (.t 4) (.t 24)) 20] [] [4] [4]) .ret))
def rv80 : List RVar := [.c 4 4 true]
theorem fnr80 : FT Tryz.prog 80 25 ir80 rv80 := fnK Tryz.func80 (by decide +kernel)
def ir82 : IR := (.seq (.reg [oD 2 (.box (.t 0)) 0,oD 3 (.box (.t 1)) 1,oD 4 (.alloc [.b false,.sl 1 true [],.b false,.sl 1 true []]) 2] [] [2,3,4] [2,3,4]) (.seq (.reg [oD 5 (.fld 0 (.t 2)) 0,oD 6 (.load 2 true (.t 5)) 1,oD 7 (.fld 2 (.t 3)) 2,oD 8 (.load 2 true (.t 7)) 3,oD 9 (.bsl 2 [(.t 6),(.t 8)]) 4,oD 10 (.call 132 [(.t 9)]) 5,oD 11 (.fld 0 (.t 3)) 6,oD 12 (.load 2 true (.t 11)) 7,oD 13 (.fld 2 (.t 2)) 8,oD 14 (.load 2 true (.t 13)) 9,oD 15 (.bsl 2 [(.t 12),(.t 14)]) 10,oD 16 (.call 132 [(.t 15)]) 11,oD 17 (.call 136 [(.t 10),(.t 16)]) 12,oD 18 (.fld 2 (.t 2)) 13,oD 19 (.load 2 true (.t 18)) 14,oD 20 (.fld 2 (.t 3)) 15,oD 21 (.load 2 true (.t 20)) 16,oD 22 (.bsl 2 [(.t 19),(.t 21)]) 17,oD 23 (.call 132 [(.t 22)]) 18,oD 24 (.call 131 [(.t 17),(.t 23)]) 19,oN (.store 4 (.t 4) (.t 24)) 20] [] [4] [4]) .ret))
def rv82 : List RVar := [.c 4 4 true]
theorem fnr82 : FT Tryz.prog 82 25 ir82 rv82 := fnK Tryz.func82 (by decide +kernel)
def ir83 : IR := (.seq (.reg [oD 1 (.box (.t 0)) 0,oD 2 (.alloc [.b false,.sl 1 true [],.b false,.sl 1 true []]) 1] [] [1,2] [1,2]) (.seq (.reg [oD 3 (.fld 0 (.t 1)) 0,oD 4 (.load 2 true (.t 3)) 1,oD 5 (.call 137 [(.t 4)]) 2,oD 6 (.fld 2 (.t 1)) 3,oD 7 (.load 2 true (.t 6)) 4,oD 8 (.bsl 2 [(.t 7)]) 5,oD 9 (.call 132 [(.t 8)]) 6,oD 10 (.build [.b false,.sl 1 true [],.b false,.sl 1 true []] [(0,2,(.t 5)),(2,2,(.t 9))]) 7,oN (.store 4 (.t 2) (.t 10)) 8] [] [2] [2]) .ret))
def rv83 : List RVar := [.c 2 4 true]
theorem fnr83 : FT Tryz.prog 83 11 ir83 rv83 := fnK Tryz.func83 (by decide +kernel)
def ir85 : IR := (.seq (.reg [oD 2 (.alloc [.b false,.sl 1 true [],.b false,.sl 1 true []]) 0] [] [0,2] [2]) (.seq (.reg [oD 3 (.mv (.t 0)) 0,oD 4 (.call 127 [(.t 3)]) 1,oD 5 (.call 140 [(.t 4)]) 2,oN (.store 4 (.t 2) (.t 5)) 3] [] [2] [2]) .ret))
def rv85 : List RVar := [.c 2 4 true]
theorem fnr85 : FT Tryz.prog 85 6 ir85 rv85 := fnK Tryz.func85 (by decide +kernel)
def ir123 : IR := (.seq (.reg [oD 1 (.box (.t 0)) 0,oD 2 (.mv (.k (.b false))) 1] [] [1] [1]) (.seq (.seq (.reg [oD 4 (.fld 1 (.t 1)) 0,oD 5 (.load 1 false (.t 4)) 1,oD 6 (.len (.t 5)) 2,oD 3 (.mv (.t 6)) 3] [] [1,3] [1]) (.seq (.reg [oD 7 (.mv (.t 3)) 0,oD 8 (.bin .gtr (.t 7) (.k (.i .i64 0))) 1] [] [1,3,8] [1]) (.cond (.t 8) (.seq (.reg [oD 9 (.fld 1 (.t 1)) 0,oD 10 (.load 1 false (.t 9)) 1,oD 11 (.mv (.t 3)) 2,oD 12 (.bin .sub (.t 11) (.k (.i .i64 1))) 3,oD 13 (.ixs 1 (.t 10) (.t 12)) 4,oD 14 (.load 1 false (.t 13)) 5,oD 15 (.bin .neq (.t 14) (.k (.i .u32 0))) 6,oD 2 (.mv (.t 15)) 7] [] [2] []) .ret) .skip))) (.seq (.reg [oD 16 (.fld 0 (.t 1)) 0,oD 17 (.load 1 false (.t 16)) 1,oD 18 (.un .not (.t 17)) 2,oD 2 (.mv (.t 18)) 3] [] [2] []) .ret)))
def rv123 : List RVar := [.t 2]
theorem fnr123 : FT Tryz.prog 123 19 ir123 rv123 := fnK Tryz.func123 (by decide +kernel)
def ir124 : IR := (.seq (.reg [oD 1 (.box (.t 0)) 0,oD 2 (.mv (.k (.i .i64 0))) 1] [] [1] [1]) (.seq (.seq (.reg [oD 3 (.fld 0 (.t 1)) 0,oD 4 (.load 1 false (.t 3)) 1] [] [1,4] [1]) (.cond (.t 4) (.seq (.reg [oD 2 (.mv (.k (.i .i64 (-1)))) 0] [] [2] []) .ret) .skip)) (.seq (.reg [oD 5 (.fld 1 (.t 1)) 0,oD 6 (.load 1 false (.t 5)) 1,oD 7 (.len (.t 6)) 2,oD 8 (.mn (.t 7) (.k (.i .i64 1))) 3,oD 2 (.mv (.t 8)) 4] [] [2] []) .ret)))
def rv124 : List RVar := [.t 2]
theorem fnr124 : FT Tryz.prog 124 9 ir124 rv124 := fnK Tryz.func124 (by decide +kernel)
def ir125 : IR := (.seq (.reg [oD 2 (.box (.t 0)) 0,oD 3 (.box (.t 1)) 1,oD 4 (.mv (.k (.i .i64 0))) 2] [] [2,3] [2,3]) (.seq (.seq (.reg [oD 5 (.fld 0 (.t 2)) 0,oD 6 (.load 1 false (.t 5)) 1,oD 7 (.fld 0 (.t 3)) 2,oD 8 (.load 1 false (.t 7)) 3,oD 9 (.eqb true (.t 6) (.t 8)) 4] [] [2,3,9] [2,3]) (.cond (.t 9) (.seq (.reg [oD 10 (.load 2 true (.t 2)) 0,oD 11 (.call 124 [(.t 10)]) 1,oD 12 (.load 2 true (.t 3)) 2,oD 13 (.call 124 [(.t 12)]) 3,oD 14 (.call 154 [(.t 11),(.t 13)]) 4,oD 4 (.mv (.t 14)) 5] [] [4] []) .ret) .skip)) (.seq (.seq (.reg [oD 15 (.fld 0 (.t 2)) 0,oD 16 (.load 1 false (.t 15)) 1] [] [2,3,16] [2,3]) (.cond (.t 16) (.reg [oD 17 (.load 2 true (.t 3)) 0,oD 18 (.load 2 true (.t 2)) 1,oN (.store 2 (.t 2) (.t 17)) 2,oN (.store 2 (.t 3) (.t 18)) 3] [] [2,3] [2,3]) .skip)) (.seq (.reg [oD 19 (.fld 1 (.t 2)) 0,oD 20 (.load 1 false (.t 19)) 1,oD 21 (.fld 1 (.t 3)) 2,oD 22 (.load 1 false (.t 21)) 3,oD 23 (.call 155 [(.t 20),(.t 22)]) 4,oD 4 (.mv (.t 23)) 5] [] [4] []) .ret))))
def rv125 : List RVar := [.t 4]
theorem fnr125 : FT Tryz.prog 125 24 ir125 rv125 := fnK Tryz.func125 (by decide +kernel)
def b126_0 : IR := (.seq (.seq (.reg [oD 13 (.mv (.t 6)) 0,oD 14 (.len (.t 13)) 1,oD 15 (.bin .gtr (.t 14) (.k (.i .i64 0))) 2] [] [4,5,6,15] [4]) (.cond (.t 15) .skip (.exit 0))) (.block 1 (.seq (.reg [oD 17 (.mv (.t 5)) 0,oD 18 (.mv (.t 6)) 1,oD 19 (.call 156 [(.t 17),(.t 18)]) 2,oD 16 (.mv (.t 19)) 3,oD 20 (.ext 0 (.t 16)) 4,oD 21 (.ext 1 (.t 16)) 5,oD 7 (.mv (.t 20)) 6,oD 8 (.mv (.t 21)) 7] [] [4,6,8] [4]) (.reg [oD 22 (.mv (.t 6)) 0,oD 23 (.mv (.t 8)) 1,oD 5 (.mv (.t 22)) 2,oD 6 (.mv (.t 23)) 3] [] [4,5,6] [4]))))
theorem wb126_0 : type_of% (@wbEq _ _ b126_0.eq_1) := @wbEq _ _ b126_0.eq_1
def ir126 : IR := (.seq (.reg [oD 2 (.box (.t 0)) 0,oD 3 (.box (.t 1)) 1,oD 4 (.alloc [.b false,.sl 1 true []]) 2] [] [2,3,4] [2,3,4]) (.seq (.reg [oD 9 (.fld 1 (.t 2)) 0,oD 10 (.load 1 false (.t 9)) 1,oD 11 (.fld 1 (.t 3)) 2,oD 12 (.load 1 false (.t 11)) 3,oD 5 (.mv (.t 10)) 4,oD 6 (.mv (.t 12)) 5] [] [4,5,6] [4]) (.seq (.block 0 (.loop [4,5,6] [4] b126_0)) (.seq (.reg [oD 24 (.mv (.t 5)) 0,oD 25 (.call 157 [(.t 24),(.k (.b false))]) 1,oN (.store 2 (.t 4) (.t 25)) 2] [] [4] [4]) .ret))))
def rv126 : List RVar := [.c 4 2 true]
theorem fnr126 : FT Tryz.prog 126 26 ir126 rv126 := fnK Tryz.func126 (by decide +kernel)
def ir127 : IR := (.seq (.reg [oD 2 (.alloc [.b false,.sl 1 true []]) 0] [] [0,2] [2]) (.seq (.seq (.reg [oD 3 (.mv (.t 0)) 0,oD 4 (.bin .lss (.t 3) (.k (.i .i64 0))) 1] [] [0,2,4] [2]) (.cond (.t 4) (.seq (.reg [oD 5 (.mv (.t 0)) 0,oD 6 (.conv .u64 (.t 5)) 1,oD 7 (.un .neg (.t 6)) 2,oD 8 (.call 158 [(.t 7)]) 3,oD 9 (.call 157 [(.t 8),(.k (.b true))]) 4,oN (.store 2 (.t 2) (.t 9)) 5] [] [2] [2]) .ret) .skip)) (.seq (.reg [oD 10 (.mv (.t 0)) 0,oD 11 (.conv .u64 (.t 10)) 1,oD 12 (.call 158 [(.t 11)]) 2,oD 13 (.call 157 [(.t 12),(.k (.b false))]) 3,oN (.store 2 (.t 2) (.t 13)) 4] [] [2] [2]) .ret)))
def rv127 : List RVar := [.c 2 2 true]
theorem fnr127 : FT Tryz.prog 127 14 ir127 rv127 := fnK Tryz.func127 (by decide +kernel)
def ir131 : IR := (.seq (.reg [oD 2 (.box (.t 0)) 0,oD 3 (.box (.t 1)) 1,oD 4 (.alloc [.b false,.sl 1 true [],.b false,.sl 1 true []]) 2] [] [2,3,4] [2,3,4]) (.seq (.reg [oD 6 (.load 2 true (.t 2)) 0,oD 7 (.load 2 true (.t 3)) 1,oD 8 (.call 126 [(.t 6),(.t 7)]) 2,oD 5 (.alloc [.b false,.sl 1 true []]) 3,oN (.store 2 (.t 5) (.t 8)) 4] [] [2,3,4,5] [2,3,4,5]) (.seq (.seq (.reg [oD 9 (.load 2 true (.t 3)) 0,oD 10 (.call 124 [(.t 9)]) 1,oD 11 (.bin .lss (.t 10) (.k (.i .i64 0))) 2] [] [2,3,4,5,11] [2,3,4,5]) (.cond (.t 11) (.reg [oD 12 (.load 2 true (.t 5)) 0,oD 13 (.call 137 [(.t 12)]) 1,oN (.store 2 (.t 5) (.t 13)) 2] [] [2,3,4,5] [2,3,4,5]) .skip)) (.seq (.reg [oD 15 (.load 2 true (.t 2)) 0,oD 16 (.load 2 true (.t 5)) 1,oD 17 (.call 159 [(.t 15),(.t 16)]) 2,oD 14 (.mv (.t 17)) 3,oD 18 (.ext 0 (.t 14)) 4,oD 19 (.ext 1 (.t 14)) 5,oD 20 (.ext 2 (.t 14)) 6,oN (.store 2 (.t 2) (.t 18)) 7] [] [2,3,4,5] [2,3,4,5]) (.seq (.reg [oD 22 (.load 2 true (.t 3)) 0,oD 23 (.load 2 true (.t 5)) 1,oD 24 (.call 159 [(.t 22),(.t 23)]) 2,oD 21 (.mv (.t 24)) 3,oD 25 (.ext 0 (.t 21)) 4,oD 26 (.ext 1 (.t 21)) 5,oD 27 (.ext 2 (.t 21)) 6,oN (.store 2 (.t 3) (.t 25)) 7] [] [2,3,4] [2,3,4]) (.seq (.reg [oD 28 (.load 2 true (.t 2)) 0,oD 29 (.load 2 true (.t 3)) 1,oD 30 (.build [.b false,.sl 1 true [],.b false,.sl 1 true []] [(0,2,(.t 28)),(2,2,(.t 29))]) 2,oN (.store 4 (.t 4) (.t 30)) 3] [] [4] [4]) .ret))))))
def rv131 : List RVar := [.c 4 4 true]
theorem fnr131 : FT Tryz.prog 131 31 ir131 rv131 := fnK Tryz.func131 (by decide +kernel)
def b132_0 : IR := (.seq (.reg [oD 10 (.bin .lss (.t 9) (.t 8)) 0] [] [2,3,7,8,9,10] [2,3]) (.seq (.cond (.t 10) .skip (.exit 0)) (.seq (.block 1 (.seq (.reg [oD 11 (.ixs 2 (.t 7) (.t 9)) 0,oD 12 (.load 2 true (.t 11)) 1,oD 5 (.alloc [.b false,.sl 1 true []]) 2,oN (.store 2 (.t 5) (.t 12)) 3] [] [2,3,5,7,8,9] [2,3,5]) (.reg [oD 13 (.load 2 true (.t 3)) 0,oD 14 (.load 2 true (.t 5)) 1,oD 15 (.call 160 [(.t 13),(.t 14)]) 2,oN (.store 2 (.t 3) (.t 15)) 3] [] [2,3,7,8,9] [2,3]))) (.reg [oD 16 (.bin .add (.t 9) (.k (.i .i64 1))) 0,oD 9 (.mv (.t 16)) 1] [] [2,3,7,8,9] [2,3]))))
theorem wb132_0 : type_of% (@wbEq _ _ b132_0.eq_1) := @wbEq _ _ b132_0.eq_1
def ir132 : IR := (.seq (.reg [oD 2 (.alloc [.b false,.sl 1 true []]) 0] [] [0,2] [2]) (.seq (.reg [oD 6 (.call 127 [(.k (.i .i64 1))]) 0,oD 3 (.alloc [.b false,.sl 1 true []]) 1,oN (.store 2 (.t 3) (.t 6)) 2] [] [0,2,3] [2,3]) (.seq (.seq (.reg [oD 7 (.mv (.t 0)) 0,oD 8 (.len (.t 7)) 1,oD 9 (.mv (.k (.i .i64 0))) 2] [] [2,3,7,8,9] [2,3]) (.block 0 (.loop [2,3,7,8,9] [2,3] b132_0))) (.seq (.reg [oD 17 (.load 2 true (.t 3)) 0,oN (.store 2 (.t 2) (.t 17)) 1] [] [2] [2]) .ret))))
def rv132 : List RVar := [.c 2 2 true]
theorem fnr132 : FT Tryz.prog 132 18 ir132 rv132 := fnK Tryz.func132 (by decide +kernel)
def ir135 : IR := (.seq (.reg [oD 2 (.box (.t 0)) 0,oD 3 (.box (.t 1)) 1,oD 4 (.alloc [.b false,.sl 1 true []]) 2] [] [2,3,4] [2,3,4]) (.seq (.reg [oD 7 (.fld 1 (.t 2)) 0,oD 8 (.load 1 false (.t 7)) 1,oD 9 (.fld 1 (.t 3)) 2,oD 10 (.load 1 false (.t 9)) 3,oD 5 (.mv (.t 8)) 4,oD 6 (.mv (.t 10)) 5] [] [2,3,4,5,6] [2,3,4]) (.seq (.block 0 (.seq (.reg [oD 12 (.fld 0 (.t 2)) 0,oD 13 (.load 1 false (.t 12)) 1,oD 14 (.fld 0 (.t 3)) 2,oD 15 (.load 1 false (.t 14)) 3,oD 16 (.eqb false (.t 13) (.t 15)) 4,oD 11 (.mv (.t 16)) 5] [] [2,3,4,5,6,11] [2,3,4]) (.cond (.t 11) (.seq (.reg [oD 17 (.mv (.t 5)) 0,oD 18 (.mv (.t 6)) 1,oD 19 (.call 163 [(.t 17),(.t 18)]) 2,oD 20 (.fld 0 (.t 2)) 3,oD 21 (.load 1 false (.t 20)) 4,oD 22 (.call 157 [(.t 19),(.t 21)]) 5,oN (.store 2 (.t 4) (.t 22)) 6] [] [4] [4]) .ret) (.seq (.reg [oD 24 (.mv (.t 5)) 0,oD 25 (.mv (.t 6)) 1,oD 26 (.call 155 [(.t 24),(.t 25)]) 2,oD 27 (.bin .lss (.t 26) (.k (.i .i64 0))) 3,oD 23 (.mv (.t 27)) 4] [] [2,3,4,5,6,23] [2,3,4]) (.cond (.t 23) (.seq (.reg [oD 28 (.mv (.t 6)) 0,oD 29 (.mv (.t 5)) 1,oD 30 (.call 164 [(.t 28),(.t 29)]) 2,oD 31 (.fld 0 (.t 3)) 3,oD 32 (.load 1 false (.t 31)) 4,oD 33 (.call 157 [(.t 30),(.t 32)]) 5,oN (.store 2 (.t 4) (.t 33)) 6] [] [4] [4]) .ret) .skip))))) (.seq (.reg [oD 34 (.mv (.t 5)) 0,oD 35 (.mv (.t 6)) 1,oD 36 (.call 164 [(.t 34),(.t 35)]) 2,oD 37 (.fld 0 (.t 2)) 3,oD 38 (.load 1 false (.t 37)) 4,oD 39 (.call 157 [(.t 36),(.t 38)]) 5,oN (.store 2 (.t 4) (.t 39)) 6] [] [4] [4]) .ret))))
def rv135 : List RVar := [.c 4 2 true]
theorem fnr135 : FT Tryz.prog 135 40 ir135 rv135 := fnK Tryz.func135 (by decide +kernel)
def ir136 : IR := (.seq (.reg [oD 2 (.box (.t 0)) 0,oD 3 (.box (.t 1)) 1,oD 4 (.alloc [.b false,.sl 1 true []]) 2] [] [2,3,4] [2,3,4]) (.seq (.reg [oD 5 (.load 2 true (.t 2)) 0,oD 6 (.load 2 true (.t 3)) 1,oD 7 (.call 137 [(.t 6)]) 2,oD 8 (.call 135 [(.t 5),(.t 7)]) 3,oN (.store 2 (.t 4) (.t 8)) 4] [] [4] [4]) .ret))
def rv136 : List RVar := [.c 4 2 true]
theorem fnr136 : FT Tryz.prog 136 9 ir136 rv136 := fnK Tryz.func136 (by decide +kernel)
def ir137 : IR := (.seq (.reg [oD 1 (.box (.t 0)) 0,oD 2 (.alloc [.b false,.sl 1 true []]) 1] [] [1,2] [1,2]) (.seq (.reg [oD 3 (.fld 1 (.t 1)) 0,oD 4 (.load 1 false (.t 3)) 1,oD 5 (.fld 0 (.t 1)) 2,oD 6 (.load 1 false (.t 5)) 3,oD 7 (.un .not (.t 6)) 4,oD 8 (.call 157 [(.t 4),(.t 7)]) 5,oN (.store 2 (.t 2) (.t 8)) 6] [] [2] [2]) .ret))
def rv137 : List RVar := [.c 2 2 true]
theorem fnr137 : FT Tryz.prog 137 9 ir137 rv137 := fnK Tryz.func137 (by decide +kernel)
def ir140 : IR := (.seq (.reg [oD 1 (.box (.t 0)) 0,oD 2 (.alloc [.b false,.sl 1 true [],.b false,.sl 1 true []]) 1] [] [1,2] [1,2]) (.seq (.reg [oD 3 (.load 2 true (.t 1)) 0,oD 4 (.call 127 [(.k (.i .i64 1))]) 1,oD 5 (.build [.b false,.sl 1 true [],.b false,.sl 1 true []] [(0,2,(.t 3)),(2,2,(.t 4))]) 2,oN (.store 4 (.t 2) (.t 5)) 3] [] [2] [2]) .ret))
def rv140 : List RVar := [.c 2 4 true]
theorem fnr140 : FT Tryz.prog 140 6 ir140 rv140 := fnK Tryz.func140 (by decide +kernel)
def ir154 : IR := (.seq (.reg [oD 4 (.mv (.k (.i .i64 0))) 0] [] [0,1] []) (.seq (.reg [oD 7 (.mv (.t 0)) 0,oD 8 (.call 171 [(.t 7)]) 1,oD 5 (.mv (.t 8)) 2] [] [0,1,5] []) (.seq (.reg [oD 9 (.mv (.t 1)) 0,oD 10 (.call 171 [(.t 9)]) 1,oD 6 (.mv (.t 10)) 2] [] [0,1,5,6] []) (.seq (.seq (.reg [oD 11 (.mv (.t 5)) 0] [] [0,1,6,11] []) (.cond (.t 11) (.seq (.seq (.reg [oD 12 (.mv (.t 6)) 0] [] [12] []) (.cond (.t 12) (.seq (.reg [oD 4 (.mv (.k (.i .i64 0))) 0] [] [4] []) .ret) .skip)) (.seq (.reg [oD 4 (.mv (.k (.i .i64 (-1)))) 0] [] [4] []) .ret)) .skip)) (.seq (.seq (.reg [oD 13 (.mv (.t 6)) 0] [] [0,1,13] []) (.cond (.t 13) (.seq (.reg [oD 4 (.mv (.k (.i .i64 1))) 0] [] [4] []) .ret) .skip)) (.seq (.seq (.reg [oD 14 (.mv (.t 0)) 0,oD 15 (.mv (.t 1)) 1,oD 16 (.bin .lss (.t 14) (.t 15)) 2] [] [0,1,16] []) (.cond (.t 16) (.seq (.reg [oD 4 (.mv (.k (.i .i64 (-1)))) 0] [] [4] []) .ret) .skip)) (.seq (.seq (.reg [oD 17 (.mv (.t 0)) 0,oD 18 (.mv (.t 1)) 1,oD 19 (.bin .gtr (.t 17) (.t 18)) 2] [] [19] []) (.cond (.t 19) (.seq (.reg [oD 4 (.mv (.k (.i .i64 1))) 0] [] [4] []) .ret) .skip)) (.seq (.reg [oD 4 (.mv (.k (.i .i64 0))) 0] [] [4] []) .ret))))))))
def rv154 : List RVar := [.t 4]
theorem fnr154 : FT Tryz.prog 154 20 ir154 rv154 := fnK Tryz.func154 (by decide +kernel)
def b155_0 : IR := (.seq (.reg [oD 20 (.bin .lss (.t 19) (.t 18)) 0] [] [0,1,18,19,20] []) (.seq (.cond (.t 20) .skip (.exit 0)) (.seq (.block 1 (.seq (.reg [oD 21 (.mv (.t 19)) 0,oD 5 (.mv (.t 21)) 1] [] [0,1,5,18,19] []) (.seq (.reg [oD 22 (.mv (.t 0)) 0,oD 23 (.len (.t 22)) 1,oD 24 (.bin .sub (.t 23) (.k (.i .i64 1))) 2,oD 25 (.mv (.t 5)) 3,oD 26 (.bin .sub (.t 24) (.t 25)) 4,oD 6 (.mv (.t 26)) 5] [] [0,1,6,18,19] []) (.seq (.reg [oD 27 (.mv (.t 0)) 0,oD 28 (.mv (.t 6)) 1,oD 29 (.ixs 1 (.t 27) (.t 28)) 2,oD 30 (.load 1 false (.t 29)) 3,oD 31 (.mv (.t 1)) 4,oD 32 (.mv (.t 6)) 5,oD 33 (.ixs 1 (.t 31) (.t 32)) 6,oD 34 (.load 1 false (.t 33)) 7,oD 35 (.bin .neq (.t 30) (.t 34)) 8] [] [0,1,6,18,19,35] []) (.cond (.t 35) (.seq (.reg [oD 36 (.mv (.t 0)) 0,oD 37 (.mv (.t 6)) 1,oD 38 (.ixs 1 (.t 36) (.t 37)) 2,oD 39 (.load 1 false (.t 38)) 3,oD 40 (.mv (.t 1)) 4,oD 41 (.mv (.t 6)) 5,oD 42 (.ixs 1 (.t 40) (.t 41)) 6,oD 43 (.load 1 false (.t 42)) 7,oD 44 (.call 172 [(.t 39),(.t 43)]) 8,oD 4 (.mv (.t 44)) 9] [] [4] []) .ret) .skip))))) (.reg [oD 45 (.bin .add (.t 19) (.k (.i .i64 1))) 0,oD 19 (.mv (.t 45)) 1] [] [0,1,18,19] []))))
theorem wb155_0 : type_of% (@wbEq _ _ b155_0.eq_1) := @wbEq _ _ b155_0.eq_1
def ir155 : IR := (.seq (.reg [oD 4 (.mv (.k (.i .i64 0))) 0] [] [0,1] []) (.seq (.seq (.reg [oD 7 (.mv (.t 0)) 0,oD 8 (.len (.t 7)) 1,oD 9 (.mv (.t 1)) 2,oD 10 (.len (.t 9)) 3,oD 11 (.bin .neq (.t 8) (.t 10)) 4] [] [0,1,11] []) (.cond (.t 11) (.seq (.reg [oD 12 (.mv (.t 0)) 0,oD 13 (.len (.t 12)) 1,oD 14 (.mv (.t 1)) 2,oD 15 (.len (.t 14)) 3,oD 16 (.call 154 [(.t 13),(.t 15)]) 4,oD 4 (.mv (.t 16)) 5] [] [4] []) .ret) .skip)) (.seq (.seq (.reg [oD 17 (.mv (.t 0)) 0,oD 18 (.len (.t 17)) 1,oD 19 (.mv (.k (.i .i64 0))) 2] [] [0,1,18,19] []) (.block 0 (.loop [0,1,18,19] [] b155_0))) (.seq (.reg [oD 4 (.mv (.k (.i .i64 0))) 0] [] [4] []) .ret))))
def rv155 : List RVar := [.t 4]
theorem fnr155 : FT Tryz.prog 155 46 ir155 rv155 := fnK Tryz.func155 (by decide +kernel)
def b156_0 : IR := (.seq (.reg [oD 57 (.bin .lss (.t 56) (.t 55)) 0] [] [8,9,10,11,55,56,57] [43,53]) (.seq (.cond (.t 57) .skip (.exit 0)) (.seq (.block 1 (.seq (.reg [oD 58 (.mv (.t 56)) 0,oD 12 (.mv (.t 58)) 1] [] [8,9,10,11,12,55,56] [43,53]) (.seq (.reg [oD 59 (.mv (.t 11)) 0,oD 60 (.len (.t 59)) 1,oD 61 (.bin .sub (.t 60) (.k (.i .i64 1))) 2,oD 62 (.mv (.t 12)) 3,oD 63 (.bin .sub (.t 61) (.t 62)) 4,oD 13 (.mv (.t 63)) 5] [] [8,9,10,11,13,55,56] [43,53]) (.reg [oD 64 (.mv (.t 11)) 0,oD 65 (.mv (.t 13)) 1,oD 66 (.mv (.t 9)) 2,oD 67 (.mv (.t 13)) 3,oD 68 (.mv (.t 13)) 4,oD 69 (.mv (.t 10)) 5,oD 70 (.len (.t 69)) 6,oD 71 (.bin .add (.t 68) (.t 70)) 7,oD 72 (.bin .add (.t 71) (.k (.i .i64 1))) 8,oD 73 (.slc 1 (.t 66) (some (.t 67)) (some (.t 72)) none) 9,oD 74 (.mv (.t 10)) 10,oD 75 (.callR 177 [(.t 73),(.t 74)]) 11,oD 76 (.ixs 1 (.t 64) (.t 65)) 12,oN (.store 1 (.t 76) (.t 75)) 13] [] [8,9,10,11,55,56] [43,53])))) (.reg [oD 77 (.bin .add (.t 56) (.k (.i .i64 1))) 0,oD 56 (.mv (.t 77)) 1] [] [8,9,10,11,55,56] [43,53]))))
theorem wb156_0 : type_of% (@wbEq _ _ b156_0.eq_1) := @wbEq _ _ b156_0.eq_1
def ir156 : IR := (.seq (.reg [oD 4 (.mv (.k (.sl 1 true []))) 0,oD 5 (.mv (.k (.sl 1 true []))) 1] [] [0,1] []) (.seq (.seq (.reg [oD 14 (.mv (.t 0)) 0,oD 15 (.mv (.t 1)) 1,oD 16 (.call 155 [(.t 14),(.t 15)]) 2,oD 17 (.bin .lss (.t 16) (.k (.i .i64 0))) 3] [] [0,1,17] []) (.cond (.t 17) (.seq (.reg [oD 18 (.mv (.t 0)) 0,oD 4 (.mv (.k (.sl 1 true []))) 1,oD 5 (.mv (.t 18)) 2] [] [4,5] []) .ret) .skip)) (.seq (.seq (.reg [oD 19 (.mv (.t 1)) 0,oD 20 (.len (.t 19)) 1,oD 21 (.bin .eql (.t 20) (.k (.i .i64 1))) 2] [] [0,1,21] []) (.cond (.t 21) (.seq (.reg [oD 23 (.mv (.t 0)) 0,oD 24 (.mv (.t 1)) 1,oD 25 (.ixs 1 (.t 24) (.k (.i .i64 0))) 2,oD 26 (.load 1 false (.t 25)) 3,oD 27 (.call 173 [(.t 23),(.t 26)]) 4,oD 22 (.mv (.t 27)) 5,oD 28 (.ext 0 (.t 22)) 6,oD 29 (.ext 1 (.t 22)) 7,oD 6 (.mv (.t 28)) 8,oD 7 (.mv (.t 29)) 9] [] [6,7] []) (.seq (.reg [oD 30 (.mv (.t 6)) 0,oD 31 (.mv (.t 7)) 1,oD 32 (.bsl 1 [(.t 31)]) 2,oD 33 (.call 174 [(.t 32)]) 3,oD 4 (.mv (.t 30)) 4,oD 5 (.mv (.t 33)) 5] [] [4,5] []) .ret)) .skip)) (.seq (.reg [oD 34 (.mv (.t 1)) 0,oD 35 (.mv (.t 1)) 1,oD 36 (.len (.t 35)) 2,oD 37 (.bin .sub (.t 36) (.k (.i .i64 1))) 3,oD 38 (.ixs 1 (.t 34) (.t 37)) 4,oD 39 (.load 1 false (.t 38)) 5,oD 40 (.call 175 [(.t 39)]) 6,oD 8 (.mv (.t 40)) 7] [] [0,1,8] []) (.seq (.reg [oD 41 (.mv (.t 0)) 0,oD 42 (.mv (.t 8)) 1,oD 43 (.callN 176 [(.t 41),(.t 42)]) 2,oD 44 (.mv (.t 1)) 3,oD 45 (.mv (.t 8)) 4,oD 46 (.call 176 [(.t 44),(.t 45)]) 5,oD 47 (.call 174 [(.t 46)]) 6,oD 9 (.mv (.t 43)) 7,oD 10 (.mv (.t 47)) 8] [] [8,9,10] [43]) (.seq (.reg [oD 48 (.mv (.t 9)) 0,oD 49 (.len (.t 48)) 1,oD 50 (.mv (.t 10)) 2,oD 51 (.len (.t 50)) 3,oD 52 (.bin .sub (.t 49) (.t 51)) 4,oD 53 (.mk 1 4 [.i .u32 0] (.t 52) (.t 52)) 5,oD 11 (.mv (.t 53)) 6] [] [8,9,10,11] [43,53]) (.seq (.seq (.reg [oD 54 (.mv (.t 11)) 0,oD 55 (.len (.t 54)) 1,oD 56 (.mv (.k (.i .i64 0))) 2] [] [8,9,10,11,55,56] [43,53]) (.block 0 (.loop [8,9,10,11,55,56] [43,53] b156_0))) (.seq (.frz 9 (.frz 11 (.reg [oD 78 (.mv (.t 11)) 0,oD 79 (.call 174 [(.t 78)]) 1,oD 80 (.mv (.t 9)) 2,oD 81 (.call 174 [(.t 80)]) 3,oD 82 (.mv (.t 8)) 4,oD 83 (.call 178 [(.t 81),(.t 82)]) 5,oD 4 (.mv (.t 79)) 6,oD 5 (.mv (.t 83)) 7] [] [4,5] []))) .ret))))))))
def rv156 : List RVar := [.t 4, .t 5]
theorem fnr156 : FT Tryz.prog 156 84 ir156 rv156 := fnK Tryz.func156 (by decide +kernel)
def ir157 : IR := (.seq (.reg [oD 4 (.alloc [.b false,.sl 1 true []]) 0] [] [0,1,4] [4]) (.seq (.reg [oD 5 (.mv (.t 0)) 0,oD 6 (.call 174 [(.t 5)]) 1,oD 0 (.mv (.t 6)) 2] [] [0,1,4] [4]) (.seq (.reg [oD 7 (.mv (.t 1)) 0,oD 8 (.mv (.t 7)) 1,oT 9 (.mv (.t 0)) 8 2,oT 10 (.len (.t 9)) 8 3,oT 11 (.bin .gtr (.t 10) (.k (.i .i64 0))) 8 4,oD 12 (.pick (.t 8) (.t 11) (.k (.b false))) 5,oD 13 (.mv (.t 0)) 6,oD 14 (.call 179 [(.t 13)]) 7,oD 15 (.build [.b false,.sl 1 true []] [(0,1,(.t 12)),(1,1,(.t 14))]) 8,oN (.store 2 (.t 4) (.t 15)) 9] [] [4] [4]) .ret)))
def rv157 : List RVar := [.c 4 2 true]
theorem fnr157 : FT Tryz.prog 157 16 ir157 rv157 := fnK Tryz.func157 (by decide +kernel)
def ir158 : IR := (.seq (.reg [oD 2 (.mv (.k (.sl 1 true []))) 0] [] [0] []) (.seq (.reg [oD 3 (.mv (.t 0)) 0,oD 4 (.conv .u32 (.t 3)) 1,oD 5 (.mv (.t 0)) 2,oD 6 (.bin .shr (.t 5) (.k (.i .u64 32))) 3,oD 7 (.conv .u32 (.t 6)) 4,oD 8 (.bsl 1 [(.t 4),(.t 7)]) 5,oD 9 (.call 174 [(.t 8)]) 6,oD 2 (.mv (.t 9)) 7] [] [2] []) .ret))
def rv158 : List RVar := [.t 2]
theorem fnr158 : FT Tryz.prog 158 10 ir158 rv158 := fnK Tryz.func158 (by decide +kernel)
def ir159 : IR := (.seq (.reg [oD 2 (.box (.t 0)) 0,oD 3 (.box (.t 1)) 1,oD 4 (.alloc [.b false,.sl 1 true []]) 2,oD 5 (.alloc [.b false,.sl 1 true []]) 3,oD 6 (.mv (.k (.i .i64 0))) 4] [] [2,3,4,5] [2,3,4,5]) (.seq (.reg [oD 10 (.fld 1 (.t 3)) 0,oD 11 (.load 1 false (.t 10)) 1,oD 7 (.mv (.t 11)) 2] [] [2,3,4,5,7] [2,3,4,5]) (.seq (.seq (.reg [oD 12 (.mv (.t 7)) 0,oD 13 (.len (.t 12)) 1,oD 14 (.bin .eql (.t 13) (.k (.i .i64 0))) 2] [] [2,3,4,5,7,14] [2,3,4,5]) (.cond (.t 14) (.seq (.reg [oD 15 (.build [.b false,.sl 1 true []] []) 0,oD 16 (.build [.b false,.sl 1 true []] []) 1,oN (.store 2 (.t 4) (.t 15)) 2,oN (.store 2 (.t 5) (.t 16)) 3,oD 6 (.mv (.k (.i .i64 10))) 4] [] [4,5,6] [4,5]) .ret) .skip)) (.seq (.reg [oD 18 (.fld 1 (.t 2)) 0,oD 19 (.load 1 false (.t 18)) 1,oD 20 (.mv (.t 7)) 2,oD 21 (.call 156 [(.t 19),(.t 20)]) 3,oD 17 (.mv (.t 21)) 4,oD 22 (.ext 0 (.t 17)) 5,oD 23 (.ext 1 (.t 17)) 6,oD 8 (.mv (.t 22)) 7,oD 9 (.mv (.t 23)) 8] [] [2,3,4,5,7,8,9] [2,3,4,5]) (.seq (.seq (.reg [oD 24 (.fld 0 (.t 2)) 0,oD 25 (.load 1 false (.t 24)) 1,oD 26 (.mv (.t 25)) 2,oT 27 (.mv (.t 9)) 26 3,oT 28 (.len (.t 27)) 26 4,oT 29 (.bin .gtr (.t 28) (.k (.i .i64 0))) 26 5,oD 30 (.pick (.t 26) (.t 29) (.k (.b false))) 6] [] [2,3,4,5,7,8,9,30] [2,3,4,5]) (.cond (.t 30) (.reg [oD 31 (.mv (.t 8)) 0,oD 32 (.call 158 [(.k (.i .u64 1))]) 1,oD 33 (.call 163 [(.t 31),(.t 32)]) 2,oD 34 (.mv (.t 7)) 3,oD 35 (.mv (.t 9)) 4,oD 36 (.call 164 [(.t 34),(.t 35)]) 5,oD 8 (.mv (.t 33)) 6,oD 9 (.mv (.t 36)) 7] [] [2,3,4,5,8,9] [2,3,4,5]) .skip)) (.seq (.reg [oD 37 (.mv (.t 8)) 0,oD 38 (.fld 0 (.t 2)) 1,oD 39 (.load 1 false (.t 38)) 2,oD 40 (.fld 0 (.t 3)) 3,oD 41 (.load 1 false (.t 40)) 4,oD 42 (.eqb true (.t 39) (.t 41)) 5,oD 43 (.call 157 [(.t 37),(.t 42)]) 6,oD 44 (.mv (.t 9)) 7,oD 45 (.call 157 [(.t 44),(.k (.b false))]) 8,oN (.store 2 (.t 4) (.t 43)) 9,oN (.store 2 (.t 5) (.t 45)) 10,oD 6 (.mv (.k (.i .i64 0))) 11] [] [4,5,6] [4,5]) .ret))))))
def rv159 : List RVar := [.c 4 2 true, .c 5 2 true, .t 6]
theorem fnr159 : FT Tryz.prog 159 46 ir159 rv159 := fnK Tryz.func159 (by decide +kernel)
def ir160 : IR := (.seq (.reg [oD 2 (.box (.t 0)) 0,oD 3 (.box (.t 1)) 1,oD 4 (.alloc [.b false,.sl 1 true []]) 2] [] [2,3,4] [2,3,4]) (.seq (.reg [oD 5 (.fld 1 (.t 2)) 0,oD 6 (.load 1 false (.t 5)) 1,oD 7 (.fld 1 (.t 3)) 2,oD 8 (.load 1 false (.t 7)) 3,oD 9 (.call 180 [(.t 6),(.t 8)]) 4,oD 10 (.fld 0 (.t 2)) 5,oD 11 (.load 1 false (.t 10)) 6,oD 12 (.fld 0 (.t 3)) 7,oD 13 (.load 1 false (.t 12)) 8,oD 14 (.eqb true (.t 11) (.t 13)) 9,oD 15 (.call 157 [(.t 9),(.t 14)]) 10,oN (.store 2 (.t 4) (.t 15)) 11] [] [4] [4]) .ret))
def rv160 : List RVar := [.c 4 2 true]
theorem fnr160 : FT Tryz.prog 160 16 ir160 rv160 := fnK Tryz.func160 (by decide +kernel)
def b163_0 : IR := (.seq (.reg [oD 19 (.bin .lss (.t 18) (.t 17)) 0] [] [0,1,5,6,7,17,18,19] [16]) (.seq (.cond (.t 19) .skip (.exit 0)) (.seq (.block 1 (.seq (.reg [oD 20 (.mv (.t 18)) 0,oD 8 (.mv (.t 20)) 1] [] [0,1,5,6,7,8,17,18] [16]) (.reg [oD 22 (.mv (.t 6)) 0,oD 23 (.mv (.t 8)) 1,oD 24 (.mv (.t 0)) 2,oD 25 (.mv (.t 8)) 3,oD 26 (.call 192 [(.t 24),(.t 25)]) 4,oD 27 (.mv (.t 1)) 5,oD 28 (.mv (.t 8)) 6,oD 29 (.call 192 [(.t 27),(.t 28)]) 7,oD 30 (.mv (.t 7)) 8,oD 31 (.call 191 [(.t 26),(.t 29),(.t 30)]) 9,oD 21 (.mv (.t 31)) 10,oD 32 (.ext 0 (.t 21)) 11,oD 33 (.ext 1 (.t 21)) 12,oD 34 (.ixs 1 (.t 22) (.t 23)) 13,oN (.store 1 (.t 34) (.t 32)) 14,oD 7 (.mv (.t 33)) 15] [] [0,1,5,6,7,17,18] [16]))) (.reg [oD 35 (.bin .add (.t 18) (.k (.i .i64 1))) 0,oD 18 (.mv (.t 35)) 1] [] [0,1,5,6,7,17,18] [16]))))
theorem wb163_0 : type_of% (@wbEq _ _ b163_0.eq_1) := @wbEq _ _ b163_0.eq_1
def ir163 : IR := (.seq (.reg [oD 4 (.mv (.k (.sl 1 true []))) 0] [] [0,1] []) (.seq (.reg [oD 9 (.mv (.t 0)) 0,oD 10 (.len (.t 9)) 1,oD 11 (.mv (.t 1)) 2,oD 12 (.len (.t 11)) 3,oD 13 (.mx (.t 10) (.t 12)) 4,oD 5 (.mv (.t 13)) 5] [] [0,1,5] []) (.seq (.reg [oD 14 (.mv (.t 5)) 0,oD 15 (.bin .add (.t 14) (.k (.i .i64 1))) 1,oD 16 (.mk 1 4 [.i .u32 0] (.t 15) (.t 15)) 2,oD 6 (.mv (.t 16)) 3] [] [0,1,5,6] [16]) (.seq (.reg [oD 7 (.mv (.k (.i .u32 0))) 0] [] [0,1,5,6,7] [16]) (.seq (.seq (.reg [oD 17 (.mv (.t 5)) 0,oD 18 (.mv (.k (.i .i64 0))) 1] [] [0,1,5,6,7,17,18] [16]) (.block 0 (.loop [0,1,5,6,7,17,18] [16] b163_0))) (.seq (.reg [oD 36 (.mv (.t 6)) 0,oD 37 (.mv (.t 5)) 1,oD 38 (.mv (.t 7)) 2,oD 39 (.ixs 1 (.t 36) (.t 37)) 3,oN (.store 1 (.t 39) (.t 38)) 4] [] [6] [16]) (.seq (.frz 6 (.reg [oD 40 (.mv (.t 6)) 0,oD 41 (.call 174 [(.t 40)]) 1,oD 4 (.mv (.t 41)) 2] [] [4] [])) .ret)))))))
def rv163 : List RVar := [.t 4]
theorem fnr163 : FT Tryz.prog 163 42 ir163 rv163 := fnK Tryz.func163 (by decide +kernel)
def b164_0 : IR := (.seq (.reg [oD 14 (.bin .lss (.t 13) (.t 12)) 0] [] [0,1,5,6,12,13,14] [10]) (.seq (.cond (.t 14) .skip (.exit 0)) (.seq (.block 1 (.seq (.reg [oD 15 (.mv (.t 13)) 0,oD 7 (.mv (.t 15)) 1] [] [0,1,5,6,7,12,13] [10]) (.reg [oD 17 (.mv (.t 5)) 0,oD 18 (.mv (.t 7)) 1,oD 19 (.mv (.t 0)) 2,oD 20 (.mv (.t 7)) 3,oD 21 (.ixs 1 (.t 19) (.t 20)) 4,oD 22 (.load 1 false (.t 21)) 5,oD 23 (.mv (.t 1)) 6,oD 24 (.mv (.t 7)) 7,oD 25 (.call 192 [(.t 23),(.t 24)]) 8,oD 26 (.mv (.t 6)) 9,oD 27 (.call 193 [(.t 22),(.t 25),(.t 26)]) 10,oD 16 (.mv (.t 27)) 11,oD 28 (.ext 0 (.t 16)) 12,oD 29 (.ext 1 (.t 16)) 13,oD 30 (.ixs 1 (.t 17) (.t 18)) 14,oN (.store 1 (.t 30) (.t 28)) 15,oD 6 (.mv (.t 29)) 16] [] [0,1,5,6,12,13] [10]))) (.reg [oD 31 (.bin .add (.t 13) (.k (.i .i64 1))) 0,oD 13 (.mv (.t 31)) 1] [] [0,1,5,6,12,13] [10]))))
theorem wb164_0 : type_of% (@wbEq _ _ b164_0.eq_1) := @wbEq _ _ b164_0.eq_1
def ir164 : IR := (.seq (.reg [oD 4 (.mv (.k (.sl 1 true []))) 0] [] [0,1] []) (.seq (.reg [oD 8 (.mv (.t 0)) 0,oD 9 (.len (.t 8)) 1,oD 10 (.mk 1 4 [.i .u32 0] (.t 9) (.t 9)) 2,oD 5 (.mv (.t 10)) 3] [] [0,1,5] [10]) (.seq (.reg [oD 6 (.mv (.k (.i .u32 0))) 0] [] [0,1,5,6] [10]) (.seq (.seq (.reg [oD 11 (.mv (.t 5)) 0,oD 12 (.len (.t 11)) 1,oD 13 (.mv (.k (.i .i64 0))) 2] [] [0,1,5,6,12,13] [10]) (.block 0 (.loop [0,1,5,6,12,13] [10] b164_0))) (.seq (.frz 5 (.reg [oD 32 (.mv (.t 5)) 0,oD 33 (.call 174 [(.t 32)]) 1,oD 4 (.mv (.t 33)) 2] [] [4] [])) .ret)))))
def rv164 : List RVar := [.t 4]
theorem fnr164 : FT Tryz.prog 164 34 ir164 rv164 := fnK Tryz.func164 (by decide +kernel)
def ir171 : IR := (.seq (.reg [oD 2 (.mv (.k (.b false))) 0] [] [0] []) (.seq (.reg [oD 3 (.mv (.t 0)) 0,oD 4 (.mv (.t 0)) 1,oD 5 (.bin .neq (.t 3) (.t 4)) 2,oD 2 (.mv (.t 5)) 3] [] [2] []) .ret))
def rv171 : List RVar := [.t 2]
theorem fnr171 : FT Tryz.prog 171 6 ir171 rv171 := fnK Tryz.func171 (by decide +kernel)
def ir172 : IR := (.seq (.reg [oD 4 (.mv (.k (.i .i64 0))) 0] [] [0,1] []) (.seq (.reg [oD 7 (.mv (.t 0)) 0,oD 8 (.call 198 [(.t 7)]) 1,oD 5 (.mv (.t 8)) 2] [] [0,1,5] []) (.seq (.reg [oD 9 (.mv (.t 1)) 0,oD 10 (.call 198 [(.t 9)]) 1,oD 6 (.mv (.t 10)) 2] [] [0,1,5,6] []) (.seq (.seq (.reg [oD 11 (.mv (.t 5)) 0] [] [0,1,6,11] []) (.cond (.t 11) (.seq (.seq (.reg [oD 12 (.mv (.t 6)) 0] [] [12] []) (.cond (.t 12) (.seq (.reg [oD 4 (.mv (.k (.i .i64 0))) 0] [] [4] []) .ret) .skip)) (.seq (.reg [oD 4 (.mv (.k (.i .i64 (-1)))) 0] [] [4] []) .ret)) .skip)) (.seq (.seq (.reg [oD 13 (.mv (.t 6)) 0] [] [0,1,13] []) (.cond (.t 13) (.seq (.reg [oD 4 (.mv (.k (.i .i64 1))) 0] [] [4] []) .ret) .skip)) (.seq (.seq (.reg [oD 14 (.mv (.t 0)) 0,oD 15 (.mv (.t 1)) 1,oD 16 (.bin .lss (.t 14) (.t 15)) 2] [] [0,1,16] []) (.cond (.t 16) (.seq (.reg [oD 4 (.mv (.k (.i .i64 (-1)))) 0] [] [4] []) .ret) .skip)) (.seq (.seq (.reg [oD 17 (.mv (.t 0)) 0,oD 18 (.mv (.t 1)) 1,oD 19 (.bin .gtr (.t 17) (.t 18)) 2] [] [19] []) (.cond (.t 19) (.seq (.reg [oD 4 (.mv (.k (.i .i64 1))) 0] [] [4] []) .ret) .skip)) (.seq (.reg [oD 4 (.mv (.k (.i .i64 0))) 0] [] [4] []) .ret))))))))
def rv172 : List RVar := [.t 4]
theorem fnr172 : FT Tryz.prog 172 20 ir172 rv172 := fnK Tryz.func172 (by decide +kernel)
def b173_0 : IR := (.seq (.reg [oD 16 (.bin .lss (.t 15) (.t 14)) 0] [] [0,1,6,7,14,15,16] [12]) (.seq (.cond (.t 16) .skip (.exit 0)) (.seq (.block 1 (.seq (.reg [oD 17 (.mv (.t 15)) 0,oD 8 (.mv (.t 17)) 1] [] [0,1,6,7,8,14,15] [12]) (.seq (.reg [oD 18 (.mv (.t 0)) 0,oD 19 (.len (.t 18)) 1,oD 20 (.bin .sub (.t 19) (.k (.i .i64 1))) 2,oD 21 (.mv (.t 8)) 3,oD 22 (.bin .sub (.t 20) (.t 21)) 4,oD 9 (.mv (.t 22)) 5] [] [0,1,6,7,9,14,15] [12]) (.reg [oD 24 (.mv (.t 6)) 0,oD 25 (.mv (.t 9)) 1,oD 26 (.mv (.t 7)) 2,oD 27 (.mv (.t 0)) 3,oD 28 (.mv (.t 9)) 4,oD 29 (.ixs 1 (.t 27) (.t 28)) 5,oD 30 (.load 1 false (.t 29)) 6,oD 31 (.mv (.t 1)) 7,oD 32 (.call 199 [(.t 26),(.t 30),(.t 31)]) 8,oD 23 (.mv (.t 32)) 9,oD 33 (.ext 0 (.t 23)) 10,oD 34 (.ext 1 (.t 23)) 11,oD 35 (.ixs 1 (.t 24) (.t 25)) 12,oN (.store 1 (.t 35) (.t 33)) 13,oD 7 (.mv (.t 34)) 14] [] [0,1,6,7,14,15] [12])))) (.reg [oD 36 (.bin .add (.t 15) (.k (.i .i64 1))) 0,oD 15 (.mv (.t 36)) 1] [] [0,1,6,7,14,15] [12]))))
theorem wb173_0 : type_of% (@wbEq _ _ b173_0.eq_1) := @wbEq _ _ b173_0.eq_1
def ir173 : IR := (.seq (.reg [oD 4 (.mv (.k (.sl 1 true []))) 0,oD 5 (.mv (.k (.i .u32 0))) 1] [] [0,1] []) (.seq (.reg [oD 10 (.mv (.t 0)) 0,oD 11 (.len (.t 10)) 1,oD 12 (.mk 1 4 [.i .u32 0] (.t 11) (.t 11)) 2,oD 6 (.mv (.t 12)) 3] [] [0,1,6] [12]) (.seq (.reg [oD 7 (.mv (.k (.i .u32 0))) 0] [] [0,1,6,7] [12]) (.seq (.seq (.reg [oD 13 (.mv (.t 0)) 0,oD 14 (.len (.t 13)) 1,oD 15 (.mv (.k (.i .i64 0))) 2] [] [0,1,6,7,14,15] [12]) (.block 0 (.loop [0,1,6,7,14,15] [12] b173_0))) (.seq (.frz 6 (.reg [oD 37 (.mv (.t 6)) 0,oD 38 (.call 174 [(.t 37)]) 1,oD 39 (.mv (.t 7)) 2,oD 4 (.mv (.t 38)) 3,oD 5 (.mv (.t 39)) 4] [] [4,5] [])) .ret)))))
def rv173 : List RVar := [.t 4, .t 5]
theorem fnr173 : FT Tryz.prog 173 40 ir173 rv173 := fnK Tryz.func173 (by decide +kernel)
def b174_0 : IR := (.seq (.seq (.reg [oD 6 (.mv (.t 3)) 0,oD 7 (.bin .gtr (.t 6) (.k (.i .i64 0))) 1,oD 8 (.mv (.t 7)) 2,oT 9 (.mv (.t 0)) 8 3,oT 10 (.mv (.t 3)) 8 4,oT 11 (.bin .sub (.t 10) (.k (.i .i64 1))) 8 5,oT 12 (.ixs 1 (.t 9) (.t 11)) 8 6,oT 13 (.load 1 false (.t 12)) 8 7,oT 14 (.bin .eql (.t 13) (.k (.i .u32 0))) 8 8,oD 15 (.pick (.t 8) (.t 14) (.k (.b false))) 9] [] [0,3,15] []) (.cond (.t 15) .skip (.exit 0))) (.block 1 (.reg [oD 16 (.mv (.t 3)) 0,oD 17 (.bin .sub (.t 16) (.k (.i .i64 1))) 1,oD 3 (.mv (.t 17)) 2] [] [0,3] [])))
theorem wb174_0 : type_of% (@wbEq _ _ b174_0.eq_1) := @wbEq _ _ b174_0.eq_1
def ir174 : IR := (.seq (.reg [oD 2 (.mv (.k (.sl 1 true []))) 0] [] [0] []) (.seq (.reg [oD 4 (.mv (.t 0)) 0,oD 5 (.len (.t 4)) 1,oD 3 (.mv (.t 5)) 2] [] [0,3] []) (.seq (.block 0 (.loop [0,3] [] b174_0)) (.seq (.reg [oD 18 (.mv (.t 0)) 0,oD 19 (.mv (.t 3)) 1,oD 20 (.mv (.t 3)) 2,oD 21 (.slc 1 (.t 18) none (some (.t 19)) (some (.t 20))) 3,oD 2 (.mv (.t 21)) 4] [] [2] []) .ret))))
def rv174 : List RVar := [.t 2]
theorem fnr174 : FT Tryz.prog 174 22 ir174 rv174 := fnK Tryz.func174 (by decide +kernel)
def ir175 : IR := (.seq (.reg [oD 2 (.mv (.k (.i .i64 0))) 0] [] [0] []) (.seq (.reg [oD 3 (.mv (.t 0)) 0,oD 4 (.call 189 [(.t 3)]) 1,oD 5 (.bin .sub (.k (.i .i64 32)) (.t 4)) 2,oD 2 (.mv (.t 5)) 3] [] [2] []) .ret))
def rv175 : List RVar := [.t 2]
theorem fnr175 : FT Tryz.prog 175 6 ir175 rv175 := fnK Tryz.func175 (by decide +kernel)
def b176_0 : IR := (.seq (.reg [oD 16 (.bin .lss (.t 15) (.t 14)) 0] [] [1,5,13,14,15,16] [12]) (.seq (.cond (.t 16) .skip (.exit 0)) (.seq (.block 1 (.seq (.reg [oD 17 (.mv (.t 15)) 0,oD 18 (.ixs 1 (.t 13) (.t 15)) 1,oD 19 (.load 1 false (.t 18)) 2,oD 6 (.mv (.t 17)) 3,oD 7 (.mv (.t 19)) 4] [] [1,5,6,7,13,14,15] [12]) (.seq (.reg [oD 20 (.mv (.t 7)) 0,oD 21 (.conv .u64 (.t 20)) 1,oD 22 (.mv (.t 1)) 2,oD 23 (.bin .shl (.t 21) (.t 22)) 3,oD 8 (.mv (.t 23)) 4] [] [1,5,6,8,13,14,15] [12]) (.seq (.reg [oD 24 (.mv (.t 5)) 0,oD 25 (.mv (.t 6)) 1,oD 26 (.ixs 1 (.t 24) (.t 25)) 2,oD 27 (.load 1 false (.t 26)) 3,oD 28 (.mv (.t 8)) 4,oD 29 (.conv .u32 (.t 28)) 5,oD 30 (.bin .or (.t 27) (.t 29)) 6,oD 31 (.ixs 1 (.t 24) (.t 25)) 7,oN (.store 1 (.t 31) (.t 30)) 8] [] [1,5,6,8,13,14,15] [12]) (.reg [oD 32 (.mv (.t 5)) 0,oD 33 (.mv (.t 6)) 1,oD 34 (.bin .add (.t 33) (.k (.i .i64 1))) 2,oD 35 (.mv (.t 8)) 3,oD 36 (.bin .shr (.t 35) (.k (.i .u64 32))) 4,oD 37 (.conv .u32 (.t 36)) 5,oD 38 (.ixs 1 (.t 32) (.t 34)) 6,oN (.store 1 (.t 38) (.t 37)) 7] [] [1,5,13,14,15] [12]))))) (.reg [oD 39 (.bin .add (.t 15) (.k (.i .i64 1))) 0,oD 15 (.mv (.t 39)) 1] [] [1,5,13,14,15] [12]))))
theorem wb176_0 : type_of% (@wbEq _ _ b176_0.eq_1) := @wbEq _ _ b176_0.eq_1
def ir176 : IR := (.seq (.reg [oD 4 (.mv (.k (.sl 1 true []))) 0] [] [0,1] []) (.seq (.reg [oD 9 (.mv (.t 0)) 0,oD 10 (.len (.t 9)) 1,oD 11 (.bin .add (.t 10) (.k (.i .i64 1))) 2,oD 12 (.mk 1 4 [.i .u32 0] (.t 11) (.t 11)) 3,oD 5 (.mv (.t 12)) 4] [] [0,1,5] [12]) (.seq (.seq (.reg [oD 13 (.mv (.t 0)) 0,oD 14 (.len (.t 13)) 1,oD 15 (.mv (.k (.i .i64 0))) 2] [] [1,5,13,14,15] [12]) (.block 0 (.loop [1,5,13,14,15] [12] b176_0))) (.seq (.reg [oD 40 (.mv (.t 5)) 0,oD 4 (.mv (.t 40)) 1] [] [4] [12]) .ret))))
def rv176 : List RVar := [.t 4]
theorem chk176 : chk Tryz.prog Tryz.f176.ntmps ir176 (Tryz.f176.body.getD .skip) = true := by decide +kernel
theorem res176 : chkRes Tryz.prog Tryz.f176.results.toList rv176 = true := by decide +kernel
theorem fnn176 {args : List D} {sz : Nat} {es : List (List D)} (hlen : args.length ≤ 41) (hd : nrLL es = true)
    (hw : ∀ F out, wp Tryz.prog F ir176 { r := argsR args, own := fun _ => none, out := out, nx := 0 } (fun e st' => (match e with | .exit _ => False | _ => True) ∧ (∃ d, resAll (st'.look F) st'.r rv176 = some d ∧ ∃ s z, d = .w (F, s) z sz 0 es.length ∧ st'.own s = some (z, .row sz es)) ∧ st'.out = out)) : FnN Tryz.prog 176 args sz es :=
  fnN_intro (fn := Tryz.f176) Tryz.func176 rfl rfl chk176 res176 (Nat.le_trans hlen (by decide +kernel)) hd hw
def ir176f : IR := (.seq (.reg [oD 4 (.mv (.k (.sl 1 true []))) 0] [] [0,1] []) (.seq (.reg [oD 9 (.mv (.t 0)) 0,oD 10 (.len (.t 9)) 1,oD 11 (.bin .add (.t 10) (.k (.i .i64 1))) 2,oD 12 (.mk 1 4 [.i .u32 0] (.t 11) (.t 11)) 3,oD 5 (.mv (.t 12)) 4] [] [0,1,5] [12]) (.seq (.seq (.reg [oD 13 (.mv (.t 0)) 0,oD 14 (.len (.t 13)) 1,oD 15 (.mv (.k (.i .i64 0))) 2] [] [1,5,13,14,15] [12]) (.block 0 (.loop [1,5,13,14,15] [12] b176_0))) (.seq (.reg [oD 40 (.mv (.t 5)) 0,oD 4 (.mv (.t 40)) 1] [] [4] [12]) (.frz 4 .ret)))))
theorem chk176f : chk Tryz.prog Tryz.f176.ntmps ir176f (Tryz.f176.body.getD .skip) = true := by decide +kernel
theorem fnr176f : FT Tryz.prog 176 41 ir176f rv176 := fnT Tryz.func176 rfl rfl chk176f res176 (by decide +kernel)
def b177_0 : IR := (.seq (.seq (.reg [oD 49 (.mv (.t 9)) 0,oD 50 (.bin .leq (.t 49) (.k (.i .u64 4294967295))) 1,oD 51 (.mv (.t 50)) 2,oT 52 (.mv (.t 6)) 51 3,oT 53 (.mv (.t 1)) 51 4,oT 54 (.mv (.t 5)) 51 5,oT 55 (.bin .sub (.t 54) (.k (.i .i64 2))) 51 6,oT 56 (.ixs 1 (.t 53) (.t 55)) 51 7,oT 57 (.load 1 false (.t 56)) 51 8,oT 58 (.conv .u64 (.t 57)) 51 9,oT 59 (.bin .mul (.t 52) (.t 58)) 51 10,oT 60 (.mv (.t 9)) 51 11,oT 61 (.bin .shl (.t 60) (.k (.i .u64 32))) 51 12,oT 62 (.mv (.t 0)) 51 13,oT 63 (.mv (.t 5)) 51 14,oT 64 (.bin .sub (.t 63) (.k (.i .i64 2))) 51 15,oT 65 (.ixs 1 (.t 62) (.t 64)) 51 16,oT 66 (.load 1 false (.t 65)) 51 17,oT 67 (.conv .u64 (.t 66)) 51 18,oT 68 (.bin .or (.t 61) (.t 67)) 51 19,oT 69 (.bin .gtr (.t 59) (.t 68)) 51 20,oD 70 (.pick (.t 51) (.t 69) (.k (.b false))) 21] [] [0,1,5,6,9,70] []) (.cond (.t 70) .skip (.exit 0))) (.seq (.block 1 (.reg [oD 79 (.mv (.t 6)) 0,oD 80 (.bin .sub (.t 79) (.k (.i .u64 1))) 1,oD 6 (.mv (.t 80)) 2] [] [0,1,5,6,9] [])) (.reg [oD 71 (.mv (.t 9)) 0,oD 72 (.mv (.t 1)) 1,oD 73 (.mv (.t 5)) 2,oD 74 (.bin .sub (.t 73) (.k (.i .i64 1))) 3,oD 75 (.ixs 1 (.t 72) (.t 74)) 4,oD 76 (.load 1 false (.t 75)) 5,oD 77 (.conv .u64 (.t 76)) 6,oD 78 (.bin .add (.t 71) (.t 77)) 7,oD 9 (.mv (.t 78)) 8] [] [0,1,5,6,9] [])))
theorem wb177_0 : type_of% (@wbEq _ _ b177_0.eq_1) := @wbEq _ _ b177_0.eq_1
def b177_1 : IR := (.seq (.reg [oD 84 (.bin .lss (.t 83) (.t 82)) 0] [] [0,1,6,10,11,82,83,84] []) (.seq (.cond (.t 84) .skip (.exit 2)) (.seq (.block 3 (.seq (.reg [oD 85 (.mv (.t 83)) 0,oD 12 (.mv (.t 85)) 1] [] [0,1,6,10,11,12,82,83] []) (.seq (.reg [oD 86 (.mv (.t 10)) 0,oD 87 (.mv (.t 6)) 1,oD 88 (.mv (.t 1)) 2,oD 89 (.mv (.t 12)) 3,oD 90 (.call 192 [(.t 88),(.t 89)]) 4,oD 91 (.conv .u64 (.t 90)) 5,oD 92 (.bin .mul (.t 87) (.t 91)) 6,oD 93 (.bin .add (.t 86) (.t 92)) 7,oD 10 (.mv (.t 93)) 8] [] [0,1,6,10,11,12,82,83] []) (.seq (.reg [oD 95 (.mv (.t 0)) 0,oD 96 (.mv (.t 12)) 1,oD 97 (.mv (.t 0)) 2,oD 98 (.mv (.t 12)) 3,oD 99 (.ixs 1 (.t 97) (.t 98)) 4,oD 100 (.load 1 false (.t 99)) 5,oD 101 (.mv (.t 10)) 6,oD 102 (.conv .u32 (.t 101)) 7,oD 103 (.mv (.t 11)) 8,oD 104 (.call 193 [(.t 100),(.t 102),(.t 103)]) 9,oD 94 (.mv (.t 104)) 10,oD 105 (.ext 0 (.t 94)) 11,oD 106 (.ext 1 (.t 94)) 12,oD 107 (.ixs 1 (.t 95) (.t 96)) 13,oN (.store 1 (.t 107) (.t 105)) 14,oD 11 (.mv (.t 106)) 15] [] [0,1,6,10,11,82,83] []) (.reg [oD 108 (.mv (.t 10)) 0,oD 109 (.bin .shr (.t 108) (.k (.i .u64 32))) 1,oD 10 (.mv (.t 109)) 2] [] [0,1,6,10,11,82,83] []))))) (.reg [oD 110 (.bin .add (.t 83) (.k (.i .i64 1))) 0,oD 83 (.mv (.t 110)) 1] [] [0,1,6,10,11,82,83] []))))
theorem wb177_1 : type_of% (@wbEq _ _ b177_1.eq_1) := @wbEq _ _ b177_1.eq_1
def b177_2 : IR := (.seq (.reg [oD 118 (.bin .lss (.t 117) (.t 116)) 0] [] [0,1,6,11,13,116,117,118] []) (.seq (.cond (.t 118) .skip (.exit 6)) (.seq (.block 7 (.seq (.reg [oD 119 (.mv (.t 117)) 0,oD 14 (.mv (.t 119)) 1] [] [0,1,6,11,13,14,116,117] []) (.reg [oD 121 (.mv (.t 0)) 0,oD 122 (.mv (.t 14)) 1,oD 123 (.mv (.t 0)) 2,oD 124 (.mv (.t 14)) 3,oD 125 (.ixs 1 (.t 123) (.t 124)) 4,oD 126 (.load 1 false (.t 125)) 5,oD 127 (.mv (.t 1)) 6,oD 128 (.mv (.t 14)) 7,oD 129 (.call 192 [(.t 127),(.t 128)]) 8,oD 130 (.mv (.t 13)) 9,oD 131 (.call 191 [(.t 126),(.t 129),(.t 130)]) 10,oD 120 (.mv (.t 131)) 11,oD 132 (.ext 0 (.t 120)) 12,oD 133 (.ext 1 (.t 120)) 13,oD 134 (.ixs 1 (.t 121) (.t 122)) 14,oN (.store 1 (.t 134) (.t 132)) 15,oD 13 (.mv (.t 133)) 16] [] [0,1,6,11,13,116,117] []))) (.reg [oD 135 (.bin .add (.t 117) (.k (.i .i64 1))) 0,oD 117 (.mv (.t 135)) 1] [] [0,1,6,11,13,116,117] []))))
theorem wb177_2 : type_of% (@wbEq _ _ b177_2.eq_1) := @wbEq _ _ b177_2.eq_1
def b177_3 : IR := (.seq (.seq (.reg [oD 111 (.mv (.t 11)) 0,oD 112 (.bin .gtr (.t 111) (.k (.i .u32 0))) 1] [] [0,1,6,11,112] []) (.cond (.t 112) .skip (.exit 4))) (.block 5 (.seq (.reg [oD 113 (.mv (.t 6)) 0,oD 114 (.bin .sub (.t 113) (.k (.i .u64 1))) 1,oD 6 (.mv (.t 114)) 2] [] [0,1,6,11] []) (.seq (.reg [oD 13 (.mv (.k (.i .u32 0))) 0] [] [0,1,6,11,13] []) (.seq (.seq (.reg [oD 115 (.mv (.t 0)) 0,oD 116 (.len (.t 115)) 1,oD 117 (.mv (.k (.i .i64 0))) 2] [] [0,1,6,11,13,116,117] []) (.block 6 (.loop [0,1,6,11,13,116,117] [] b177_2))) (.reg [oD 136 (.mv (.t 11)) 0,oD 137 (.mv (.t 13)) 1,oD 138 (.bin .sub (.t 136) (.t 137)) 2,oD 11 (.mv (.t 138)) 3] [] [0,1,6,11] []))))))
theorem wb177_3 : type_of% (@wbEq _ _ b177_3.eq_1) := @wbEq _ _ b177_3.eq_1
def ir177 : IR := (.seq (.reg [oD 4 (.mv (.k (.i .u32 0))) 0] [] [0,1] []) (.seq (.reg [oD 15 (.mv (.t 1)) 0,oD 16 (.len (.t 15)) 1,oD 5 (.mv (.t 16)) 2] [] [0,1,5] []) (.seq (.reg [oD 6 (.mv (.k (.i .u64 4294967295))) 0] [] [0,1,5,6] []) (.seq (.seq (.reg [oD 17 (.mv (.t 0)) 0,oD 18 (.mv (.t 5)) 1,oD 19 (.ixs 1 (.t 17) (.t 18)) 2,oD 20 (.load 1 false (.t 19)) 3,oD 21 (.mv (.t 1)) 4,oD 22 (.mv (.t 5)) 5,oD 23 (.bin .sub (.t 22) (.k (.i .i64 1))) 6,oD 24 (.ixs 1 (.t 21) (.t 23)) 7,oD 25 (.load 1 false (.t 24)) 8,oD 26 (.bin .lss (.t 20) (.t 25)) 9] [] [0,1,5,6,26] []) (.cond (.t 26) (.seq (.reg [oD 28 (.mv (.t 0)) 0,oD 29 (.mv (.t 5)) 1,oD 30 (.ixs 1 (.t 28) (.t 29)) 2,oD 31 (.load 1 false (.t 30)) 3,oD 32 (.mv (.t 0)) 4,oD 33 (.mv (.t 5)) 5,oD 34 (.bin .sub (.t 33) (.k (.i .i64 1))) 6,oD 35 (.ixs 1 (.t 32) (.t 34)) 7,oD 36 (.load 1 false (.t 35)) 8,oD 37 (.mv (.t 1)) 9,oD 38 (.mv (.t 5)) 10,oD 39 (.bin .sub (.t 38) (.k (.i .i64 1))) 11,oD 40 (.ixs 1 (.t 37) (.t 39)) 12,oD 41 (.load 1 false (.t 40)) 13,oD 42 (.call 199 [(.t 31),(.t 36),(.t 41)]) 14,oD 27 (.mv (.t 42)) 15,oD 43 (.ext 0 (.t 27)) 16,oD 44 (.ext 1 (.t 27)) 17,oD 7 (.mv (.t 43)) 18,oD 8 (.mv (.t 44)) 19] [] [0,1,5,7,8] []) (.seq (.reg [oD 45 (.mv (.t 8)) 0,oD 46 (.conv .u64 (.t 45)) 1,oD 9 (.mv (.t 46)) 2] [] [0,1,5,7,9] []) (.seq (.reg [oD 47 (.mv (.t 7)) 0,oD 48 (.conv .u64 (.t 47)) 1,oD 6 (.mv (.t 48)) 2] [] [0,1,5,6,9] []) (.block 0 (.loop [0,1,5,6,9] [] b177_0))))) .skip)) (.seq (.reg [oD 10 (.mv (.k (.i .u64 0))) 0] [] [0,1,6,10] []) (.seq (.reg [oD 11 (.mv (.k (.i .u32 0))) 0] [] [0,1,6,10,11] []) (.seq (.seq (.reg [oD 81 (.mv (.t 0)) 0,oD 82 (.len (.t 81)) 1,oD 83 (.mv (.k (.i .i64 0))) 2] [] [0,1,6,10,11,82,83] []) (.block 2 (.loop [0,1,6,10,11,82,83] [] b177_1))) (.seq (.block 4 (.loop [0,1,6,11] [] b177_3)) (.seq (.reg [oD 139 (.mv (.t 6)) 0,oD 140 (.conv .u32 (.t 139)) 1,oD 4 (.mv (.t 140)) 2] [] [4] []) .ret)))))))))
def rv177 : List RVar := [.t 4]
theorem fnr177 : FT Tryz.prog 177 141 ir177 rv177 := fnK Tryz.func177 (by decide +kernel)
def b178_0 : IR := (.seq (.reg [oD 13 (.bin .lss (.t 12) (.t 11)) 0] [] [0,1,5,11,12,13] [9]) (.seq (.cond (.t 13) .skip (.exit 0)) (.seq (.block 1 (.seq (.reg [oD 14 (.mv (.t 12)) 0,oD 6 (.mv (.t 14)) 1] [] [0,1,5,6,11,12] [9]) (.reg [oD 15 (.mv (.t 5)) 0,oD 16 (.mv (.t 6)) 1,oD 17 (.mv (.t 0)) 2,oD 18 (.mv (.t 6)) 3,oD 19 (.bin .add (.t 18) (.k (.i .i64 1))) 4,oD 20 (.call 192 [(.t 17),(.t 19)]) 5,oD 21 (.conv .u64 (.t 20)) 6,oD 22 (.bin .shl (.t 21) (.k (.i .u64 32))) 7,oD 23 (.mv (.t 0)) 8,oD 24 (.mv (.t 6)) 9,oD 25 (.ixs 1 (.t 23) (.t 24)) 10,oD 26 (.load 1 false (.t 25)) 11,oD 27 (.conv .u64 (.t 26)) 12,oD 28 (.bin .or (.t 22) (.t 27)) 13,oD 29 (.mv (.t 1)) 14,oD 30 (.bin .shr (.t 28) (.t 29)) 15,oD 31 (.conv .u32 (.t 30)) 16,oD 32 (.ixs 1 (.t 15) (.t 16)) 17,oN (.store 1 (.t 32) (.t 31)) 18] [] [0,1,5,11,12] [9]))) (.reg [oD 33 (.bin .add (.t 12) (.k (.i .i64 1))) 0,oD 12 (.mv (.t 33)) 1] [] [0,1,5,11,12] [9]))))
theorem wb178_0 : type_of% (@wbEq _ _ b178_0.eq_1) := @wbEq _ _ b178_0.eq_1
def ir178 : IR := (.seq (.reg [oD 4 (.mv (.k (.sl 1 true []))) 0] [] [0,1] []) (.seq (.reg [oD 7 (.mv (.t 0)) 0,oD 8 (.len (.t 7)) 1,oD 9 (.mk 1 4 [.i .u32 0] (.t 8) (.t 8)) 2,oD 5 (.mv (.t 9)) 3] [] [0,1,5] [9]) (.seq (.seq (.reg [oD 10 (.mv (.t 0)) 0,oD 11 (.len (.t 10)) 1,oD 12 (.mv (.k (.i .i64 0))) 2] [] [0,1,5,11,12] [9]) (.block 0 (.loop [0,1,5,11,12] [9] b178_0))) (.seq (.frz 5 (.reg [oD 34 (.mv (.t 5)) 0,oD 35 (.call 174 [(.t 34)]) 1,oD 4 (.mv (.t 35)) 2] [] [4] [])) .ret))))
def rv178 : List RVar := [.t 4]
theorem fnr178 : FT Tryz.prog 178 36 ir178 rv178 := fnK Tryz.func178 (by decide +kernel)
def ir179 : IR := (.seq (.reg [oD 2 (.mv (.k (.sl 1 true []))) 0] [] [0] []) (.seq (.seq (.reg [oD 3 (.mv (.t 0)) 0,oD 4 (.nilq false (.t 3)) 1] [] [0,4] []) (.cond (.t 4) (.seq (.reg [oD 2 (.mv (.k (.sl 1 true []))) 0] [] [2] [7]) (.frz 2 .ret)) .skip)) (.seq (.reg [oD 5 (.bsl 1 []) 0,oD 6 (.mv (.t 0)) 1,oD 7 (.app 1 4 (.t 5) (.t 6)) 2,oD 2 (.mv (.t 7)) 3] [] [2] [7]) (.frz 2 .ret))))
def rv179 : List RVar := [.t 2]
theorem fnr179 : FT Tryz.prog 179 8 ir179 rv179 := fnK Tryz.func179 (by decide +kernel)
def b180_0 : IR := (.seq (.reg [oD 27 (.bin .lss (.t 26) (.t 25)) 0] [] [1,5,6,7,8,17,18,19,24,25,26,27] [16]) (.seq (.cond (.t 27) .skip (.exit 2)) (.seq (.block 3 (.seq (.reg [oD 28 (.mv (.t 26)) 0,oD 29 (.ixs 1 (.t 24) (.t 26)) 1,oD 30 (.load 1 false (.t 29)) 2,oD 9 (.mv (.t 28)) 3,oD 10 (.mv (.t 30)) 4] [] [1,5,6,7,8,9,10,17,18,19,24,25,26] [16]) (.seq (.reg [oD 31 (.mv (.t 8)) 0,oD 32 (.mv (.t 7)) 1,oD 33 (.conv .u64 (.t 32)) 2,oD 34 (.mv (.t 10)) 3,oD 35 (.conv .u64 (.t 34)) 4,oD 36 (.bin .mul (.t 33) (.t 35)) 5,oD 37 (.mv (.t 5)) 6,oD 38 (.mv (.t 6)) 7,oD 39 (.mv (.t 9)) 8,oD 40 (.bin .add (.t 38) (.t 39)) 9,oD 41 (.ixs 1 (.t 37) (.t 40)) 10,oD 42 (.load 1 false (.t 41)) 11,oD 43 (.conv .u64 (.t 42)) 12,oD 44 (.bin .add (.t 36) (.t 43)) 13,oD 45 (.bin .add (.t 31) (.t 44)) 14,oD 8 (.mv (.t 45)) 15] [] [1,5,6,7,8,9,17,18,19,24,25,26] [16]) (.seq (.reg [oD 46 (.mv (.t 5)) 0,oD 47 (.mv (.t 6)) 1,oD 48 (.mv (.t 9)) 2,oD 49 (.bin .add (.t 47) (.t 48)) 3,oD 50 (.mv (.t 8)) 4,oD 51 (.conv .u32 (.t 50)) 5,oD 52 (.ixs 1 (.t 46) (.t 49)) 6,oN (.store 1 (.t 52) (.t 51)) 7] [] [1,5,6,7,8,17,18,19,24,25,26] [16]) (.reg [oD 53 (.mv (.t 8)) 0,oD 54 (.bin .shr (.t 53) (.k (.i .u64 32))) 1,oD 8 (.mv (.t 54)) 2] [] [1,5,6,7,8,17,18,19,24,25,26] [16]))))) (.reg [oD 55 (.bin .add (.t 26) (.k (.i .i64 1))) 0,oD 26 (.mv (.t 55)) 1] [] [1,5,6,7,8,17,18,19,24,25,26] [16]))))
theorem wb180_0 : type_of% (@wbEq _ _ b180_0.eq_1) := @wbEq _ _ b180_0.eq_1
def b180_1 : IR := (.seq (.reg [oD 20 (.bin .lss (.t 19) (.t 18)) 0] [] [1,5,17,18,19,20] [16]) (.seq (.cond (.t 20) .skip (.exit 0)) (.seq (.block 1 (.seq (.reg [oD 21 (.mv (.t 19)) 0,oD 22 (.ixs 1 (.t 17) (.t 19)) 1,oD 23 (.load 1 false (.t 22)) 2,oD 6 (.mv (.t 21)) 3,oD 7 (.mv (.t 23)) 4] [] [1,5,6,7,17,18,19] [16]) (.seq (.reg [oD 8 (.mv (.k (.i .u64 0))) 0] [] [1,5,6,7,8,17,18,19] [16]) (.seq (.seq (.reg [oD 24 (.mv (.t 1)) 0,oD 25 (.len (.t 24)) 1,oD 26 (.mv (.k (.i .i64 0))) 2] [] [1,5,6,7,8,17,18,19,24,25,26] [16]) (.block 2 (.loop [1,5,6,7,8,17,18,19,24,25,26] [16] b180_0))) (.reg [oD 56 (.mv (.t 5)) 0,oD 57 (.mv (.t 6)) 1,oD 58 (.mv (.t 1)) 2,oD 59 (.len (.t 58)) 3,oD 60 (.bin .add (.t 57) (.t 59)) 4,oD 61 (.mv (.t 8)) 5,oD 62 (.conv .u32 (.t 61)) 6,oD 63 (.ixs 1 (.t 56) (.t 60)) 7,oN (.store 1 (.t 63) (.t 62)) 8] [] [1,5,17,18,19] [16]))))) (.reg [oD 64 (.bin .add (.t 19) (.k (.i .i64 1))) 0,oD 19 (.mv (.t 64)) 1] [] [1,5,17,18,19] [16]))))
theorem wb180_1 : type_of% (@wbEq _ _ b180_1.eq_1) := @wbEq _ _ b180_1.eq_1
def ir180 : IR := (.seq (.reg [oD 4 (.mv (.k (.sl 1 true []))) 0] [] [0,1] []) (.seq (.reg [oD 11 (.mv (.t 0)) 0,oD 12 (.len (.t 11)) 1,oD 13 (.mv (.t 1)) 2,oD 14 (.len (.t 13)) 3,oD 15 (.bin .add (.t 12) (.t 14)) 4,oD 16 (.mk 1 4 [.i .u32 0] (.t 15) (.t 15)) 5,oD 5 (.mv (.t 16)) 6] [] [0,1,5] [16]) (.seq (.seq (.reg [oD 17 (.mv (.t 0)) 0,oD 18 (.len (.t 17)) 1,oD 19 (.mv (.k (.i .i64 0))) 2] [] [1,5,17,18,19] [16]) (.block 0 (.loop [1,5,17,18,19] [16] b180_1))) (.seq (.frz 5 (.reg [oD 65 (.mv (.t 5)) 0,oD 66 (.call 174 [(.t 65)]) 1,oD 4 (.mv (.t 66)) 2] [] [4] [])) .ret))))
def rv180 : List RVar := [.t 4]
theorem fnr180 : FT Tryz.prog 180 67 ir180 rv180 := fnK Tryz.func180 (by decide +kernel)
def tb189 : List Nat := [0, 1, 2, 2, 3, 3, 3, 3, 4, 4, 4, 4, 4, 4, 4, 4, 5, 5, 5, 5, 5, 5, 5, 5, 5, 5, 5, 5, 5, 5, 5, 5, 6, 6, 6, 6, 6, 6, 6, 6, 6, 6, 6, 6, 6, 6, 6, 6, 6, 6, 6, 6, 6, 6, 6, 6, 6, 6, 6, 6, 6, 6, 6, 6, 7, 7, 7, 7, 7, 7, 7, 7, 7, 7, 7, 7, 7, 7, 7, 7, 7, 7, 7, 7, 7, 7, 7, 7, 7, 7, 7, 7, 7, 7, 7, 7, 7, 7, 7, 7, 7, 7, 7, 7, 7, 7, 7, 7, 7, 7, 7, 7, 7, 7, 7, 7, 7, 7, 7, 7, 7, 7, 7, 7, 7, 7, 7, 7, 8, 8, 8, 8, 8, 8, 8, 8, 8, 8, 8, 8, 8, 8, 8, 8, 8, 8, 8, 8, 8, 8, 8, 8, 8, 8, 8, 8, 8, 8, 8, 8, 8, 8, 8, 8, 8, 8, 8, 8, 8, 8, 8, 8, 8, 8, 8, 8, 8, 8, 8, 8, 8, 8, 8, 8, 8, 8, 8, 8, 8, 8, 8, 8, 8, 8, 8, 8, 8, 8, 8, 8, 8, 8, 8, 8, 8, 8, 8, 8, 8, 8, 8, 8, 8, 8, 8, 8, 8, 8, 8, 8, 8, 8, 8, 8, 8, 8, 8, 8, 8, 8, 8, 8, 8, 8, 8, 8, 8, 8, 8, 8, 8, 8, 8, 8, 8, 8, 8, 8, 8, 8, 8, 8, 8, 8, 8, 8]
def ir189 : IR := (.seq (.reg [oD 2 (.mv (.k (.i .i64 0))) 0] [] [0,2] []) (.seq (.seq (.reg [oD 3 (.mv (.t 0)) 0,oD 4 (.bin .geq (.t 3) (.k (.i .u32 65536))) 1] [] [0,2,4] []) (.cond (.t 4) (.seq (.reg [oD 5 (.mv (.t 0)) 0,oD 6 (.bin .shr (.t 5) (.k (.i .u64 16))) 1,oD 0 (.mv (.t 6)) 2] [] [0] []) (.reg [oD 2 (.mv (.k (.i .i64 16))) 0] [] [0,2] [])) .skip)) (.seq (.seq (.reg [oD 7 (.mv (.t 0)) 0,oD 8 (.bin .geq (.t 7) (.k (.i .u32 256))) 1] [] [0,2,8] []) (.cond (.t 8) (.seq (.reg [oD 9 (.mv (.t 0)) 0,oD 10 (.bin .shr (.t 9) (.k (.i .u64 8))) 1,oD 0 (.mv (.t 10)) 2] [] [0,2] []) (.reg [oD 11 (.mv (.t 2)) 0,oD 12 (.bin .add (.t 11) (.k (.i .i64 8))) 1,oD 2 (.mv (.t 12)) 2] [] [0,2] [])) .skip)) (.seq (.reg [oD 13 (.mv (.t 2)) 0,oD 14 (.mv (.t 0)) 1,oD 15 (.conv .u8 (.t 14)) 2,oD 16 (.tab tb189 (.t 15)) 3,oD 17 (.conv .i64 (.t 16)) 4,oD 18 (.bin .add (.t 13) (.t 17)) 5,oD 2 (.mv (.t 18)) 6] [] [2] []) .ret))))
def rv189 : List RVar := [.t 2]
theorem fnr189 : FT Tryz.prog 189 19 ir189 rv189 := fnK Tryz.func189 (by decide +kernel)
def ir191 : IR := (.seq (.reg [oD 6 (.mv (.k (.i .u32 0))) 0,oD 7 (.mv (.k (.i .u32 0))) 1] [] [0,1,2] []) (.seq (.reg [oD 9 (.mv (.t 0)) 0,oD 10 (.conv .u64 (.t 9)) 1,oD 11 (.mv (.t 1)) 2,oD 12 (.conv .u64 (.t 11)) 3,oD 13 (.bin .add (.t 10) (.t 12)) 4,oD 14 (.mv (.t 2)) 5,oD 15 (.conv .u64 (.t 14)) 6,oD 16 (.bin .add (.t 13) (.t 15)) 7,oD 8 (.mv (.t 16)) 8] [] [8] []) (.seq (.reg [oD 17 (.mv (.t 8)) 0,oD 18 (.conv .u32 (.t 17)) 1,oD 6 (.mv (.t 18)) 2] [] [6,8] []) (.seq (.reg [oD 19 (.mv (.t 8)) 0,oD 20 (.bin .shr (.t 19) (.k (.i .u64 32))) 1,oD 21 (.conv .u32 (.t 20)) 2,oD 7 (.mv (.t 21)) 3] [] [6,7] []) .ret))))
def rv191 : List RVar := [.t 6, .t 7]
theorem fnr191 : FT Tryz.prog 191 22 ir191 rv191 := fnK Tryz.func191 (by decide +kernel)
def ir192 : IR := (.seq (.reg [oD 4 (.mv (.k (.i .u32 0))) 0] [] [0,1] []) (.seq (.seq (.reg [oD 5 (.mv (.t 1)) 0,oD 6 (.mv (.t 0)) 1,oD 7 (.len (.t 6)) 2,oD 8 (.bin .lss (.t 5) (.t 7)) 3] [] [0,1,8] []) (.cond (.t 8) (.seq (.reg [oD 9 (.mv (.t 0)) 0,oD 10 (.mv (.t 1)) 1,oD 11 (.ixs 1 (.t 9) (.t 10)) 2,oD 12 (.load 1 false (.t 11)) 3,oD 4 (.mv (.t 12)) 4] [] [4] []) .ret) .skip)) (.seq (.reg [oD 4 (.mv (.k (.i .u32 0))) 0] [] [4] []) .ret)))
def rv192 : List RVar := [.t 4]
theorem fnr192 : FT Tryz.prog 192 13 ir192 rv192 := fnK Tryz.func192 (by decide +kernel)
def ir193 : IR := (.seq (.reg [oD 6 (.mv (.k (.i .u32 0))) 0,oD 7 (.mv (.k (.i .u32 0))) 1] [] [0,1,2] []) (.seq (.reg [oD 8 (.mv (.t 0)) 0,oD 9 (.mv (.t 1)) 1,oD 10 (.bin .sub (.t 8) (.t 9)) 2,oD 11 (.mv (.t 2)) 3,oD 12 (.bin .sub (.t 10) (.t 11)) 4,oD 6 (.mv (.t 12)) 5] [] [0,1,6] []) (.seq (.reg [oD 13 (.mv (.t 0)) 0,oD 14 (.un .xor (.t 13)) 1,oD 15 (.mv (.t 1)) 2,oD 16 (.bin .and (.t 14) (.t 15)) 3,oD 17 (.mv (.t 0)) 4,oD 18 (.mv (.t 1)) 5,oD 19 (.bin .xor (.t 17) (.t 18)) 6,oD 20 (.un .xor (.t 19)) 7,oD 21 (.mv (.t 6)) 8,oD 22 (.bin .and (.t 20) (.t 21)) 9,oD 23 (.bin .or (.t 16) (.t 22)) 10,oD 24 (.bin .shr (.t 23) (.k (.i .u64 31))) 11,oD 7 (.mv (.t 24)) 12] [] [6,7] []) .ret)))
def rv193 : List RVar := [.t 6, .t 7]
theorem fnr193 : FT Tryz.prog 193 25 ir193 rv193 := fnK Tryz.func193 (by decide +kernel)
def ir198 : IR := (.seq (.reg [oD 2 (.mv (.k (.b false))) 0] [] [0] []) (.seq (.reg [oD 3 (.mv (.t 0)) 0,oD 4 (.mv (.t 0)) 1,oD 5 (.bin .neq (.t 3) (.t 4)) 2,oD 2 (.mv (.t 5)) 3] [] [2] []) .ret))
def rv198 : List RVar := [.t 2]
theorem fnr198 : FT Tryz.prog 198 6 ir198 rv198 := fnK Tryz.func198 (by decide +kernel)
def ir199 : IR := (.seq (.reg [oD 6 (.mv (.k (.i .u32 0))) 0,oD 7 (.mv (.k (.i .u32 0))) 1] [] [0,1,2] []) (.seq (.seq (.reg [oD 9 (.mv (.t 2)) 0,oD 10 (.bin .neq (.t 9) (.k (.i .u32 0))) 1,oD 11 (.mv (.t 10)) 2,oT 12 (.mv (.t 2)) 11 3,oT 13 (.mv (.t 0)) 11 4,oT 14 (.bin .leq (.t 12) (.t 13)) 11 5,oD 15 (.pick (.t 11) (.t 14) (.k (.b false))) 6] [] [0,1,2,15] []) (.cond (.t 15) (.reg [oD 16 (.load 1 false (.k .u)) 0,oN .bad 1] [] [0,1,2] []) .skip)) (.seq (.reg [oD 17 (.mv (.t 0)) 0,oD 18 (.conv .u64 (.t 17)) 1,oD 19 (.bin .shl (.t 18) (.k (.i .u64 32))) 2,oD 20 (.mv (.t 1)) 3,oD 21 (.conv .u64 (.t 20)) 4,oD 22 (.bin .or (.t 19) (.t 21)) 5,oD 8 (.mv (.t 22)) 6] [] [2,8] []) (.seq (.reg [oD 23 (.mv (.t 8)) 0,oD 24 (.mv (.t 2)) 1,oD 25 (.conv .u64 (.t 24)) 2,oD 26 (.bin .quo (.t 23) (.t 25)) 3,oD 27 (.conv .u32 (.t 26)) 4,oD 28 (.mv (.t 8)) 5,oD 29 (.mv (.t 2)) 6,oD 30 (.conv .u64 (.t 29)) 7,oD 31 (.bin .rem (.t 28) (.t 30)) 8,oD 32 (.conv .u32 (.t 31)) 9,oD 6 (.mv (.t 27)) 10,oD 7 (.mv (.t 32)) 11] [] [6,7] []) .ret))))
def rv199 : List RVar := [.t 6, .t 7]
theorem fnr199 : FT Tryz.prog 199 33 ir199 rv199 := fnK Tryz.func199 (by decide +kernel)
def b14_0 : IR := (.seq (.reg [oD 8 (.bin .lss (.t 7) (.t 6)) 0] [] [0,5,6,7,8] []) (.seq (.cond (.t 8) .skip (.exit 0)) (.seq (.block 1 (.seq (.reg [oD 9 (.mv (.t 7)) 0,oD 10 (.ixs 12 (.t 5) (.t 7)) 1,oD 11 (.load 12 true (.t 10)) 2,oD 4 (.alloc [.b false,.sl 1 true [],.b false,.sl 1 true [],.i .i64 0,.i .i64 0,.i .i64 0,.i .i64 0,.i .i64 0,.i .i64 0,.i .i64 0,.i .i64 0]) 3,oD 3 (.mv (.t 9)) 4,oN (.store 12 (.t 4) (.t 11)) 5] [] [0,3,4,5,6,7] [4]) (.seq (.seq (.reg [oD 12 (.fld 0 (.t 4)) 0,oD 13 (.load 4 true (.t 12)) 1,oD 14 (.call 67 [(.t 13)]) 2,oD 15 (.un .not (.t 14)) 3,oD 16 (.mv (.t 15)) 4,oF 17 (.fld 0 (.t 4)) 16 5,oF 18 (.load 4 true (.t 17)) 16 6,oF 19 (.call 68 [(.t 18)]) 16 7,oF 20 (.bin .eql (.t 19) (.k (.i .i64 0))) 16 8,oD 21 (.pick (.t 16) (.k (.b true)) (.t 20)) 9,oD 22 (.mv (.t 21)) 10,oF 23 (.fld 4 (.t 4)) 22 11,oF 24 (.load 8 true (.t 23)) 22 12,oF 25 (.call 69 [(.t 24)]) 22 13,oF 26 (.un .not (.t 25)) 22 14,oD 27 (.pick (.t 22) (.k (.b true)) (.t 26)) 15] [] [0,3,4,5,6,7,27] [4]) (.cond (.t 27) (.seq (.reg [oD 2 (.mv (.k (.b false))) 0] [] [2] []) .ret) .skip)) (.seq (.reg [oD 28 (.mv (.t 3)) 0,oD 29 (.bin .gtr (.t 28) (.k (.i .i64 0))) 1,oD 30 (.mv (.t 29)) 2,oT 31 (.mv (.t 0)) 30 3,oT 32 (.mv (.t 3)) 30 4,oT 33 (.bin .sub (.t 32) (.k (.i .i64 1))) 30 5,oT 34 (.ixs 12 (.t 31) (.t 33)) 30 6,oT 35 (.fld 4 (.t 34)) 30 7,oT 36 (.load 8 true (.t 35)) 30 8,oT 37 (.fld 4 (.t 4)) 30 9,oT 38 (.load 8 true (.t 37)) 30 10,oT 39 (.call 70 [(.t 36),(.t 38)]) 30 11,oT 40 (.bin .leq (.t 39) (.k (.i .i64 0))) 30 12,oD 41 (.pick (.t 30) (.t 40) (.k (.b false))) 13] [] [0,5,6,7,41] []) (.cond (.t 41) (.seq (.reg [oD 2 (.mv (.k (.b false))) 0] [] [2] []) .ret) .skip))))) (.reg [oD 42 (.bin .add (.t 7) (.k (.i .i64 1))) 0,oD 7 (.mv (.t 42)) 1] [] [0,5,6,7] []))))
theorem wb14_0 : type_of% (@wbEq _ _ b14_0.eq_1) := @wbEq _ _ b14_0.eq_1
def ir14 : IR := (.seq (.reg [oD 2 (.mv (.k (.b false))) 0] [] [0] []) (.seq (.seq (.reg [oD 5 (.mv (.t 0)) 0,oD 6 (.len (.t 5)) 1,oD 7 (.mv (.k (.i .i64 0))) 2] [] [0,5,6,7] []) (.block 0 (.loop [0,5,6,7] [] b14_0))) (.seq (.reg [oD 2 (.mv (.k (.b true))) 0] [] [2] []) .ret)))
def rv14 : List RVar := [.t 2]
theorem fnr14 : FT Tryz.prog 14 43 ir14 rv14 := fnK Tryz.func14 (by decide +kernel)
def b18_0 : IR := (.seq (.reg [oD 23 (.bin .lss (.t 22) (.t 21)) 0] [] [1,6,8,14,15,16,20,21,22,23] [8,13]) (.seq (.cond (.t 23) .skip (.exit 2)) (.seq (.block 3 (.seq (.reg [oD 24 (.ixs 12 (.t 20) (.t 22)) 0,oD 25 (.load 12 true (.t 24)) 1,oD 10 (.alloc [.b false,.sl 1 true [],.b false,.sl 1 true [],.i .i64 0,.i .i64 0,.i .i64 0,.i .i64 0,.i .i64 0,.i .i64 0,.i .i64 0,.i .i64 0]) 2,oN (.store 12 (.t 10) (.t 25)) 3] [] [1,6,8,10,14,15,16,20,21,22] [8,10,13]) (.seq (.reg [oD 27 (.fld 4 (.t 8)) 0,oD 28 (.load 8 true (.t 27)) 1,oD 29 (.fld 4 (.t 10)) 2,oD 30 (.load 8 true (.t 29)) 3,oD 31 (.call 74 [(.t 28),(.t 30)]) 4,oD 26 (.mv (.t 31)) 5,oD 32 (.ext 0 (.t 26)) 6,oD 33 (.ext 1 (.t 26)) 7,oD 11 (.alloc [.i .i64 0,.i .i64 0,.i .i64 0,.i .i64 0,.i .i64 0,.i .i64 0,.i .i64 0,.i .i64 0]) 8,oN (.store 8 (.t 11) (.t 32)) 9,oD 12 (.mv (.t 33)) 10] [] [1,6,8,10,11,12,14,15,16,20,21,22] [8,10,11,13]) (.seq (.seq (.reg [oD 34 (.mv (.t 12)) 0,oD 35 (.bin .neq (.t 34) (.k (.i .i64 0))) 1] [] [1,6,8,10,11,14,15,16,20,21,22,35] [8,10,11,13]) (.cond (.t 35) (.seq (.reg [oD 4 (.mv (.k (.sl 12 true []))) 0,oD 5 (.mv (.k (.i .i64 2))) 1] [] [4,5] []) .ret) .skip)) (.reg [oD 36 (.mv (.t 6)) 0,oD 37 (.fld 0 (.t 8)) 1,oD 38 (.load 4 true (.t 37)) 2,oD 39 (.fld 0 (.t 10)) 3,oD 40 (.load 4 true (.t 39)) 4,oD 41 (.call 76 [(.t 38),(.t 40)]) 5,oD 42 (.load 8 true (.t 11)) 6,oD 43 (.callR 75 [(.t 36),(.t 41),(.t 42)]) 7] [] [1,6,8,14,15,16,20,21,22] [8,13]))))) (.reg [oD 44 (.bin .add (.t 22) (.k (.i .i64 1))) 0,oD 22 (.mv (.t 44)) 1] [] [1,6,8,14,15,16,20,21,22] [8,13]))))
theorem wb18_0 : type_of% (@wbEq _ _ b18_0.eq_1) := @wbEq _ _ b18_0.eq_1
def b18_1 : IR := (.seq (.reg [oD 17 (.bin .lss (.t 16) (.t 15)) 0] [] [1,6,14,15,16,17] [13]) (.seq (.cond (.t 17) .skip (.exit 0)) (.seq (.block 1 (.seq (.reg [oD 18 (.ixs 12 (.t 14) (.t 16)) 0,oD 19 (.load 12 true (.t 18)) 1,oD 8 (.alloc [.b false,.sl 1 true [],.b false,.sl 1 true [],.i .i64 0,.i .i64 0,.i .i64 0,.i .i64 0,.i .i64 0,.i .i64 0,.i .i64 0,.i .i64 0]) 2,oN (.store 12 (.t 8) (.t 19)) 3] [] [1,6,8,14,15,16] [8,13]) (.seq (.reg [oD 20 (.mv (.t 1)) 0,oD 21 (.len (.t 20)) 1,oD 22 (.mv (.k (.i .i64 0))) 2] [] [1,6,8,14,15,16,20,21,22] [8,13]) (.block 2 (.loop [1,6,8,14,15,16,20,21,22] [8,13] b18_0))))) (.reg [oD 45 (.bin .add (.t 16) (.k (.i .i64 1))) 0,oD 16 (.mv (.t 45)) 1] [] [1,6,14,15,16] [13]))))
theorem wb18_1 : type_of% (@wbEq _ _ b18_1.eq_1) := @wbEq _ _ b18_1.eq_1
def ir18 : IR := (.seq (.reg [oD 4 (.mv (.k (.sl 12 true []))) 0,oD 5 (.mv (.k (.i .i64 0))) 1] [] [0,1] []) (.seq (.reg [oD 13 .mkmap 0,oD 6 (.mv (.t 13)) 1] [] [0,1,6] [13]) (.seq (.seq (.reg [oD 14 (.mv (.t 0)) 0,oD 15 (.len (.t 14)) 1,oD 16 (.mv (.k (.i .i64 0))) 2] [] [1,6,14,15,16] [13]) (.block 0 (.loop [1,6,14,15,16] [13] b18_1))) (.seq (.reg [oD 46 (.mv (.t 6)) 0,oD 47 (.callR 77 [(.t 46)]) 1,oD 4 (.mv (.t 47)) 2,oD 5 (.mv (.k (.i .i64 0))) 3] [] [4,5] []) .ret))))
def rv18 : List RVar := [.t 4, .t 5]
theorem fnr18 : FT Tryz.prog 18 48 ir18 rv18 := fnK Tryz.func18 (by decide +kernel)
def ir20 : IR := (.seq (.reg [oD 4 (.mv (.k (.sl 12 true []))) 0] [] [0,1] []) (.seq (.reg [oD 5 (.mv (.t 0)) 0,oD 6 (.mv (.t 1)) 1,oD 7 (.call 79 [(.t 5),(.t 6),(.k (.f 80 [] [])),(.k (.f 81 [] []))]) 2,oD 4 (.mv (.t 7)) 3] [] [4] []) .ret))
def rv20 : List RVar := [.t 4]
theorem fnr20 : FT Tryz.prog 20 8 ir20 rv20 := fnK Tryz.func20 (by decide +kernel)
def ir21 : IR := (.seq (.reg [oD 4 (.mv (.k (.sl 12 true []))) 0] [] [0,1] []) (.seq (.reg [oD 5 (.mv (.t 0)) 0,oD 6 (.mv (.t 1)) 1,oD 7 (.call 79 [(.t 5),(.t 6),(.k (.f 82 [] [])),(.k (.f 83 [] []))]) 2,oD 4 (.mv (.t 7)) 3] [] [4] []) .ret))
def rv21 : List RVar := [.t 4]
theorem fnr21 : FT Tryz.prog 21 8 ir21 rv21 := fnK Tryz.func21 (by decide +kernel)
def ir22 : IR := (.seq (.reg [oD 1 (.box (.t 0)) 0,oD 2 (.mv (.k (.sl 12 true []))) 1] [] [1] [1]) (.seq (.seq (.reg [oD 3 (.load 4 true (.t 1)) 0,oD 4 (.call 68 [(.t 3)]) 1,oD 5 (.bin .eql (.t 4) (.k (.i .i64 0))) 2] [] [1,5] [1]) (.cond (.t 5) (.seq (.reg [oD 2 (.mv (.k (.sl 12 true []))) 0] [] [2] []) .ret) .skip)) (.seq (.reg [oD 6 (.load 4 true (.t 1)) 0,oD 7 (.build [.b false,.sl 1 true [],.b false,.sl 1 true [],.i .i64 0,.i .i64 0,.i .i64 0,.i .i64 0,.i .i64 0,.i .i64 0,.i .i64 0,.i .i64 0] [(0,4,(.t 6))]) 1,oD 8 (.bsl 12 [(.t 7)]) 2,oD 2 (.mv (.t 8)) 3] [] [2] []) .ret)))
def rv22 : List RVar := [.t 2]
theorem fnr22 : FT Tryz.prog 22 9 ir22 rv22 := fnK Tryz.func22 (by decide +kernel)
def ir25 : IR := (.seq (.reg [oD 2 (.mv (.k (.sl 12 true []))) 0,oD 3 (.mv (.k (.i .i64 0))) 1] [] [0] []) (.seq (.seq (.reg [oD 5 (.mv (.t 0)) 0,oD 6 (.bin .lss (.t 5) (.k (.i .i64 0))) 1,oD 7 (.mv (.t 6)) 2,oF 8 (.mv (.t 0)) 7 3,oF 9 (.bin .geq (.t 8) (.k (.i .i64 8))) 7 4,oD 10 (.pick (.t 7) (.k (.b true)) (.t 9)) 5] [] [0,10] []) (.cond (.t 10) (.seq (.reg [oD 2 (.mv (.k (.sl 12 true []))) 0,oD 3 (.mv (.k (.i .i64 1))) 1] [] [2,3] []) .ret) .skip)) (.seq (.reg [oD 4 (.alloc [.i .i64 0,.i .i64 0,.i .i64 0,.i .i64 0,.i .i64 0,.i .i64 0,.i .i64 0,.i .i64 0]) 0] [] [0,4] [4]) (.seq (.reg [oD 11 (.mv (.t 0)) 0,oD 12 (.ixa 8 1 (.t 4) (.t 11)) 1,oN (.store 1 (.t 12) (.k (.i .i64 1))) 2] [] [4] [4]) (.seq (.reg [oD 13 (.call 85 [(.k (.i .i64 1))]) 0,oD 14 (.load 8 true (.t 4)) 1,oD 15 (.build [.b false,.sl 1 true [],.b false,.sl 1 true [],.i .i64 0,.i .i64 0,.i .i64 0,.i .i64 0,.i .i64 0,.i .i64 0,.i .i64 0,.i .i64 0] [(0,4,(.t 13)),(4,8,(.t 14))]) 2,oD 16 (.bsl 12 [(.t 15)]) 3,oD 2 (.mv (.t 16)) 4,oD 3 (.mv (.k (.i .i64 0))) 5] [] [2,3] []) .ret)))))
def rv25 : List RVar := [.t 2, .t 3]
theorem fnr25 : FT Tryz.prog 25 17 ir25 rv25 := fnK Tryz.func25 (by decide +kernel)
def ir38 : IR := (.seq (.reg [oD 3 (.box (.t 1)) 0,oD 4 (.alloc [.b false,.sl 1 true [],.b false,.sl 1 true [],.i .i64 0,.i .i64 0,.i .i64 0,.i .i64 0,.i .i64 0,.i .i64 0,.i .i64 0,.i .i64 0]) 1,oD 5 (.mv (.k (.b false))) 2] [] [0,3,4] [3,4]) (.seq (.seq (.reg [oD 6 (.mv (.t 0)) 0,oD 7 (.len (.t 6)) 1,oD 8 (.bin .eql (.t 7) (.k (.i .i64 0))) 2] [] [0,3,4,8] [3,4]) (.cond (.t 8) (.seq (.reg [oD 9 (.build [.b false,.sl 1 true [],.b false,.sl 1 true [],.i .i64 0,.i .i64 0,.i .i64 0,.i .i64 0,.i .i64 0,.i .i64 0,.i .i64 0,.i .i64 0] []) 0,oN (.store 12 (.t 4) (.t 9)) 1,oD 5 (.mv (.k (.b false))) 2] [] [4,5] [4]) .ret) .skip)) (.seq (.frz 3 (.reg [oD 10 (.mv (.t 0)) 0,oD 11 (.mkf 106 [(.t 3)]) 1,oD 12 (.call 105 [(.t 10),(.t 11)]) 2,oN (.store 12 (.t 4) (.t 12)) 3,oD 5 (.mv (.k (.b true))) 4] [] [4,5] [4])) .ret)))
def rv38 : List RVar := [.c 4 12 true, .t 5]
theorem fnr38 : FT Tryz.prog 38 13 ir38 rv38 := fnK Tryz.func38 (by decide +kernel)
def b40_0 : IR := (.seq (.reg [oD 9 (.bin .lss (.t 8) (.t 7)) 0] [] [3,6,7,8,9] []) (.seq (.cond (.t 9) .skip (.exit 0)) (.seq (.block 1 (.seq (.reg [oD 10 (.ixs 12 (.t 6) (.t 8)) 0,oD 11 (.load 12 true (.t 10)) 1,oD 5 (.alloc [.b false,.sl 1 true [],.b false,.sl 1 true [],.i .i64 0,.i .i64 0,.i .i64 0,.i .i64 0,.i .i64 0,.i .i64 0,.i .i64 0,.i .i64 0]) 2,oN (.store 12 (.t 5) (.t 11)) 3] [] [3,5,6,7,8] [5]) (.reg [oD 12 (.mv (.t 3)) 0,oD 13 (.fld 4 (.t 5)) 1,oD 14 (.load 8 true (.t 13)) 2,oD 15 (.call 108 [(.t 14)]) 3,oD 16 (.mx (.t 12) (.t 15)) 4,oD 3 (.mv (.t 16)) 5] [] [3,6,7,8] []))) (.reg [oD 17 (.bin .add (.t 8) (.k (.i .i64 1))) 0,oD 8 (.mv (.t 17)) 1] [] [3,6,7,8] []))))
theorem wb40_0 : type_of% (@wbEq _ _ b40_0.eq_1) := @wbEq _ _ b40_0.eq_1
def ir40 : IR := (.seq (.reg [oD 2 (.mv (.k (.i .i64 0))) 0] [] [0] []) (.seq (.reg [oD 3 (.mv (.k (.i .i64 (-1)))) 0] [] [0,3] []) (.seq (.seq (.reg [oD 6 (.mv (.t 0)) 0,oD 7 (.len (.t 6)) 1,oD 8 (.mv (.k (.i .i64 0))) 2] [] [3,6,7,8] []) (.block 0 (.loop [3,6,7,8] [] b40_0))) (.seq (.reg [oD 18 (.mv (.t 3)) 0,oD 2 (.mv (.t 18)) 1] [] [2] []) .ret))))
def rv40 : List RVar := [.t 2]
theorem fnr40 : FT Tryz.prog 40 19 ir40 rv40 := fnK Tryz.func40 (by decide +kernel)
def b42_0 : IR := (.seq (.reg [oD 22 (.bin .lss (.t 21) (.t 20)) 0] [] [3,4,8,19,20,21,22] [3,4,18]) (.seq (.cond (.t 22) .skip (.exit 0)) (.seq (.block 1 (.seq (.reg [oD 23 (.mv (.t 21)) 0,oD 24 (.ixs 12 (.t 19) (.t 21)) 1,oD 25 (.load 12 true (.t 24)) 2,oD 10 (.alloc [.b false,.sl 1 true [],.b false,.sl 1 true [],.i .i64 0,.i .i64 0,.i .i64 0,.i .i64 0,.i .i64 0,.i .i64 0,.i .i64 0,.i .i64 0]) 3,oD 9 (.mv (.t 23)) 4,oN (.store 12 (.t 10) (.t 25)) 5] [] [3,4,8,9,10,19,20,21] [3,4,10,18]) (.seq (.reg [oD 27 (.load 8 true (.t 4)) 0,oD 28 (.fld 4 (.t 10)) 1,oD 29 (.load 8 true (.t 28)) 2,oD 30 (.call 74 [(.t 27),(.t 29)]) 3,oD 26 (.mv (.t 30)) 4,oD 31 (.ext 0 (.t 26)) 5,oD 32 (.ext 1 (.t 26)) 6,oD 11 (.alloc [.i .i64 0,.i .i64 0,.i .i64 0,.i .i64 0,.i .i64 0,.i .i64 0,.i .i64 0,.i .i64 0]) 7,oN (.store 8 (.t 11) (.t 31)) 8,oD 12 (.mv (.t 32)) 9] [] [3,4,8,9,10,11,12,19,20,21] [3,4,10,11,18]) (.seq (.seq (.reg [oD 33 (.mv (.t 12)) 0,oD 34 (.bin .neq (.t 33) (.k (.i .i64 0))) 1] [] [3,4,8,9,10,11,19,20,21,34] [3,4,10,11,18]) (.cond (.t 34) (.seq (.reg [oD 6 (.mv (.k (.sl 12 true []))) 0,oD 7 (.mv (.k (.i .i64 2))) 1] [] [6,7] [18]) (.frz 6 .ret)) .skip)) (.reg [oD 35 (.mv (.t 8)) 0,oD 36 (.mv (.t 9)) 1,oD 37 (.load 4 true (.t 3)) 2,oD 38 (.fld 0 (.t 10)) 3,oD 39 (.load 4 true (.t 38)) 4,oD 40 (.call 76 [(.t 37),(.t 39)]) 5,oD 41 (.load 8 true (.t 11)) 6,oD 42 (.build [.b false,.sl 1 true [],.b false,.sl 1 true [],.i .i64 0,.i .i64 0,.i .i64 0,.i .i64 0,.i .i64 0,.i .i64 0,.i .i64 0,.i .i64 0] [(0,4,(.t 40)),(4,8,(.t 41))]) 7,oD 43 (.ixs 12 (.t 35) (.t 36)) 8,oN (.store 12 (.t 43) (.t 42)) 9] [] [3,4,8,19,20,21] [3,4,18]))))) (.reg [oD 44 (.bin .add (.t 21) (.k (.i .i64 1))) 0,oD 21 (.mv (.t 44)) 1] [] [3,4,8,19,20,21] [3,4,18]))))
theorem wb42_0 : type_of% (@wbEq _ _ b42_0.eq_1) := @wbEq _ _ b42_0.eq_1
def ir42 : IR := (.seq (.reg [oD 3 (.box (.t 0)) 0,oD 4 (.box (.t 1)) 1,oD 6 (.mv (.k (.sl 12 true []))) 2,oD 7 (.mv (.k (.i .i64 0))) 3] [] [2,3,4] [3,4]) (.seq (.seq (.reg [oD 13 (.load 4 true (.t 3)) 0,oD 14 (.call 68 [(.t 13)]) 1,oD 15 (.bin .eql (.t 14) (.k (.i .i64 0))) 2] [] [2,3,4,15] [3,4]) (.cond (.t 15) (.seq (.reg [oD 6 (.mv (.k (.sl 12 true []))) 0,oD 7 (.mv (.k (.i .i64 0))) 1] [] [6,7] [18]) (.frz 6 .ret)) .skip)) (.seq (.reg [oD 16 (.mv (.t 2)) 0,oD 17 (.len (.t 16)) 1,oD 18 (.mk 12 128 [.b false,.sl 1 true [],.b false,.sl 1 true [],.i .i64 0,.i .i64 0,.i .i64 0,.i .i64 0,.i .i64 0,.i .i64 0,.i .i64 0,.i .i64 0] (.t 17) (.t 17)) 2,oD 8 (.mv (.t 18)) 3] [] [2,3,4,8] [3,4,18]) (.seq (.seq (.reg [oD 19 (.mv (.t 2)) 0,oD 20 (.len (.t 19)) 1,oD 21 (.mv (.k (.i .i64 0))) 2] [] [3,4,8,19,20,21] [3,4,18]) (.block 0 (.loop [3,4,8,19,20,21] [3,4,18] b42_0))) (.seq (.reg [oD 45 (.mv (.t 8)) 0,oD 6 (.mv (.t 45)) 1,oD 7 (.mv (.k (.i .i64 0))) 2] [] [6,7] [18]) (.frz 6 .ret))))))
def rv42 : List RVar := [.t 6, .t 7]
theorem fnr42 : FT Tryz.prog 42 46 ir42 rv42 := fnK Tryz.func42 (by decide +kernel)
def b45_0 : IR := (.seq (.reg [oD 36 (.bin .lss (.t 35) (.k (.i .i64 8))) 0] [] [3,7,8,11,21,22,23,34,35,36] [3,6,7,19]) (.seq (.cond (.t 36) .skip (.exit 2)) (.seq (.block 3 (.seq (.reg [oD 37 (.mv (.t 35)) 0,oD 38 (.ixv 8 1 false (.t 34) (.t 35)) 1,oD 12 (.mv (.t 37)) 2,oD 13 (.mv (.t 38)) 3] [] [3,7,8,11,12,13,21,22,23,34,35] [3,6,7,19]) (.seq (.reg [oD 40 (.load 1 false (.t 7)) 0,oD 41 (.mv (.t 12)) 1,oD 42 (.mv (.t 13)) 2,oD 43 (.callvR (.t 40) [(.t 41),(.t 42)]) 3,oD 39 (.mv (.t 43)) 4,oD 44 (.ext 0 (.t 39)) 5,oD 45 (.ext 1 (.t 39)) 6,oD 14 (.mv (.t 44)) 7,oD 15 (.mv (.t 45)) 8] [] [3,7,8,11,14,15,21,22,23,34,35] [3,6,7,19]) (.seq (.seq (.reg [oD 46 (.mv (.t 15)) 0,oD 47 (.bin .eql (.t 46) (.k (.i .i64 0))) 1] [] [3,7,8,11,14,15,21,22,23,34,35,47] [3,6,7,19]) (.cond (.t 47) (.reg [oD 49 (.mv (.t 11)) 0,oD 50 (.mv (.t 14)) 1,oD 51 (.call 18 [(.t 49),(.t 50)]) 2,oD 48 (.mv (.t 51)) 3,oD 52 (.ext 0 (.t 48)) 4,oD 53 (.ext 1 (.t 48)) 5,oD 11 (.mv (.t 52)) 6,oD 15 (.mv (.t 53)) 7] [] [3,7,8,11,15,21,22,23,34,35] [3,6,7,19]) .skip)) (.seq (.reg [oD 54 (.mv (.t 15)) 0,oD 55 (.bin .neq (.t 54) (.k (.i .i64 0))) 1] [] [3,7,8,11,15,21,22,23,34,35,55] [3,6,7,19]) (.cond (.t 55) (.seq (.reg [oD 56 (.mv (.t 15)) 0,oD 4 (.mv (.k (.sl 12 true []))) 1,oD 5 (.mv (.t 56)) 2] [] [4,5] []) .ret) .skip)))))) (.reg [oD 57 (.bin .add (.t 35) (.k (.i .i64 1))) 0,oD 35 (.mv (.t 57)) 1] [] [3,7,8,11,21,22,23,34,35] [3,6,7,19]))))
theorem wb45_0 : type_of% (@wbEq _ _ b45_0.eq_1) := @wbEq _ _ b45_0.eq_1
def b45_1 : IR := (.seq (.reg [oD 24 (.bin .lss (.t 23) (.t 22)) 0] [] [3,7,8,21,22,23,24] [3,6,7,19]) (.seq (.cond (.t 24) .skip (.exit 0)) (.seq (.block 1 (.seq (.reg [oD 25 (.ixs 12 (.t 21) (.t 23)) 0,oD 26 (.load 12 true (.t 25)) 1,oD 10 (.alloc [.b false,.sl 1 true [],.b false,.sl 1 true [],.i .i64 0,.i .i64 0,.i .i64 0,.i .i64 0,.i .i64 0,.i .i64 0,.i .i64 0,.i .i64 0]) 2,oN (.store 12 (.t 10) (.t 26)) 3] [] [3,7,8,10,21,22,23] [3,6,7,10,19]) (.seq (.seq (.frz 10 (.reg [oD 27 (.bsl 1 [(.k (.i .i64 0)),(.k (.i .i64 1)),(.k (.i .i64 2)),(.k (.i .i64 3)),(.k (.i .i64 4)),(.k (.i .i64 5)),(.k (.i .i64 6)),(.k (.i .i64 7))]) 0,oD 28 (.mkf 113 [(.t 10),(.t 3)]) 1,oD 29 (.call 112 [(.t 27),(.t 28)]) 2] [] [3,7,8,10,21,22,23,29] [3,6,7,10,19])) (.cond (.t 29) (.exit 1) .skip)) (.seq (.reg [oD 30 (.fld 0 (.t 10)) 0,oD 31 (.load 4 true (.t 30)) 1,oD 32 (.call 22 [(.t 31)]) 2,oD 11 (.mv (.t 32)) 3] [] [3,7,8,10,11,21,22,23] [3,6,7,10,19]) (.seq (.seq (.reg [oD 33 (.fld 4 (.t 10)) 0,oD 34 (.load 8 true (.t 33)) 1,oD 35 (.mv (.k (.i .i64 0))) 2] [] [3,7,8,11,21,22,23,34,35] [3,6,7,19]) (.block 2 (.loop [3,7,8,11,21,22,23,34,35] [3,6,7,19] b45_0))) (.reg [oD 58 (.mv (.t 8)) 0,oD 59 (.mv (.t 11)) 1,oD 60 (.call 20 [(.t 58),(.t 59)]) 2,oD 8 (.mv (.t 60)) 3] [] [3,7,8,21,22,23] [3,6,7,19])))))) (.reg [oD 61 (.bin .add (.t 23) (.k (.i .i64 1))) 0,oD 23 (.mv (.t 61)) 1] [] [3,7,8,21,22,23] [3,6,7,19]))))
theorem wb45_1 : type_of% (@wbEq _ _ b45_1.eq_1) := @wbEq _ _ b45_1.eq_1
def ir45 : IR := (.seq (.reg [oD 3 (.box (.t 1)) 0,oD 4 (.mv (.k (.sl 12 true []))) 1,oD 5 (.mv (.k (.i .i64 0))) 2] [] [0,3] [3]) (.seq (.seq (.reg [oD 16 (.mv (.t 0)) 0,oD 17 (.call 40 [(.t 16)]) 1,oD 18 (.bin .gtr (.t 17) (.k (.i .i64 64))) 2] [] [0,3,18] [3]) (.cond (.t 18) (.seq (.reg [oD 4 (.mv (.k (.sl 12 true []))) 0,oD 5 (.mv (.k (.i .i64 2))) 1] [] [4,5] []) .ret) .skip)) (.seq (.reg [oD 19 .mkmap 0,oD 6 (.alloc [.u]) 1,oN (.store 1 (.t 6) (.t 19)) 2] [] [0,3,6] [3,6,19]) (.seq (.reg [oD 7 (.alloc [.u]) 0] [] [0,3,6,7] [3,6,7,19]) (.seq (.frz 3 (.frz 6 (.reg [oD 20 (.mkf 111 [(.t 6),(.t 7),(.t 3)]) 0,oN (.store 1 (.t 7) (.t 20)) 1] [] [0,3,7] [3,6,7,19]))) (.seq (.reg [oD 8 (.mv (.k (.sl 12 true []))) 0] [] [0,3,7,8] [3,6,7,19]) (.seq (.seq (.reg [oD 21 (.mv (.t 0)) 0,oD 22 (.len (.t 21)) 1,oD 23 (.mv (.k (.i .i64 0))) 2] [] [3,7,8,21,22,23] [3,6,7,19]) (.block 0 (.loop [3,7,8,21,22,23] [3,6,7,19] b45_1))) (.seq (.reg [oD 62 (.mv (.t 8)) 0,oD 4 (.mv (.t 62)) 1,oD 5 (.mv (.k (.i .i64 0))) 2] [] [4,5] []) .ret))))))))
def rv45 : List RVar := [.t 4, .t 5]
theorem fnr45 : FT Tryz.prog 45 63 ir45 rv45 := fnK Tryz.func45 (by decide +kernel)
def b53_0 : IR := (.seq (.seq (.reg [oD 17 (.mv (.t 8)) 0,oD 18 (.mv (.t 1)) 1,oD 19 (.bin .lss (.t 17) (.t 18)) 2,oD 20 (.mv (.t 19)) 3,oT 21 (.mv (.t 7)) 20 4,oT 22 (.bin .eql (.t 21) (.k (.i .i64 0))) 20 5,oD 23 (.pick (.t 20) (.t 22) (.k (.b false))) 6] [] [0,1,6,7,8,23] []) (.cond (.t 23) .skip (.exit 0))) (.seq (.block 1 (.reg [oD 27 (.mv (.t 6)) 0,oD 28 (.mv (.t 0)) 1,oD 29 (.call 18 [(.t 27),(.t 28)]) 2,oD 26 (.mv (.t 29)) 3,oD 30 (.ext 0 (.t 26)) 4,oD 31 (.ext 1 (.t 26)) 5,oD 6 (.mv (.t 30)) 6,oD 7 (.mv (.t 31)) 7] [] [0,1,6,7,8] [])) (.reg [oD 24 (.mv (.t 8)) 0,oD 25 (.bin .add (.t 24) (.k (.i .i64 1))) 1,oD 8 (.mv (.t 25)) 2] [] [0,1,6,7,8] [])))
theorem wb53_0 : type_of% (@wbEq _ _ b53_0.eq_1) := @wbEq _ _ b53_0.eq_1
def ir53 : IR := (.seq (.reg [oD 4 (.mv (.k (.sl 12 true []))) 0,oD 5 (.mv (.k (.i .i64 0))) 1] [] [0,1] []) (.seq (.seq (.reg [oD 9 (.mv (.t 1)) 0,oD 10 (.bin .lss (.t 9) (.k (.i .i64 0))) 1,oD 11 (.mv (.t 10)) 2,oF 12 (.mv (.t 1)) 11 3,oF 13 (.bin .gtr (.t 12) (.k (.i .i64 64))) 11 4,oD 14 (.pick (.t 11) (.k (.b true)) (.t 13)) 5] [] [0,1,14] []) (.cond (.t 14) (.seq (.reg [oD 4 (.mv (.k (.sl 12 true []))) 0,oD 5 (.mv (.k (.i .i64 1))) 1] [] [4,5] []) .ret) .skip)) (.seq (.reg [oD 15 (.call 85 [(.k (.i .i64 1))]) 0,oD 16 (.call 22 [(.t 15)]) 1,oD 6 (.mv (.t 16)) 2,oD 7 (.mv (.k (.i .i64 0))) 3] [] [0,1,6,7] []) (.seq (.seq (.reg [oD 8 (.mv (.k (.i .i64 0))) 0] [] [0,1,6,7,8] []) (.block 0 (.loop [0,1,6,7,8] [] b53_0))) (.seq (.reg [oD 32 (.mv (.t 6)) 0,oD 33 (.mv (.t 7)) 1,oD 4 (.mv (.t 32)) 2,oD 5 (.mv (.t 33)) 3] [] [4,5] []) .ret)))))
def rv53 : List RVar := [.t 4, .t 5]
theorem fnr53 : FT Tryz.prog 53 34 ir53 rv53 := fnK Tryz.func53 (by decide +kernel)
def b69_0 : IR := (.seq (.reg [oD 7 (.bin .lss (.t 6) (.k (.i .i64 8))) 0] [] [5,6,7] []) (.seq (.cond (.t 7) .skip (.exit 0)) (.seq (.block 1 (.seq (.reg [oD 8 (.ixv 8 1 false (.t 5) (.t 6)) 0,oD 4 (.mv (.t 8)) 1] [] [4,5,6] []) (.seq (.reg [oD 9 (.mv (.t 4)) 0,oD 10 (.bin .lss (.t 9) (.k (.i .i64 0))) 1,oD 11 (.mv (.t 10)) 2,oF 12 (.mv (.t 4)) 11 3,oF 13 (.bin .gtr (.t 12) (.k (.i .i64 65535))) 11 4,oD 14 (.pick (.t 11) (.k (.b true)) (.t 13)) 5] [] [5,6,14] []) (.cond (.t 14) (.seq (.reg [oD 2 (.mv (.k (.b false))) 0] [] [2] []) .ret) .skip)))) (.reg [oD 15 (.bin .add (.t 6) (.k (.i .i64 1))) 0,oD 6 (.mv (.t 15)) 1] [] [5,6] []))))
theorem wb69_0 : type_of% (@wbEq _ _ b69_0.eq_1) := @wbEq _ _ b69_0.eq_1
def ir69 : IR := (.seq (.reg [oD 1 (.box (.t 0)) 0,oD 2 (.mv (.k (.b false))) 1] [] [1] [1]) (.seq (.seq (.reg [oD 5 (.load 8 true (.t 1)) 0,oD 6 (.mv (.k (.i .i64 0))) 1] [] [5,6] []) (.block 0 (.loop [5,6] [] b69_0))) (.seq (.reg [oD 2 (.mv (.k (.b true))) 0] [] [2] []) .ret)))
def rv69 : List RVar := [.t 2]
theorem fnr69 : FT Tryz.prog 69 16 ir69 rv69 := fnK Tryz.func69 (by decide +kernel)
def ir70 : IR := (.seq (.reg [oD 2 (.box (.t 0)) 0,oD 3 (.box (.t 1)) 1,oD 4 (.mv (.k (.i .i64 0))) 2] [] [2,3] [2,3]) (.seq (.frz 3 (.frz 2 (.reg [oD 5 (.sla 8 (.t 2)) 0,oD 6 (.sla 8 (.t 3)) 1,oD 7 (.call 128 [(.t 5),(.t 6)]) 2,oD 4 (.mv (.t 7)) 3] [] [4] []))) .ret))
def rv70 : List RVar := [.t 4]
theorem fnr70 : FT Tryz.prog 70 8 ir70 rv70 := fnK Tryz.func70 (by decide +kernel)
def ir74 : IR := (.seq (.reg [oD 2 (.box (.t 0)) 0,oD 3 (.box (.t 1)) 1,oD 4 (.alloc [.i .i64 0,.i .i64 0,.i .i64 0,.i .i64 0,.i .i64 0,.i .i64 0,.i .i64 0,.i .i64 0]) 2,oD 5 (.mv (.k (.i .i64 0))) 3] [] [2,3,4] [2,3,4]) (.seq (.reg [oD 7 (.load 8 true (.t 2)) 0,oD 8 (.load 8 true (.t 3)) 1,oD 9 (.call 129 [(.t 7),(.t 8),(.k (.f 130 [] []))]) 2,oD 6 (.alloc [.i .i64 0,.i .i64 0,.i .i64 0,.i .i64 0,.i .i64 0,.i .i64 0,.i .i64 0,.i .i64 0]) 3,oN (.store 8 (.t 6) (.t 9)) 4] [] [4,6] [4,6]) (.seq (.seq (.reg [oD 10 (.load 8 true (.t 6)) 0,oD 11 (.call 69 [(.t 10)]) 1,oD 12 (.un .not (.t 11)) 2] [] [4,6,12] [4,6]) (.cond (.t 12) (.seq (.reg [oD 13 (.build [.i .i64 0,.i .i64 0,.i .i64 0,.i .i64 0,.i .i64 0,.i .i64 0,.i .i64 0,.i .i64 0] []) 0,oN (.store 8 (.t 4) (.t 13)) 1,oD 5 (.mv (.k (.i .i64 2))) 2] [] [4,5] [4]) .ret) .skip)) (.seq (.reg [oD 14 (.load 8 true (.t 6)) 0,oN (.store 8 (.t 4) (.t 14)) 1,oD 5 (.mv (.k (.i .i64 0))) 2] [] [4,5] [4]) .ret))))
def rv74 : List RVar := [.c 4 8 true, .t 5]
theorem fnr74 : FT Tryz.prog 74 15 ir74 rv74 := fnK Tryz.func74 (by decide +kernel)
def ir75 : IR := (.seq (.reg [oD 4 (.box (.t 1)) 0,oD 5 (.box (.t 2)) 1] [] [0,4,5] [4,5]) (.seq (.seq (.reg [oD 9 (.mv (.t 0)) 0,oD 10 (.load 8 true (.t 5)) 1,oD 11 (.mapget 8 [.b false,.sl 1 true [],.b false,.sl 1 true []] true true (.t 9) (.t 10)) 2,oD 8 (.mv (.t 11)) 3,oD 12 (.ext 0 (.t 8)) 4,oD 13 (.ext 1 (.t 8)) 5,oD 6 (.alloc [.b false,.sl 1 true [],.b false,.sl 1 true []]) 6,oN (.store 4 (.t 6) (.t 12)) 7,oD 7 (.mv (.t 13)) 8] [] [0,4,5,6,7] [4,5,6]) (.seq (.reg [oD 14 (.mv (.t 7)) 0] [] [0,4,5,6,14] [4,5,6]) (.cond (.t 14) (.reg [oD 15 (.load 4 true (.t 6)) 0,oD 16 (.load 4 true (.t 4)) 1,oD 17 (.call 80 [(.t 15),(.t 16)]) 2,oN (.store 4 (.t 4) (.t 17)) 3] [] [0,4,5] [4,5]) .skip))) (.reg [oD 18 (.mv (.t 0)) 0,oD 19 (.load 8 true (.t 5)) 1,oD 20 (.load 4 true (.t 4)) 2,oN (.mapset 8 (.t 18) (.t 19) (.t 20)) 3] [] [] [])))
def rv75 : List RVar := []
theorem fnr75 : FT Tryz.prog 75 21 ir75 rv75 := fnK Tryz.func75 (by decide +kernel)
def b77_0 : IR := (.seq (.nxt 9 8 [oD 10 (.ext 0 (.t 9)) 1] [3,8,10] [8,22]) (.seq (.cond (.t 10) .skip (.exit 0)) (.block 1 (.seq (.reg [oD 11 (.entry (.t 8)) 0,oD 12 (.ext 0 (.t 11)) 1,oD 13 (.ext 1 (.t 11)) 2,oD 4 (.alloc [.i .i64 0,.i .i64 0,.i .i64 0,.i .i64 0,.i .i64 0,.i .i64 0,.i .i64 0,.i .i64 0]) 3,oD 5 (.alloc [.b false,.sl 1 true [],.b false,.sl 1 true []]) 4,oN (.store 8 (.t 4) (.t 12)) 5,oN (.store 4 (.t 5) (.t 13)) 6] [] [3,4,5,8] [4,5,8,22]) (.seq (.reg [oD 14 (.load 4 true (.t 5)) 0,oD 15 (.call 68 [(.t 14)]) 1,oD 16 (.bin .neq (.t 15) (.k (.i .i64 0))) 2] [] [3,4,5,8,16] [4,5,8,22]) (.cond (.t 16) (.reg [oD 17 (.mv (.t 3)) 0,oD 18 (.load 4 true (.t 5)) 1,oD 19 (.load 8 true (.t 4)) 2,oD 20 (.build [.b false,.sl 1 true [],.b false,.sl 1 true [],.i .i64 0,.i .i64 0,.i .i64 0,.i .i64 0,.i .i64 0,.i .i64 0,.i .i64 0,.i .i64 0] [(0,4,(.t 18)),(4,8,(.t 19))]) 3,oD 21 (.bsl 12 [(.t 20)]) 4,oD 22 (.app 12 128 (.t 17) (.t 21)) 5,oD 3 (.mv (.t 22)) 6] [] [3,8] [8,22]) .skip))))))
theorem wb77_0 : type_of% (@wbEq _ _ b77_0.eq_1) := @wbEq _ _ b77_0.eq_1
def ir77 : IR := (.seq (.reg [oD 2 (.mv (.k (.sl 12 true []))) 0] [] [0] []) (.seq (.reg [oD 6 (.bsl 12 []) 0,oD 3 (.mv (.t 6)) 1] [] [0,3] [22]) (.seq (.seq (.reg [oD 7 (.mv (.t 0)) 0,oD 8 (.range (.t 7)) 1] [] [3,8] [8,22]) (.block 0 (.loop [3,8] [8,22] b77_0))) (.seq (.reg [oD 23 (.mv (.t 3)) 0,oD 24 (.callR 133 [(.t 23),(.k (.f 134 [] []))]) 1] [] [3] [22]) (.seq (.reg [oD 25 (.mv (.t 3)) 0,oD 2 (.mv (.t 25)) 1] [] [2] [22]) (.frz 2 .ret))))))
def rv77 : List RVar := [.t 2]
theorem fnr77 : FT Tryz.prog 77 26 ir77 rv77 := fnK Tryz.func77 (by decide +kernel)
def b79_0 : IR := (.seq (.seq (.reg [oD 20 (.mv (.t 0)) 0,oD 21 (.len (.t 20)) 1,oD 22 (.bin .gtr (.t 21) (.k (.i .i64 0))) 2,oD 23 (.mv (.t 22)) 3,oT 24 (.mv (.t 1)) 23 4,oT 25 (.len (.t 24)) 23 5,oT 26 (.bin .gtr (.t 25) (.k (.i .i64 0))) 23 6,oD 27 (.pick (.t 23) (.t 26) (.k (.b false))) 7] [] [0,1,2,3,9,27] [19,58,71,90,95,111]) (.cond (.t 27) .skip (.exit 0))) (.block 1 (.seq (.reg [oD 28 (.mv (.t 0)) 0,oD 29 (.ixs 12 (.t 28) (.k (.i .i64 0))) 1,oD 30 (.fld 4 (.t 29)) 2,oD 31 (.load 8 true (.t 30)) 3,oD 32 (.mv (.t 1)) 4,oD 33 (.ixs 12 (.t 32) (.k (.i .i64 0))) 5,oD 34 (.fld 4 (.t 33)) 6,oD 35 (.load 8 true (.t 34)) 7,oD 36 (.call 70 [(.t 31),(.t 35)]) 8,oD 10 (.mv (.t 36)) 9] [] [0,1,2,3,9,10] [19,58,71,90,95,111]) (.block 2 (.seq (.reg [oD 64 (.mv (.t 10)) 0,oD 65 (.bin .gtr (.t 64) (.k (.i .i64 0))) 1,oD 63 (.mv (.t 65)) 2] [] [0,1,2,3,9,10,63] [19,58,71,90,95,111]) (.cond (.t 63) (.reg [oD 66 (.mv (.t 9)) 0,oD 67 (.mv (.t 0)) 1,oD 68 (.ixs 12 (.t 67) (.k (.i .i64 0))) 2,oD 69 (.load 12 true (.t 68)) 3,oD 70 (.bsl 12 [(.t 69)]) 4,oD 71 (.app 12 128 (.t 66) (.t 70)) 5,oD 72 (.mv (.t 0)) 6,oD 73 (.slc 12 (.t 72) (some (.k (.i .i64 1))) none none) 7,oD 9 (.mv (.t 71)) 8,oD 0 (.mv (.t 73)) 9] [] [0,1,2,3,9] [19,58,71,90,95,111]) (.seq (.reg [oD 75 (.mv (.t 10)) 0,oD 76 (.bin .lss (.t 75) (.k (.i .i64 0))) 1,oD 74 (.mv (.t 76)) 2] [] [0,1,2,3,9,74] [19,58,71,90,95,111]) (.cond (.t 74) (.reg [oD 77 (.mv (.t 9)) 0,oD 78 (.mv (.t 3)) 1,oD 79 (.mv (.t 1)) 2,oD 80 (.ixs 12 (.t 79) (.k (.i .i64 0))) 3,oD 81 (.fld 0 (.t 80)) 4,oD 82 (.load 4 true (.t 81)) 5,oD 83 (.callv (.t 78) [(.t 82)]) 6,oD 84 (.mv (.t 1)) 7,oD 85 (.ixs 12 (.t 84) (.k (.i .i64 0))) 8,oD 86 (.fld 4 (.t 85)) 9,oD 87 (.load 8 true (.t 86)) 10,oD 88 (.build [.b false,.sl 1 true [],.b false,.sl 1 true [],.i .i64 0,.i .i64 0,.i .i64 0,.i .i64 0,.i .i64 0,.i .i64 0,.i .i64 0,.i .i64 0] [(0,4,(.t 83)),(4,8,(.t 87))]) 11,oD 89 (.bsl 12 [(.t 88)]) 12,oD 90 (.app 12 128 (.t 77) (.t 89)) 13,oD 91 (.mv (.t 1)) 14,oD 92 (.slc 12 (.t 91) (some (.k (.i .i64 1))) none none) 15,oD 9 (.mv (.t 90)) 16,oD 1 (.mv (.t 92)) 17] [] [0,1,2,3,9] [19,58,71,90,95,111]) (.seq (.seq (.reg [oD 37 (.mv (.t 2)) 0,oD 38 (.mv (.t 0)) 1,oD 39 (.ixs 12 (.t 38) (.k (.i .i64 0))) 2,oD 40 (.fld 0 (.t 39)) 3,oD 41 (.load 4 true (.t 40)) 4,oD 42 (.mv (.t 1)) 5,oD 43 (.ixs 12 (.t 42) (.k (.i .i64 0))) 6,oD 44 (.fld 0 (.t 43)) 7,oD 45 (.load 4 true (.t 44)) 8,oD 46 (.callv (.t 37) [(.t 41),(.t 45)]) 9,oD 11 (.alloc [.b false,.sl 1 true [],.b false,.sl 1 true []]) 10,oN (.store 4 (.t 11) (.t 46)) 11] [] [0,1,2,3,9,11] [11,19,58,71,90,95,111]) (.seq (.reg [oD 47 (.load 4 true (.t 11)) 0,oD 48 (.call 68 [(.t 47)]) 1,oD 49 (.bin .neq (.t 48) (.k (.i .i64 0))) 2] [] [0,1,2,3,9,11,49] [11,19,58,71,90,95,111]) (.cond (.t 49) (.reg [oD 50 (.mv (.t 9)) 0,oD 51 (.load 4 true (.t 11)) 1,oD 52 (.mv (.t 0)) 2,oD 53 (.ixs 12 (.t 52) (.k (.i .i64 0))) 3,oD 54 (.fld 4 (.t 53)) 4,oD 55 (.load 8 true (.t 54)) 5,oD 56 (.build [.b false,.sl 1 true [],.b false,.sl 1 true [],.i .i64 0,.i .i64 0,.i .i64 0,.i .i64 0,.i .i64 0,.i .i64 0,.i .i64 0,.i .i64 0] [(0,4,(.t 51)),(4,8,(.t 55))]) 6,oD 57 (.bsl 12 [(.t 56)]) 7,oD 58 (.app 12 128 (.t 50) (.t 57)) 8,oD 9 (.mv (.t 58)) 9] [] [0,1,2,3,9] [19,58,71,90,95,111]) .skip))) (.reg [oD 59 (.mv (.t 0)) 0,oD 60 (.slc 12 (.t 59) (some (.k (.i .i64 1))) none none) 1,oD 61 (.mv (.t 1)) 2,oD 62 (.slc 12 (.t 61) (some (.k (.i .i64 1))) none none) 3,oD 0 (.mv (.t 60)) 4,oD 1 (.mv (.t 62)) 5] [] [0,1,2,3,9] [19,58,71,90,95,111]))))))))))
theorem wb79_0 : type_of% (@wbEq _ _ b79_0.eq_1) := @wbEq _ _ b79_0.eq_1
def b79_1 : IR := (.seq (.reg [oD 99 (.bin .lss (.t 98) (.t 97)) 0] [] [3,9,96,97,98,99] [19,58,71,90,95,111]) (.seq (.cond (.t 99) .skip (.exit 3)) (.seq (.block 4 (.seq (.reg [oD 100 (.ixs 12 (.t 96) (.t 98)) 0,oD 101 (.load 12 true (.t 100)) 1,oD 13 (.alloc [.b false,.sl 1 true [],.b false,.sl 1 true [],.i .i64 0,.i .i64 0,.i .i64 0,.i .i64 0,.i .i64 0,.i .i64 0,.i .i64 0,.i .i64 0]) 2,oN (.store 12 (.t 13) (.t 101)) 3] [] [3,9,13,96,97,98] [13,19,58,71,90,95,111]) (.reg [oD 102 (.mv (.t 9)) 0,oD 103 (.mv (.t 3)) 1,oD 104 (.fld 0 (.t 13)) 2,oD 105 (.load 4 true (.t 104)) 3,oD 106 (.callv (.t 103) [(.t 105)]) 4,oD 107 (.fld 4 (.t 13)) 5,oD 108 (.load 8 true (.t 107)) 6,oD 109 (.build [.b false,.sl 1 true [],.b false,.sl 1 true [],.i .i64 0,.i .i64 0,.i .i64 0,.i .i64 0,.i .i64 0,.i .i64 0,.i .i64 0,.i .i64 0] [(0,4,(.t 106)),(4,8,(.t 108))]) 7,oD 110 (.bsl 12 [(.t 109)]) 8,oD 111 (.app 12 128 (.t 102) (.t 110)) 9,oD 9 (.mv (.t 111)) 10] [] [3,9,96,97,98] [19,58,71,90,95,111]))) (.reg [oD 112 (.bin .add (.t 98) (.k (.i .i64 1))) 0,oD 98 (.mv (.t 112)) 1] [] [3,9,96,97,98] [19,58,71,90,95,111]))))
theorem wb79_1 : type_of% (@wbEq _ _ b79_1.eq_1) := @wbEq _ _ b79_1.eq_1
def ir79 : IR := (.seq (.reg [oD 8 (.mv (.k (.sl 12 true []))) 0] [] [0,1,2,3] []) (.seq (.reg [oD 14 (.mv (.t 0)) 0,oD 15 (.len (.t 14)) 1,oD 16 (.mv (.t 1)) 2,oD 17 (.len (.t 16)) 3,oD 18 (.bin .add (.t 15) (.t 17)) 4,oD 19 (.mk 12 128 [.b false,.sl 1 true [],.b false,.sl 1 true [],.i .i64 0,.i .i64 0,.i .i64 0,.i .i64 0,.i .i64 0,.i .i64 0,.i .i64 0,.i .i64 0] (.k (.i .i64 0)) (.t 18)) 5,oD 9 (.mv (.t 19)) 6] [] [0,1,2,3,9] [19,58,71,90,95,111]) (.seq (.block 0 (.loop [0,1,2,3,9] [19,58,71,90,95,111] b79_0)) (.seq (.reg [oD 93 (.mv (.t 9)) 0,oD 94 (.mv (.t 0)) 1,oD 95 (.app 12 128 (.t 93) (.t 94)) 2,oD 9 (.mv (.t 95)) 3] [] [1,3,9] [19,58,71,90,95,111]) (.seq (.seq (.reg [oD 96 (.mv (.t 1)) 0,oD 97 (.len (.t 96)) 1,oD 98 (.mv (.k (.i .i64 0))) 2] [] [3,9,96,97,98] [19,58,71,90,95,111]) (.block 3 (.loop [3,9,96,97,98] [19,58,71,90,95,111] b79_1))) (.seq (.reg [oD 113 (.mv (.t 9)) 0,oD 8 (.mv (.t 113)) 1] [] [8] [19,58,71,90,95,111]) (.frz 8 .ret)))))))
def rv79 : List RVar := [.t 8]
theorem fnr79 : FT Tryz.prog 79 114 ir79 rv79 := fnK Tryz.func79 (by decide +kernel)
def ir81 : IR := (.seq (.reg [oD 1 (.box (.t 0)) 0,oD 2 (.alloc [.b false,.sl 1 true [],.b false,.sl 1 true []]) 1] [] [1,2] [1,2]) (.seq (.reg [oD 3 (.load 4 true (.t 1)) 0,oN (.store 4 (.t 2) (.t 3)) 1] [] [2] [2]) .ret))
def rv81 : List RVar := [.c 2 4 true]
theorem fnr81 : FT Tryz.prog 81 4 ir81 rv81 := fnK Tryz.func81 (by decide +kernel)
def b105_0 : IR := (.seq (.seq (.reg [oD 14 (.mv (.t 6)) 0,oD 15 (.mv (.t 0)) 1,oD 16 (.len (.t 15)) 2,oD 17 (.bin .lss (.t 14) (.t 16)) 3] [] [0,1,4,5,6,17] [4,5]) (.cond (.t 17) .skip (.exit 0))) (.seq (.block 1 (.seq (.reg [oD 20 (.mv (.t 1)) 0,oD 21 (.mv (.t 0)) 1,oD 22 (.mv (.t 6)) 2,oD 23 (.ixs 12 (.t 21) (.t 22)) 3,oD 24 (.load 12 true (.t 23)) 4,oD 25 (.load 12 true (.t 5)) 5,oD 26 (.callv (.t 20) [(.t 24),(.t 25)]) 6,oD 27 (.bin .gtr (.t 26) (.k (.i .i64 0))) 7] [] [0,1,4,5,6,27] [4,5]) (.cond (.t 27) (.reg [oD 28 (.mv (.t 0)) 0,oD 29 (.mv (.t 6)) 1,oD 30 (.ixs 12 (.t 28) (.t 29)) 2,oD 31 (.load 12 true (.t 30)) 3,oN (.store 12 (.t 5) (.t 31)) 4] [] [0,1,4,5,6] [4,5]) .skip))) (.reg [oD 18 (.mv (.t 6)) 0,oD 19 (.bin .add (.t 18) (.k (.i .i64 1))) 1,oD 6 (.mv (.t 19)) 2] [] [0,1,4,5,6] [4,5])))
theorem wb105_0 : type_of% (@wbEq _ _ b105_0.eq_1) := @wbEq _ _ b105_0.eq_1
def ir105 : IR := (.seq (.reg [oD 4 (.alloc [.b false,.sl 1 true [],.b false,.sl 1 true [],.i .i64 0,.i .i64 0,.i .i64 0,.i .i64 0,.i .i64 0,.i .i64 0,.i .i64 0,.i .i64 0]) 0] [] [0,1,4] [4]) (.seq (.seq (.reg [oD 7 (.mv (.t 0)) 0,oD 8 (.len (.t 7)) 1,oD 9 (.bin .lss (.t 8) (.k (.i .i64 1))) 2] [] [0,1,4,9] [4]) (.cond (.t 9) (.reg [oD 10 .bad 0,oN .bad 1] [] [0,1,4] [4]) .skip)) (.seq (.reg [oD 11 (.mv (.t 0)) 0,oD 12 (.ixs 12 (.t 11) (.k (.i .i64 0))) 1,oD 13 (.load 12 true (.t 12)) 2,oD 5 (.alloc [.b false,.sl 1 true [],.b false,.sl 1 true [],.i .i64 0,.i .i64 0,.i .i64 0,.i .i64 0,.i .i64 0,.i .i64 0,.i .i64 0,.i .i64 0]) 3,oN (.store 12 (.t 5) (.t 13)) 4] [] [0,1,4,5] [4,5]) (.seq (.seq (.reg [oD 6 (.mv (.k (.i .i64 1))) 0] [] [0,1,4,5,6] [4,5]) (.block 0 (.loop [0,1,4,5,6] [4,5] b105_0))) (.seq (.reg [oD 32 (.load 12 true (.t 5)) 0,oN (.store 12 (.t 4) (.t 32)) 1] [] [4] [4]) .ret)))))
def rv105 : List RVar := [.c 4 12 true]
theorem fnr105 : FT Tryz.prog 105 33 ir105 rv105 := fnK Tryz.func105 (by decide +kernel)
def ir106 : IR := (.seq (.reg [oD 3 (.box (.t 0)) 0,oD 4 (.box (.t 1)) 1,oD 5 (.mv (.k (.i .i64 0))) 2] [] [2,3,4] [3,4]) (.seq (.reg [oD 6 (.load 1 false (.t 2)) 0,oD 7 (.fld 4 (.t 3)) 1,oD 8 (.load 8 true (.t 7)) 2,oD 9 (.fld 4 (.t 4)) 3,oD 10 (.load 8 true (.t 9)) 4,oD 11 (.call 107 [(.t 6),(.t 8),(.t 10)]) 5,oD 5 (.mv (.t 11)) 6] [] [5] []) .ret))
def rv106 : List RVar := [.t 5]
theorem fnr106 : FT Tryz.prog 106 12 ir106 rv106 := fnK Tryz.func106 (by decide +kernel)
def b107_0 : IR := (.seq (.reg [oD 23 (.bin .lss (.t 22) (.k (.i .i64 8))) 0] [] [4,5,9,15,16,17,21,22,23] [4,5]) (.seq (.cond (.t 23) .skip (.exit 2)) (.seq (.block 3 (.seq (.reg [oD 24 (.mv (.t 22)) 0,oD 25 (.ixv 8 1 false (.t 21) (.t 22)) 1,oD 10 (.mv (.t 24)) 2,oD 11 (.mv (.t 25)) 3] [] [4,5,9,10,11,15,16,17,21,22] [4,5]) (.reg [oD 26 (.mv (.t 9)) 0,oD 27 (.mv (.t 11)) 1,oD 28 (.mv (.t 10)) 2,oD 29 (.ixa 8 1 (.t 4) (.t 28)) 3,oD 30 (.load 1 false (.t 29)) 4,oD 31 (.mv (.t 10)) 5,oD 32 (.ixa 8 1 (.t 5) (.t 31)) 6,oD 33 (.load 1 false (.t 32)) 7,oD 34 (.bin .sub (.t 30) (.t 33)) 8,oD 35 (.bin .mul (.t 27) (.t 34)) 9,oD 36 (.bin .add (.t 26) (.t 35)) 10,oD 9 (.mv (.t 36)) 11] [] [4,5,9,15,16,17,21,22] [4,5]))) (.reg [oD 37 (.bin .add (.t 22) (.k (.i .i64 1))) 0,oD 22 (.mv (.t 37)) 1] [] [4,5,9,15,16,17,21,22] [4,5]))))
theorem wb107_0 : type_of% (@wbEq _ _ b107_0.eq_1) := @wbEq _ _ b107_0.eq_1
def b107_1 : IR := (.seq (.reg [oD 18 (.bin .lss (.t 17) (.t 16)) 0] [] [4,5,15,16,17,18] [4,5]) (.seq (.cond (.t 18) .skip (.exit 0)) (.seq (.block 1 (.seq (.reg [oD 19 (.ixs 8 (.t 15) (.t 17)) 0,oD 20 (.load 8 true (.t 19)) 1,oD 8 (.alloc [.i .i64 0,.i .i64 0,.i .i64 0,.i .i64 0,.i .i64 0,.i .i64 0,.i .i64 0,.i .i64 0]) 2,oN (.store 8 (.t 8) (.t 20)) 3] [] [4,5,8,15,16,17] [4,5,8]) (.seq (.reg [oD 9 (.mv (.k (.i .i64 0))) 0] [] [4,5,8,9,15,16,17] [4,5,8]) (.seq (.seq (.reg [oD 21 (.load 8 true (.t 8)) 0,oD 22 (.mv (.k (.i .i64 0))) 1] [] [4,5,9,15,16,17,21,22] [4,5]) (.block 2 (.loop [4,5,9,15,16,17,21,22] [4,5] b107_0))) (.block 4 (.seq (.reg [oD 39 (.mv (.t 9)) 0,oD 40 (.bin .lss (.t 39) (.k (.i .i64 0))) 1,oD 38 (.mv (.t 40)) 2] [] [4,5,9,15,16,17,38] [4,5]) (.cond (.t 38) (.seq (.reg [oD 6 (.mv (.k (.i .i64 (-1)))) 0] [] [6] []) .ret) (.seq (.reg [oD 42 (.mv (.t 9)) 0,oD 43 (.bin .gtr (.t 42) (.k (.i .i64 0))) 1,oD 41 (.mv (.t 43)) 2] [] [4,5,15,16,17,41] [4,5]) (.cond (.t 41) (.seq (.reg [oD 6 (.mv (.k (.i .i64 1))) 0] [] [6] []) .ret) .skip))))))))) (.reg [oD 44 (.bin .add (.t 17) (.k (.i .i64 1))) 0,oD 17 (.mv (.t 44)) 1] [] [4,5,15,16,17] [4,5]))))
theorem wb107_1 : type_of% (@wbEq _ _ b107_1.eq_1) := @wbEq _ _ b107_1.eq_1
def ir107 : IR := (.seq (.reg [oD 4 (.box (.t 1)) 0,oD 5 (.box (.t 2)) 1,oD 6 (.mv (.k (.i .i64 0))) 2] [] [0,4,5] [4,5]) (.seq (.seq (.reg [oD 12 (.load 8 true (.t 4)) 0,oD 13 (.load 8 true (.t 5)) 1,oD 14 (.eqa false 8 (.t 12) (.t 13)) 2] [] [0,4,5,14] [4,5]) (.cond (.t 14) (.seq (.reg [oD 6 (.mv (.k (.i .i64 0))) 0] [] [6] []) .ret) .skip)) (.seq (.seq (.reg [oD 15 (.mv (.t 0)) 0,oD 16 (.len (.t 15)) 1,oD 17 (.mv (.k (.i .i64 0))) 2] [] [4,5,15,16,17] [4,5]) (.block 0 (.loop [4,5,15,16,17] [4,5] b107_1))) (.seq (.reg [oD 45 (.load 8 true (.t 4)) 0,oD 46 (.load 8 true (.t 5)) 1,oD 47 (.call 70 [(.t 45),(.t 46)]) 2,oD 6 (.mv (.t 47)) 3] [] [6] []) .ret))))
def rv107 : List RVar := [.t 6]
theorem fnr107 : FT Tryz.prog 107 48 ir107 rv107 := fnK Tryz.func107 (by decide +kernel)
def b108_0 : IR := (.seq (.reg [oD 8 (.bin .lss (.t 7) (.k (.i .i64 8))) 0] [] [3,6,7,8] []) (.seq (.cond (.t 8) .skip (.exit 0)) (.seq (.block 1 (.seq (.reg [oD 9 (.ixv 8 1 false (.t 6) (.t 7)) 0,oD 5 (.mv (.t 9)) 1] [] [3,5,6,7] []) (.reg [oD 10 (.mv (.t 3)) 0,oD 11 (.mv (.t 5)) 1,oD 12 (.bin .add (.t 10) (.t 11)) 2,oD 3 (.mv (.t 12)) 3] [] [3,6,7] []))) (.reg [oD 13 (.bin .add (.t 7) (.k (.i .i64 1))) 0,oD 7 (.mv (.t 13)) 1] [] [3,6,7] []))))
theorem wb108_0 : type_of% (@wbEq _ _ b108_0.eq_1) := @wbEq _ _ b108_0.eq_1
def ir108 : IR := (.seq (.reg [oD 1 (.box (.t 0)) 0,oD 2 (.mv (.k (.i .i64 0))) 1] [] [1] [1]) (.seq (.reg [oD 3 (.mv (.k (.i .i64 0))) 0] [] [1,3] [1]) (.seq (.seq (.reg [oD 6 (.load 8 true (.t 1)) 0,oD 7 (.mv (.k (.i .i64 0))) 1] [] [3,6,7] []) (.block 0 (.loop [3,6,7] [] b108_0))) (.seq (.reg [oD 14 (.mv (.t 3)) 0,oD 2 (.mv (.t 14)) 1] [] [2] []) .ret))))
def rv108 : List RVar := [.t 2]
theorem fnr108 : FT Tryz.prog 108 15 ir108 rv108 := fnK Tryz.func108 (by decide +kernel)
def ir111 : IR := (.seq (.reg [oD 7 (.mv (.k (.sl 12 true []))) 0,oD 8 (.mv (.k (.i .i64 0))) 1] [] [0,1,2,3,4] []) (.seq (.seq (.reg [oD 13 (.mv (.t 1)) 0,oD 14 (.bin .eql (.t 13) (.k (.i .i64 0))) 1] [] [0,1,2,3,4,14] []) (.cond (.t 14) (.seq (.reg [oD 15 (.call 85 [(.k (.i .i64 1))]) 0,oD 16 (.call 22 [(.t 15)]) 1,oD 7 (.mv (.t 16)) 2,oD 8 (.mv (.k (.i .i64 0))) 3] [] [7,8] []) .ret) .skip)) (.seq (.seq (.reg [oD 18 (.load 1 false (.t 2)) 0,oD 19 (.mv (.t 0)) 1,oD 20 (.mv (.t 1)) 2,oD 21 (.build [.i .i64 0,.i .i64 0] [(0,1,(.t 19)),(1,1,(.t 20))]) 3,oD 22 (.mapget 2 [.sl 12 true []] false true (.t 18) (.t 21)) 4,oD 17 (.mv (.t 22)) 5,oD 23 (.ext 0 (.t 17)) 6,oD 24 (.ext 1 (.t 17)) 7,oD 9 (.mv (.t 23)) 8,oD 10 (.mv (.t 24)) 9] [] [0,1,2,3,4,9,10] []) (.seq (.reg [oD 25 (.mv (.t 10)) 0] [] [0,1,2,3,4,9,25] []) (.cond (.t 25) (.seq (.reg [oD 26 (.mv (.t 9)) 0,oD 7 (.mv (.t 26)) 1,oD 8 (.mv (.k (.i .i64 0))) 2] [] [7,8] []) .ret) .skip))) (.seq (.reg [oD 28 (.load 1 false (.t 3)) 0,oD 29 (.mv (.t 0)) 1,oD 30 (.mv (.t 1)) 2,oD 31 (.bin .sub (.t 30) (.k (.i .i64 1))) 3,oD 32 (.callvR (.t 28) [(.t 29),(.t 31)]) 4,oD 27 (.mv (.t 32)) 5,oD 33 (.ext 0 (.t 27)) 6,oD 34 (.ext 1 (.t 27)) 7,oD 11 (.mv (.t 33)) 8,oD 12 (.mv (.t 34)) 9] [] [0,1,2,4,11,12] []) (.seq (.seq (.reg [oD 35 (.mv (.t 12)) 0,oD 36 (.bin .eql (.t 35) (.k (.i .i64 0))) 1] [] [0,1,2,4,11,12,36] []) (.cond (.t 36) (.reg [oD 38 (.mv (.t 11)) 0,oD 39 (.mv (.t 0)) 1,oD 40 (.ixa 8 1 (.t 4) (.t 39)) 2,oD 41 (.load 1 false (.t 40)) 3,oD 42 (.call 18 [(.t 38),(.t 41)]) 4,oD 37 (.mv (.t 42)) 5,oD 43 (.ext 0 (.t 37)) 6,oD 44 (.ext 1 (.t 37)) 7,oD 11 (.mv (.t 43)) 8,oD 12 (.mv (.t 44)) 9] [] [0,1,2,11,12] []) .skip)) (.seq (.seq (.reg [oD 45 (.mv (.t 12)) 0,oD 46 (.bin .eql (.t 45) (.k (.i .i64 0))) 1] [] [0,1,2,11,12,46] []) (.cond (.t 46) (.reg [oD 47 (.load 1 false (.t 2)) 0,oD 48 (.mv (.t 0)) 1,oD 49 (.mv (.t 1)) 2,oD 50 (.build [.i .i64 0,.i .i64 0] [(0,1,(.t 48)),(1,1,(.t 49))]) 3,oD 51 (.mv (.t 11)) 4,oN (.mapset 2 (.t 47) (.t 50) (.t 51)) 5] [] [11,12] []) .skip)) (.seq (.reg [oD 52 (.mv (.t 11)) 0,oD 53 (.mv (.t 12)) 1,oD 7 (.mv (.t 52)) 2,oD 8 (.mv (.t 53)) 3] [] [7,8] []) .ret)))))))
def rv111 : List RVar := [.t 7, .t 8]
theorem fnr111 : FT Tryz.prog 111 54 ir111 rv111 := fnK Tryz.func111 (by decide +kernel)
def ir112 : IR := (.seq (.reg [oD 4 (.mv (.k (.b false))) 0] [] [0,1] []) (.seq (.reg [oD 5 (.mv (.t 0)) 0,oD 6 (.mv (.t 1)) 1,oD 7 (.call 152 [(.t 5),(.t 6)]) 2,oD 8 (.bin .geq (.t 7) (.k (.i .i64 0))) 3,oD 4 (.mv (.t 8)) 4] [] [4] []) .ret))
def rv112 : List RVar := [.t 4]
theorem fnr112 : FT Tryz.prog 112 9 ir112 rv112 := fnK Tryz.func112 (by decide +kernel)
def ir113 : IR := (.seq (.reg [oD 4 (.mv (.k (.b false))) 0] [] [0,1,2] []) (.seq (.reg [oD 5 (.mv (.t 0)) 0,oD 6 (.fld 4 (.t 1)) 1,oD 7 (.ixa 8 1 (.t 6) (.t 5)) 2,oD 8 (.load 1 false (.t 7)) 3,oD 9 (.bin .gtr (.t 8) (.k (.i .i64 0))) 4,oD 10 (.mv (.t 9)) 5,oT 11 (.mv (.t 0)) 10 6,oT 12 (.ixa 8 1 (.t 2) (.t 11)) 10 7,oT 13 (.load 1 false (.t 12)) 10 8,oT 14 (.len (.t 13)) 10 9,oT 15 (.bin .eql (.t 14) (.k (.i .i64 0))) 10 10,oD 16 (.pick (.t 10) (.t 15) (.k (.b false))) 11,oD 4 (.mv (.t 16)) 12] [] [4] []) .ret))
def rv113 : List RVar := [.t 4]
theorem fnr113 : FT Tryz.prog 113 17 ir113 rv113 := fnK Tryz.func113 (by decide +kernel)
def b128_0 : IR := (.seq (.reg [oD 12 (.bin .lss (.t 11) (.t 10)) 0] [] [0,1,9,10,11,12] []) (.seq (.cond (.t 12) .skip (.exit 0)) (.seq (.block 1 (.seq (.reg [oD 13 (.mv (.t 11)) 0,oD 14 (.ixs 1 (.t 9) (.t 11)) 1,oD 15 (.load 1 false (.t 14)) 2,oD 5 (.mv (.t 13)) 3,oD 6 (.mv (.t 15)) 4] [] [0,1,5,6,9,10,11] []) (.seq (.seq (.reg [oD 16 (.mv (.t 5)) 0,oD 17 (.mv (.t 1)) 1,oD 18 (.len (.t 17)) 2,oD 19 (.bin .geq (.t 16) (.t 18)) 3] [] [0,1,5,6,9,10,11,19] []) (.cond (.t 19) (.seq (.reg [oD 4 (.mv (.k (.i .i64 1))) 0] [] [4] []) .ret) .skip)) (.seq (.reg [oD 20 (.mv (.t 1)) 0,oD 21 (.mv (.t 5)) 1,oD 22 (.ixs 1 (.t 20) (.t 21)) 2,oD 23 (.load 1 false (.t 22)) 3,oD 7 (.mv (.t 23)) 4] [] [0,1,6,7,9,10,11] []) (.seq (.reg [oD 24 (.mv (.t 6)) 0,oD 25 (.mv (.t 7)) 1,oD 26 (.call 154 [(.t 24),(.t 25)]) 2,oD 8 (.mv (.t 26)) 3] [] [0,1,8,9,10,11] []) (.seq (.reg [oD 27 (.mv (.t 8)) 0,oD 28 (.bin .neq (.t 27) (.k (.i .i64 0))) 1] [] [0,1,8,9,10,11,28] []) (.cond (.t 28) (.seq (.reg [oD 29 (.mv (.t 8)) 0,oD 4 (.mv (.t 29)) 1] [] [4] []) .ret) .skip))))))) (.reg [oD 30 (.bin .add (.t 11) (.k (.i .i64 1))) 0,oD 11 (.mv (.t 30)) 1] [] [0,1,9,10,11] []))))
theorem wb128_0 : type_of% (@wbEq _ _ b128_0.eq_1) := @wbEq _ _ b128_0.eq_1
def ir128 : IR := (.seq (.reg [oD 4 (.mv (.k (.i .i64 0))) 0] [] [0,1] []) (.seq (.seq (.reg [oD 9 (.mv (.t 0)) 0,oD 10 (.len (.t 9)) 1,oD 11 (.mv (.k (.i .i64 0))) 2] [] [0,1,9,10,11] []) (.block 0 (.loop [0,1,9,10,11] [] b128_0))) (.seq (.seq (.reg [oD 31 (.mv (.t 0)) 0,oD 32 (.len (.t 31)) 1,oD 33 (.mv (.t 1)) 2,oD 34 (.len (.t 33)) 3,oD 35 (.bin .lss (.t 32) (.t 34)) 4] [] [35] []) (.cond (.t 35) (.seq (.reg [oD 4 (.mv (.k (.i .i64 (-1)))) 0] [] [4] []) .ret) .skip)) (.seq (.reg [oD 4 (.mv (.k (.i .i64 0))) 0] [] [4] []) .ret))))
def rv128 : List RVar := [.t 4]
theorem fnr128 : FT Tryz.prog 128 36 ir128 rv128 := fnK Tryz.func128 (by decide +kernel)
def b129_0 : IR := (.seq (.reg [oD 9 (.bin .lss (.t 8) (.k (.i .i64 8))) 0] [] [2,3,4,6,8,9] [3,4,6]) (.seq (.cond (.t 9) .skip (.exit 0)) (.seq (.block 1 (.seq (.reg [oD 10 (.mv (.t 8)) 0,oD 7 (.mv (.t 10)) 1] [] [2,3,4,6,7,8] [3,4,6]) (.reg [oD 11 (.mv (.t 7)) 0,oD 12 (.mv (.t 2)) 1,oD 13 (.mv (.t 7)) 2,oD 14 (.ixa 8 1 (.t 3) (.t 13)) 3,oD 15 (.load 1 false (.t 14)) 4,oD 16 (.mv (.t 7)) 5,oD 17 (.ixa 8 1 (.t 4) (.t 16)) 6,oD 18 (.load 1 false (.t 17)) 7,oD 19 (.callv (.t 12) [(.t 15),(.t 18)]) 8,oD 20 (.ixa 8 1 (.t 3) (.t 11)) 9,oN (.store 1 (.t 20) (.t 19)) 10] [] [2,3,4,6,8] [3,4,6]))) (.reg [oD 21 (.bin .add (.t 8) (.k (.i .i64 1))) 0,oD 8 (.mv (.t 21)) 1] [] [2,3,4,6,8] [3,4,6]))))
theorem wb129_0 : type_of% (@wbEq _ _ b129_0.eq_1) := @wbEq _ _ b129_0.eq_1
def ir129 : IR := (.seq (.reg [oD 3 (.box (.t 0)) 0,oD 4 (.box (.t 1)) 1,oD 6 (.alloc [.i .i64 0,.i .i64 0,.i .i64 0,.i .i64 0,.i .i64 0,.i .i64 0,.i .i64 0,.i .i64 0]) 2] [] [2,3,4,6] [3,4,6]) (.seq (.seq (.reg [oD 8 (.mv (.k (.i .i64 0))) 0] [] [2,3,4,6,8] [3,4,6]) (.block 0 (.loop [2,3,4,6,8] [3,4,6] b129_0))) (.seq (.reg [oD 22 (.load 8 true (.t 3)) 0,oN (.store 8 (.t 6) (.t 22)) 1] [] [6] [6]) .ret)))
def rv129 : List RVar := [.c 6 8 true]
theorem fnr129 : FT Tryz.prog 129 23 ir129 rv129 := fnK Tryz.func129 (by decide +kernel)
def ir130 : IR := (.seq (.reg [oD 4 (.mv (.k (.i .i64 0))) 0] [] [0,1] []) (.seq (.reg [oD 5 (.mv (.t 0)) 0,oD 6 (.mv (.t 1)) 1,oD 7 (.bin .add (.t 5) (.t 6)) 2,oD 4 (.mv (.t 7)) 3] [] [4] []) .ret))
def rv130 : List RVar := [.t 4]
theorem fnr130 : FT Tryz.prog 130 8 ir130 rv130 := fnK Tryz.func130 (by decide +kernel)
def ir134 : IR := (.seq (.reg [oD 2 (.box (.t 0)) 0,oD 3 (.box (.t 1)) 1,oD 4 (.mv (.k (.i .i64 0))) 2] [] [2,3] [2,3]) (.seq (.reg [oD 5 (.fld 4 (.t 3)) 0,oD 6 (.load 8 true (.t 5)) 1,oD 7 (.fld 4 (.t 2)) 2,oD 8 (.load 8 true (.t 7)) 3,oD 9 (.call 70 [(.t 6),(.t 8)]) 4,oD 4 (.mv (.t 9)) 5] [] [4] []) .ret))
def rv134 : List RVar := [.t 4]
theorem fnr134 : FT Tryz.prog 134 10 ir134 rv134 := fnK Tryz.func134 (by decide +kernel)
def b152_0 : IR := (.seq (.reg [oD 9 (.bin .lss (.t 8) (.t 7)) 0] [] [0,1,7,8,9] []) (.seq (.cond (.t 9) .skip (.exit 0)) (.seq (.block 1 (.seq (.reg [oD 10 (.mv (.t 8)) 0,oD 5 (.mv (.t 10)) 1] [] [0,1,5,7,8] []) (.seq (.reg [oD 11 (.mv (.t 1)) 0,oD 12 (.mv (.t 0)) 1,oD 13 (.mv (.t 5)) 2,oD 14 (.ixs 1 (.t 12) (.t 13)) 3,oD 15 (.load 1 false (.t 14)) 4,oD 16 (.callv (.t 11) [(.t 15)]) 5] [] [0,1,5,7,8,16] []) (.cond (.t 16) (.seq (.reg [oD 17 (.mv (.t 5)) 0,oD 4 (.mv (.t 17)) 1] [] [4] []) .ret) .skip)))) (.reg [oD 18 (.bin .add (.t 8) (.k (.i .i64 1))) 0,oD 8 (.mv (.t 18)) 1] [] [0,1,7,8] []))))
theorem wb152_0 : type_of% (@wbEq _ _ b152_0.eq_1) := @wbEq _ _ b152_0.eq_1
def ir152 : IR := (.seq (.reg [oD 4 (.mv (.k (.i .i64 0))) 0] [] [0,1] []) (.seq (.seq (.reg [oD 6 (.mv (.t 0)) 0,oD 7 (.len (.t 6)) 1,oD 8 (.mv (.k (.i .i64 0))) 2] [] [0,1,7,8] []) (.block 0 (.loop [0,1,7,8] [] b152_0))) (.seq (.reg [oD 4 (.mv (.k (.i .i64 (-1)))) 0] [] [4] []) .ret)))
def rv152 : List RVar := [.t 4]
theorem fnr152 : FT Tryz.prog 152 19 ir152 rv152 := fnK Tryz.func152 (by decide +kernel)
def b19_0 : IR := (.seq (.seq (.reg [oD 11 (.mv (.t 5)) 0,oD 12 (.mv (.t 0)) 1,oD 13 (.len (.t 12)) 2,oD 14 (.bin .lss (.t 11) (.t 13)) 3] [] [0,1,5,14] []) (.cond (.t 14) .skip (.exit 0))) (.seq (.block 1 (.seq (.reg [oD 17 (.mv (.t 0)) 0,oD 18 (.mv (.t 5)) 1,oD 19 (.ixs 12 (.t 17) (.t 18)) 2,oD 20 (.load 12 true (.t 19)) 3,oD 21 (.mv (.t 1)) 4,oD 22 (.mv (.t 5)) 5,oD 23 (.ixs 12 (.t 21) (.t 22)) 6,oD 24 (.load 12 true (.t 23)) 7,oD 25 (.call 78 [(.t 20),(.t 24)]) 8,oD 26 (.un .not (.t 25)) 9] [] [0,1,5,26] []) (.cond (.t 26) (.seq (.reg [oD 4 (.mv (.k (.b false))) 0] [] [4] []) .ret) .skip))) (.reg [oD 15 (.mv (.t 5)) 0,oD 16 (.bin .add (.t 15) (.k (.i .i64 1))) 1,oD 5 (.mv (.t 16)) 2] [] [0,1,5] [])))
theorem wb19_0 : type_of% (@wbEq _ _ b19_0.eq_1) := @wbEq _ _ b19_0.eq_1
def ir19 : IR := (.seq (.reg [oD 4 (.mv (.k (.b false))) 0] [] [0,1] []) (.seq (.seq (.reg [oD 6 (.mv (.t 0)) 0,oD 7 (.len (.t 6)) 1,oD 8 (.mv (.t 1)) 2,oD 9 (.len (.t 8)) 3,oD 10 (.bin .neq (.t 7) (.t 9)) 4] [] [0,1,10] []) (.cond (.t 10) (.seq (.reg [oD 4 (.mv (.k (.b false))) 0] [] [4] []) .ret) .skip)) (.seq (.seq (.reg [oD 5 (.mv (.k (.i .i64 0))) 0] [] [0,1,5] []) (.block 0 (.loop [0,1,5] [] b19_0))) (.seq (.reg [oD 4 (.mv (.k (.b true))) 0] [] [4] []) .ret))))
def rv19 : List RVar := [.t 4]
theorem fnr19 : FT Tryz.prog 19 27 ir19 rv19 := fnK Tryz.func19 (by decide +kernel)
def b33_0 : IR := (.seq (.seq (.reg [oD 29 (.mv (.t 13)) 0,oD 30 (.mv (.t 1)) 1,oD 31 (.bin .lss (.t 29) (.t 30)) 2,oD 32 (.mv (.t 31)) 3,oT 33 (.mv (.t 13)) 32 4,oT 34 (.bin .lss (.t 33) (.k (.i .i64 4))) 32 5,oD 35 (.pick (.t 32) (.t 34) (.k (.b false))) 6] [] [1,2,3,4,9,10,11,12,13,35] [4,11]) (.cond (.t 35) .skip (.exit 2))) (.seq (.block 3 (.seq (.reg [oD 38 (.mv (.t 13)) 0,oD 39 (.fld 0 (.t 4)) 1,oD 40 (.load 1 false (.t 39)) 2,oD 41 (.mv (.t 10)) 3,oD 42 (.mv (.t 13)) 4,oD 43 (.bin .add (.k (.i .i64 1)) (.t 42)) 5,oD 44 (.ixs 5 (.t 40) (.t 41)) 6,oD 45 (.ixa 5 1 (.t 44) (.t 43)) 7,oD 46 (.load 1 false (.t 45)) 8,oD 47 (.call 97 [(.t 46)]) 9,oD 48 (.mv (.t 12)) 10,oD 49 (.bin .add (.t 48) (.k (.i .i64 1))) 11,oD 50 (.bin .rem (.t 47) (.t 49)) 12,oD 51 (.ixa 8 1 (.t 11) (.t 38)) 13,oN (.store 1 (.t 51) (.t 50)) 14] [] [1,2,3,4,9,10,11,12,13] [4,11]) (.reg [oD 52 (.mv (.t 12)) 0,oD 53 (.mv (.t 13)) 1,oD 54 (.ixa 8 1 (.t 11) (.t 53)) 2,oD 55 (.load 1 false (.t 54)) 3,oD 56 (.bin .sub (.t 52) (.t 55)) 4,oD 12 (.mv (.t 56)) 5] [] [1,2,3,4,9,10,11,12,13] [4,11]))) (.reg [oD 36 (.mv (.t 13)) 0,oD 37 (.bin .add (.t 36) (.k (.i .i64 1))) 1,oD 13 (.mv (.t 37)) 2] [] [1,2,3,4,9,10,11,12,13] [4,11])))
theorem wb33_0 : type_of% (@wbEq _ _ b33_0.eq_1) := @wbEq _ _ b33_0.eq_1
def b33_1 : IR := (.seq (.seq (.reg [oD 15 (.mv (.t 10)) 0,oD 16 (.fld 0 (.t 4)) 1,oD 17 (.load 1 false (.t 16)) 2,oD 18 (.len (.t 17)) 3,oD 19 (.bin .lss (.t 15) (.t 18)) 4,oD 20 (.mv (.t 19)) 5,oT 21 (.mv (.t 10)) 20 6,oT 22 (.mv (.t 3)) 20 7,oT 23 (.bin .lss (.t 21) (.t 22)) 20 8,oD 24 (.pick (.t 20) (.t 23) (.k (.b false))) 9] [] [1,2,3,4,9,10,24] [4]) (.cond (.t 24) .skip (.exit 0))) (.seq (.block 1 (.seq (.reg [oD 27 (.build [.i .i64 0,.i .i64 0,.i .i64 0,.i .i64 0,.i .i64 0,.i .i64 0,.i .i64 0,.i .i64 0] []) 0,oD 11 (.alloc [.i .i64 0,.i .i64 0,.i .i64 0,.i .i64 0,.i .i64 0,.i .i64 0,.i .i64 0,.i .i64 0]) 1,oN (.store 8 (.t 11) (.t 27)) 2] [] [1,2,3,4,9,10,11] [4,11]) (.seq (.reg [oD 28 (.mv (.t 2)) 0,oD 12 (.mv (.t 28)) 1] [] [1,2,3,4,9,10,11,12] [4,11]) (.seq (.seq (.reg [oD 13 (.mv (.k (.i .i64 0))) 0] [] [1,2,3,4,9,10,11,12,13] [4,11]) (.block 2 (.loop [1,2,3,4,9,10,11,12,13] [4,11] b33_0))) (.reg [oD 57 (.mv (.t 9)) 0,oD 58 (.fld 0 (.t 4)) 1,oD 59 (.load 1 false (.t 58)) 2,oD 60 (.mv (.t 10)) 3,oD 61 (.ixs 5 (.t 59) (.t 60)) 4,oD 62 (.ixa 5 1 (.t 61) (.k (.i .i64 0))) 5,oD 63 (.load 1 false (.t 62)) 6,oD 64 (.bin .rem (.t 63) (.k (.i .i8 4))) 7,oD 65 (.conv .i64 (.t 64)) 8,oD 66 (.call 23 [(.t 65)]) 9,oD 67 (.call 23 [(.k (.i .i64 1))]) 10,oD 68 (.load 8 true (.t 11)) 11,oD 69 (.build [.b false,.sl 1 true [],.b false,.sl 1 true [],.i .i64 0,.i .i64 0,.i .i64 0,.i .i64 0,.i .i64 0,.i .i64 0,.i .i64 0,.i .i64 0] [(0,4,(.t 67)),(4,8,(.t 68))]) 12,oD 70 (.bsl 12 [(.t 69)]) 13,oD 71 (.call 98 [(.t 66),(.t 70)]) 14,oD 72 (.call 56 [(.t 57),(.t 71)]) 15,oD 9 (.mv (.t 72)) 16] [] [1,2,3,4,9,10] [4]))))) (.reg [oD 25 (.mv (.t 10)) 0,oD 26 (.bin .add (.t 25) (.k (.i .i64 1))) 1,oD 10 (.mv (.t 26)) 2] [] [1,2,3,4,9,10] [4])))
theorem wb33_1 : type_of% (@wbEq _ _ b33_1.eq_1) := @wbEq _ _ b33_1.eq_1
def ir33 : IR := (.seq (.reg [oD 4 (.box (.t 0)) 0,oD 8 (.mv (.k (.sl 12 true []))) 1] [] [1,2,3,4] [4]) (.seq (.reg [oD 14 (.bsl 12 []) 0,oD 9 (.mv (.t 14)) 1] [] [1,2,3,4,9] [4]) (.seq (.seq (.reg [oD 10 (.mv (.k (.i .i64 0))) 0] [] [1,2,3,4,9,10] [4]) (.block 0 (.loop [1,2,3,4,9,10] [4] b33_1))) (.seq (.reg [oD 73 (.mv (.t 9)) 0,oD 8 (.mv (.t 73)) 1] [] [8] []) .ret))))
def rv33 : List RVar := [.t 8]
theorem fnr33 : FT Tryz.prog 33 74 ir33 rv33 := fnK Tryz.func33 (by decide +kernel)
def b39_0 : IR := (.seq (.seq (.reg [oD 7 (.mv (.t 6)) 0,oD 8 (.bin .lss (.t 7) (.k (.i .i64 8))) 1] [] [2,3,4,6,8] [2,3,4]) (.cond (.t 8) .skip (.exit 0))) (.seq (.block 1 (.reg [oD 11 (.mv (.t 6)) 0,oD 12 (.ixa 8 1 (.t 2) (.t 11)) 1,oD 13 (.load 1 false (.t 12)) 2,oD 14 (.mv (.t 6)) 3,oD 15 (.ixa 8 1 (.t 3) (.t 14)) 4,oD 16 (.load 1 false (.t 15)) 5,oD 17 (.bin .add (.t 13) (.t 16)) 6,oD 18 (.ixa 8 1 (.t 2) (.t 11)) 7,oN (.store 1 (.t 18) (.t 17)) 8] [] [2,3,4,6] [2,3,4])) (.reg [oD 9 (.mv (.t 6)) 0,oD 10 (.bin .add (.t 9) (.k (.i .i64 1))) 1,oD 6 (.mv (.t 10)) 2] [] [2,3,4,6] [2,3,4])))
theorem wb39_0 : type_of% (@wbEq _ _ b39_0.eq_1) := @wbEq _ _ b39_0.eq_1
def ir39 : IR := (.seq (.reg [oD 2 (.box (.t 0)) 0,oD 3 (.box (.t 1)) 1,oD 4 (.alloc [.i .i64 0,.i .i64 0,.i .i64 0,.i .i64 0,.i .i64 0,.i .i64 0,.i .i64 0,.i .i64 0]) 2,oD 5 (.mv (.k (.i .i64 0))) 3] [] [2,3,4] [2,3,4]) (.seq (.seq (.reg [oD 6 (.mv (.k (.i .i64 0))) 0] [] [2,3,4,6] [2,3,4]) (.block 0 (.loop [2,3,4,6] [2,3,4] b39_0))) (.seq (.seq (.reg [oD 19 (.load 8 true (.t 2)) 0,oD 20 (.call 72 [(.t 19)]) 1,oD 21 (.un .not (.t 20)) 2] [] [2,4,21] [2,4]) (.cond (.t 21) (.seq (.reg [oD 22 (.build [.i .i64 0,.i .i64 0,.i .i64 0,.i .i64 0,.i .i64 0,.i .i64 0,.i .i64 0,.i .i64 0] []) 0,oN (.store 8 (.t 4) (.t 22)) 1,oD 5 (.mv (.k (.i .i64 2))) 2] [] [4,5] [4]) .ret) .skip)) (.seq (.reg [oD 23 (.load 8 true (.t 2)) 0,oN (.store 8 (.t 4) (.t 23)) 1,oD 5 (.mv (.k (.i .i64 0))) 2] [] [4,5] [4]) .ret))))
def rv39 : List RVar := [.c 4 8 true, .t 5]
theorem fnr39 : FT Tryz.prog 39 24 ir39 rv39 := fnK Tryz.func39 (by decide +kernel)
def ir47 : IR := (.seq (.reg [oD 4 (.mv (.k (.sl 12 true []))) 0] [] [0,1] []) (.seq (.reg [oD 8 (.mv (.t 0)) 0,oD 9 (.mv (.t 1)) 1,oD 10 (.call 115 [(.t 8),(.t 9)]) 2,oD 7 (.mv (.t 10)) 3,oD 11 (.ext 0 (.t 7)) 4,oD 12 (.ext 1 (.t 7)) 5,oD 5 (.mv (.t 11)) 6,oD 6 (.mv (.t 12)) 7] [] [5] []) (.seq (.reg [oD 13 (.mv (.t 5)) 0,oD 4 (.mv (.t 13)) 1] [] [4] []) .ret)))
def rv47 : List RVar := [.t 4]
theorem fnr47 : FT Tryz.prog 47 14 ir47 rv47 := fnK Tryz.func47 (by decide +kernel)
def ir49 : IR := (.seq (.reg [oD 2 (.mv (.k (.sl 12 true []))) 0] [] [0] []) (.seq (.reg [oD 6 (.mv (.t 0)) 0,oD 7 (.call 116 [(.t 6)]) 1,oD 5 (.mv (.t 7)) 2,oD 8 (.ext 0 (.t 5)) 3,oD 9 (.ext 1 (.t 5)) 4,oD 3 (.mv (.t 8)) 5,oD 4 (.mv (.t 9)) 6] [] [3] []) (.seq (.reg [oD 10 (.mv (.t 3)) 0,oD 2 (.mv (.t 10)) 1] [] [2] []) .ret)))
def rv49 : List RVar := [.t 2]
theorem fnr49 : FT Tryz.prog 49 11 ir49 rv49 := fnK Tryz.func49 (by decide +kernel)
def b52_0 : IR := (.seq (.seq (.reg [oD 16 (.mv (.t 9)) 0,oD 17 (.mv (.t 2)) 1,oD 18 (.len (.t 17)) 2,oD 19 (.bin .lss (.t 16) (.t 18)) 3] [] [2,3,4,8,9,19] [3,4,45]) (.cond (.t 19) .skip (.exit 0))) (.seq (.block 1 (.seq (.reg [oD 23 (.load 8 true (.t 4)) 0,oD 24 (.mv (.t 2)) 1,oD 25 (.mv (.t 9)) 2,oD 26 (.ixs 12 (.t 24) (.t 25)) 3,oD 27 (.fld 4 (.t 26)) 4,oD 28 (.load 8 true (.t 27)) 5,oD 29 (.call 39 [(.t 23),(.t 28)]) 6,oD 22 (.mv (.t 29)) 7,oD 30 (.ext 0 (.t 22)) 8,oD 31 (.ext 1 (.t 22)) 9,oD 10 (.alloc [.i .i64 0,.i .i64 0,.i .i64 0,.i .i64 0,.i .i64 0,.i .i64 0,.i .i64 0,.i .i64 0]) 10,oN (.store 8 (.t 10) (.t 30)) 11,oD 11 (.mv (.t 31)) 12] [] [2,3,4,8,9,10,11] [3,4,10,45]) (.seq (.seq (.reg [oD 32 (.mv (.t 11)) 0,oD 33 (.bin .neq (.t 32) (.k (.i .i64 0))) 1] [] [2,3,4,8,9,10,33] [3,4,10,45]) (.cond (.t 33) (.seq (.reg [oD 6 (.mv (.k (.sl 12 true []))) 0,oD 7 (.mv (.k (.i .i64 2))) 1] [] [6,7] [45]) (.frz 6 .ret)) .skip)) (.reg [oD 34 (.mv (.t 8)) 0,oD 35 (.load 4 true (.t 3)) 1,oD 36 (.mv (.t 2)) 2,oD 37 (.mv (.t 9)) 3,oD 38 (.ixs 12 (.t 36) (.t 37)) 4,oD 39 (.fld 0 (.t 38)) 5,oD 40 (.load 4 true (.t 39)) 6,oD 41 (.call 32 [(.t 35),(.t 40)]) 7,oD 42 (.load 8 true (.t 10)) 8,oD 43 (.build [.b false,.sl 1 true [],.b false,.sl 1 true [],.i .i64 0,.i .i64 0,.i .i64 0,.i .i64 0,.i .i64 0,.i .i64 0,.i .i64 0,.i .i64 0] [(0,4,(.t 41)),(4,8,(.t 42))]) 9,oD 44 (.bsl 12 [(.t 43)]) 10,oD 45 (.app 12 128 (.t 34) (.t 44)) 11,oD 8 (.mv (.t 45)) 12] [] [2,3,4,8,9] [3,4,45])))) (.reg [oD 20 (.mv (.t 9)) 0,oD 21 (.bin .add (.t 20) (.k (.i .i64 1))) 1,oD 9 (.mv (.t 21)) 2] [] [2,3,4,8,9] [3,4,45])))
theorem wb52_0 : type_of% (@wbEq _ _ b52_0.eq_1) := @wbEq _ _ b52_0.eq_1
def ir52 : IR := (.seq (.reg [oD 3 (.box (.t 0)) 0,oD 4 (.box (.t 1)) 1,oD 6 (.mv (.k (.sl 12 true []))) 2,oD 7 (.mv (.k (.i .i64 0))) 3] [] [2,3,4] [3,4]) (.seq (.reg [oD 12 (.bsl 12 []) 0,oD 8 (.mv (.t 12)) 1] [] [2,3,4,8] [3,4,45]) (.seq (.seq (.reg [oD 13 (.load 4 true (.t 3)) 0,oD 14 (.call 71 [(.t 13)]) 1,oD 15 (.bin .eql (.t 14) (.k (.i .i64 0))) 2] [] [2,3,4,8,15] [3,4,45]) (.cond (.t 15) (.seq (.reg [oD 6 (.mv (.k (.sl 12 true []))) 0,oD 7 (.mv (.k (.i .i64 0))) 1] [] [6,7] [45]) (.frz 6 .ret)) .skip)) (.seq (.seq (.reg [oD 9 (.mv (.k (.i .i64 0))) 0] [] [2,3,4,8,9] [3,4,45]) (.block 0 (.loop [2,3,4,8,9] [3,4,45] b52_0))) (.seq (.reg [oD 46 (.mv (.t 8)) 0,oD 6 (.mv (.t 46)) 1,oD 7 (.mv (.k (.i .i64 0))) 2] [] [6,7] [45]) (.frz 6 .ret))))))
def rv52 : List RVar := [.t 6, .t 7]
theorem fnr52 : FT Tryz.prog 52 47 ir52 rv52 := fnK Tryz.func52 (by decide +kernel)
def b54_0 : IR := (.seq (.seq (.reg [oD 17 (.mv (.t 7)) 0,oD 18 (.mv (.t 1)) 1,oD 19 (.bin .lss (.t 17) (.t 18)) 2] [] [0,1,6,7,19] []) (.cond (.t 19) .skip (.exit 0))) (.seq (.block 1 (.seq (.reg [oD 23 (.mv (.t 6)) 0,oD 24 (.mv (.t 0)) 1,oD 25 (.call 115 [(.t 23),(.t 24)]) 2,oD 22 (.mv (.t 25)) 3,oD 26 (.ext 0 (.t 22)) 4,oD 27 (.ext 1 (.t 22)) 5,oD 8 (.mv (.t 26)) 6,oD 9 (.mv (.t 27)) 7] [] [0,1,7,8,9] []) (.seq (.seq (.reg [oD 28 (.mv (.t 9)) 0,oD 29 (.bin .neq (.t 28) (.k (.i .i64 0))) 1] [] [0,1,7,8,9,29] []) (.cond (.t 29) (.seq (.reg [oD 30 (.mv (.t 9)) 0,oD 4 (.mv (.k (.sl 12 true []))) 1,oD 5 (.mv (.t 30)) 2] [] [4,5] []) .ret) .skip)) (.reg [oD 31 (.mv (.t 8)) 0,oD 6 (.mv (.t 31)) 1] [] [0,1,6,7] [])))) (.reg [oD 20 (.mv (.t 7)) 0,oD 21 (.bin .add (.t 20) (.k (.i .i64 1))) 1,oD 7 (.mv (.t 21)) 2] [] [0,1,6,7] [])))
theorem wb54_0 : type_of% (@wbEq _ _ b54_0.eq_1) := @wbEq _ _ b54_0.eq_1
def ir54 : IR := (.seq (.reg [oD 4 (.mv (.k (.sl 12 true []))) 0,oD 5 (.mv (.k (.i .i64 0))) 1] [] [0,1] []) (.seq (.seq (.reg [oD 10 (.mv (.t 1)) 0,oD 11 (.bin .lss (.t 10) (.k (.i .i64 0))) 1,oD 12 (.mv (.t 11)) 2,oF 13 (.mv (.t 1)) 12 3,oF 14 (.bin .gtr (.t 13) (.k (.i .i64 64))) 12 4,oD 15 (.pick (.t 12) (.k (.b true)) (.t 14)) 5] [] [0,1,15] []) (.cond (.t 15) (.seq (.reg [oD 4 (.mv (.k (.sl 12 true []))) 0,oD 5 (.mv (.k (.i .i64 1))) 1] [] [4,5] []) .ret) .skip)) (.seq (.reg [oD 16 (.call 64 [(.k (.i .i64 1))]) 0,oD 6 (.mv (.t 16)) 1] [] [0,1,6] []) (.seq (.seq (.reg [oD 7 (.mv (.k (.i .i64 0))) 0] [] [0,1,6,7] []) (.block 0 (.loop [0,1,6,7] [] b54_0))) (.seq (.reg [oD 32 (.mv (.t 6)) 0,oD 4 (.mv (.t 32)) 1,oD 5 (.mv (.k (.i .i64 0))) 2] [] [4,5] []) .ret)))))
def rv54 : List RVar := [.t 4, .t 5]
theorem fnr54 : FT Tryz.prog 54 33 ir54 rv54 := fnK Tryz.func54 (by decide +kernel)
def b56_0 : IR := (.seq (.seq (.reg [oD 10 (.mv (.t 6)) 0,oD 11 (.mv (.t 0)) 1,oD 12 (.len (.t 11)) 2,oD 13 (.bin .lss (.t 10) (.t 12)) 3,oD 14 (.mv (.t 13)) 4,oF 15 (.mv (.t 7)) 14 5,oF 16 (.mv (.t 1)) 14 6,oF 17 (.len (.t 16)) 14 7,oF 18 (.bin .lss (.t 15) (.t 17)) 14 8,oD 19 (.pick (.t 14) (.k (.b true)) (.t 18)) 9] [] [0,1,5,6,7,19] [50,77,103]) (.cond (.t 19) .skip (.exit 0))) (.block 1 (.seq (.seq (.reg [oD 20 (.mv (.t 7)) 0,oD 21 (.mv (.t 1)) 1,oD 22 (.len (.t 21)) 2,oD 23 (.bin .eql (.t 20) (.t 22)) 3,oD 24 (.mv (.t 23)) 4,oF 25 (.mv (.t 6)) 24 5,oF 26 (.mv (.t 0)) 24 6,oF 27 (.len (.t 26)) 24 7,oF 28 (.bin .lss (.t 25) (.t 27)) 24 8,oF 29 (.mv (.t 28)) 24 9,oT 30 (.mv (.t 0)) 29 10,oT 31 (.mv (.t 6)) 29 11,oT 32 (.ixs 12 (.t 30) (.t 31)) 29 12,oT 33 (.fld 4 (.t 32)) 29 13,oT 34 (.load 8 true (.t 33)) 29 14,oT 35 (.mv (.t 1)) 29 15,oT 36 (.mv (.t 7)) 29 16,oT 37 (.ixs 12 (.t 35) (.t 36)) 29 17,oT 38 (.fld 4 (.t 37)) 29 18,oT 39 (.load 8 true (.t 38)) 29 19,oT 40 (.call 73 [(.t 34),(.t 39)]) 29 20,oT 41 (.bin .gtr (.t 40) (.k (.i .i64 0))) 29 21,oF 42 (.pick (.t 29) (.t 41) (.k (.b false))) 24 22,oD 43 (.pick (.t 24) (.k (.b true)) (.t 42)) 23] [] [0,1,5,6,7,43] [50,77,103]) (.cond (.t 43) (.seq (.reg [oD 44 (.mv (.t 5)) 0,oD 45 (.mv (.t 0)) 1,oD 46 (.mv (.t 6)) 2,oD 47 (.ixs 12 (.t 45) (.t 46)) 3,oD 48 (.load 12 true (.t 47)) 4,oD 49 (.bsl 12 [(.t 48)]) 5,oD 50 (.app 12 128 (.t 44) (.t 49)) 6,oD 5 (.mv (.t 50)) 7] [] [0,1,5,6,7] [50,77,103]) (.seq (.reg [oD 51 (.mv (.t 6)) 0,oD 52 (.bin .add (.t 51) (.k (.i .i64 1))) 1,oD 6 (.mv (.t 52)) 2] [] [0,1,5,6,7] [50,77,103]) (.exit 1))) .skip)) (.seq (.seq (.reg [oD 53 (.mv (.t 6)) 0,oD 54 (.mv (.t 0)) 1,oD 55 (.len (.t 54)) 2,oD 56 (.bin .eql (.t 53) (.t 55)) 3,oD 57 (.mv (.t 56)) 4,oF 58 (.mv (.t 0)) 57 5,oF 59 (.mv (.t 6)) 57 6,oF 60 (.ixs 12 (.t 58) (.t 59)) 57 7,oF 61 (.fld 4 (.t 60)) 57 8,oF 62 (.load 8 true (.t 61)) 57 9,oF 63 (.mv (.t 1)) 57 10,oF 64 (.mv (.t 7)) 57 11,oF 65 (.ixs 12 (.t 63) (.t 64)) 57 12,oF 66 (.fld 4 (.t 65)) 57 13,oF 67 (.load 8 true (.t 66)) 57 14,oF 68 (.call 73 [(.t 62),(.t 67)]) 57 15,oF 69 (.bin .lss (.t 68) (.k (.i .i64 0))) 57 16,oD 70 (.pick (.t 57) (.k (.b true)) (.t 69)) 17] [] [0,1,5,6,7,70] [50,77,103]) (.cond (.t 70) (.seq (.reg [oD 71 (.mv (.t 5)) 0,oD 72 (.mv (.t 1)) 1,oD 73 (.mv (.t 7)) 2,oD 74 (.ixs 12 (.t 72) (.t 73)) 3,oD 75 (.load 12 true (.t 74)) 4,oD 76 (.bsl 12 [(.t 75)]) 5,oD 77 (.app 12 128 (.t 71) (.t 76)) 6,oD 5 (.mv (.t 77)) 7] [] [0,1,5,6,7] [50,77,103]) (.seq (.reg [oD 78 (.mv (.t 7)) 0,oD 79 (.bin .add (.t 78) (.k (.i .i64 1))) 1,oD 7 (.mv (.t 79)) 2] [] [0,1,5,6,7] [50,77,103]) (.exit 1))) .skip)) (.seq (.reg [oD 80 (.mv (.t 0)) 0,oD 81 (.mv (.t 6)) 1,oD 82 (.ixs 12 (.t 80) (.t 81)) 2,oD 83 (.fld 0 (.t 82)) 3,oD 84 (.load 4 true (.t 83)) 4,oD 85 (.mv (.t 1)) 5,oD 86 (.mv (.t 7)) 6,oD 87 (.ixs 12 (.t 85) (.t 86)) 7,oD 88 (.fld 0 (.t 87)) 8,oD 89 (.load 4 true (.t 88)) 9,oD 90 (.call 31 [(.t 84),(.t 89)]) 10,oD 8 (.alloc [.b false,.sl 1 true [],.b false,.sl 1 true []]) 11,oN (.store 4 (.t 8) (.t 90)) 12] [] [0,1,5,6,7,8] [8,50,77,103]) (.seq (.seq (.reg [oD 91 (.load 4 true (.t 8)) 0,oD 92 (.call 71 [(.t 91)]) 1,oD 93 (.bin .neq (.t 92) (.k (.i .i64 0))) 2] [] [0,1,5,6,7,8,93] [8,50,77,103]) (.cond (.t 93) (.reg [oD 94 (.mv (.t 5)) 0,oD 95 (.load 4 true (.t 8)) 1,oD 96 (.mv (.t 0)) 2,oD 97 (.mv (.t 6)) 3,oD 98 (.ixs 12 (.t 96) (.t 97)) 4,oD 99 (.fld 4 (.t 98)) 5,oD 100 (.load 8 true (.t 99)) 6,oD 101 (.build [.b false,.sl 1 true [],.b false,.sl 1 true [],.i .i64 0,.i .i64 0,.i .i64 0,.i .i64 0,.i .i64 0,.i .i64 0,.i .i64 0,.i .i64 0] [(0,4,(.t 95)),(4,8,(.t 100))]) 7,oD 102 (.bsl 12 [(.t 101)]) 8,oD 103 (.app 12 128 (.t 94) (.t 102)) 9,oD 5 (.mv (.t 103)) 10] [] [0,1,5,6,7] [50,77,103]) .skip)) (.seq (.reg [oD 104 (.mv (.t 6)) 0,oD 105 (.bin .add (.t 104) (.k (.i .i64 1))) 1,oD 6 (.mv (.t 105)) 2] [] [0,1,5,6,7] [50,77,103]) (.reg [oD 106 (.mv (.t 7)) 0,oD 107 (.bin .add (.t 106) (.k (.i .i64 1))) 1,oD 7 (.mv (.t 107)) 2] [] [0,1,5,6,7] [50,77,103]))))))))
theorem wb56_0 : type_of% (@wbEq _ _ b56_0.eq_1) := @wbEq _ _ b56_0.eq_1
def ir56 : IR := (.seq (.reg [oD 4 (.mv (.k (.sl 12 true []))) 0] [] [0,1] []) (.seq (.reg [oD 9 (.bsl 12 []) 0,oD 5 (.mv (.t 9)) 1] [] [0,1,5] [50,77,103]) (.seq (.reg [oD 6 (.mv (.k (.i .i64 0))) 0,oD 7 (.mv (.k (.i .i64 0))) 1] [] [0,1,5,6,7] [50,77,103]) (.seq (.block 0 (.loop [0,1,5,6,7] [50,77,103] b56_0)) (.seq (.reg [oD 108 (.mv (.t 5)) 0,oD 4 (.mv (.t 108)) 1] [] [4] [50,77,103]) (.frz 4 .ret))))))
def rv56 : List RVar := [.t 4]
theorem fnr56 : FT Tryz.prog 56 109 ir56 rv56 := fnK Tryz.func56 (by decide +kernel)
def ir57 : IR := (.seq (.reg [oD 4 (.mv (.k (.sl 12 true []))) 0] [] [0,1] []) (.seq (.reg [oD 5 (.mv (.t 0)) 0,oD 6 (.call 23 [(.k (.i .i64 (-1)))]) 1,oD 7 (.mv (.t 1)) 2,oD 8 (.call 98 [(.t 6),(.t 7)]) 3,oD 9 (.call 56 [(.t 5),(.t 8)]) 4,oD 4 (.mv (.t 9)) 5] [] [4] []) .ret))
def rv57 : List RVar := [.t 4]
theorem fnr57 : FT Tryz.prog 57 10 ir57 rv57 := fnK Tryz.func57 (by decide +kernel)
def ir63 : IR := (.seq (.reg [oD 1 (.box (.t 0)) 0,oD 2 (.mv (.k (.sl 12 true []))) 1] [] [1] [1]) (.seq (.seq (.reg [oD 3 (.load 4 true (.t 1)) 0,oD 4 (.call 71 [(.t 3)]) 1,oD 5 (.bin .eql (.t 4) (.k (.i .i64 0))) 2] [] [1,5] [1]) (.cond (.t 5) (.seq (.reg [oD 2 (.mv (.k (.sl 12 true []))) 0] [] [2] []) .ret) .skip)) (.seq (.reg [oD 6 (.load 4 true (.t 1)) 0,oD 7 (.build [.b false,.sl 1 true [],.b false,.sl 1 true [],.i .i64 0,.i .i64 0,.i .i64 0,.i .i64 0,.i .i64 0,.i .i64 0,.i .i64 0,.i .i64 0] [(0,4,(.t 6))]) 1,oD 8 (.bsl 12 [(.t 7)]) 2,oD 2 (.mv (.t 8)) 3] [] [2] []) .ret)))
def rv63 : List RVar := [.t 2]
theorem fnr63 : FT Tryz.prog 63 9 ir63 rv63 := fnK Tryz.func63 (by decide +kernel)
def ir64 : IR := (.seq (.reg [oD 2 (.mv (.k (.sl 12 true []))) 0] [] [0] []) (.seq (.reg [oD 3 (.mv (.t 0)) 0,oD 4 (.call 23 [(.t 3)]) 1,oD 5 (.call 63 [(.t 4)]) 2,oD 2 (.mv (.t 5)) 3] [] [2] []) .ret))
def rv64 : List RVar := [.t 2]
theorem fnr64 : FT Tryz.prog 64 6 ir64 rv64 := fnK Tryz.func64 (by decide +kernel)
def ir65 : IR := (.seq (.reg [oD 0 (.mv (.k (.sl 8 true []))) 0] [] [] []) (.seq (.reg [oD 1 (.build [.i .i64 0,.i .i64 0,.i .i64 0,.i .i64 0,.i .i64 0,.i .i64 0,.i .i64 0,.i .i64 0] [(0,1,(.k (.i .i64 1))),(1,1,(.k (.i .i64 1))),(2,1,(.k (.i .i64 1))),(3,1,(.k (.i .i64 1))),(4,1,(.k (.i .i64 1))),(5,1,(.k (.i .i64 1))),(6,1,(.k (.i .i64 1))),(7,1,(.k (.i .i64 1)))]) 0,oD 2 (.bsl 8 [(.t 1)]) 1,oD 0 (.mv (.t 2)) 2] [] [0] []) .ret))
def rv65 : List RVar := [.t 0]
theorem fnr65 : FT Tryz.prog 65 3 ir65 rv65 := fnK Tryz.func65 (by decide +kernel)
def ir66 : IR := (.seq (.reg [oD 0 (.mv (.k (.sl 8 true []))) 0] [] [] []) (.seq (.reg [oD 1 (.bsl 8 []) 0,oD 0 (.mv (.t 1)) 1] [] [0] []) .ret))
def rv66 : List RVar := [.t 0]
theorem fnr66 : FT Tryz.prog 66 2 ir66 rv66 := fnK Tryz.func66 (by decide +kernel)
def b72_0 : IR := (.seq (.seq (.reg [oD 4 (.mv (.t 3)) 0,oD 5 (.bin .lss (.t 4) (.k (.i .i64 8))) 1] [] [1,3,5] [1]) (.cond (.t 5) .skip (.exit 0))) (.seq (.block 1 (.seq (.reg [oD 8 (.mv (.t 3)) 0,oD 9 (.ixa 8 1 (.t 1) (.t 8)) 1,oD 10 (.load 1 false (.t 9)) 2,oD 11 (.bin .lss (.t 10) (.k (.i .i64 0))) 3,oD 12 (.mv (.t 11)) 4,oF 13 (.mv (.t 3)) 12 5,oF 14 (.ixa 8 1 (.t 1) (.t 13)) 12 6,oF 15 (.load 1 false (.t 14)) 12 7,oF 16 (.bin .gtr (.t 15) (.k (.i .i64 65535))) 12 8,oD 17 (.pick (.t 12) (.k (.b true)) (.t 16)) 9] [] [1,3,17] [1]) (.cond (.t 17) (.seq (.reg [oD 2 (.mv (.k (.b false))) 0] [] [2] []) .ret) .skip))) (.reg [oD 6 (.mv (.t 3)) 0,oD 7 (.bin .add (.t 6) (.k (.i .i64 1))) 1,oD 3 (.mv (.t 7)) 2] [] [1,3] [1])))
theorem wb72_0 : type_of% (@wbEq _ _ b72_0.eq_1) := @wbEq _ _ b72_0.eq_1
def ir72 : IR := (.seq (.reg [oD 1 (.box (.t 0)) 0,oD 2 (.mv (.k (.b false))) 1] [] [1] [1]) (.seq (.seq (.reg [oD 3 (.mv (.k (.i .i64 0))) 0] [] [1,3] [1]) (.block 0 (.loop [1,3] [1] b72_0))) (.seq (.reg [oD 2 (.mv (.k (.b true))) 0] [] [2] []) .ret)))
def rv72 : List RVar := [.t 2]
theorem fnr72 : FT Tryz.prog 72 18 ir72 rv72 := fnK Tryz.func72 (by decide +kernel)
def b73_0 : IR := (.seq (.seq (.reg [oD 6 (.mv (.t 5)) 0,oD 7 (.bin .lss (.t 6) (.k (.i .i64 8))) 1] [] [2,3,5,7] [2,3]) (.cond (.t 7) .skip (.exit 0))) (.seq (.block 1 (.seq (.seq (.reg [oD 10 (.mv (.t 5)) 0,oD 11 (.ixa 8 1 (.t 2) (.t 10)) 1,oD 12 (.load 1 false (.t 11)) 2,oD 13 (.mv (.t 5)) 3,oD 14 (.ixa 8 1 (.t 3) (.t 13)) 4,oD 15 (.load 1 false (.t 14)) 5,oD 16 (.bin .lss (.t 12) (.t 15)) 6] [] [2,3,5,16] [2,3]) (.cond (.t 16) (.seq (.reg [oD 4 (.mv (.k (.i .i64 (-1)))) 0] [] [4] []) .ret) .skip)) (.seq (.reg [oD 17 (.mv (.t 5)) 0,oD 18 (.ixa 8 1 (.t 2) (.t 17)) 1,oD 19 (.load 1 false (.t 18)) 2,oD 20 (.mv (.t 5)) 3,oD 21 (.ixa 8 1 (.t 3) (.t 20)) 4,oD 22 (.load 1 false (.t 21)) 5,oD 23 (.bin .gtr (.t 19) (.t 22)) 6] [] [2,3,5,23] [2,3]) (.cond (.t 23) (.seq (.reg [oD 4 (.mv (.k (.i .i64 1))) 0] [] [4] []) .ret) .skip)))) (.reg [oD 8 (.mv (.t 5)) 0,oD 9 (.bin .add (.t 8) (.k (.i .i64 1))) 1,oD 5 (.mv (.t 9)) 2] [] [2,3,5] [2,3])))
theorem wb73_0 : type_of% (@wbEq _ _ b73_0.eq_1) := @wbEq _ _ b73_0.eq_1
def ir73 : IR := (.seq (.reg [oD 2 (.box (.t 0)) 0,oD 3 (.box (.t 1)) 1,oD 4 (.mv (.k (.i .i64 0))) 2] [] [2,3] [2,3]) (.seq (.seq (.reg [oD 5 (.mv (.k (.i .i64 0))) 0] [] [2,3,5] [2,3]) (.block 0 (.loop [2,3,5] [2,3] b73_0))) (.seq (.reg [oD 4 (.mv (.k (.i .i64 0))) 0] [] [4] []) .ret)))
def rv73 : List RVar := [.t 4]
theorem fnr73 : FT Tryz.prog 73 24 ir73 rv73 := fnK Tryz.func73 (by decide +kernel)
def ir97 : IR := (.seq (.reg [oD 2 (.mv (.k (.i .i64 0))) 0] [] [0] []) (.seq (.seq (.reg [oD 3 (.mv (.t 0)) 0,oD 4 (.bin .lss (.t 3) (.k (.i .i8 0))) 1] [] [0,4] []) (.cond (.t 4) (.seq (.reg [oD 5 (.mv (.t 0)) 0,oD 6 (.conv .i64 (.t 5)) 1,oD 7 (.un .neg (.t 6)) 2,oD 2 (.mv (.t 7)) 3] [] [2] []) .ret) .skip)) (.seq (.reg [oD 8 (.mv (.t 0)) 0,oD 9 (.conv .i64 (.t 8)) 1,oD 2 (.mv (.t 9)) 2] [] [2] []) .ret)))
def rv97 : List RVar := [.t 2]
theorem fnr97 : FT Tryz.prog 97 10 ir97 rv97 := fnK Tryz.func97 (by decide +kernel)
def ir98 : IR := (.seq (.reg [oD 2 (.box (.t 0)) 0,oD 4 (.mv (.k (.sl 12 true []))) 1] [] [1,2] [2]) (.seq (.reg [oD 8 (.load 4 true (.t 2)) 0,oD 9 (.build [.i .i64 0,.i .i64 0,.i .i64 0,.i .i64 0,.i .i64 0,.i .i64 0,.i .i64 0,.i .i64 0] []) 1,oD 10 (.mv (.t 1)) 2,oD 11 (.call 52 [(.t 8),(.t 9),(.t 10)]) 3,oD 7 (.mv (.t 11)) 4,oD 12 (.ext 0 (.t 7)) 5,oD 13 (.ext 1 (.t 7)) 6,oD 5 (.mv (.t 12)) 7,oD 6 (.mv (.t 13)) 8] [] [5] []) (.seq (.reg [oD 14 (.mv (.t 5)) 0,oD 4 (.mv (.t 14)) 1] [] [4] []) .ret)))
def rv98 : List RVar := [.t 4]
theorem fnr98 : FT Tryz.prog 98 15 ir98 rv98 := fnK Tryz.func98 (by decide +kernel)
def b115_0 : IR := (.seq (.seq (.reg [oD 11 (.mv (.t 7)) 0,oD 12 (.mv (.t 0)) 1,oD 13 (.len (.t 12)) 2,oD 14 (.bin .lss (.t 11) (.t 13)) 3] [] [0,1,6,7,14] []) (.cond (.t 14) .skip (.exit 0))) (.seq (.block 1 (.seq (.reg [oD 18 (.mv (.t 0)) 0,oD 19 (.mv (.t 7)) 1,oD 20 (.ixs 12 (.t 18) (.t 19)) 2,oD 21 (.fld 0 (.t 20)) 3,oD 22 (.load 4 true (.t 21)) 4,oD 23 (.mv (.t 0)) 5,oD 24 (.mv (.t 7)) 6,oD 25 (.ixs 12 (.t 23) (.t 24)) 7,oD 26 (.fld 4 (.t 25)) 8,oD 27 (.load 8 true (.t 26)) 9,oD 28 (.mv (.t 1)) 10,oD 29 (.call 52 [(.t 22),(.t 27),(.t 28)]) 11,oD 17 (.mv (.t 29)) 12,oD 30 (.ext 0 (.t 17)) 13,oD 31 (.ext 1 (.t 17)) 14,oD 8 (.mv (.t 30)) 15,oD 9 (.mv (.t 31)) 16] [] [0,1,6,7,8,9] []) (.seq (.seq (.reg [oD 32 (.mv (.t 9)) 0,oD 33 (.bin .neq (.t 32) (.k (.i .i64 0))) 1] [] [0,1,6,7,8,9,33] []) (.cond (.t 33) (.seq (.reg [oD 34 (.mv (.t 9)) 0,oD 4 (.mv (.k (.sl 12 true []))) 1,oD 5 (.mv (.t 34)) 2] [] [4,5] []) .ret) .skip)) (.reg [oD 35 (.mv (.t 6)) 0,oD 36 (.mv (.t 8)) 1,oD 37 (.call 56 [(.t 35),(.t 36)]) 2,oD 6 (.mv (.t 37)) 3] [] [0,1,6,7] [])))) (.reg [oD 15 (.mv (.t 7)) 0,oD 16 (.bin .add (.t 15) (.k (.i .i64 1))) 1,oD 7 (.mv (.t 16)) 2] [] [0,1,6,7] [])))
theorem wb115_0 : type_of% (@wbEq _ _ b115_0.eq_1) := @wbEq _ _ b115_0.eq_1
def ir115 : IR := (.seq (.reg [oD 4 (.mv (.k (.sl 12 true []))) 0,oD 5 (.mv (.k (.i .i64 0))) 1] [] [0,1] []) (.seq (.reg [oD 10 (.bsl 12 []) 0,oD 6 (.mv (.t 10)) 1] [] [0,1,6] []) (.seq (.seq (.reg [oD 7 (.mv (.k (.i .i64 0))) 0] [] [0,1,6,7] []) (.block 0 (.loop [0,1,6,7] [] b115_0))) (.seq (.reg [oD 38 (.mv (.t 6)) 0,oD 4 (.mv (.t 38)) 1,oD 5 (.mv (.k (.i .i64 0))) 2] [] [4,5] []) .ret))))
def rv115 : List RVar := [.t 4, .t 5]
theorem fnr115 : FT Tryz.prog 115 39 ir115 rv115 := fnK Tryz.func115 (by decide +kernel)
def ir116 : IR := (.seq (.reg [oD 2 (.mv (.k (.sl 12 true []))) 0,oD 3 (.mv (.k (.i .i64 0))) 1] [] [0] []) (.seq (.seq (.reg [oD 5 (.mv (.t 0)) 0,oD 6 (.bin .lss (.t 5) (.k (.i .i64 0))) 1,oD 7 (.mv (.t 6)) 2,oF 8 (.mv (.t 0)) 7 3,oF 9 (.bin .geq (.t 8) (.k (.i .i64 8))) 7 4,oD 10 (.pick (.t 7) (.k (.b true)) (.t 9)) 5] [] [0,10] []) (.cond (.t 10) (.seq (.reg [oD 2 (.mv (.k (.sl 12 true []))) 0,oD 3 (.mv (.k (.i .i64 1))) 1] [] [2,3] []) .ret) .skip)) (.seq (.reg [oD 11 (.build [.i .i64 0,.i .i64 0,.i .i64 0,.i .i64 0,.i .i64 0,.i .i64 0,.i .i64 0,.i .i64 0] []) 0,oD 4 (.alloc [.i .i64 0,.i .i64 0,.i .i64 0,.i .i64 0,.i .i64 0,.i .i64 0,.i .i64 0,.i .i64 0]) 1,oN (.store 8 (.t 4) (.t 11)) 2] [] [0,4] [4]) (.seq (.reg [oD 12 (.mv (.t 0)) 0,oD 13 (.ixa 8 1 (.t 4) (.t 12)) 1,oN (.store 1 (.t 13) (.k (.i .i64 1))) 2] [] [4] [4]) (.seq (.reg [oD 14 (.call 23 [(.k (.i .i64 1))]) 0,oD 15 (.load 8 true (.t 4)) 1,oD 16 (.build [.b false,.sl 1 true [],.b false,.sl 1 true [],.i .i64 0,.i .i64 0,.i .i64 0,.i .i64 0,.i .i64 0,.i .i64 0,.i .i64 0,.i .i64 0] [(0,4,(.t 14)),(4,8,(.t 15))]) 2,oD 17 (.bsl 12 [(.t 16)]) 3,oD 2 (.mv (.t 17)) 4,oD 3 (.mv (.k (.i .i64 0))) 5] [] [2,3] []) .ret)))))
def rv116 : List RVar := [.t 2, .t 3]
theorem fnr116 : FT Tryz.prog 116 18 ir116 rv116 := fnK Tryz.func116 (by decide +kernel)
def ir11 : IR := (.seq (.reg [oD 3 (.box (.t 0)) 0,oD 4 (.box (.t 1)) 1,oD 6 (.mv (.k (.b false))) 2] [] [2,3,4] [3,4]) (.seq (.reg [oD 29 (.call 13 []) 0,oD 7 (.mv (.t 29)) 1] [] [2,3,4,7] [3,4]) (.seq (.seq (.reg [oD 30 (.mv (.t 7)) 0,oD 31 (.un .not (.t 30)) 1] [] [2,3,4,7,31] [3,4]) (.cond (.t 31) (.seq (.reg [oD 6 (.mv (.k (.b false))) 0] [] [6] []) .ret) .skip)) (.seq (.reg [oD 32 (.load 1 true (.t 3)) 0,oD 33 (.call 16 [(.t 32)]) 1,oD 8 (.mv (.t 33)) 2] [] [2,3,4,7,8] [3,4]) (.seq (.reg [oD 34 (.ixa 2 1 (.t 4) (.k (.i .i64 0))) 0,oD 35 (.load 1 false (.t 34)) 1,oD 36 (.bin .rem (.t 35) (.k (.i .u8 8))) 2,oD 37 (.conv .i64 (.t 36)) 3,oD 38 (.bin .sub (.k (.i .i64 65535)) (.t 37)) 4,oD 39 (.ixa 2 1 (.t 4) (.k (.i .i64 1))) 5,oD 40 (.load 1 false (.t 39)) 6,oD 41 (.bin .rem (.t 40) (.k (.i .u8 8))) 7,oD 42 (.conv .i64 (.t 41)) 8,oD 43 (.bin .sub (.k (.i .i64 65535)) (.t 42)) 9,oD 44 (.build [.i .i64 0,.i .i64 0,.i .i64 0,.i .i64 0,.i .i64 0,.i .i64 0,.i .i64 0,.i .i64 0] [(0,1,(.t 38)),(1,1,(.k (.i .i64 0))),(2,1,(.k (.i .i64 0))),(3,1,(.t 43))]) 10,oD 9 (.alloc [.i .i64 0,.i .i64 0,.i .i64 0,.i .i64 0,.i .i64 0,.i .i64 0,.i .i64 0,.i .i64 0]) 11,oN (.store 8 (.t 9) (.t 44)) 12] [] [2,3,7,8,9] [3,9]) (.seq (.reg [oD 45 (.call 23 [(.k (.i .i64 1))]) 0,oD 10 (.alloc [.b false,.sl 1 true [],.b false,.sl 1 true []]) 1,oN (.store 4 (.t 10) (.t 45)) 2] [] [2,3,7,8,9,10] [3,9,10]) (.seq (.reg [oD 47 (.load 4 true (.t 10)) 0,oD 48 (.load 8 true (.t 9)) 1,oD 49 (.mv (.t 8)) 2,oD 50 (.call 42 [(.t 47),(.t 48),(.t 49)]) 3,oD 46 (.mv (.t 50)) 4,oD 51 (.ext 0 (.t 46)) 5,oD 52 (.ext 1 (.t 46)) 6,oD 11 (.mv (.t 51)) 7,oD 12 (.mv (.t 52)) 8] [] [2,3,7,8,9,10,11,12] [3,9,10]) (.seq (.reg [oD 54 (.load 4 true (.t 10)) 0,oD 55 (.load 8 true (.t 9)) 1,oD 56 (.mv (.t 8)) 2,oD 57 (.call 52 [(.t 54),(.t 55),(.t 56)]) 3,oD 53 (.mv (.t 57)) 4,oD 58 (.ext 0 (.t 53)) 5,oD 59 (.ext 1 (.t 53)) 6,oD 13 (.mv (.t 58)) 7,oD 14 (.mv (.t 59)) 8] [] [2,3,7,8,9,10,11,12,13,14] [3,9,10]) (.seq (.reg [oD 60 (.load 4 true (.t 10)) 0,oD 61 (.load 8 true (.t 9)) 1,oD 62 (.build [.b false,.sl 1 true [],.b false,.sl 1 true [],.i .i64 0,.i .i64 0,.i .i64 0,.i .i64 0,.i .i64 0,.i .i64 0,.i .i64 0,.i .i64 0] [(0,4,(.t 60)),(4,8,(.t 61))]) 2,oD 63 (.bsl 12 [(.t 62)]) 3,oD 15 (.mv (.t 63)) 4] [] [2,3,7,8,10,11,12,13,14,15] [3,10]) (.seq (.reg [oD 65 (.mv (.t 8)) 0,oD 66 (.mv (.t 15)) 1,oD 67 (.call 18 [(.t 65),(.t 66)]) 2,oD 64 (.mv (.t 67)) 3,oD 68 (.ext 0 (.t 64)) 4,oD 69 (.ext 1 (.t 64)) 5,oD 16 (.mv (.t 68)) 6,oD 17 (.mv (.t 69)) 7] [] [2,3,7,10,11,12,13,14,15,16,17] [3,10]) (.seq (.reg [oD 70 (.load 1 true (.t 3)) 0,oD 71 (.call 33 [(.t 70),(.k (.i .i64 1)),(.k (.i .i64 1)),(.k (.i .i64 2))]) 1,oD 18 (.mv (.t 71)) 2] [] [2,7,10,11,12,13,14,15,16,17,18] [10]) (.seq (.reg [oD 73 (.mv (.t 18)) 0,oD 74 (.mv (.t 2)) 1,oD 75 (.call 53 [(.t 73),(.t 74)]) 2,oD 72 (.mv (.t 75)) 3,oD 76 (.ext 0 (.t 72)) 4,oD 77 (.ext 1 (.t 72)) 5,oD 19 (.mv (.t 76)) 6,oD 20 (.mv (.t 77)) 7] [] [2,7,10,11,12,13,14,15,16,17,18,19,20] [10]) (.seq (.reg [oD 79 (.mv (.t 18)) 0,oD 80 (.mv (.t 2)) 1,oD 81 (.call 54 [(.t 79),(.t 80)]) 2,oD 78 (.mv (.t 81)) 3,oD 82 (.ext 0 (.t 78)) 4,oD 83 (.ext 1 (.t 78)) 5,oD 21 (.mv (.t 82)) 6,oD 22 (.mv (.t 83)) 7] [] [2,7,10,11,12,13,14,15,16,17,19,20,21,22] [10]) (.seq (.seq (.reg [oD 84 (.mv (.t 12)) 0,oD 85 (.mv (.t 14)) 1,oD 86 (.bin .neq (.t 84) (.t 85)) 2,oD 87 (.mv (.t 86)) 3,oF 88 (.mv (.t 11)) 87 4,oF 89 (.mv (.t 13)) 87 5,oF 90 (.call 19 [(.t 88),(.t 89)]) 87 6,oF 91 (.un .not (.t 90)) 87 7,oD 92 (.pick (.t 87) (.k (.b true)) (.t 91)) 8,oD 93 (.mv (.t 92)) 9,oF 94 (.mv (.t 17)) 93 10,oF 95 (.mv (.t 14)) 93 11,oF 96 (.bin .neq (.t 94) (.t 95)) 93 12,oD 97 (.pick (.t 93) (.k (.b true)) (.t 96)) 13,oD 98 (.mv (.t 97)) 14,oF 99 (.mv (.t 16)) 98 15,oF 100 (.mv (.t 13)) 98 16,oF 101 (.call 19 [(.t 99),(.t 100)]) 98 17,oF 102 (.un .not (.t 101)) 98 18,oD 103 (.pick (.t 98) (.k (.b true)) (.t 102)) 19,oD 104 (.mv (.t 103)) 20,oF 105 (.mv (.t 20)) 104 21,oF 106 (.mv (.t 22)) 104 22,oF 107 (.bin .neq (.t 105) (.t 106)) 104 23,oD 108 (.pick (.t 104) (.k (.b true)) (.t 107)) 24,oD 109 (.mv (.t 108)) 25,oF 110 (.mv (.t 19)) 109 26,oF 111 (.mv (.t 21)) 109 27,oF 112 (.call 19 [(.t 110),(.t 111)]) 109 28,oF 113 (.un .not (.t 112)) 109 29,oD 114 (.pick (.t 109) (.k (.b true)) (.t 113)) 30,oD 115 (.mv (.t 114)) 31,oF 116 (.mv (.t 20)) 115 32,oF 117 (.bin .eql (.t 116) (.k (.i .i64 1))) 115 33,oF 118 (.mv (.t 2)) 115 34,oF 119 (.bin .lss (.t 118) (.k (.i .i64 0))) 115 35,oF 120 (.mv (.t 119)) 115 36,oF 121 (.mv (.t 2)) 120 37,oF 122 (.bin .gtr (.t 121) (.k (.i .i64 64))) 120 38,oF 123 (.pick (.t 120) (.k (.b true)) (.t 122)) 115 39,oF 124 (.eqb true (.t 117) (.t 123)) 115 40,oD 125 (.pick (.t 115) (.k (.b true)) (.t 124)) 41] [] [7,10,15,125] [10]) (.cond (.t 125) (.seq (.reg [oD 6 (.mv (.k (.b false))) 0] [] [6] []) .ret) .skip)) (.seq (.reg [oD 127 (.mv (.t 15)) 0,oD 128 (.call 53 [(.t 127),(.k (.i .i64 2))]) 1,oD 126 (.mv (.t 128)) 2,oD 129 (.ext 0 (.t 126)) 3,oD 130 (.ext 1 (.t 126)) 4,oD 23 (.mv (.t 129)) 5,oD 24 (.mv (.t 130)) 6] [] [7,10,23,24] [10]) (.seq (.reg [oD 132 (.load 4 true (.t 10)) 0,oD 133 (.build [.i .i64 0,.i .i64 0,.i .i64 0,.i .i64 0,.i .i64 0,.i .i64 0,.i .i64 0,.i .i64 0] [(0,1,(.k (.i .i64 65)))]) 1,oD 134 (.build [.b false,.sl 1 true [],.b false,.sl 1 true [],.i .i64 0,.i .i64 0,.i .i64 0,.i .i64 0,.i .i64 0,.i .i64 0,.i .i64 0,.i .i64 0] [(0,4,(.t 132)),(4,8,(.t 133))]) 2,oD 135 (.bsl 12 [(.t 134)]) 3,oD 136 (.call 44 [(.k (.sl 1 true []))]) 4,oD 137 (.call 45 [(.t 135),(.t 136)]) 5,oD 131 (.mv (.t 137)) 6,oD 138 (.ext 0 (.t 131)) 7,oD 139 (.ext 1 (.t 131)) 8,oD 25 (.mv (.t 138)) 9,oD 26 (.mv (.t 139)) 10] [] [7,10,23,24,26] [10]) (.seq (.reg [oD 141 (.load 4 true (.t 10)) 0,oD 142 (.build [.i .i64 0,.i .i64 0,.i .i64 0,.i .i64 0,.i .i64 0,.i .i64 0,.i .i64 0,.i .i64 0] [(0,1,(.k (.i .i64 64)))]) 1,oD 143 (.build [.b false,.sl 1 true [],.b false,.sl 1 true [],.i .i64 0,.i .i64 0,.i .i64 0,.i .i64 0,.i .i64 0,.i .i64 0,.i .i64 0,.i .i64 0] [(0,4,(.t 141)),(4,8,(.t 142))]) 2,oD 144 (.bsl 12 [(.t 143)]) 3,oD 145 (.call 44 [(.k (.sl 1 true []))]) 4,oD 146 (.call 45 [(.t 144),(.t 145)]) 5,oD 140 (.mv (.t 146)) 6,oD 147 (.ext 0 (.t 140)) 7,oD 148 (.ext 1 (.t 140)) 8,oD 27 (.mv (.t 147)) 9,oD 28 (.mv (.t 148)) 10] [] [7,23,24,26,28] []) (.seq (.reg [oD 149 (.mv (.t 24)) 0,oD 150 (.bin .eql (.t 149) (.k (.i .i64 2))) 1,oD 151 (.mv (.t 150)) 2,oT 152 (.mv (.t 23)) 151 3,oT 153 (.len (.t 152)) 151 4,oT 154 (.bin .eql (.t 153) (.k (.i .i64 0))) 151 5,oD 155 (.pick (.t 151) (.t 154) (.k (.b false))) 6,oD 156 (.mv (.t 155)) 7,oT 157 (.mv (.t 26)) 156 8,oT 158 (.bin .eql (.t 157) (.k (.i .i64 2))) 156 9,oD 159 (.pick (.t 156) (.t 158) (.k (.b false))) 10,oD 160 (.mv (.t 159)) 11,oT 161 (.mv (.t 28)) 160 12,oT 162 (.bin .eql (.t 161) (.k (.i .i64 0))) 160 13,oD 163 (.pick (.t 160) (.t 162) (.k (.b false))) 14,oD 164 (.mv (.t 163)) 15,oT 165 (.mv (.t 7)) 164 16,oD 166 (.pick (.t 164) (.t 165) (.k (.b false))) 17,oD 6 (.mv (.t 166)) 18] [] [6] []) .ret))))))))))))))))))
def rv11 : List RVar := [.t 6]
theorem fnr11 : FT Tryz.prog 11 167 ir11 rv11 := fnK Tryz.func11 (by decide +kernel)
def ir16 : IR := (.seq (.reg [oD 1 (.box (.t 0)) 0,oD 2 (.mv (.k (.sl 12 true []))) 1] [] [1] [1]) (.seq (.reg [oD 3 (.load 1 true (.t 1)) 0,oD 4 (.call 33 [(.t 3),(.k (.i .i64 4)),(.k (.i .i64 5)),(.k (.i .i64 6))]) 1,oD 2 (.mv (.t 4)) 2] [] [2] []) .ret))
def rv16 : List RVar := [.t 2]
theorem fnr16 : FT Tryz.prog 16 5 ir16 rv16 := fnK Tryz.func16 (by decide +kernel)
def b44_0 : IR := (.seq (.seq (.reg [oD 6 (.mv (.t 4)) 0,oD 7 (.bin .lss (.t 6) (.k (.i .i64 8))) 1] [] [0,2,3,4,7] [2,3]) (.cond (.t 7) .skip (.exit 0))) (.seq (.block 1 (.seq (.reg [oD 10 (.mv (.t 4)) 0,oD 11 (.mv (.t 4)) 1,oD 12 (.call 49 [(.t 11)]) 2,oD 13 (.ixa 8 1 (.t 3) (.t 10)) 3,oN (.store 1 (.t 13) (.t 12)) 4] [] [0,2,3,4] [2,3]) (.seq (.reg [oD 14 (.mv (.t 4)) 0,oD 15 (.mv (.t 0)) 1,oD 16 (.len (.t 15)) 2,oD 17 (.bin .lss (.t 14) (.t 16)) 3,oD 18 (.mv (.t 17)) 4,oT 19 (.mv (.t 4)) 18 5,oT 20 (.bin .lss (.t 19) (.k (.i .i64 4))) 18 6,oD 21 (.pick (.t 18) (.t 20) (.k (.b false))) 7] [] [0,2,3,4,21] [2,3]) (.cond (.t 21) (.reg [oD 22 (.mv (.t 4)) 0,oD 23 (.mv (.t 0)) 1,oD 24 (.mv (.t 4)) 2,oD 25 (.ixs 1 (.t 23) (.t 24)) 3,oD 26 (.load 1 true (.t 25)) 4,oD 27 (.call 33 [(.t 26),(.k (.i .i64 3)),(.k (.i .i64 2)),(.k (.i .i64 3))]) 5,oD 28 (.ixa 8 1 (.t 3) (.t 22)) 6,oN (.store 1 (.t 28) (.t 27)) 7] [] [0,2,3,4] [2,3]) .skip)))) (.reg [oD 8 (.mv (.t 4)) 0,oD 9 (.bin .add (.t 8) (.k (.i .i64 1))) 1,oD 4 (.mv (.t 9)) 2] [] [0,2,3,4] [2,3])))
theorem wb44_0 : type_of% (@wbEq _ _ b44_0.eq_1) := @wbEq _ _ b44_0.eq_1
def ir44 : IR := (.seq (.reg [oD 2 (.alloc [.sl 12 true [],.sl 12 true [],.sl 12 true [],.sl 12 true [],.sl 12 true [],.sl 12 true [],.sl 12 true [],.sl 12 true []]) 0] [] [0,2] [2]) (.seq (.reg [oD 5 (.build [.sl 12 true [],.sl 12 true [],.sl 12 true [],.sl 12 true [],.sl 12 true [],.sl 12 true [],.sl 12 true [],.sl 12 true []] []) 0,oD 3 (.alloc [.sl 12 true [],.sl 12 true [],.sl 12 true [],.sl 12 true [],.sl 12 true [],.sl 12 true [],.sl 12 true [],.sl 12 true []]) 1,oN (.store 8 (.t 3) (.t 5)) 2] [] [0,2,3] [2,3]) (.seq (.seq (.reg [oD 4 (.mv (.k (.i .i64 0))) 0] [] [0,2,3,4] [2,3]) (.block 0 (.loop [0,2,3,4] [2,3] b44_0))) (.seq (.reg [oD 29 (.load 8 true (.t 3)) 0,oN (.store 8 (.t 2) (.t 29)) 1] [] [2] [2]) .ret))))
def rv44 : List RVar := [.c 2 8 true]
theorem fnr44 : FT Tryz.prog 44 30 ir44 rv44 := fnK Tryz.func44 (by decide +kernel)
def ir78 : IR := (.seq (.reg [oD 2 (.box (.t 0)) 0,oD 3 (.box (.t 1)) 1,oD 4 (.mv (.k (.b false))) 2] [] [2,3] [2,3]) (.seq (.reg [oD 5 (.fld 4 (.t 2)) 0,oD 6 (.load 8 true (.t 5)) 1,oD 7 (.fld 4 (.t 3)) 2,oD 8 (.load 8 true (.t 7)) 3,oD 9 (.eqa false 8 (.t 6) (.t 8)) 4,oD 10 (.mv (.t 9)) 5,oT 11 (.fld 0 (.t 2)) 10 6,oT 12 (.load 4 true (.t 11)) 10 7,oT 13 (.fld 0 (.t 3)) 10 8,oT 14 (.load 4 true (.t 13)) 10 9,oT 15 (.call 29 [(.t 12),(.t 14)]) 10 10,oD 16 (.pick (.t 10) (.t 15) (.k (.b false))) 11,oD 4 (.mv (.t 16)) 12] [] [4] []) .ret))
def rv78 : List RVar := [.t 4]
theorem fnr78 : FT Tryz.prog 78 17 ir78 rv78 := fnK Tryz.func78 (by decide +kernel)
def ir133 : IR := (.seq (.reg [oD 5 (.mv (.t 0)) 0,oD 6 (.len (.t 5)) 1,oD 4 (.mv (.t 6)) 2] [] [0,1,4] []) (.reg [oD 7 (.mv (.t 0)) 0,oD 8 (.mv (.t 4)) 1,oD 9 (.mv (.t 4)) 2,oD 10 (.conv .u64 (.t 9)) 3,oD 11 (.call 162 [(.t 10)]) 4,oD 12 (.mv (.t 1)) 5,oD 13 (.callR 161 [(.t 7),(.k (.i .i64 0)),(.t 8),(.t 11),(.t 12)]) 6] [] [] []))
def rv133 : List RVar := []
theorem fnr133 : FT Tryz.prog 133 14 ir133 rv133 := fnK Tryz.func133 (by decide +kernel)
def ir162 : IR := (.seq (.reg [oD 2 (.mv (.k (.i .i64 0))) 0] [] [0] []) (.seq (.cond (.k (.b false)) (.seq (.reg [oD 3 (.mv (.t 0)) 0,oD 4 (.conv .u32 (.t 3)) 1,oD 5 (.call 189 [(.t 4)]) 2,oD 2 (.mv (.t 5)) 3] [] [2] []) .ret) .skip) (.seq (.reg [oD 6 (.mv (.t 0)) 0,oD 7 (.call 190 [(.t 6)]) 1,oD 2 (.mv (.t 7)) 2] [] [2] []) .ret)))
def rv162 : List RVar := [.t 2]
theorem fnr162 : FT Tryz.prog 162 8 ir162 rv162 := fnK Tryz.func162 (by decide +kernel)
def b181_0 : IR := (.seq (.seq (.reg [oD 18 (.mv (.t 9)) 0,oD 19 (.mv (.t 1)) 1,oD 20 (.bin .gtr (.t 18) (.t 19)) 2,oD 21 (.mv (.t 20)) 3,oT 22 (.mv (.t 3)) 21 4,oT 23 (.mv (.t 0)) 21 5,oT 24 (.mv (.t 9)) 21 6,oT 25 (.ixs 12 (.t 23) (.t 24)) 21 7,oT 26 (.load 12 true (.t 25)) 21 8,oT 27 (.mv (.t 0)) 21 9,oT 28 (.mv (.t 9)) 21 10,oT 29 (.bin .sub (.t 28) (.k (.i .i64 1))) 21 11,oT 30 (.ixs 12 (.t 27) (.t 29)) 21 12,oT 31 (.load 12 true (.t 30)) 21 13,oT 32 (.callv (.t 22) [(.t 26),(.t 31)]) 21 14,oT 33 (.bin .lss (.t 32) (.k (.i .i64 0))) 21 15,oD 34 (.pick (.t 21) (.t 33) (.k (.b false))) 16] [] [0,1,2,3,8,9,34] []) (.cond (.t 34) .skip (.exit 2))) (.seq (.block 3 (.reg [oD 37 (.mv (.t 0)) 0,oD 38 (.mv (.t 9)) 1,oD 39 (.mv (.t 0)) 2,oD 40 (.mv (.t 9)) 3,oD 41 (.bin .sub (.t 40) (.k (.i .i64 1))) 4,oD 42 (.mv (.t 0)) 5,oD 43 (.mv (.t 9)) 6,oD 44 (.bin .sub (.t 43) (.k (.i .i64 1))) 7,oD 45 (.ixs 12 (.t 42) (.t 44)) 8,oD 46 (.load 12 true (.t 45)) 9,oD 47 (.mv (.t 0)) 10,oD 48 (.mv (.t 9)) 11,oD 49 (.ixs 12 (.t 47) (.t 48)) 12,oD 50 (.load 12 true (.t 49)) 13,oD 51 (.ixs 12 (.t 37) (.t 38)) 14,oN (.store 12 (.t 51) (.t 46)) 15,oD 52 (.ixs 12 (.t 39) (.t 41)) 16,oN (.store 12 (.t 52) (.t 50)) 17] [] [0,1,2,3,8,9] [])) (.reg [oD 35 (.mv (.t 9)) 0,oD 36 (.bin .sub (.t 35) (.k (.i .i64 1))) 1,oD 9 (.mv (.t 36)) 2] [] [0,1,2,3,8,9] [])))
def b181_1 : IR := (.seq (.seq (.reg [oD 12 (.mv (.t 8)) 0,oD 13 (.mv (.t 2)) 1,oD 14 (.bin .lss (.t 12) (.t 13)) 2] [] [0,1,2,3,8,14] []) (.cond (.t 14) .skip (.exit 0))) (.seq (.block 1 (.seq (.reg [oD 17 (.mv (.t 8)) 0,oD 9 (.mv (.t 17)) 1] [] [0,1,2,3,8,9] []) (.block 2 (.loop [0,1,2,3,8,9] [] b181_0)))) (.reg [oD 15 (.mv (.t 8)) 0,oD 16 (.bin .add (.t 15) (.k (.i .i64 1))) 1,oD 8 (.mv (.t 16)) 2] [] [0,1,2,3,8] [])))
theorem wb181_1 : type_of% (@wbEq _ _ b181_1.eq_1) := @wbEq _ _ b181_1.eq_1
def ir181 : IR := (.seq (.reg [oD 10 (.mv (.t 1)) 0,oD 11 (.bin .add (.t 10) (.k (.i .i64 1))) 1,oD 8 (.mv (.t 11)) 2] [] [0,1,2,3,8] []) (.block 0 (.loop [0,1,2,3,8] [] b181_1)))
def rv181 : List RVar := []
theorem fnr181 : FT Tryz.prog 181 53 ir181 rv181 := fnK Tryz.func181 (by decide +kernel)
def tb190 : List Nat := [0, 1, 2, 2, 3, 3, 3, 3, 4, 4, 4, 4, 4, 4, 4, 4, 5, 5, 5, 5, 5, 5, 5, 5, 5, 5, 5, 5, 5, 5, 5, 5, 6, 6, 6, 6, 6, 6, 6, 6, 6, 6, 6, 6, 6, 6, 6, 6, 6, 6, 6, 6, 6, 6, 6, 6, 6, 6, 6, 6, 6, 6, 6, 6, 7, 7, 7, 7, 7, 7, 7, 7, 7, 7, 7, 7, 7, 7, 7, 7, 7, 7, 7, 7, 7, 7, 7, 7, 7, 7, 7, 7, 7, 7, 7, 7, 7, 7, 7, 7, 7, 7, 7, 7, 7, 7, 7, 7, 7, 7, 7, 7, 7, 7, 7, 7, 7, 7, 7, 7, 7, 7, 7, 7, 7, 7, 7, 7, 8, 8, 8, 8, 8, 8, 8, 8, 8, 8, 8, 8, 8, 8, 8, 8, 8, 8, 8, 8, 8, 8, 8, 8, 8, 8, 8, 8, 8, 8, 8, 8, 8, 8, 8, 8, 8, 8, 8, 8, 8, 8, 8, 8, 8, 8, 8, 8, 8, 8, 8, 8, 8, 8, 8, 8, 8, 8, 8, 8, 8, 8, 8, 8, 8, 8, 8, 8, 8, 8, 8, 8, 8, 8, 8, 8, 8, 8, 8, 8, 8, 8, 8, 8, 8, 8, 8, 8, 8, 8, 8, 8, 8, 8, 8, 8, 8, 8, 8, 8, 8, 8, 8, 8, 8, 8, 8, 8, 8, 8, 8, 8, 8, 8, 8, 8, 8, 8, 8, 8, 8, 8, 8, 8, 8, 8, 8, 8]
def ir190 : IR := (.seq (.reg [oD 2 (.mv (.k (.i .i64 0))) 0] [] [0,2] []) (.seq (.seq (.reg [oD 3 (.mv (.t 0)) 0,oD 4 (.bin .geq (.t 3) (.k (.i .u64 4294967296))) 1] [] [0,2,4] []) (.cond (.t 4) (.seq (.reg [oD 5 (.mv (.t 0)) 0,oD 6 (.bin .shr (.t 5) (.k (.i .u64 32))) 1,oD 0 (.mv (.t 6)) 2] [] [0] []) (.reg [oD 2 (.mv (.k (.i .i64 32))) 0] [] [0,2] [])) .skip)) (.seq (.seq (.reg [oD 7 (.mv (.t 0)) 0,oD 8 (.bin .geq (.t 7) (.k (.i .u64 65536))) 1] [] [0,2,8] []) (.cond (.t 8) (.seq (.reg [oD 9 (.mv (.t 0)) 0,oD 10 (.bin .shr (.t 9) (.k (.i .u64 16))) 1,oD 0 (.mv (.t 10)) 2] [] [0,2] []) (.reg [oD 11 (.mv (.t 2)) 0,oD 12 (.bin .add (.t 11) (.k (.i .i64 16))) 1,oD 2 (.mv (.t 12)) 2] [] [0,2] [])) .skip)) (.seq (.seq (.reg [oD 13 (.mv (.t 0)) 0,oD 14 (.bin .geq (.t 13) (.k (.i .u64 256))) 1] [] [0,2,14] []) (.cond (.t 14) (.seq (.reg [oD 15 (.mv (.t 0)) 0,oD 16 (.bin .shr (.t 15) (.k (.i .u64 8))) 1,oD 0 (.mv (.t 16)) 2] [] [0,2] []) (.reg [oD 17 (.mv (.t 2)) 0,oD 18 (.bin .add (.t 17) (.k (.i .i64 8))) 1,oD 2 (.mv (.t 18)) 2] [] [0,2] [])) .skip)) (.seq (.reg [oD 19 (.mv (.t 2)) 0,oD 20 (.mv (.t 0)) 1,oD 21 (.conv .u8 (.t 20)) 2,oD 22 (.tab tb190 (.t 21)) 3,oD 23 (.conv .i64 (.t 22)) 4,oD 24 (.bin .add (.t 19) (.t 23)) 5,oD 2 (.mv (.t 24)) 6] [] [2] []) .ret)))))
def rv190 : List RVar := [.t 2]
theorem fnr190 : FT Tryz.prog 190 25 ir190 rv190 := fnK Tryz.func190 (by decide +kernel)
def b161_0 : IR := (.block 1 (.seq (.reg [oD 21 (.mv (.t 2)) 0,oD 22 (.mv (.t 1)) 1,oD 23 (.bin .sub (.t 21) (.t 22)) 2,oD 12 (.mv (.t 23)) 3] [] [0,1,2,3,4,10,11,12] []) (.seq (.seq (.reg [oD 24 (.mv (.t 12)) 0,oD 25 (.bin .leq (.t 24) (.k (.i .i64 12))) 1] [] [0,1,2,3,4,10,11,12,25] []) (.cond (.t 25) (.seq (.reg [oD 26 (.mv (.t 0)) 0,oD 27 (.mv (.t 1)) 1,oD 28 (.mv (.t 2)) 2,oD 29 (.mv (.t 4)) 3,oD 30 (.callR 181 [(.t 26),(.t 27),(.t 28),(.t 29)]) 4] [] [] []) .ret) .skip)) (.seq (.seq (.reg [oD 31 (.mv (.t 3)) 0,oD 32 (.bin .eql (.t 31) (.k (.i .i64 0))) 1] [] [0,1,2,3,4,10,11,12,32] []) (.cond (.t 32) (.seq (.reg [oD 33 (.mv (.t 0)) 0,oD 34 (.mv (.t 1)) 1,oD 35 (.mv (.t 2)) 2,oD 36 (.mv (.t 4)) 3,oD 37 (.callR 182 [(.t 33),(.t 34),(.t 35),(.t 36)]) 4] [] [] []) .ret) .skip)) (.seq (.seq (.reg [oD 38 (.mv (.t 10)) 0,oD 39 (.un .not (.t 38)) 1] [] [0,1,2,3,4,10,11,12,39] []) (.cond (.t 39) (.seq (.reg [oD 40 (.mv (.t 0)) 0,oD 41 (.mv (.t 1)) 1,oD 42 (.mv (.t 2)) 2,oD 43 (.mv (.t 4)) 3,oD 44 (.callR 183 [(.t 40),(.t 41),(.t 42),(.t 43)]) 4] [] [0,1,2,3,4,10,11,12] []) (.reg [oD 45 (.mv (.t 3)) 0,oD 46 (.bin .sub (.t 45) (.k (.i .i64 1))) 1,oD 3 (.mv (.t 46)) 2] [] [0,1,2,3,4,10,11,12] [])) .skip)) (.seq (.reg [oD 48 (.mv (.t 0)) 0,oD 49 (.mv (.t 1)) 1,oD 50 (.mv (.t 2)) 2,oD 51 (.mv (.t 4)) 3,oD 52 (.callR 184 [(.t 48),(.t 49),(.t 50),(.t 51)]) 4,oD 47 (.mv (.t 52)) 5,oD 53 (.ext 0 (.t 47)) 6,oD 54 (.ext 1 (.t 47)) 7,oD 13 (.mv (.t 53)) 8,oD 14 (.mv (.t 54)) 9] [] [0,1,2,3,4,10,11,12,13,14] []) (.seq (.seq (.reg [oD 55 (.mv (.t 14)) 0,oD 56 (.bin .eql (.t 55) (.k (.i .i64 2))) 1] [] [0,1,2,3,4,10,11,12,13,14,56] []) (.cond (.t 56) (.seq (.reg [oD 57 (.mv (.t 0)) 0,oD 58 (.mv (.t 1)) 1,oD 59 (.mv (.t 2)) 2,oD 60 (.mv (.t 4)) 3,oD 61 (.callR 185 [(.t 57),(.t 58),(.t 59),(.t 60)]) 4] [] [0,1,2,3,4,10,11,12,13] []) (.seq (.reg [oD 62 (.mv (.t 2)) 0,oD 63 (.bin .sub (.t 62) (.k (.i .i64 1))) 1,oD 64 (.mv (.t 13)) 2,oD 65 (.mv (.t 1)) 3,oD 66 (.bin .sub (.t 64) (.t 65)) 4,oD 67 (.bin .sub (.t 63) (.t 66)) 5,oD 13 (.mv (.t 67)) 6] [] [0,1,2,3,4,10,11,12,13] []) (.reg [oD 14 (.mv (.k (.i .i64 1))) 0] [] [0,1,2,3,4,10,11,12,13,14] []))) .skip)) (.seq (.seq (.reg [oD 68 (.mv (.t 10)) 0,oD 69 (.mv (.t 68)) 1,oT 70 (.mv (.t 11)) 69 2,oD 71 (.pick (.t 69) (.t 70) (.k (.b false))) 3,oD 72 (.mv (.t 71)) 4,oT 73 (.mv (.t 14)) 72 5,oT 74 (.bin .eql (.t 73) (.k (.i .i64 1))) 72 6,oD 75 (.pick (.t 72) (.t 74) (.k (.b false))) 7] [] [0,1,2,3,4,10,11,12,13,75] []) (.cond (.t 75) (.seq (.reg [oD 76 (.mv (.t 0)) 0,oD 77 (.mv (.t 1)) 1,oD 78 (.mv (.t 2)) 2,oD 79 (.mv (.t 4)) 3,oD 80 (.callR 186 [(.t 76),(.t 77),(.t 78),(.t 79)]) 4] [] [0,1,2,3,4,10,11,12,13,80] []) (.cond (.t 80) .ret .skip)) .skip)) (.seq (.seq (.reg [oD 81 (.mv (.t 1)) 0,oD 82 (.bin .gtr (.t 81) (.k (.i .i64 0))) 1,oD 83 (.mv (.t 82)) 2,oT 84 (.mv (.t 4)) 83 3,oT 85 (.mv (.t 0)) 83 4,oT 86 (.mv (.t 1)) 83 5,oT 87 (.bin .sub (.t 86) (.k (.i .i64 1))) 83 6,oT 88 (.ixs 12 (.t 85) (.t 87)) 83 7,oT 89 (.load 12 true (.t 88)) 83 8,oT 90 (.mv (.t 0)) 83 9,oT 91 (.mv (.t 13)) 83 10,oT 92 (.ixs 12 (.t 90) (.t 91)) 83 11,oT 93 (.load 12 true (.t 92)) 83 12,oT 94 (.callv (.t 84) [(.t 89),(.t 93)]) 83 13,oT 95 (.bin .lss (.t 94) (.k (.i .i64 0))) 83 14,oT 96 (.un .not (.t 95)) 83 15,oD 97 (.pick (.t 83) (.t 96) (.k (.b false))) 16] [] [0,1,2,3,4,10,11,12,13,97] []) (.cond (.t 97) (.seq (.reg [oD 98 (.mv (.t 0)) 0,oD 99 (.mv (.t 1)) 1,oD 100 (.mv (.t 2)) 2,oD 101 (.mv (.t 13)) 3,oD 102 (.mv (.t 4)) 4,oD 103 (.callR 187 [(.t 98),(.t 99),(.t 100),(.t 101),(.t 102)]) 5,oD 15 (.mv (.t 103)) 6] [] [0,2,3,4,10,11,15] []) (.seq (.reg [oD 104 (.mv (.t 15)) 0,oD 1 (.mv (.t 104)) 1] [] [0,1,2,3,4,10,11] []) (.exit 1))) .skip)) (.seq (.reg [oD 106 (.mv (.t 0)) 0,oD 107 (.mv (.t 1)) 1,oD 108 (.mv (.t 2)) 2,oD 109 (.mv (.t 13)) 3,oD 110 (.mv (.t 4)) 4,oD 111 (.callR 188 [(.t 106),(.t 107),(.t 108),(.t 109),(.t 110)]) 5,oD 105 (.mv (.t 111)) 6,oD 112 (.ext 0 (.t 105)) 7,oD 113 (.ext 1 (.t 105)) 8,oD 16 (.mv (.t 112)) 9,oD 17 (.mv (.t 113)) 10] [] [0,1,2,3,4,12,16,17] []) (.seq (.reg [oD 114 (.mv (.t 17)) 0,oD 11 (.mv (.t 114)) 1] [] [0,1,2,3,4,11,12,16] []) (.seq (.reg [oD 115 (.mv (.t 16)) 0,oD 116 (.mv (.t 1)) 1,oD 117 (.bin .sub (.t 115) (.t 116)) 2,oD 118 (.mv (.t 2)) 3,oD 119 (.mv (.t 16)) 4,oD 120 (.bin .sub (.t 118) (.t 119)) 5,oD 18 (.mv (.t 117)) 6,oD 19 (.mv (.t 120)) 7] [] [0,1,2,3,4,11,12,16,18,19] []) (.seq (.reg [oD 121 (.mv (.t 12)) 0,oD 122 (.bin .quo (.t 121) (.k (.i .i64 8))) 1,oD 20 (.mv (.t 122)) 2] [] [0,1,2,3,4,11,16,18,19,20] []) (.seq (.reg [oD 123 (.mv (.t 18)) 0,oD 124 (.mv (.t 19)) 1,oD 125 (.bin .lss (.t 123) (.t 124)) 2] [] [0,1,2,3,4,11,16,18,19,20,125] []) (.cond (.t 125) (.seq (.reg [oD 126 (.mv (.t 18)) 0,oD 127 (.mv (.t 20)) 1,oD 128 (.bin .geq (.t 126) (.t 127)) 2,oD 10 (.mv (.t 128)) 3] [] [0,1,2,3,4,10,11,16] []) (.seq (.reg [oD 129 (.mv (.t 0)) 0,oD 130 (.mv (.t 1)) 1,oD 131 (.mv (.t 16)) 2,oD 132 (.mv (.t 3)) 3,oD 133 (.mv (.t 4)) 4,oD 134 (.callR 161 [(.t 129),(.t 130),(.t 131),(.t 132),(.t 133)]) 5] [] [0,2,3,4,10,11,16] []) (.reg [oD 135 (.mv (.t 16)) 0,oD 136 (.bin .add (.t 135) (.k (.i .i64 1))) 1,oD 1 (.mv (.t 136)) 2] [] [0,1,2,3,4,10,11] []))) (.seq (.reg [oD 137 (.mv (.t 19)) 0,oD 138 (.mv (.t 20)) 1,oD 139 (.bin .geq (.t 137) (.t 138)) 2,oD 10 (.mv (.t 139)) 3] [] [0,1,2,3,4,10,11,16] []) (.seq (.reg [oD 140 (.mv (.t 0)) 0,oD 141 (.mv (.t 16)) 1,oD 142 (.bin .add (.t 141) (.k (.i .i64 1))) 2,oD 143 (.mv (.t 2)) 3,oD 144 (.mv (.t 3)) 4,oD 145 (.mv (.t 4)) 5,oD 146 (.callR 161 [(.t 140),(.t 142),(.t 143),(.t 144),(.t 145)]) 6] [] [0,1,3,4,10,11,16] []) (.reg [oD 147 (.mv (.t 16)) 0,oD 2 (.mv (.t 147)) 1] [] [0,1,2,3,4,10,11] []))))))))))))))))))
theorem wb161_0 : type_of% (@wbEq _ _ b161_0.eq_1) := @wbEq _ _ b161_0.eq_1
def ir161 : IR := (.seq (.reg [oD 10 (.mv (.k (.b true))) 0] [] [0,1,2,3,4,10] []) (.seq (.reg [oD 11 (.mv (.k (.b true))) 0] [] [0,1,2,3,4,10,11] []) (.block 0 (.loop [0,1,2,3,4,10,11] [] b161_0))))
def rv161 : List RVar := []
theorem fnr161 : FT Tryz.prog 161 148 ir161 rv161 := fnK Tryz.func161 (by decide +kernel)
def ir13 : IR := (.seq (.reg [oD 0 (.mv (.k (.b false))) 0] [] [] []) (.seq (.reg [oD 12 (.call 25 [(.k (.i .i64 0))]) 0,oD 11 (.mv (.t 12)) 1,oD 13 (.ext 0 (.t 11)) 2,oD 14 (.ext 1 (.t 11)) 3,oD 1 (.mv (.t 13)) 4,oD 2 (.mv (.t 14)) 5] [] [1,2] []) (.seq (.reg [oD 16 (.call 25 [(.k (.i .i64 1))]) 0,oD 15 (.mv (.t 16)) 1,oD 17 (.ext 0 (.t 15)) 2,oD 18 (.ext 1 (.t 15)) 3,oD 3 (.mv (.t 17)) 4,oD 4 (.mv (.t 18)) 5] [] [1,2,3,4] []) (.seq (.reg [oD 19 (.call 23 [(.k (.i .i64 1))]) 0,oD 20 (.call 22 [(.t 19)]) 1,oD 5 (.mv (.t 20)) 2] [] [1,2,3,4,5] []) (.seq (.seq (.reg [oD 21 (.mv (.t 2)) 0,oD 22 (.bin .neq (.t 21) (.k (.i .i64 0))) 1,oD 23 (.mv (.t 22)) 2,oF 24 (.mv (.t 4)) 23 3,oF 25 (.bin .neq (.t 24) (.k (.i .i64 0))) 23 4,oD 26 (.pick (.t 23) (.k (.b true)) (.t 25)) 5,oD 27 (.mv (.t 26)) 6,oF 28 (.mv (.t 1)) 27 7,oF 29 (.call 49 [(.k (.i .i64 0))]) 27 8,oF 30 (.call 19 [(.t 28),(.t 29)]) 27 9,oF 31 (.un .not (.t 30)) 27 10,oD 32 (.pick (.t 27) (.k (.b true)) (.t 31)) 11,oD 33 (.mv (.t 32)) 12,oF 34 (.mv (.t 3)) 33 13,oF 35 (.call 49 [(.k (.i .i64 1))]) 33 14,oF 36 (.call 19 [(.t 34),(.t 35)]) 33 15,oF 37 (.un .not (.t 36)) 33 16,oD 38 (.pick (.t 33) (.k (.b true)) (.t 37)) 17,oD 39 (.mv (.t 38)) 18,oF 40 (.mv (.t 5)) 39 19,oF 41 (.call 64 [(.k (.i .i64 1))]) 39 20,oF 42 (.call 19 [(.t 40),(.t 41)]) 39 21,oF 43 (.un .not (.t 42)) 39 22,oD 44 (.pick (.t 39) (.k (.b true)) (.t 43)) 23] [] [1,3,5,44] []) (.cond (.t 44) (.seq (.reg [oD 0 (.mv (.k (.b false))) 0] [] [0] []) .ret) .skip)) (.seq (.reg [oD 45 (.mv (.t 1)) 0,oD 46 (.mv (.t 5)) 1,oD 47 (.call 20 [(.t 45),(.t 46)]) 2,oD 48 (.mv (.t 1)) 3,oD 49 (.mv (.t 5)) 4,oD 50 (.call 21 [(.t 48),(.t 49)]) 5,oD 51 (.call 18 [(.t 47),(.t 50)]) 6,oD 52 (.ext 0 (.t 51)) 7,oD 53 (.ext 1 (.t 51)) 8,oD 54 (.call 17 [(.t 52),(.t 53)]) 9,oD 6 (.mv (.t 54)) 10] [] [1,3,6] []) (.seq (.reg [oD 56 (.mv (.t 1)) 0,oD 57 (.mv (.t 3)) 1,oD 58 (.mv (.t 3)) 2,oD 59 (.call 18 [(.t 57),(.t 58)]) 3,oD 60 (.ext 0 (.t 59)) 4,oD 61 (.ext 1 (.t 59)) 5,oD 62 (.call 17 [(.t 60),(.t 61)]) 6,oD 63 (.call 20 [(.t 56),(.t 62)]) 7,oD 64 (.call 65 []) 8,oD 65 (.call 38 [(.t 63),(.t 64)]) 9,oD 55 (.mv (.t 65)) 10,oD 66 (.ext 0 (.t 55)) 11,oD 67 (.ext 1 (.t 55)) 12,oD 7 (.alloc [.b false,.sl 1 true [],.b false,.sl 1 true [],.i .i64 0,.i .i64 0,.i .i64 0,.i .i64 0,.i .i64 0,.i .i64 0,.i .i64 0,.i .i64 0]) 13,oN (.store 12 (.t 7) (.t 66)) 14,oD 8 (.mv (.t 67)) 15] [] [6,7,8] [7]) (.seq (.reg [oD 69 (.call 66 []) 0,oD 70 (.call 38 [(.k (.sl 12 true [])),(.t 69)]) 1,oD 68 (.mv (.t 70)) 2,oD 71 (.ext 0 (.t 68)) 3,oD 72 (.ext 1 (.t 68)) 4,oD 9 (.alloc [.b false,.sl 1 true [],.b false,.sl 1 true [],.i .i64 0,.i .i64 0,.i .i64 0,.i .i64 0,.i .i64 0,.i .i64 0,.i .i64 0,.i .i64 0]) 5,oN (.store 12 (.t 9) (.t 71)) 6,oD 10 (.mv (.t 72)) 7] [] [6,7,8,10] [7]) (.seq (.reg [oD 73 (.mv (.t 6)) 0,oD 74 (.call 49 [(.k (.i .i64 0))]) 1,oD 75 (.call 49 [(.k (.i .i64 0))]) 2,oD 76 (.call 47 [(.t 74),(.t 75)]) 3,oD 77 (.call 64 [(.k (.i .i64 1))]) 4,oD 78 (.call 57 [(.t 76),(.t 77)]) 5,oD 79 (.call 19 [(.t 73),(.t 78)]) 6,oD 80 (.mv (.t 79)) 7,oT 81 (.mv (.t 8)) 80 8,oD 82 (.pick (.t 80) (.t 81) (.k (.b false))) 9,oD 83 (.mv (.t 82)) 10,oT 84 (.fld 4 (.t 7)) 83 11,oT 85 (.load 8 true (.t 84)) 83 12,oT 86 (.build [.i .i64 0,.i .i64 0,.i .i64 0,.i .i64 0,.i .i64 0,.i .i64 0,.i .i64 0,.i .i64 0] [(0,1,(.k (.i .i64 0))),(1,1,(.k (.i .i64 2)))]) 83 13,oT 87 (.eqa false 8 (.t 85) (.t 86)) 83 14,oD 88 (.pick (.t 83) (.t 87) (.k (.b false))) 15,oD 89 (.mv (.t 88)) 16,oT 90 (.mv (.t 10)) 89 17,oT 91 (.un .not (.t 90)) 89 18,oD 92 (.pick (.t 89) (.t 91) (.k (.b false))) 19,oD 93 (.mv (.t 92)) 20,oT 94 (.call 40 [(.k (.sl 12 true []))]) 93 21,oT 95 (.bin .eql (.t 94) (.k (.i .i64 (-1)))) 93 22,oD 96 (.pick (.t 93) (.t 95) (.k (.b false))) 23,oD 97 (.mv (.t 96)) 24,oT 98 (.mv (.t 6)) 97 25,oT 99 (.call 14 [(.t 98)]) 97 26,oD 100 (.pick (.t 97) (.t 99) (.k (.b false))) 27,oD 0 (.mv (.t 100)) 28] [] [0] []) .ret)))))))))
def rv13 : List RVar := [.t 0]
theorem fnr13 : FT Tryz.prog 13 101 ir13 rv13 := fnK Tryz.func13 (by decide +kernel)
def ir17 : IR := (.seq (.reg [oD 4 (.mv (.k (.sl 12 true []))) 0] [] [0,1] []) (.seq (.seq (.reg [oD 5 (.mv (.t 1)) 0,oD 6 (.bin .neq (.t 5) (.k (.i .i64 0))) 1] [] [0,6] []) (.cond (.t 6) (.seq (.reg [oD 7 (.call 64 [(.k (.i .i64 (-1)))]) 0,oD 4 (.mv (.t 7)) 1] [] [4] []) .ret) .skip)) (.seq (.reg [oD 8 (.mv (.t 0)) 0,oD 4 (.mv (.t 8)) 1] [] [4] []) .ret)))
def rv17 : List RVar := [.t 4]
theorem fnr17 : FT Tryz.prog 17 9 ir17 rv17 := fnK Tryz.func17 (by decide +kernel)
end Go.Vm.G
namespace Go.Vm
def cmpN (a b : Nat) : Int := if a < b then -1 else if a = b then 0 else 1
def cmpT (a b : List Nat) : Nat → Int
  | 0 => 0
  | n + 1 => if a.getD n 0 < b.getD n 0 then -1 else if b.getD n 0 < a.getD n 0 then 1 else cmpT a b n
theorem take_succ_getD {a : List Nat} {n : Nat} (h : n < a.length) : a.take (n + 1) = a.take n ++ [a.getD n 0] := by
  rw [List.take_add_one, List.getD_eq_getElem?_getD, List.getElem?_eq_getElem h]
  rfl
theorem val_take_succ {a : List Nat} {n : Nat} (h : n < a.length) : val (a.take (n + 1)) = val (a.take n) + BB ^ n * a.getD n 0 := by
  rw [take_succ_getD h, val_append]
  have : (a.take n).length = n := by simp; omega
  rw [this]
  simp [val]
theorem val_take_lt {a : List Nat} (hw : Wd a) {n : Nat} (h : n ≤ a.length) : val (a.take n) < BB ^ n := by
  have := val_lt (hw.take n)
  have hl : (a.take n).length = n := by simp; omega
  rwa [hl] at this
theorem cmp_step {p x y u v : Nat} (hu : u < p) (hv : v < p) : cmpN (u + p * x) (v + p * y) = if x < y then -1 else if y < x then 1 else cmpN u v := by
  unfold cmpN
  by_cases h1 : x < y
  · have : p * (x + 1) ≤ p * y := Nat.mul_le_mul_left _ h1
    rw [Nat.mul_add] at this
    have h2 : u + p * x < v + p * y := by omega
    simp [h1, h2]
  · by_cases h2 : y < x
    · have : p * (y + 1) ≤ p * x := Nat.mul_le_mul_left _ h2
      rw [Nat.mul_add] at this
      have h3 : ¬ u + p * x < v + p * y := by omega
      have h4 : ¬ u + p * x = v + p * y := by omega
      simp [h1, h2, h3, h4]
    · have : x = y := by omega
      subst this
      simp
theorem cmpT_eq {a b : List Nat} (ha : Wd a) (hb : Wd b) : ∀ (n : Nat), n ≤ a.length → n ≤ b.length → cmpT a b n = cmpN (val (a.take n)) (val (b.take n))
  | 0, _, _ => by simp [cmpT, val, cmpN]
  | n + 1, h1, h2 => by
    rw [val_take_succ (by omega), val_take_succ (by omega), cmp_step (val_take_lt ha (by omega)) (val_take_lt hb (by omega)), cmpT, cmpT_eq ha hb n (by omega) (by omega)]
theorem Canon.ge : ∀ {l : List Nat}, Canon l → l ≠ [] → BB ^ (l.length - 1) ≤ val l
  | [], _, h => absurd rfl h
  | [w], h, _ => by simp only [Canon] at h; simp [val]; omega
  | w :: x :: l, h, _ => by
    have ih := Canon.ge (l := x :: l) h (by simp)
    have e : (w :: x :: l).length - 1 = (x :: l).length - 1 + 1 := by simp
    rw [e, Nat.pow_succ, val, Nat.mul_comm _ BB]
    have := Nat.mul_le_mul_left BB ih
    omega
theorem len_lt {a b : List Nat} (ha : Wd a) (hb : Canon b) (h : a.length < b.length) : val a < val b := by
  have h1 := val_lt ha
  have h2 := hb.ge (by rintro rfl; simp at h)
  have h3 : BB ^ a.length ≤ BB ^ (b.length - 1) := Nat.pow_le_pow_right BB_pos (by omega)
  omega
theorem cmp_lens {a b : List Nat} (ha : Wd a) (hb : Wd b) (ca : Canon a) (cb : Canon b) : cmpN (val a) (val b) = if a.length < b.length then -1 else if b.length < a.length then 1 else cmpT a b a.length := by
  by_cases h1 : a.length < b.length
  · have := len_lt ha cb h1
    simp [cmpN, this, h1]
  · by_cases h2 : b.length < a.length
    · have := len_lt hb ca h2
      have h3 : ¬ val a < val b := by omega
      have h4 : ¬ val a = val b := by omega
      simp [cmpN, h1, h2, h3, h4]
    · rw [cmpT_eq ha hb _ (Nat.le_refl _) (by omega)]
      have e : b.take a.length = b := List.take_of_length_le (by omega)
      rw [e, List.take_of_length_le (Nat.le_refl _)]
      simp [h1, h2]
end Go.Vm
namespace Go.Vm
theorem val_set : ∀ {l : List Nat} {i w : Nat}, i < l.length → val (l.set i w) + BB ^ i * l.getD i 0 = val l + BB ^ i * w
  | [], _, _, h => by simp at h
  | x :: l, 0, w, _ => by simp only [List.set_cons_zero, val, List.getD_cons_zero, Nat.pow_zero, Nat.one_mul]; omega
  | x :: l, i + 1, w, h => by
    have ih := val_set (l := l) (i := i) (w := w) (by simpa using h)
    simp only [List.set_cons_succ, val, List.getD_cons_succ, Nat.pow_succ]
    have e : ∀ y, BB ^ i * BB * y = BB * (BB ^ i * y) := fun y => by rw [Nat.mul_comm (BB ^ i) BB, Nat.mul_assoc]
    rw [e, e]
    have := congrArg (BB * ·) ih
    simp only [Nat.mul_add] at this
    omega
theorem getD_set_eq {l : List Nat} {i w : Nat} (h : i < l.length) : (l.set i w).getD i 0 = w := by simp [List.getD_eq_getElem?_getD, h]
theorem getD_set_ne {l : List Nat} {i j w : Nat} (h : i ≠ j) : (l.set i w).getD j 0 = l.getD j 0 := by simp [List.getD_eq_getElem?_getD, List.getElem?_set_ne h]
theorem val_drop_succ {l : List Nat} {n : Nat} (h : n < l.length) : val (l.drop n) = l.getD n 0 + BB * val (l.drop (n + 1)) := by
  rw [List.drop_eq_getElem_cons h, val]
  simp [List.getD_eq_getElem?_getD, List.getElem?_eq_getElem h]
theorem mul_step {x bk o c : Nat} (hx : x < BB) (hb : bk < BB) (ho : o < BB) (hc : c < BB) : x * bk + o + c < BB * BB ∧ (x * bk + o + c) / BB < BB := by
  have h1 : x * bk ≤ (BB - 1) * (BB - 1) := Nat.mul_le_mul (by omega) (by omega)
  have e : (BB - 1) * (BB - 1) + 2 * BB = BB * BB + 1 := by decide
  have : x * bk + o + c < BB * BB := by omega
  exact ⟨this, (Nat.div_lt_iff_lt_mul BB_pos).2 this⟩
end Go.Vm
namespace Go.Vm.G
open Go Go.Vm
open Nat renaming reduceBEq → sB, reduceLeDiff → sL, reduceAdd → sA
open Int renaming reduceEq → sE, reduceNe → sN
theorem eW_at {l : List Nat} {n : Nat} (h : n < l.length) : (eW l)[n]? = some [.i .u32 (l.getD n 0)] := by
  rw [eW_get]; simp [wD, List.getD_eq_getElem?_getD, List.getElem?_eq_getElem h]
theorem val_two {l : List Nat} (hl : l.length ≤ 2) : val l = l.getD 1 0 * 4294967296 + l.getD 0 0 := by
  have hb : BB = 4294967296 := rfl
  cases l with
  | nil => rfl
  | cons a l =>
    cases l with
    | nil => simp [val]
    | cons b l =>
      cases l with
      | nil => simp only [val, List.getD_cons_zero, List.getD_cons_succ, hb]; omega
      | cons c l => simp at hl
theorem w170 (l : List Nat) (f : Bool) (i : Nat) (hw : Wd l) : FnR Go.Proofs.Tryz.prog 170 [.sl 1 f (eW l), .i .i64 i] [] (.i .u64 (l.getD i 0)) := by
  refine fnr170 (by simp) rfl (by simp) List.nodup_nil fun F out hS => ?_
  unfold ir170
  simp only [go_sem, sB, reduceCtorEq, sL, sA, sE, sN]
  refine condO_d (fun h => ?_) (fun h => ?_)
  · have h' : i < l.length := by omega
    have hb := hw.getD i
    simp only [go_sem, sB, reduceCtorEq, sL, sA, sE, sN, ixsO_sl _ _ _ _ _ _ (eW_at h'), IntWalk.u64_in _ (show 0 ≤ ((l.getD i 0 : Nat) : Int) ∧ ((l.getD i 0 : Nat) : Int) ≤ 18446744073709551615 by unfold BB at hb; omega), rv170, fin_t]
    exact .refl _
  · have h' : l.getD i 0 = 0 := by simp [List.getD_eq_getElem?_getD, List.getElem?_eq_none (show l.length ≤ i by omega)]
    simp only [go_sem, sB, reduceCtorEq, sL, sA, sE, sN, rv170, fin_t, h']
    exact .refl _
theorem loop165 (l : List Nat) (f : Bool) (F : Nat) (out : Sto) (Q : Ex → St → Prop) : ∀ (n : Nat) (nx : Nat), n ≤ l.length → l.length ≤ 140737488355328 →
    (∀ nx, Q (.exit 0) { r := upd (upd (upd (fun _ => .u) 15 (.b false)) 3 (.i .i64 (trimN l n))) 0 (.sl 1 f (eW l)), own := fun _ => none, out := out, nx := nx }) →
    Loop Go.Proofs.Tryz.prog F [0, 3] [] b165_0 { r := upd (upd (fun _ => .u) 3 (.i .i64 n)) 0 (.sl 1 f (eW l)), own := fun _ => none, out := out, nx := nx } Q := by
  intro n
  induction n with
  | zero =>
    intro nx hn hl hQ
    refine Loop.stepW ?_
    have c1 : decide (((0 : Nat) : Int) > 0) = false := by decide
    simp only [go_sem, sB, reduceCtorEq, sL, sA, sE, sN, wb165_0, c1]
    exact hQ _
  | succ n ih =>
    intro nx hn hl hQ
    refine Loop.stepW ?_
    have c1 : decide (((n + 1 : Nat) : Int) > 0) = true := by simp
    have c2 : IntKind.wrap .i64 (((n + 1 : Nat) : Int) - 1) = (n : Int) := by rw [IntWalk.i64_in _ (by omega)]; omega
    by_cases hz : l.getD n 0 = 0
    · have c4 : (((l.getD n 0 : Nat) : Int) == 0) = true := by rw [hz]; rfl
      simp only [go_sem, sB, reduceCtorEq, sL, sA, sE, sN, wb165_0, c1, c2, ixsO_sl _ _ _ _ _ _ (eW_at (show n < l.length by omega)), c4]
      refine ih _ (by omega) hl ?_
      simp only [trimN, hz, if_true] at hQ
      exact hQ
    · have c4 : (((l.getD n 0 : Nat) : Int) == 0) = false := by rw [beq_eq_false_iff_ne]; omega
      simp only [go_sem, sB, reduceCtorEq, sL, sA, sE, sN, wb165_0, c1, c2, ixsO_sl _ _ _ _ _ _ (eW_at (show n < l.length by omega)), c4]
      simp only [trimN, hz, if_false] at hQ
      exact hQ _
theorem w165 (l : List Nat) (f : Bool) (hw : Wd l) (hl : l.length ≤ 140737488355328) : FnR Go.Proofs.Tryz.prog 165 [.sl 1 f (eW l)] [] (.sl 1 false (eW (toW (val l)))) := by
  refine fnr165 (by simp) (nr_eW _ _) (by simp) List.nodup_nil fun F out hS => ?_
  unfold ir165
  simp only [go_sem, sB, reduceCtorEq, sL, sA, sE, sN]
  refine loop165 l f F out _ l.length _ (Nat.le_refl _) hl fun nx => ?_
  have ht := trimN_le l l.length
  simp only [go_sem, sB, reduceCtorEq, sL, sA, sE, sN, slcO_h (show trimN l l.length ≤ (eW l).length by rw [eW_length]; exact ht), rv165, fin_t, eW_take]
  rw [← trimW_eq hw]
  exact .slf _ _ _
theorem w139 (n : Nat) (hn : n < 18446744073709551616) : FnR Go.Proofs.Tryz.prog 139 [.i .u64 n] [] (.sl 1 false (eW (toW n))) := by
  refine fnr139 (by simp) (nr_eW _ _) (by simp) List.nodup_nil fun F out hS => ?_
  unfold ir139
  have h2 : n / 4294967296 < 4294967296 := by omega
  simp only [go_sem, sB, reduceCtorEq, sL, sA, sE, sN, w32 (n % 4294967296) (by omega), w64 (n / 4294967296) (by omega), w32 (n / 4294967296) h2]
  refine callO_intro (d := .sl 1 false (eW (toW n))) ?_ ?_
  · have hv : val [n % 4294967296, n / 4294967296] = n := by simp only [val, BB]; omega
    have := w165 [n % 4294967296, n / 4294967296] true (.cons (by unfold BB; omega) (.cons h2 .nil)) (by simp)
    rw [hv] at this
    exact this
  · simp only [go_sem, sB, reduceCtorEq, sL, sA, sE, sN, rv139, fin_t]
    exact .refl _
theorem w167 (l : List Nat) (f : Bool) (hw : Wd l) (hl : l.length ≤ 2) : FnR Go.Proofs.Tryz.prog 167 [.sl 1 f (eW l)] [] (.i .u64 (val l)) := by
  refine fnr167 (by simp) rfl (by simp) List.nodup_nil fun F out hS => ?_
  unfold ir167
  simp only [go_sem, sB, reduceCtorEq, sL, sA, sE, sN]
  refine callO_intro (w170 l f 1 hw) ?_
  have h1 : l.getD 1 0 < 4294967296 := hw.getD 1
  have h0 : l.getD 0 0 < 4294967296 := hw.getD 0
  have e1 : IntKind.wrap .u64 (((l.getD 1 0 : Nat) : Int) * 4294967296) = ((l.getD 1 0 * 4294967296 : Nat) : Int) := by
    rw [IntWalk.u64_in _ (by omega)]; omega
  have e2 : IntKind.wrap .u64 (((l.getD 1 0 * 4294967296 : Nat) : Int) + ((l.getD 0 0 : Nat) : Int)) = ((val l : Nat) : Int) := by
    have := val_two hl
    rw [this, IntWalk.u64_in _ (by omega)]; omega
  simp only [go_sem, sB, reduceCtorEq, sL, sA, sE, sN, e1]
  refine callO_intro (w170 l f 0 hw) ?_
  simp only [go_sem, sB, reduceCtorEq, sL, sA, sE, sN, e1, e2, rv167, fin_t]
  exact .refl _
def eN (l : List Nat) : D := .sl 1 false (eW l)
theorem nr_I (v : Bool) (l : List Nat) : (D.a [.b v, eN l]).nr = true := by simp [D.nr, nrL, eN, nrLL_eW]
theorem w138 (v : Bool) (l : List Nat) (f : Bool) (hw : Wd l) (hl : l.length ≤ 140737488355328) : FnR Go.Proofs.Tryz.prog 138 [.b v, .sl 1 f (eW l)] [] (.a [.b (v && decide (val l ≠ 0)), eN (toW (val l))]) := by
  refine fnr138 (by simp) (nr_I _ _) (by simp) List.nodup_nil fun F out hS => ?_
  unfold ir138
  simp only [go_sem, sB, reduceCtorEq, sL, sA, sE, sN]
  refine callO_intro (w165 l f hw hl) ?_
  cases v
  · simp only [go_sem, sB, reduceCtorEq, sL, sA, sE, sN, rv138, fin_c]
    exact ⟨_, rfl, .refl _⟩
  · simp only [go_sem, sB, reduceCtorEq, sL, sA, sE, sN, rv138, fin_c]
    refine ⟨_, rfl, ?_⟩
    have : decide (((toW (val l)).length : Int) > 0) = (true && decide ¬val l = 0) := by
      by_cases h : val l = 0
      · simp [h, toW_zero]
      · rw [toW_pos h]; simp [h]
    rw [this]
    exact .refl _
theorem w89 (v : Bool) (l : List Nat) (f : Bool) : FnR Go.Proofs.Tryz.prog 89 [.a [.b v, .sl 1 f (eW l)]] [] (.i .i64 (if v then -1 else if l.length = 0 then 0 else 1)) := by
  refine fnr89 (by simp) rfl (by simp) List.nodup_nil fun F out hS => ?_
  unfold ir89
  cases v
  · simp only [go_sem, sB, reduceCtorEq, sL, sA, sE, sN, rv89, fin_t]
    have : (if (1 : Int) < (l.length : Int) then (1 : Int) else (l.length : Int)) = if l.length = 0 then 0 else 1 := by
      split <;> split <;> omega
    rw [this]
    exact .refl _
  · simp only [go_sem, sB, reduceCtorEq, sL, sA, sE, sN, rv89, fin_t]
    exact .refl _
def shq (d : Nat) : List Nat → List Nat × Nat
  | [] => ([], 0)
  | w :: l => (((shq d l).2 * BB + w) / d :: (shq d l).1, ((shq d l).2 * BB + w) % d)
theorem shq_len (d : Nat) : ∀ l, (shq d l).1.length = l.length
  | [] => rfl
  | w :: l => by simp [shq, shq_len d l]
theorem shq_lt {d : Nat} (hd : 0 < d) : ∀ l, (shq d l).2 < d
  | [] => hd
  | w :: l => Nat.mod_lt _ hd
theorem shq_val {d : Nat} (hd : 0 < d) : ∀ l, val l = d * val (shq d l).1 + (shq d l).2
  | [] => rfl
  | w :: l => by
    have ih := shq_val hd l
    have h := Nat.div_add_mod ((shq d l).2 * BB + w) d
    simp only [val, shq]
    rw [ih, Nat.mul_add, Nat.mul_add]
    have e : BB * (d * val (shq d l).1) = d * (BB * val (shq d l).1) := by rw [← Nat.mul_assoc, ← Nat.mul_assoc, Nat.mul_comm BB d]
    rw [e, Nat.mul_comm BB (shq d l).2]
    omega
theorem shq_wd {d : Nat} (hd : 0 < d) : ∀ {l}, Wd l → Wd (shq d l).1
  | [], _ => .nil
  | w :: l, h => by
    refine .cons ?_ (shq_wd hd h.tail)
    have h1 := shq_lt hd l
    have h2 := h.head
    show ((shq d l).2 * BB + w) / d < BB
    rw [Nat.div_lt_iff_lt_mul hd]
    have : ((shq d l).2 + 1) * BB ≤ d * BB := Nat.mul_le_mul_right _ h1
    rw [Nat.add_mul] at this
    rw [Nat.mul_comm BB d]
    omega
theorem set_rep (n w : Nat) (q : List Nat) : (List.replicate (n + 1) 0 ++ q).set n w = List.replicate n 0 ++ w :: q := by
  rw [List.replicate_succ', List.append_assoc, List.set_append_right _ _ (by simp)]
  simp
theorem loop194 (l : List Nat) (f : Bool) (d : Nat) (hd : 0 < d) (hd2 : d < 4294967296) (hw : Wd l) (hl : l.length ≤ 140737488355328) (F : Nat) (out : Sto) (Q : Ex → St → Prop) (z : Nat) : ∀ (n : Nat) (nx : Nat), n ≤ l.length →
    (∀ nx, Q (.exit 0) { r := (upd (upd (upd (upd (upd (upd (fun _ => .u) 17 (.b false)) 8 (.i .i64 (-1))) 7 (.i .u64 (shq d l).2)) 6 (.w (F, 12) z 1 0 l.length)) 1 (.i .u64 d)) 0 (.sl 1 f (eW l))), own := upd (fun _ => none) 12 (some (z, .row 1 (eW (shq d l).1))), out := out, nx := nx }) →
    Loop Go.Proofs.Tryz.prog F [0, 1, 6, 7, 8] [12] b194_0 { r := (upd (upd (upd (upd (upd (fun _ => .u) 8 (.i .i64 ((n : Int) - 1))) 7 (.i .u64 (shq d (l.drop n)).2)) 6 (.w (F, 12) z 1 0 l.length)) 1 (.i .u64 d)) 0 (.sl 1 f (eW l))), own := upd (fun _ => none) 12 (some (z, .row 1 (eW (List.replicate n 0 ++ (shq d (l.drop n)).1)))), out := out, nx := nx } Q := by
  intro n
  induction n with
  | zero =>
    intro nx hn hQ
    refine Loop.stepW ?_
    have c1 : decide ((((0 : Nat) : Int) - 1) ≥ 0) = false := by decide
    simp only [go_sem, sB, reduceCtorEq, sL, sA, sE, sN, wb194_0, c1]
    exact hQ _
  | succ n ih =>
    intro nx hn hQ
    refine Loop.stepW ?_
    have e0 : (((n + 1 : Nat) : Int) - 1) = (n : Int) := by omega
    have c1 : decide (((n : Nat) : Int) ≥ 0) = true := by simp
    have hlt : n < l.length := by omega
    have hr := shq_lt hd (l.drop (n + 1))
    have hwn : l.getD n 0 < 4294967296 := hw.getD n
    have hsplit : l.drop n = l.getD n 0 :: l.drop (n + 1) := by
      rw [List.drop_eq_getElem_cons hlt]
      simp [List.getD_eq_getElem?_getD, List.getElem?_eq_getElem hlt]
    have hlen := shq_len d (l.drop (n + 1))
    generalize hR : shq d (l.drop (n + 1)) = R at hr hlen
    obtain ⟨q, r⟩ := R
    simp only [List.length_drop] at hlen hr
    have e1 : IntKind.wrap .u64 (((r : Nat) : Int) * 4294967296) = ((r * 4294967296 : Nat) : Int) := by
      rw [IntWalk.u64_in _ (by omega)]; omega
    have e2 : IntKind.wrap .u64 (((r * 4294967296 : Nat) : Int) + ((l.getD n 0 : Nat) : Int)) = ((r * 4294967296 + l.getD n 0 : Nat) : Int) := by
      rw [IntWalk.u64_in _ (by omega)]; omega
    have hq : (r * 4294967296 + l.getD n 0) / d < 4294967296 := by
      rw [Nat.div_lt_iff_lt_mul hd]
      have : (r + 1) * 4294967296 ≤ d * 4294967296 := Nat.mul_le_mul_right _ hr
      omega
    have hdi : (d : Int) ≠ 0 := by omega
    have hat : (eW (List.replicate (n + 1) 0 ++ q))[n]? = some [.i .u32 ((List.replicate (n + 1) 0 ++ q).getD n 0)] := eW_at (by simp; omega)
    have e4 : IntKind.wrap .i64 (((n : Nat) : Int) - 1) = ((n : Nat) : Int) - 1 := IntWalk.i64_in _ (by omega)
    have hw1 : l.getD n 0 < 18446744073709551616 := by omega
    have hw2 : (r * 4294967296 + l.getD n 0) / d < 18446744073709551616 := by omega
    simp only [go_sem, sB, reduceCtorEq, sL, sA, sE, sN, wb194_0, e0, c1, e1, e2, ixsO_sl _ _ _ _ _ _ (eW_at hlt), w64 _ hw1, w64 _ hw2, w32 _ hq, e_quo _ _ _ hdi, e_rem _ _ _ hdi, ixsO_w _ _ _ _ _ _ _ hlt, hat, set_rep, e4]
    have h := fun nx => ih nx (by omega) hQ
    simp only [hsplit, shq, hR, BB] at h
    exact h _
theorem w194 (l : List Nat) (f : Bool) (d : Nat) (hd : 0 < d) (hd2 : d < 4294967296) (hw : Wd l) (hl : l.length ≤ 35184372088832) : FnR Go.Proofs.Tryz.prog 194 [.sl 1 f (eW l), .i .u64 d] [] (.t [eN (toW (val l / d)), .i .u64 (val l % d : Nat)]) := by
  refine fnr194 (by simp) (by simp [D.nr, nrL, eN, nrLL_eW]) (by simp) List.nodup_nil fun F out hS => ?_
  unfold ir194
  simp only [go_sem, sB, reduceCtorEq, sL, sA, sE, sN]
  refine mkO_intro (Nat.le_refl _) (by omega) (by omega) ?_
  have e1 : IntKind.wrap .i64 (((l.length : Nat) : Int) - 1) = ((l.length : Nat) : Int) - 1 := IntWalk.i64_in _ (by omega)
  simp only [go_sem, sB, reduceCtorEq, sL, sA, sE, sN, e1]
  have hlp := loop194 l f d hd hd2 hw (by omega) F out
  have hdrop : l.drop l.length = [] := by simp
  have hb := fun Q z nx => hlp Q z l.length nx (Nat.le_refl _)
  simp only [hdrop, shq, List.append_nil] at hb
  refine hb _ _ _ fun nx => ?_
  have hv := shq_val hd l
  have hlt := shq_lt hd l
  have hdiv : val l / d = val (shq d l).1 := by
    rw [hv, Nat.mul_add_div hd, Nat.div_eq_of_lt hlt, Nat.add_zero]
  have hmod : val l % d = (shq d l).2 := by
    rw [hv, Nat.mul_add_mod, Nat.mod_eq_of_lt hlt]
  have hlen := shq_len d l
  have hle : 0 + l.length ≤ (eW (shq d l).1).length := by rw [eW_length, hlen]; omega
  simp only [go_sem, sB, reduceCtorEq, sL, sA, sE, sN, frzR_s _ _ _ _ _ _ _ _ hle]
  have htk : (shq d l).1.take l.length = (shq d l).1 := List.take_of_length_le (by omega)
  refine callO_intro (d := eN (toW (val l / d))) ?_ ?_
  · rw [htk, hdiv]
    exact w165 _ _ (shq_wd hd hw) (by omega)
  · simp only [go_sem, sB, reduceCtorEq, sL, sA, sE, sN, rv194, fin_t2, hmod]
    exact .refl _
theorem loop142 (a b : List Nat) (f g : Bool) (hl : a.length ≤ 35184372088832) (hab : a.length = b.length) (F : Nat) (out : Sto) (Q : Ex → St → Prop) : ∀ (n : Nat) (nx : Nat), n ≤ a.length →
    (cmpT a b n = 0 → ∀ nx, Q (.exit 0) { r := (upd (upd (upd (upd (fun _ => .u) 20 (.b false)) 5 (.i .i64 (-1))) 1 (.sl 1 g (eW b))) 0 (.sl 1 f (eW a))), own := fun _ => none, out := out, nx := nx }) →
    (cmpT a b n ≠ 0 → ∀ nx, Q .ret { r := (upd (fun _ => .u) 4 (.i .i64 (cmpT a b n))), own := fun _ => none, out := out, nx := nx }) →
    Loop Go.Proofs.Tryz.prog F [0, 1, 5] [] b142_0 { r := (upd (upd (upd (fun _ => .u) 5 (.i .i64 ((n : Int) - 1))) 1 (.sl 1 g (eW b))) 0 (.sl 1 f (eW a))), own := fun _ => none, out := out, nx := nx } Q := by
  intro n
  induction n with
  | zero =>
    intro nx hn h0 h1
    refine Loop.stepW ?_
    have c1 : decide ((((0 : Nat) : Int) - 1) ≥ 0) = false := by decide
    simp only [go_sem, sB, reduceCtorEq, sL, sA, sE, sN, wb142_0, c1]
    exact h0 rfl _
  | succ n ih =>
    intro nx hn h0 h1
    refine Loop.stepW ?_
    have e0 : (((n + 1 : Nat) : Int) - 1) = (n : Int) := by omega
    have c1 : decide (((n : Nat) : Int) ≥ 0) = true := by simp
    have e4 : IntKind.wrap .i64 (((n : Nat) : Int) - 1) = ((n : Nat) : Int) - 1 := IntWalk.i64_in _ (by omega)
    have ha : n < a.length := by omega
    have hb : n < b.length := by omega
    simp only [go_sem, sB, reduceCtorEq, sL, sA, sE, sN, wb142_0, e0, c1, ixsO_sl _ _ _ _ _ _ (eW_at ha), ixsO_sl _ _ _ _ _ _ (eW_at hb)]
    refine condO_d (fun h => ?_) (fun h => ?_)
    · have hlt : a.getD n 0 < b.getD n 0 := by omega
      simp only [go_sem, sB, reduceCtorEq, sL, sA, sE, sN]
      simp only [cmpT, hlt, if_true] at h1
      exact h1 (by decide) _
    · have hlt : ¬ a.getD n 0 < b.getD n 0 := by omega
      simp only [go_sem, sB, reduceCtorEq, sL, sA, sE, sN, ixsO_sl _ _ _ _ _ _ (eW_at ha), ixsO_sl _ _ _ _ _ _ (eW_at hb)]
      refine condO_d (fun h => ?_) (fun h => ?_)
      · have hgt : b.getD n 0 < a.getD n 0 := by omega
        simp only [go_sem, sB, reduceCtorEq, sL, sA, sE, sN]
        simp only [cmpT, hlt, hgt, if_true, if_false] at h1
        exact h1 (by decide) _
      · have hgt : ¬ b.getD n 0 < a.getD n 0 := by omega
        simp only [go_sem, sB, reduceCtorEq, sL, sA, sE, sN, e4]
        simp only [cmpT, hlt, hgt, if_false] at h0 h1
        exact ih _ (by omega) h0 h1
theorem w142 (a b : List Nat) (f g : Bool) (ha : Wd a) (hb : Wd b) (ca : Canon a) (cb : Canon b) (hl : a.length ≤ 35184372088832) (hl' : b.length ≤ 35184372088832) : FnR Go.Proofs.Tryz.prog 142 [.sl 1 f (eW a), .sl 1 g (eW b)] [] (.i .i64 (cmpN (val a) (val b))) := by
  refine fnr142 (by simp) rfl (by simp) List.nodup_nil fun F out hS => ?_
  unfold ir142
  rw [cmp_lens ha hb ca cb]
  simp only [go_sem, sB, reduceCtorEq, sL, sA, sE, sN]
  refine condO_d (fun h => ?_) (fun h => ?_)
  · have hlt : a.length < b.length := by omega
    simp only [go_sem, sB, reduceCtorEq, sL, sA, sE, sN, rv142, fin_t, hlt]
    exact .refl _
  · have hlt : ¬ a.length < b.length := by omega
    simp only [go_sem, sB, reduceCtorEq, sL, sA, sE, sN]
    refine condO_d (fun h => ?_) (fun h => ?_)
    · have hgt : b.length < a.length := by omega
      simp only [go_sem, sB, reduceCtorEq, sL, sA, sE, sN, rv142, fin_t, hlt, hgt]
      exact .refl _
    · have hgt : ¬ b.length < a.length := by omega
      have e1 : IntKind.wrap .i64 (((a.length : Nat) : Int) - 1) = ((a.length : Nat) : Int) - 1 := IntWalk.i64_in _ (by omega)
      simp only [go_sem, sB, reduceCtorEq, sL, sA, sE, sN, e1]
      refine loop142 a b f g hl (by omega) F out _ a.length _ (Nat.le_refl _) (fun h nx => ?_) (fun h nx => ?_)
      · simp only [go_sem, sB, reduceCtorEq, sL, sA, sE, sN, rv142, fin_t, hlt, hgt, h]
        exact .refl _
      · simp only [go_sem, sB, reduceCtorEq, sL, sA, sE, sN, rv142, fin_t, hlt, hgt]
        exact .refl _
theorem loop148_0 (a b : List Nat) (f g : Bool) (ha : Wd a) (hb : Wd b) (hla : a.length ≤ 17592186044416) (hlb : b.length ≤ 17592186044416) (F : Nat) (out : Sto) (Q : Ex → St → Prop) (z i : Nat) (hi : i < a.length) : ∀ (m k : Nat) (O : List Nat) (c : Nat) (nx : Nat), k + m = b.length → O.length = a.length + b.length → Wd O → c < BB →
    (∀ (O' : List Nat) (c' : Nat) (nx : Nat), O'.length = a.length + b.length → Wd O' → c' < BB → (∀ j, i + b.length ≤ j → O'.getD j 0 = O.getD j 0) → val O' + BB ^ (i + b.length) * c' = val O + BB ^ (i + k) * (a.getD i 0 * val (b.drop k) + c) →
      Q (.exit 2) { r := (upd (upd (upd (upd (upd (upd (upd (fun _ => .u) 25 (.b false)) 8 (.i .i64 b.length)) 7 (.i .u64 c')) 6 (.i .i64 i)) 5 (.w (F, 15) z 1 0 (a.length + b.length))) 1 (.sl 1 g (eW b))) 0 (.sl 1 f (eW a))), own := upd (fun _ => none) 15 (some (z, .row 1 (eW O'))), out := out, nx := nx }) →
    Loop Go.Proofs.Tryz.prog F [0, 1, 5, 6, 7, 8] [15] b148_0 { r := (upd (upd (upd (upd (upd (upd (fun _ => .u) 8 (.i .i64 k)) 7 (.i .u64 c)) 6 (.i .i64 i)) 5 (.w (F, 15) z 1 0 (a.length + b.length))) 1 (.sl 1 g (eW b))) 0 (.sl 1 f (eW a))), own := upd (fun _ => none) 15 (some (z, .row 1 (eW O))), out := out, nx := nx } Q := by
  intro m
  induction m with
  | zero =>
    intro k O c nx hk hO hw hc hQ
    refine Loop.stepW ?_
    have hk' : k = b.length := by omega
    subst hk'
    have c1 : decide (((b.length : Nat) : Int) < ((b.length : Nat) : Int)) = false := by simp
    simp only [go_sem, sB, reduceCtorEq, sL, sA, sE, sN, wb148_0, c1]
    exact hQ O c _ hO hw hc (fun _ _ => rfl) (by simp [val])
  | succ m ih =>
    intro k O c nx hk hO hw hc hQ
    refine Loop.stepW ?_
    have hkb : k < b.length := by omega
    have hiO : i + k < O.length := by omega
    have hiO' : i + k < a.length + b.length := by omega
    have c1 : decide (((k : Nat) : Int) < ((b.length : Nat) : Int)) = true := by simp; omega
    obtain ⟨t1, t2⟩ := mul_step (ha.getD i) (hb.getD k) (hw.getD (i + k)) hc
    have hx := ha.getD i
    have hbk := hb.getD k
    have ho := hw.getD (i + k)
    have hB : BB = 4294967296 := rfl
    have hp : a.getD i 0 * b.getD k 0 ≤ a.getD i 0 * b.getD k 0 + O.getD (i + k) 0 + c := by omega
    generalize hX : a.getD i 0 = x at *
    generalize hY : b.getD k 0 = y at *
    generalize hZ : O.getD (i + k) 0 = o at *
    generalize hP : x * y = p at *
    have e1 : IntKind.wrap .u64 (((x : Nat) : Int) * ((y : Nat) : Int)) = ((p : Nat) : Int) := by
      rw [← Int.natCast_mul, hP]; exact w64 _ (by rw [hB] at t1; omega)
    have e2 : IntKind.wrap .u64 (((p : Nat) : Int) + ((o : Nat) : Int)) = ((p + o : Nat) : Int) := by
      rw [← Int.natCast_add]; exact w64 _ (by rw [hB] at t1; omega)
    have e3 : IntKind.wrap .u64 (((p + o : Nat) : Int) + ((c : Nat) : Int)) = ((p + o + c : Nat) : Int) := by
      rw [← Int.natCast_add]; exact w64 _ (by rw [hB] at t1; omega)
    have e4 : IntKind.wrap .i64 (((i : Nat) : Int) + ((k : Nat) : Int)) = ((i + k : Nat) : Int) := by
      rw [IntWalk.i64_in _ (by omega)]; omega
    have e5 : IntKind.wrap .i64 (((k : Nat) : Int) + 1) = ((k + 1 : Nat) : Int) := by
      rw [IntWalk.i64_in _ (by omega)]; omega
    have e6 : IntKind.wrap .u32 (((p + o + c) % 4294967296 : Nat) : Int) = (((p + o + c) % 4294967296 : Nat) : Int) := w32 _ (by omega)
    have e7 : IntKind.wrap .u64 (((p + o + c) / 4294967296 : Nat) : Int) = (((p + o + c) / 4294967296 : Nat) : Int) := w64 _ (by rw [hB] at t2; omega)
    have hA := eW_at hi
    have hBt := eW_at hkb
    have hOt := eW_at hiO
    rw [hX] at hA
    rw [hY] at hBt
    rw [hZ] at hOt
    simp only [go_sem, sB, reduceCtorEq, sL, sA, sE, sN, wb148_0, c1, ixsO_sl _ _ _ _ _ _ hA, ixsO_sl _ _ _ _ _ _ hBt, w64 x (by omega), w64 y (by omega), w64 o (by omega), e1, e2, e3, e4, e5, e6, e7, ixsO_w _ _ _ _ _ _ _ hiO', hOt]
    refine ih (k + 1) (O.set (i + k) ((p + o + c) % 4294967296)) ((p + o + c) / 4294967296) _ (by omega) (by simpa using hO) (hw.set (by rw [hB]; omega)) (by rw [hB] at t2 ⊢; exact t2) (fun O' c' nx h1 h2 h3 h4 h5 => ?_)
    refine hQ O' c' nx h1 h2 h3 (fun j hj => ?_) ?_
    · rw [h4 j hj, getD_set_ne (by omega)]
    · have hs := val_set (l := O) (i := i + k) (w := (p + o + c) % 4294967296) hiO
      rw [hZ] at hs
      rw [val_drop_succ hkb, hY, h5]
      have hd := Nat.div_add_mod (p + o + c) 4294967296
      have e8 : i + (k + 1) = i + k + 1 := by omega
      rw [e8, Nat.pow_succ, hB]
      rw [hB] at hs
      generalize hG : 4294967296 ^ (i + k) = G at hs ⊢
      generalize hq : (p + o + c) / 4294967296 = q at hd ⊢
      generalize hm : (p + o + c) % 4294967296 = r at hd hs ⊢
      generalize hv : val (b.drop (k + 1)) = v
      have hxy : x * (y + 4294967296 * v) = p + 4294967296 * (x * v) := by rw [Nat.mul_add, hP, Nat.mul_left_comm]
      rw [hxy]
      have g1 : G * 4294967296 * (x * v + q) = G * (4294967296 * (x * v)) + G * (4294967296 * q) := by rw [Nat.mul_assoc, Nat.mul_add, Nat.mul_add]
      have g2 : G * (p + 4294967296 * (x * v) + c) = G * p + G * (4294967296 * (x * v)) + G * c := by rw [Nat.mul_add, Nat.mul_add]
      have g3 : G * (p + o + c) = G * p + G * o + G * c := by rw [Nat.mul_add, Nat.mul_add]
      have g4 : G * (4294967296 * q + r) = G * (4294967296 * q) + G * r := by rw [Nat.mul_add]
      rw [hd] at g4
      rw [g1, g2]
      omega
theorem loop148_1 (a b : List Nat) (f g : Bool) (ha : Wd a) (hb : Wd b) (hla : a.length ≤ 17592186044416) (hlb : b.length ≤ 17592186044416) (F : Nat) (out : Sto) (Q : Ex → St → Prop) (z : Nat) : ∀ (m i : Nat) (O : List Nat) (nx : Nat), i + m = a.length → O.length = a.length + b.length → Wd O → val O = val (a.take i) * val b → (∀ j, i + b.length ≤ j → O.getD j 0 = 0) →
    (∀ (O' : List Nat) (nx : Nat), O'.length = a.length + b.length → Wd O' → val O' = val a * val b →
      Q (.exit 0) { r := (upd (upd (upd (upd (upd (fun _ => .u) 19 (.b false)) 6 (.i .i64 a.length)) 5 (.w (F, 15) z 1 0 (a.length + b.length))) 1 (.sl 1 g (eW b))) 0 (.sl 1 f (eW a))), own := upd (fun _ => none) 15 (some (z, .row 1 (eW O'))), out := out, nx := nx }) →
    Loop Go.Proofs.Tryz.prog F [0, 1, 5, 6] [15] b148_1 { r := (upd (upd (upd (upd (fun _ => .u) 6 (.i .i64 i)) 5 (.w (F, 15) z 1 0 (a.length + b.length))) 1 (.sl 1 g (eW b))) 0 (.sl 1 f (eW a))), own := upd (fun _ => none) 15 (some (z, .row 1 (eW O))), out := out, nx := nx } Q := by
  intro m
  induction m with
  | zero =>
    intro i O nx hk hO hw hv h0 hQ
    refine Loop.stepW ?_
    have hk' : i = a.length := by omega
    subst hk'
    have c1 : decide (((a.length : Nat) : Int) < ((a.length : Nat) : Int)) = false := by simp
    simp only [go_sem, sB, reduceCtorEq, sL, sA, sE, sN, wb148_1, c1]
    refine hQ O _ hO hw ?_
    rw [hv, List.take_of_length_le (Nat.le_refl _)]
  | succ m ih =>
    intro i O nx hk hO hw hv h0 hQ
    refine Loop.stepW ?_
    have hi : i < a.length := by omega
    have c1 : decide (((i : Nat) : Int) < ((a.length : Nat) : Int)) = true := by simp; omega
    simp only [go_sem, sB, reduceCtorEq, sL, sA, sE, sN, wb148_1, c1]
    refine loop148_0 a b f g ha hb hla hlb F out _ z i hi b.length 0 O 0 _ (by omega) hO hw BB_pos (fun O' c' nx h1 h2 h3 h4 h5 => ?_)
    have e1 : IntKind.wrap .i64 (((i : Nat) : Int) + ((b.length : Nat) : Int)) = ((i + b.length : Nat) : Int) := by
      rw [IntWalk.i64_in _ (by omega)]; omega
    have e2 : IntKind.wrap .i64 (((i : Nat) : Int) + 1) = ((i + 1 : Nat) : Int) := by
      rw [IntWalk.i64_in _ (by omega)]; omega
    have hB : BB = 4294967296 := rfl
    have e3 : IntKind.wrap .u32 ((c' : Nat) : Int) = ((c' : Nat) : Int) := w32 _ (by rw [hB] at h3; exact h3)
    have hlt : i + b.length < a.length + b.length := by omega
    have hat := eW_at (show i + b.length < O'.length by omega)
    simp only [go_sem, sB, reduceCtorEq, sL, sA, sE, sN, e1, e2, e3, ixsO_w _ _ _ _ _ _ _ hlt, hat]
    refine ih (i + 1) (O'.set (i + b.length) c') _ (by omega) (by simpa using h1) (h2.set h3) ?_ (fun j hj => ?_) hQ
    · have hs := val_set (l := O') (i := i + b.length) (w := c') (by omega)
      rw [h4 _ (Nat.le_refl _), h0 _ (Nat.le_refl _), Nat.mul_zero, Nat.add_zero] at hs
      rw [hs, h5, hv, val_take_succ hi, Nat.add_mul, Nat.add_zero, Nat.add_zero, List.drop_zero, Nat.mul_assoc]
    · rw [getD_set_ne (by omega), h4 j (by omega), h0 j (by omega)]
theorem Wd_rep (n : Nat) : Wd (List.replicate n 0) := fun w hw => by rw [List.eq_of_mem_replicate hw]; exact BB_pos
theorem getD_rep (n j : Nat) : (List.replicate n 0).getD j 0 = 0 := by
  rw [List.getD_eq_getElem?_getD, List.getElem?_replicate]
  split <;> rfl
theorem w148 (a b : List Nat) (f g : Bool) (ha : Wd a) (hb : Wd b) (hl : a.length + b.length ≤ 17592186044416) : FnR Go.Proofs.Tryz.prog 148 [.sl 1 f (eW a), .sl 1 g (eW b)] [] (eN (toW (val a * val b))) := by
  refine fnr148 (by simp) (nr_eW _ _) (by simp) List.nodup_nil fun F out hS => ?_
  unfold ir148
  have e1 : IntKind.wrap .i64 (((a.length : Nat) : Int) + ((b.length : Nat) : Int)) = ((a.length + b.length : Nat) : Int) := by
    rw [IntWalk.i64_in _ (by omega)]; omega
  simp only [go_sem, sB, reduceCtorEq, sL, sA, sE, sN, e1]
  refine mkO_intro (Nat.le_refl _) (by omega) (by omega) ?_
  simp only [go_sem, sB, reduceCtorEq, sL, sA, sE, sN]
  refine loop148_1 a b f g ha hb (by omega) (by omega) F out _ _ a.length 0 (List.replicate (a.length + b.length) 0) _ (by omega) (by simp) (Wd_rep _) (by simp [val_zeros, val]) (fun j _ => getD_rep _ _) (fun O' nx h1 h2 h3 => ?_)
  have hle : 0 + (a.length + b.length) ≤ (eW O').length := by rw [eW_length]; omega
  simp only [go_sem, sB, reduceCtorEq, sL, sA, sE, sN, frzR_s _ _ _ _ _ _ _ _ hle]
  have htk : O'.take (a.length + b.length) = O' := List.take_of_length_le (by omega)
  refine callO_intro (d := eN (toW (val a * val b))) ?_ ?_
  · rw [htk, ← h3]
    exact w165 _ _ h2 (by omega)
  · simp only [go_sem, sB, reduceCtorEq, sL, sA, sE, sN, rv148, fin_t]
    exact .refl _
theorem loop166 (F : Nat) (out : Sto) (Q : Ex → St → Prop) : ∀ (m a b : Nat) (nx : Nat), b ≤ m → a < 18446744073709551616 → b < 18446744073709551616 →
    (∀ nx, Q (.exit 0) { r := (upd (upd (upd (fun _ => .u) 7 (.b false)) 1 (.i .u64 0)) 0 (.i .u64 (Nat.gcd b a : Nat))), own := fun _ => none, out := out, nx := nx }) →
    Loop Go.Proofs.Tryz.prog F [0, 1] [] b166_0 { r := (upd (upd (fun _ => .u) 1 (.i .u64 b)) 0 (.i .u64 a)), own := fun _ => none, out := out, nx := nx } Q := by
  intro m
  induction m with
  | zero =>
    intro a b nx hb ha hb2 hQ
    refine Loop.stepW ?_
    have : b = 0 := by omega
    subst this
    have c1 : decide (((0 : Nat) : Int) > 0) = false := by decide
    simp only [go_sem, sB, reduceCtorEq, sL, sA, sE, sN, wb166_0, c1]
    simp only [Nat.gcd_zero_left] at hQ
    exact hQ _
  | succ m ih =>
    intro a b nx hb ha hb2 hQ
    refine Loop.stepW ?_
    by_cases h0 : b = 0
    · subst h0
      have c1 : decide (((0 : Nat) : Int) > 0) = false := by decide
      simp only [go_sem, sB, reduceCtorEq, sL, sA, sE, sN, wb166_0, c1]
      simp only [Nat.gcd_zero_left] at hQ
      exact hQ _
    · have c1 : decide (((b : Nat) : Int) > 0) = true := by simp; omega
      have hb0 : (b : Int) ≠ 0 := by omega
      simp only [go_sem, sB, reduceCtorEq, sL, sA, sE, sN, wb166_0, c1, e_rem _ _ _ hb0]
      have hm := Nat.mod_lt a (Nat.pos_of_ne_zero h0)
      refine ih b (a % b) _ (by omega) hb2 (by omega) ?_
      rw [← Nat.gcd_rec]
      exact hQ
theorem w166 (a b : Nat) (ha : a < 18446744073709551616) (hb : b < 18446744073709551616) : FnR Go.Proofs.Tryz.prog 166 [.i .u64 a, .i .u64 b] [] (.i .u64 (Nat.gcd a b : Nat)) := by
  refine fnr166 (by simp) rfl (by simp) List.nodup_nil fun F out hS => ?_
  unfold ir166
  simp only [go_sem, sB, reduceCtorEq, sL, sA, sE, sN]
  refine loop166 F out _ b a b _ (Nat.le_refl _) ha hb (fun nx => ?_)
  simp only [go_sem, sB, reduceCtorEq, sL, sA, sE, sN, rv166, fin_t]
  rw [Nat.gcd_comm]
  exact .refl _
theorem updK_self {α : Type} {f : Key → α} {k : Key} {x : α} (h : f k = x) : updK f k x = f := by
  funext j
  unfold updK
  split
  · rename_i e; subst e; exact h.symm
  · rfl
def addAt (v : List Nat) (lo : Nat) : Nat → Nat → List Nat → Nat → List Nat × Nat
  | 0, _, U, c => (U, c)
  | m + 1, i, U, c => addAt v lo m (i + 1) (U.set (lo + i) ((U.getD (lo + i) 0 + v.getD i 0 + c) % BB)) ((U.getD (lo + i) 0 + v.getD i 0 + c) / BB)
theorem loop197 (v : List Nat) (g : Bool) (hv : Wd v) (key : Key) (z lo len : Nat) (hlen : len ≤ 17592186044416) (F : Nat) (hF : key.1 ≠ F) (Q : Ex → St → Prop) : ∀ (m i : Nat) (U : List Nat) (c : Nat) (o : Sto) (nx : Nat), i + m = len → lo + len ≤ U.length → Wd U → c ≤ 1 → o key = some (z, .row 1 (eW U)) →
    (∀ nx, Q (.exit 0) { r := (upd (upd (upd (upd (upd (fun _ => .u) 10 (.b false)) 5 (.i .i64 len)) 4 (.i .u64 (addAt v lo m i U c).2)) 1 (.sl 1 g (eW v))) 0 (.w key z 1 lo len)), own := fun _ => none, out := updK o key (some (z, .row 1 (eW (addAt v lo m i U c).1))), nx := nx }) →
    Loop Go.Proofs.Tryz.prog F [0, 1, 4, 5] [] b197_0 { r := (upd (upd (upd (upd (fun _ => .u) 5 (.i .i64 i)) 4 (.i .u64 c)) 1 (.sl 1 g (eW v))) 0 (.w key z 1 lo len)), own := fun _ => none, out := o, nx := nx } Q := by
  intro m
  induction m with
  | zero =>
    intro i U c o nx hi hU hw hc ho hQ
    refine Loop.stepW ?_
    have hi' : i = len := by omega
    subst hi'
    have c1 : decide (((i : Nat) : Int) < ((i : Nat) : Int)) = false := by simp
    simp only [go_sem, sB, reduceCtorEq, sL, sA, sE, sN, wb197_0, c1]
    simp only [addAt, updK_self ho] at hQ
    exact hQ _
  | succ m ih =>
    intro i U c o nx hi hU hw hc ho hQ
    refine Loop.stepW ?_
    have c1 : decide (((i : Nat) : Int) < ((len : Nat) : Int)) = true := by simp; omega
    have hil : i < len := by omega
    have hiU : lo + i < U.length := by omega
    have h1 : U.getD (lo + i) 0 < 4294967296 := hw.getD _
    have h2 : v.getD i 0 < 4294967296 := hv.getD _
    have hat := eW_at hiU
    simp only [go_sem, sB, reduceCtorEq, sL, sA, sE, sN, wb197_0, c1, ixsO_w _ _ _ _ _ _ _ hil, look_out hF, ho, hat, w64 (U.getD (lo + i) 0) (by omega)]
    refine callO_intro (w170 v g i hv) ?_
    have e1 : IntKind.wrap .u64 (((U.getD (lo + i) 0 : Nat) : Int) + ((v.getD i 0 : Nat) : Int)) = ((U.getD (lo + i) 0 + v.getD i 0 : Nat) : Int) := by
      rw [← Int.natCast_add]; exact w64 _ (by omega)
    have e2 : IntKind.wrap .u64 (((U.getD (lo + i) 0 + v.getD i 0 : Nat) : Int) + ((c : Nat) : Int)) = ((U.getD (lo + i) 0 + v.getD i 0 + c : Nat) : Int) := by
      rw [← Int.natCast_add]; exact w64 _ (by omega)
    have e3 : IntKind.wrap .i64 (((i : Nat) : Int) + 1) = ((i + 1 : Nat) : Int) := by rw [IntWalk.i64_in _ (by omega)]; omega
    generalize ht : U.getD (lo + i) 0 + v.getD i 0 + c = t at e2
    have e4 : IntKind.wrap .u32 ((t % 4294967296 : Nat) : Int) = ((t % 4294967296 : Nat) : Int) := w32 _ (by omega)
    have e5 : IntKind.wrap .u64 ((t / 4294967296 : Nat) : Int) = ((t / 4294967296 : Nat) : Int) := w64 _ (by omega)
    simp only [go_sem, sB, reduceCtorEq, sL, sA, sE, sN, e1, e2, e3, e4, e5, ixsO_w _ _ _ _ _ _ _ hil, look_out hF, ho, hat, set_out hF]
    refine ih (i + 1) (U.set (lo + i) (t % 4294967296)) (t / 4294967296) _ _ (by omega) (by simpa using hU) (hw.set (by unfold BB; omega)) (by omega) (updK_eq _ _ _) (fun nx => ?_)
    rw [updK_twice]
    simp only [addAt, ht, BB] at hQ
    exact hQ nx
theorem w197 (v : List Nat) (g : Bool) (hv : Wd v) (key : Key) (z lo len : Nat) (hlen : len ≤ 17592186044416) (U : List Nat) (hU : lo + len ≤ U.length) (hw : Wd U) : FnR Go.Proofs.Tryz.prog 197 [.w key z 1 lo len, .sl 1 g (eW v)] [⟨key, z, .row 1 (eW U), .row 1 (eW (addAt v lo len 0 U 0).1)⟩] (.t []) := by
  refine fnr197 (by simp) rfl (by simp [Obj.nr, nrLL_eW]) (by simp) fun F out hS => ?_
  have hF : key.1 ≠ F := by have := hS.low _ (List.mem_singleton.2 rfl); simp only at this; omega
  have ho := hS.old _ (List.mem_singleton.2 rfl)
  simp only at ho
  unfold ir197
  simp only [go_sem, sB, reduceCtorEq, sL, sA, sE, sN]
  refine loop197 v g hv key z lo len hlen F hF _ len 0 U 0 out _ (by omega) hU hw (by omega) ho (fun nx => ?_)
  simp only [go_sem, sB, reduceCtorEq, sL, sA, sE, sN, rv197, fin_n, outOf_one]
structure SubR where
  u : List Nat
  c : Nat
  b : Nat
def subAt (v : List Nat) (q lo : Nat) : Nat → Nat → List Nat → Nat → Nat → SubR
  | 0, _, U, c, b => ⟨U, c, b⟩
  | m + 1, i, U, c, b => subAt v q lo m (i + 1) (U.set (lo + i) ((BB + U.getD (lo + i) 0 - (q * v.getD i 0 + c) % BB - b) % BB)) ((q * v.getD i 0 + c) / BB) (1 - (BB + U.getD (lo + i) 0 - (q * v.getD i 0 + c) % BB - b) / BB)
theorem loop196 (v : List Nat) (g : Bool) (hv : Wd v) (q : Nat) (hq : q < BB) (key : Key) (z lo len : Nat) (hlen : len ≤ 17592186044416) (F : Nat) (hF : key.1 ≠ F) (Q : Ex → St → Prop) : ∀ (m i : Nat) (U : List Nat) (c b : Nat) (o : Sto) (nx : Nat), i + m = len → lo + len ≤ U.length → Wd U → c < BB → b ≤ 1 → o key = some (z, .row 1 (eW U)) →
    (∀ nx, Q (.exit 0) { r := (upd (upd (upd (upd (upd (upd (upd (fun _ => .u) 15 (.b false)) 9 (.i .i64 len)) 8 (.i .u64 (subAt v q lo m i U c b).b)) 7 (.i .u64 (subAt v q lo m i U c b).c)) 2 (.i .u64 q)) 1 (.sl 1 g (eW v))) 0 (.w key z 1 lo len)), own := fun _ => none, out := updK o key (some (z, .row 1 (eW (subAt v q lo m i U c b).u))), nx := nx }) →
    Loop Go.Proofs.Tryz.prog F [0, 1, 2, 7, 8, 9] [] b196_0 { r := (upd (upd (upd (upd (upd (upd (fun _ => .u) 9 (.i .i64 i)) 8 (.i .u64 b)) 7 (.i .u64 c)) 2 (.i .u64 q)) 1 (.sl 1 g (eW v))) 0 (.w key z 1 lo len)), own := fun _ => none, out := o, nx := nx } Q := by
  intro m
  induction m with
  | zero =>
    intro i U c b o nx hi hU hw hc hb ho hQ
    refine Loop.stepW ?_
    have hi' : i = len := by omega
    subst hi'
    have c1 : decide (((i : Nat) : Int) < ((i : Nat) : Int)) = false := by simp
    simp only [go_sem, sB, reduceCtorEq, sL, sA, sE, sN, wb196_0, c1]
    simp only [subAt, updK_self ho] at hQ
    exact hQ _
  | succ m ih =>
    intro i U c b o nx hi hU hw hc hb ho hQ
    refine Loop.stepW ?_
    have c1 : decide (((i : Nat) : Int) < ((len : Nat) : Int)) = true := by simp; omega
    have hil : i < len := by omega
    have hiU : lo + i < U.length := by omega
    have h1 : U.getD (lo + i) 0 < 4294967296 := hw.getD _
    have hB : BB = 4294967296 := rfl
    obtain ⟨t1, t2⟩ := mul_step hq (hv.getD i) hc BB_pos
    simp only [Nat.add_zero] at t1 t2
    have hat := eW_at hiU
    simp only [go_sem, sB, reduceCtorEq, sL, sA, sE, sN, wb196_0, c1]
    refine callO_intro (w170 v g i hv) ?_
    generalize hP : q * v.getD i 0 = p at *
    have e1 : IntKind.wrap .u64 (((q : Nat) : Int) * ((v.getD i 0 : Nat) : Int)) = ((p : Nat) : Int) := by
      rw [← Int.natCast_mul, hP]; exact w64 _ (by rw [hB] at t1; omega)
    have e2 : IntKind.wrap .u64 (((p : Nat) : Int) + ((c : Nat) : Int)) = ((p + c : Nat) : Int) := by
      rw [← Int.natCast_add]; exact w64 _ (by rw [hB] at t1; omega)
    generalize hs : p + c = s at *
    generalize hU0 : U.getD (lo + i) 0 = x at *
    have e3 : IntKind.wrap .u64 ((s / 4294967296 : Nat) : Int) = ((s / 4294967296 : Nat) : Int) := w64 _ (by rw [hB] at t2; omega)
    have e4 : IntKind.wrap .u64 (4294967296 + ((x : Nat) : Int)) = ((4294967296 + x : Nat) : Int) := by
      rw [IntWalk.u64_in _ (by omega)]; omega
    have e5 : IntKind.wrap .u64 (((4294967296 + x : Nat) : Int) - ((s % 4294967296 : Nat) : Int)) = ((4294967296 + x - s % 4294967296 : Nat) : Int) := by
      rw [IntWalk.u64_in _ (by omega)]; omega
    have e6 : IntKind.wrap .u64 (((4294967296 + x - s % 4294967296 : Nat) : Int) - ((b : Nat) : Int)) = ((4294967296 + x - s % 4294967296 - b : Nat) : Int) := by
      rw [IntWalk.u64_in _ (by omega)]; omega
    generalize ht : 4294967296 + x - s % 4294967296 - b = t at *
    have e7 : IntKind.wrap .u32 ((t % 4294967296 : Nat) : Int) = ((t % 4294967296 : Nat) : Int) := w32 _ (by omega)
    have e8 : IntKind.wrap .u64 ((t / 4294967296 : Nat) : Int) = ((t / 4294967296 : Nat) : Int) := w64 _ (by omega)
    have e9 : IntKind.wrap .u64 (1 - ((t / 4294967296 : Nat) : Int)) = ((1 - t / 4294967296 : Nat) : Int) := by
      rw [IntWalk.u64_in _ (by omega)]; omega
    have e10 : IntKind.wrap .i64 (((i : Nat) : Int) + 1) = ((i + 1 : Nat) : Int) := by rw [IntWalk.i64_in _ (by omega)]; omega
    simp only [go_sem, sB, reduceCtorEq, sL, sA, sE, sN, e1, e2, e3, e4, e5, e6, e7, e8, e9, e10, ixsO_w _ _ _ _ _ _ _ hil, look_out hF, ho, hat, set_out hF, w64 x (by omega)]
    refine ih (i + 1) (U.set (lo + i) (t % 4294967296)) (s / 4294967296) (1 - t / 4294967296) _ _ (by omega) (by simpa using hU) (hw.set (by rw [hB]; omega)) (by rw [hB] at t2 ⊢; exact t2) (by omega) (updK_eq _ _ _) (fun nx => ?_)
    rw [updK_twice]
    simp only [subAt, hP, hs, hU0, BB, ht] at hQ
    exact hQ nx
theorem w196 (v : List Nat) (g : Bool) (hv : Wd v) (q : Nat) (hq : q < BB) (key : Key) (z lo len : Nat) (hlen : len ≤ 17592186044416) (U : List Nat) (hU : lo + len ≤ U.length) (hw : Wd U) : FnR Go.Proofs.Tryz.prog 196 [.w key z 1 lo len, .sl 1 g (eW v), .i .u64 q] [⟨key, z, .row 1 (eW U), .row 1 (eW (subAt v q lo len 0 U 0 0).u)⟩] (.b (decide ((subAt v q lo len 0 U 0 0).b = 1))) := by
  refine fnr196 (by simp) rfl (by simp [Obj.nr, nrLL_eW]) (by simp) fun F out hS => ?_
  have hF : key.1 ≠ F := by have := hS.low _ (List.mem_singleton.2 rfl); simp only at this; omega
  have ho := hS.old _ (List.mem_singleton.2 rfl)
  simp only at ho
  unfold ir196
  simp only [go_sem, sB, reduceCtorEq, sL, sA, sE, sN]
  refine loop196 v g hv q hq key z lo len hlen F hF _ len 0 U 0 0 out _ (by omega) hU hw BB_pos (by omega) ho (fun nx => ?_)
  simp only [go_sem, sB, reduceCtorEq, sL, sA, sE, sN, rv196, fin_tu]
  have : (((subAt v q lo len 0 U 0 0).b : Int) == 1) = decide ((subAt v q lo len 0 U 0 0).b = 1) := by
    by_cases h : (subAt v q lo len 0 U 0 0).b = 1
    · simp [h]
    · simp [h]; omega
  rw [this]
  exact .refl _
def gLoop (v1 v2 u0 : Nat) : Nat → Nat → Nat → Nat
  | 0, q, _ => q
  | k + 1, q, r => if BB ≤ q ∨ r * BB + u0 < q * v2 then (if BB ≤ r + v1 then q - 1 else gLoop v1 v2 u0 k (q - 1) (r + v1)) else q
theorem loop195 (v : List Nat) (g : Bool) (hv : Wd v) (n : Nat) (hn : n = v.length) (h2 : 2 ≤ n) (hn2 : n ≤ 17592186044416) (v1 : Nat) (hv1 : v.getD (n - 1) 0 = v1) (hv10 : 0 < v1) (v2 : Nat) (hv2 : v.getD (n - 2) 0 = v2) (key : Key) (z lo : Nat) (U : List Nat) (hU : lo + (n + 1) ≤ U.length) (hw : Wd U) (u0 : Nat) (hu0 : U.getD (lo + (n - 2)) 0 = u0) (F : Nat) (hF : key.1 ≠ F) (o : Sto) (ho : o key = some (z, .row 1 (eW U))) (Q : Ex → St → Prop) : ∀ (k q r : Nat) (nx : Nat), BB ≤ r + k → r < BB → q < 18446744073709551616 →
    (∀ r' nx, Q (.exit 0) { r := (upd (upd (upd (upd (upd (upd (fun _ => .u) 61 (.b false)) 8 (.i .u64 r')) 7 (.i .u64 (gLoop v1 v2 u0 k q r))) 5 (.i .i64 n)) 1 (.sl 1 g (eW v))) 0 (.w key z 1 lo (n + 1))), own := fun _ => none, out := o, nx := nx }) →
    (∀ r' nx, Q (.exit 0) { r := (upd (upd (upd (upd (upd (upd (fun _ => .u) 73 (.b true)) 8 (.i .u64 r')) 7 (.i .u64 (gLoop v1 v2 u0 k q r))) 5 (.i .i64 n)) 1 (.sl 1 g (eW v))) 0 (.w key z 1 lo (n + 1))), own := fun _ => none, out := o, nx := nx }) →
    Loop Go.Proofs.Tryz.prog F [0, 1, 5, 7, 8] [] b195_0 { r := (upd (upd (upd (upd (upd (fun _ => .u) 8 (.i .u64 r)) 7 (.i .u64 q)) 5 (.i .i64 n)) 1 (.sl 1 g (eW v))) 0 (.w key z 1 lo (n + 1))), own := fun _ => none, out := o, nx := nx } Q := by
  have hB : BB = 4294967296 := rfl
  have hbv1 : v1 < 4294967296 := by rw [← hv1]; exact hv.getD _
  have hbv2 : v2 < 4294967296 := by rw [← hv2]; exact hv.getD _
  have hbu0 : u0 < 4294967296 := by rw [← hu0]; exact hw.getD _
  have i1 : IntKind.wrap .i64 (((n : Nat) : Int) - 1) = ((n - 1 : Nat) : Int) := by rw [IntWalk.i64_in _ (by omega)]; omega
  have i2 : IntKind.wrap .i64 (((n : Nat) : Int) - 2) = ((n - 2 : Nat) : Int) := by rw [IntWalk.i64_in _ (by omega)]; omega
  have a1 := eW_at (show n - 1 < v.length by omega)
  have a2 := eW_at (show n - 2 < v.length by omega)
  have a3 := eW_at (show lo + (n - 2) < U.length by omega)
  rw [hv1] at a1
  rw [hv2] at a2
  rw [hu0] at a3
  have hl : n - 2 < n + 1 := by omega
  intro k
  induction k with
  | zero => intro q r nx hk hr; omega
  | succ k ih =>
    intro q r nx hk hr hq hQ1 hQ2
    refine Loop.stepW ?_
    have go : BB ≤ q ∨ r * BB + u0 < q * v2 → 0 < q → (BB ≤ r + v1 → (∀ r' nx, Q (.exit 0) { r := (upd (upd (upd (upd (upd (upd (fun _ => .u) 73 (.b true)) 8 (.i .u64 r')) 7 (.i .u64 (q - 1 : Nat))) 5 (.i .i64 n)) 1 (.sl 1 g (eW v))) 0 (.w key z 1 lo (n + 1))), own := fun _ => none, out := o, nx := nx })) ∧ (¬ BB ≤ r + v1 → ∀ nx, Loop Go.Proofs.Tryz.prog F [0, 1, 5, 7, 8] [] b195_0 { r := (upd (upd (upd (upd (upd (fun _ => .u) 8 (.i .u64 (r + v1 : Nat))) 7 (.i .u64 (q - 1 : Nat))) 5 (.i .i64 n)) 1 (.sl 1 g (eW v))) 0 (.w key z 1 lo (n + 1))), own := fun _ => none, out := o, nx := nx } Q) := by
      intro hc h0
      refine ⟨fun h => ?_, fun h nx => ?_⟩
      · simp only [gLoop, hc, h, if_true] at hQ2
        exact hQ2
      · simp only [gLoop, hc, h, if_true, if_false] at hQ1 hQ2
        exact ih (q - 1) (r + v1) nx (by omega) (by omega) (by omega) hQ1 hQ2
    have e5 : 0 < q → IntKind.wrap .u64 (((q : Nat) : Int) - 1) = ((q - 1 : Nat) : Int) := fun h => by rw [IntWalk.u64_in _ (by omega)]; omega
    have e6 : IntKind.wrap .u64 (((r : Nat) : Int) + ((v1 : Nat) : Int)) = ((r + v1 : Nat) : Int) := by rw [← Int.natCast_add]; exact w64 _ (by omega)
    by_cases h1 : BB ≤ q
    · have c1 : decide (((q : Nat) : Int) ≥ 4294967296) = true := by simp; omega
      obtain ⟨g1, g2⟩ := go (.inl h1) (by omega)
      simp only [go_sem, sB, reduceCtorEq, sL, sA, sE, sN, wb195_0, c1, e5 (by omega), i1, ixsO_sl _ _ _ _ _ _ a1, w64 v1 (by omega), e6]
      refine condO_d (fun h => ?_) (fun h => ?_)
      · simp only [go_sem, sB, reduceCtorEq, sL, sA, sE, sN, decide_eq_true h]
        exact g1 (by omega) _ _
      · simp only [go_sem, sB, reduceCtorEq, sL, sA, sE, sN]
        exact g2 (by omega) _
    · have c1 : decide (((q : Nat) : Int) ≥ 4294967296) = false := by simp; omega
      have t1 : q * v2 ≤ 4294967295 * 4294967295 := Nat.mul_le_mul (by omega) (by omega)
      have e1 : IntKind.wrap .u64 (((q : Nat) : Int) * ((v2 : Nat) : Int)) = ((q * v2 : Nat) : Int) := by rw [← Int.natCast_mul]; exact w64 _ (by omega)
      have e2 : IntKind.wrap .u64 (((r : Nat) : Int) * 4294967296) = ((r * 4294967296 : Nat) : Int) := by rw [IntWalk.u64_in _ (by omega)]; omega
      have e3 : IntKind.wrap .u64 (((r * 4294967296 : Nat) : Int) + ((u0 : Nat) : Int)) = ((r * 4294967296 + u0 : Nat) : Int) := by rw [← Int.natCast_add]; exact w64 _ (by omega)
      simp only [go_sem, sB, reduceCtorEq, sL, sA, sE, sN, wb195_0, c1, i2, ixsO_sl _ _ _ _ _ _ a2, w64 v2 (by omega), e1, e2, ixsO_w _ _ _ _ _ _ _ hl, look_out hF, ho, a3, w64 u0 (by omega), e3]
      refine condO_d (fun h => ?_) (fun h => ?_)
      · have hgt : r * 4294967296 + u0 < q * v2 := by omega
        have hq0 : 0 < q := by
          rcases Nat.eq_zero_or_pos q with h0 | h0
          · subst h0; simp at hgt
          · exact h0
        obtain ⟨g1, g2⟩ := go (.inr (by rw [hB]; exact hgt)) hq0
        simp only [go_sem, sB, reduceCtorEq, sL, sA, sE, sN, e5 hq0, i1, ixsO_sl _ _ _ _ _ _ a1, w64 v1 (by omega), e6]
        refine condO_d (fun h => ?_) (fun h => ?_)
        · simp only [go_sem, sB, reduceCtorEq, sL, sA, sE, sN, decide_eq_true h]
          exact g1 (by omega) _ _
        · simp only [go_sem, sB, reduceCtorEq, sL, sA, sE, sN]
          exact g2 (by omega) _
      · have hgt : ¬ r * BB + u0 < q * v2 := by rw [hB]; omega
        simp only [go_sem, sB, reduceCtorEq, sL, sA, sE, sN, decide_eq_false h]
        simp only [gLoop, h1, hgt, or_self, if_false] at hQ1
        exact hQ1 _ _
def guessW (v U : List Nat) (lo : Nat) : Nat :=
  gLoop (v.getD (v.length - 1) 0) (v.getD (v.length - 2) 0) (U.getD (lo + (v.length - 2)) 0) BB ((U.getD (lo + v.length) 0 * BB + U.getD (lo + (v.length - 1)) 0) / v.getD (v.length - 1) 0) ((U.getD (lo + v.length) 0 * BB + U.getD (lo + (v.length - 1)) 0) % v.getD (v.length - 1) 0)
theorem w195 (v : List Nat) (g : Bool) (hv : Wd v) (h2 : 2 ≤ v.length) (hn2 : v.length ≤ 17592186044416) (hv10 : 0 < v.getD (v.length - 1) 0) (key : Key) (z lo : Nat) (U : List Nat) (hU : lo + (v.length + 1) ≤ U.length) (hw : Wd U) : FnR Go.Proofs.Tryz.prog 195 [.w key z 1 lo (v.length + 1), .sl 1 g (eW v)] [⟨key, z, .row 1 (eW U), .row 1 (eW U)⟩] (.i .u64 (guessW v U lo : Nat)) := by
  refine fnr195 (by simp) rfl (by simp [Obj.nr, nrLL_eW]) (by simp) fun F out hS => ?_
  have hF : key.1 ≠ F := by have := hS.low _ (List.mem_singleton.2 rfl); simp only at this; omega
  have ho := hS.old _ (List.mem_singleton.2 rfl)
  simp only at ho
  have hB : BB = 4294967296 := rfl
  unfold ir195
  have i1 : IntKind.wrap .i64 (((v.length : Nat) : Int) - 1) = ((v.length - 1 : Nat) : Int) := by rw [IntWalk.i64_in _ (by omega)]; omega
  have a1 := eW_at (show v.length - 1 < v.length by omega)
  have a3 := eW_at (show lo + v.length < U.length by omega)
  have a4 := eW_at (show lo + (v.length - 1) < U.length by omega)
  have hl1 : v.length < v.length + 1 := by omega
  have hl2 : v.length - 1 < v.length + 1 := by omega
  have b1 : v.getD (v.length - 1) 0 < 4294967296 := hv.getD _
  have b2 : U.getD (lo + v.length) 0 < 4294967296 := hw.getD _
  have b3 : U.getD (lo + (v.length - 1)) 0 < 4294967296 := hw.getD _
  have hF' : updK out key (some (z, .row 1 (eW U))) = out := updK_self ho
  have hx : guessW v U lo = guessW v U lo := rfl
  unfold guessW at hx ⊢
  generalize hV1 : v.getD (v.length - 1) 0 = v1 at *
  generalize hX : U.getD (lo + v.length) 0 = x at *
  generalize hY : U.getD (lo + (v.length - 1)) 0 = y at *
  have e1 : IntKind.wrap .u64 (((x : Nat) : Int) * 4294967296) = ((x * 4294967296 : Nat) : Int) := by rw [IntWalk.u64_in _ (by omega)]; omega
  have e2 : IntKind.wrap .u64 (((x * 4294967296 : Nat) : Int) + ((y : Nat) : Int)) = ((x * 4294967296 + y : Nat) : Int) := by rw [← Int.natCast_add]; exact w64 _ (by omega)
  have hd0 : ((v1 : Nat) : Int) ≠ 0 := by omega
  have hqb : (x * 4294967296 + y) / v1 < 18446744073709551616 := by
    have := Nat.div_le_self (x * 4294967296 + y) v1
    omega
  simp only [go_sem, sB, reduceCtorEq, sL, sA, sE, sN, i1, ixsO_w _ _ _ _ _ _ _ hl1, ixsO_w _ _ _ _ _ _ _ hl2, look_out hF, ho, a3, a4, w64 x (by omega), w64 y (by omega), e1, e2, ixsO_sl _ _ _ _ _ _ a1, w64 v1 (by omega), e_quo _ _ _ hd0, e_rem _ _ _ hd0, w64 _ hqb]
  have hr := Nat.mod_lt (x * 4294967296 + y) hv10
  refine loop195 v g hv v.length rfl h2 hn2 v1 hV1 hv10 _ rfl key z lo U hU hw _ rfl F hF out ho _ BB ((x * 4294967296 + y) / v1) ((x * 4294967296 + y) % v1) _ (by omega) (by omega) hqb (fun r' nx => ?_) (fun r' nx => ?_)
  · simp only [go_sem, sB, reduceCtorEq, sL, sA, sE, sN, rv195, fin_tu, hF', hB]
    exact .refl _
  · simp only [go_sem, sB, reduceCtorEq, sL, sA, sE, sN, rv195, fin_tu, hF', hB]
    exact .refl _
theorem guess_up {q v1 v2 v0 t r u0 w0 P : Nat} (hq : q * v1 + r = t) (hc : r * BB + u0 < q * v2) (hw : w0 < P) : (t * BB + u0) * P + w0 < q * ((v1 * BB + v2) * P + v0) := by
  have h1 : q * v1 * BB + r * BB = t * BB := by rw [← Nat.add_mul, hq]
  have h2 : t * BB + u0 + 1 ≤ q * v1 * BB + q * v2 := by omega
  have h3 := Nat.mul_le_mul_right P h2
  have h4 : q * ((v1 * BB + v2) * P + v0) = (q * v1 * BB + q * v2) * P + q * v0 := by
    rw [Nat.mul_add, ← Nat.mul_assoc, Nat.mul_add, ← Nat.mul_assoc]
  rw [Nat.add_mul _ 1 P, Nat.one_mul] at h3
  rw [h4]
  omega
theorem guess_a {q v1 v2 v0 t r u0 w0 P : Nat} (hq : q * v1 + r = t) (hc : q * v2 ≤ r * BB + u0) (hv : v0 < P) (hv1 : 1 ≤ v1) (hb : q < BB) : q * ((v1 * BB + v2) * P + v0) ≤ ((t * BB + u0) * P + w0) + ((v1 * BB + v2) * P + v0) := by
  have h1 : q * v1 * BB + r * BB = t * BB := by rw [← Nat.add_mul, hq]
  have h2 : q * v1 * BB + q * v2 ≤ t * BB + u0 := by omega
  have h3 := Nat.mul_le_mul_right P h2
  have h4 : q * ((v1 * BB + v2) * P + v0) = (q * v1 * BB + q * v2) * P + q * v0 := by
    rw [Nat.mul_add, ← Nat.mul_assoc, Nat.mul_add, ← Nat.mul_assoc]
  have h5 : q * v0 ≤ BB * P := Nat.mul_le_mul (by omega) (by omega)
  have h6 : BB * P ≤ (v1 * BB + v2) * P := Nat.mul_le_mul_right _ (by
    have := Nat.mul_le_mul_right BB hv1
    omega)
  rw [h4]
  omega
theorem guess_b {g v1 v2 v0 t r u0 w0 P : Nat} (hq : g * v1 + r = t) (hr : BB ≤ r) (hv : v0 < P) (hv2 : v2 < BB) (hb : g ≤ BB) : g * ((v1 * BB + v2) * P + v0) ≤ (t * BB + u0) * P + w0 := by
  have h1 : (v1 * BB + v2) * P + v0 ≤ (v1 + 1) * BB * P := by
    have : v1 * BB + v2 + 1 ≤ (v1 + 1) * BB := by rw [Nat.add_mul]; omega
    have := Nat.mul_le_mul_right P this
    rw [Nat.add_mul _ 1 P, Nat.one_mul] at this
    omega
  have h2 := Nat.mul_le_mul_left g h1
  have h3 : g * ((v1 + 1) * BB * P) = (g * v1 + g) * BB * P := by
    rw [← Nat.mul_assoc, ← Nat.mul_assoc, Nat.mul_add, Nat.mul_one]
  have h4 : (g * v1 + g) * BB * P ≤ t * BB * P := Nat.mul_le_mul_right _ (Nat.mul_le_mul_right _ (by omega))
  have h5 : t * BB * P ≤ (t * BB + u0) * P := Nat.mul_le_mul_right _ (by omega)
  omega
theorem gLoop_spec {v1 v2 v0 u0 w0 t P : Nat} (hv : v0 < P) (hw : w0 < P) (hv2 : v2 < BB) (hv1 : 1 ≤ v1) (hW : (t * BB + u0) * P + w0 < BB * ((v1 * BB + v2) * P + v0)) : ∀ (k q r : Nat), q * v1 + r = t → q ≤ BB + 1 → r < BB → BB ≤ r + k → (t * BB + u0) * P + w0 < (q + 1) * ((v1 * BB + v2) * P + v0) →
    (t * BB + u0) * P + w0 < (gLoop v1 v2 u0 k q r + 1) * ((v1 * BB + v2) * P + v0) ∧ gLoop v1 v2 u0 k q r * ((v1 * BB + v2) * P + v0) ≤ ((t * BB + u0) * P + w0) + ((v1 * BB + v2) * P + v0) ∧ gLoop v1 v2 u0 k q r < BB := by
  intro k
  induction k with
  | zero => intro q r _ _ hr hk; omega
  | succ k ih =>
    intro q r hq hb hr hk hu
    unfold gLoop
    by_cases hc : BB ≤ q ∨ r * BB + u0 < q * v2
    · rw [if_pos hc]
      have hlt : (t * BB + u0) * P + w0 < q * ((v1 * BB + v2) * P + v0) := by
        rcases hc with hc | hc
        · exact Nat.lt_of_lt_of_le hW (Nat.mul_le_mul_right _ hc)
        · exact guess_up hq hc hw
      have hq0 : 0 < q := by
        rcases Nat.eq_zero_or_pos q with h | h
        · subst h; simp at hlt
        · exact h
      have hq1 : (q - 1) * v1 + (r + v1) = t := by
        have : q = q - 1 + 1 := by omega
        rw [this, Nat.add_mul, Nat.one_mul] at hq
        omega
      have hq2 : (t * BB + u0) * P + w0 < (q - 1 + 1) * ((v1 * BB + v2) * P + v0) := by
        have : q - 1 + 1 = q := by omega
        rw [this]; exact hlt
      by_cases hr2 : BB ≤ r + v1
      · rw [if_pos hr2]
        have hgb := guess_b (u0 := u0) (w0 := w0) hq1 hr2 hv hv2 (by omega)
        refine ⟨hq2, by omega, ?_⟩
        have h := Nat.lt_of_le_of_lt hgb hW
        exact Nat.lt_of_mul_lt_mul_right h
      · rw [if_neg hr2]
        exact ih (q - 1) (r + v1) hq1 (by omega) (by omega) (by omega) hq2
    · rw [if_neg hc]
      have h1 : ¬ BB ≤ q := fun h => hc (.inl h)
      have h2 : ¬ r * BB + u0 < q * v2 := fun h => hc (.inr h)
      exact ⟨hu, guess_a hq (by omega) hv hv1 (by omega), by omega⟩
theorem val_drop_all (v : List Nat) (i : Nat) : val (v.drop i) = v.getD i 0 + BB * val (v.drop (i + 1)) := by
  by_cases h : i < v.length
  · exact val_drop_succ h
  · rw [List.drop_of_length_le (by omega), List.drop_of_length_le (by omega), List.getD_eq_getElem?_getD, List.getElem?_eq_none (by omega)]
    simp [val]
theorem subAt_spec {v : List Nat} {q lo : Nat} (hv : Wd v) (hq : q < BB) : ∀ (m i : Nat) (U : List Nat) (c b : Nat), lo + i + m ≤ U.length → v.length ≤ i + m → Wd U → c < BB → b ≤ 1 →
    (subAt v q lo m i U c b).u.length = U.length ∧ Wd (subAt v q lo m i U c b).u ∧ (subAt v q lo m i U c b).b ≤ 1 ∧ (∀ j, lo + i + m ≤ j → (subAt v q lo m i U c b).u.getD j 0 = U.getD j 0) ∧
    val (subAt v q lo m i U c b).u + BB ^ (lo + i) * (q * val (v.drop i) + c + b) = val U + BB ^ (lo + i + m) * ((subAt v q lo m i U c b).c + (subAt v q lo m i U c b).b)
  | 0, i, U, c, b, h1, h2, hw, hc, hb => by
    refine ⟨rfl, hw, hb, fun _ _ => rfl, ?_⟩
    simp only [subAt, Nat.add_zero]
    rw [List.drop_of_length_le (by omega)]
    simp [val]
  | m + 1, i, U, c, b, h1, h2, hw, hc, hb => by
    have hB : BB = 4294967296 := rfl
    obtain ⟨t1, t2⟩ := mul_step hq (hv.getD i) hc BB_pos
    simp only [Nat.add_zero] at t1 t2
    have hx := hw.getD (lo + i)
    have hpm := Nat.mod_lt (q * v.getD i 0 + c) BB_pos
    have hdm := Nat.div_add_mod (q * v.getD i 0 + c) BB
    simp only [subAt]
    have hs := val_set (l := U) (i := lo + i) (w := (BB + U.getD (lo + i) 0 - (q * v.getD i 0 + c) % BB - b) % BB) (by omega)
    generalize hY : v.getD i 0 = y at *
    generalize hX : U.getD (lo + i) 0 = x at *
    generalize hp : q * y = p at *
    generalize hr : (p + c) % BB = r at *
    generalize hd : (p + c) / BB = d at *
    have ht := Nat.div_add_mod (BB + x - r - b) BB
    have htm := Nat.mod_lt (BB + x - r - b) BB_pos
    have hdv : (BB + x - r - b) / BB ≤ 1 := by
      have : (BB + x - r - b) / BB < 2 := (Nat.div_lt_iff_lt_mul BB_pos).2 (by omega)
      omega
    generalize hm : (BB + x - r - b) % BB = w at *
    generalize he : (BB + x - r - b) / BB = e at *
    have hid : w + r + b = x + BB * (1 - e) := by
      have : e = 0 ∨ e = 1 := by omega
      rcases this with rfl | rfl <;> omega
    obtain ⟨g1, g2, g3, g4, g5⟩ := subAt_spec (lo := lo) hv hq m (i + 1) (U.set (lo + i) w) d (1 - e) (by rw [List.length_set]; omega) (by omega) (hw.set htm) t2 (by omega)
    refine ⟨by rw [g1]; simp, g2, g3, fun j hj => ?_, ?_⟩
    · rw [g4 j (by omega), getD_set_ne (by omega)]
    · have e1 : lo + (i + 1) + m = lo + i + (m + 1) := by omega
      have e2 : lo + (i + 1) = lo + i + 1 := by omega
      rw [e1, e2, Nat.pow_succ] at g5
      rw [val_drop_all v i, hY]
      generalize BB ^ (lo + i) = G at g5 hs ⊢
      generalize val (v.drop (i + 1)) = D at g5 ⊢
      generalize BB ^ (lo + i + (m + 1)) * ((subAt v q lo m (i + 1) (U.set (lo + i) w) d (1 - e)).c + (subAt v q lo m (i + 1) (U.set (lo + i) w) d (1 - e)).b) = E at g5 ⊢
      have f1 : G * (q * (y + BB * D) + c + b) = G * (BB * (q * D)) + G * (BB * d) + G * r + G * b := by
        rw [Nat.mul_add q, hp, Nat.mul_left_comm q BB D]
        have : p + BB * (q * D) + c + b = BB * (q * D) + (BB * d + r) + b := by omega
        rw [this, Nat.mul_add, Nat.mul_add, Nat.mul_add, ← Nat.add_assoc]
      have f2 : G * BB * (q * D + d + (1 - e)) = G * (BB * (q * D)) + G * (BB * d) + G * (BB * (1 - e)) := by
        rw [Nat.mul_assoc, Nat.mul_add, Nat.mul_add, Nat.mul_add, Nat.mul_add]
      have f3 : G * w + G * r + G * b = G * x + G * (BB * (1 - e)) := by
        rw [← Nat.mul_add, ← Nat.mul_add, hid, Nat.mul_add]
      rw [f1]
      rw [f2] at g5
      omega
theorem subAt_c {v : List Nat} {q lo : Nat} : ∀ (m i : Nat) (U : List Nat) (c b : Nat), v.length ≤ i + m → c < BB → (∀ i, q * v.getD i 0 + BB ≤ BB * BB) → (subAt v q lo (m + 1) i U c b).c = 0
  | 0, i, U, c, b, h, hc, _ => by
    have : v.getD i 0 = 0 := by rw [List.getD_eq_getElem?_getD, List.getElem?_eq_none (by omega)]; rfl
    simp only [subAt, this, Nat.mul_zero, Nat.zero_add]
    exact Nat.div_eq_of_lt hc
  | m + 1, i, U, c, b, h, hc, hb => by
    rw [subAt]
    exact subAt_c m (i + 1) _ _ _ (by omega) ((Nat.div_lt_iff_lt_mul BB_pos).2 (by have := hb i; omega)) hb
theorem addAt_spec {v : List Nat} {lo : Nat} (hv : Wd v) : ∀ (m i : Nat) (U : List Nat) (c : Nat), lo + i + m ≤ U.length → v.length ≤ i + m → Wd U → c ≤ 1 →
    (addAt v lo m i U c).1.length = U.length ∧ Wd (addAt v lo m i U c).1 ∧ (addAt v lo m i U c).2 ≤ 1 ∧ (∀ j, lo + i + m ≤ j → (addAt v lo m i U c).1.getD j 0 = U.getD j 0) ∧
    val (addAt v lo m i U c).1 + BB ^ (lo + i + m) * (addAt v lo m i U c).2 = val U + BB ^ (lo + i) * (val (v.drop i) + c)
  | 0, i, U, c, h1, h2, hw, hc => by
    refine ⟨rfl, hw, hc, fun _ _ => rfl, ?_⟩
    simp only [addAt, Nat.add_zero]
    rw [List.drop_of_length_le (by omega)]
    simp [val]
  | m + 1, i, U, c, h1, h2, hw, hc => by
    have hx := hw.getD (lo + i)
    have hy := hv.getD i
    simp only [addAt]
    have hs := val_set (l := U) (i := lo + i) (w := (U.getD (lo + i) 0 + v.getD i 0 + c) % BB) (by omega)
    generalize hY : v.getD i 0 = y at *
    generalize hX : U.getD (lo + i) 0 = x at *
    have ht := Nat.div_add_mod (x + y + c) BB
    have htm := Nat.mod_lt (x + y + c) BB_pos
    have hdv : (x + y + c) / BB ≤ 1 := by
      have : (x + y + c) / BB < 2 := (Nat.div_lt_iff_lt_mul BB_pos).2 (by omega)
      omega
    generalize hm : (x + y + c) % BB = w at *
    generalize he : (x + y + c) / BB = e at *
    obtain ⟨g1, g2, g3, g4, g5⟩ := addAt_spec (lo := lo) hv m (i + 1) (U.set (lo + i) w) e (by rw [List.length_set]; omega) (by omega) (hw.set htm) hdv
    refine ⟨by rw [g1]; simp, g2, g3, fun j hj => ?_, ?_⟩
    · rw [g4 j (by omega), getD_set_ne (by omega)]
    · have e1 : lo + (i + 1) + m = lo + i + (m + 1) := by omega
      have e2 : lo + (i + 1) = lo + i + 1 := by omega
      rw [e1, e2, Nat.pow_succ] at g5
      rw [val_drop_all v i, hY]
      generalize BB ^ (lo + i) = G at g5 hs ⊢
      generalize val (v.drop (i + 1)) = D at g5 ⊢
      generalize BB ^ (lo + i + (m + 1)) * (addAt v lo m (i + 1) (U.set (lo + i) w) e).2 = E at g5 ⊢
      have f1 : G * (y + BB * D + c) = G * y + G * (BB * D) + G * c := by rw [Nat.mul_add, Nat.mul_add]
      have f2 : G * BB * (D + e) = G * (BB * D) + G * (BB * e) := by rw [Nat.mul_assoc, Nat.mul_add, Nat.mul_add]
      have f3 : G * (BB * e) + G * w = G * x + G * y + G * c := by rw [← Nat.mul_add, ht, Nat.mul_add, Nat.mul_add]
      rw [f1]
      rw [f2] at g5
      omega
theorem val_zero_of : ∀ {l : List Nat}, (∀ j, l.getD j 0 = 0) → val l = 0
  | [], _ => rfl
  | w :: l, h => by
    have h0 : w = 0 := by simpa using h 0
    have ih := val_zero_of (l := l) (fun j => by simpa using h (j + 1))
    rw [val, h0, ih]
    rfl
theorem getD_drop (l : List Nat) (k j : Nat) : (l.drop k).getD j 0 = l.getD (k + j) 0 := by simp [List.getD_eq_getElem?_getD]
theorem val_split (l : List Nat) {k : Nat} (hk : k ≤ l.length) : val l = val (l.take k) + BB ^ k * val (l.drop k) := by
  have h := val_append (l.take k) (l.drop k)
  rw [List.take_append_drop] at h
  have e : (l.take k).length = k := by simp; omega
  rw [e] at h
  exact h
theorem val_lt_of {l : List Nat} (hw : Wd l) {k : Nat} (hk : k ≤ l.length) (h : ∀ j, k ≤ j → l.getD j 0 = 0) : val l < BB ^ k := by
  have h1 := val_split l hk
  have h2 : val (l.drop k) = 0 := val_zero_of (fun j => by rw [getD_drop]; exact h _ (by omega))
  rw [h2, Nat.mul_zero, Nat.add_zero] at h1
  rw [h1]
  exact val_take_lt hw hk
structure StepOK (v U : List Nat) (lo digit : Nat) (U' : List Nat) : Prop where
  len : U'.length = U.length
  wd : Wd U'
  zero : ∀ j, lo + (v.length + 1) ≤ j → U'.getD j 0 = 0
  dig : digit < BB
  eq : val U' + BB ^ lo * (digit * val v) = val U
  lt : val U' < BB ^ lo * val v
theorem guessW_spec {v U : List Nat} {lo : Nat} (hv : Wd v) (hn : 2 ≤ v.length) (hnorm : BB ≤ 2 * v.getD (v.length - 1) 0) (hw : Wd U) (hU : lo + (v.length + 1) ≤ U.length) (hz : ∀ j, lo + (v.length + 1) ≤ j → U.getD j 0 = 0) (hlt : val (U.drop lo) < BB * val v) :
    val (U.drop lo) < (guessW v U lo + 1) * val v ∧ guessW v U lo * val v ≤ val (U.drop lo) + val v ∧ guessW v U lo < BB := by
  obtain ⟨n, hn'⟩ : ∃ n, v.length = n + 2 := ⟨v.length - 2, by omega⟩
  have hV : val v = (v.getD (n + 1) 0 * BB + v.getD n 0) * BB ^ n + val (v.take n) := by
    rw [val_split v (show n ≤ v.length by omega), val_drop_all v n, val_drop_all v (n + 1), List.drop_of_length_le (show v.length ≤ n + 1 + 1 by omega)]
    simp only [val, Nat.mul_zero, Nat.add_zero]
    rw [Nat.add_comm, Nat.mul_comm (BB ^ n), Nat.mul_comm BB, Nat.add_comm (v.getD n 0)]
  have hW : val (U.drop lo) = ((U.getD (lo + (n + 2)) 0 * BB + U.getD (lo + (n + 1)) 0) * BB + U.getD (lo + n) 0) * BB ^ n + val ((U.drop lo).take n) := by
    have hl : n ≤ (U.drop lo).length := by simp; omega
    have h0 : val (U.drop (lo + n + 1 + 1 + 1)) = 0 := val_zero_of (fun j => by rw [getD_drop]; exact hz _ (by omega))
    rw [val_split (U.drop lo) hl, List.drop_drop, val_drop_all U (lo + n), val_drop_all U (lo + n + 1), val_drop_all U (lo + n + 1 + 1), h0]
    simp only [Nat.mul_zero, Nat.add_zero]
    have e1 : lo + n + 1 + 1 = lo + (n + 2) := by omega
    have e2 : lo + n + 1 = lo + (n + 1) := by omega
    rw [e1, e2, Nat.add_comm, Nat.mul_comm (BB ^ n)]
    congr 2
    rw [Nat.add_comm, Nat.mul_comm BB]
    congr 2
    rw [Nat.add_comm, Nat.mul_comm BB]
  have hB : BB = 4294967296 := rfl
  have b1 := hv.getD n
  have b2 := hv.getD (n + 1)
  have hv0 : val (v.take n) < BB ^ n := val_take_lt hv (by omega)
  have hw0 : val ((U.drop lo).take n) < BB ^ n := val_take_lt (hw.drop lo) (by simp; omega)
  have bu := hw.getD (lo + n)
  have i1 : v.length - 1 = n + 1 := by omega
  have i2 : v.length - 2 = n := by omega
  rw [i1] at hnorm
  unfold guessW
  rw [i1, i2, hn']
  rw [hV, hW] at hlt ⊢
  generalize hP : BB ^ n = P at *
  generalize v.getD (n + 1) 0 = v1 at *
  generalize v.getD n 0 = v2 at *
  generalize val (v.take n) = v0 at *
  generalize val ((U.drop lo).take n) = w0 at *
  generalize U.getD (lo + n) 0 = u0 at *
  generalize U.getD (lo + (n + 2)) 0 * BB + U.getD (lo + (n + 1)) 0 = t at *
  have hv1 : 1 ≤ v1 := by omega
  have hVle : (v1 * BB + v2) * P + v0 ≤ (v1 + 1) * BB * P := by
    have h1 : v1 * BB + v2 + 1 ≤ (v1 + 1) * BB := by rw [Nat.add_mul]; omega
    have h2 := Nat.mul_le_mul_right P h1
    rw [Nat.add_mul _ 1 P, Nat.one_mul] at h2
    omega
  have ht : t < (v1 + 1) * BB := by
    have h1 : t * BB * P ≤ (t * BB + u0) * P := Nat.mul_le_mul_right _ (by omega)
    have h2 : t * (BB * P) < (v1 + 1) * BB * (BB * P) := by
      rw [← Nat.mul_assoc]
      refine Nat.lt_of_le_of_lt (Nat.le_trans h1 (Nat.le_add_right _ w0)) (Nat.lt_of_lt_of_le hlt ?_)
      refine Nat.le_trans (Nat.mul_le_mul_left BB hVle) (Nat.le_of_eq ?_)
      rw [Nat.mul_left_comm]
    exact Nat.lt_of_mul_lt_mul_right h2
  have hq : t / v1 ≤ BB + 1 := by
    have : t / v1 < BB + 2 := (Nat.div_lt_iff_lt_mul hv1).2 (by
      have : (BB + 2) * v1 = v1 * BB + 2 * v1 := by rw [Nat.add_mul, Nat.mul_comm BB]
      rw [this]
      rw [Nat.add_mul] at ht
      omega)
    omega
  have hdm := Nat.div_add_mod t v1
  have hml := Nat.mod_lt t hv1
  refine gLoop_spec hv0 hw0 b1 hv1 hlt BB (t / v1) (t % v1) (by rw [Nat.mul_comm]; exact hdm) hq (by omega) (by omega) ?_
  have h1 : t + 1 ≤ (t / v1 + 1) * v1 := by rw [Nat.add_mul, Nat.one_mul, Nat.mul_comm (t / v1)]; omega
  have h2 : (t + 1) * (BB * P) ≤ (t / v1 + 1) * v1 * (BB * P) := Nat.mul_le_mul_right _ h1
  have h3 : (t / v1 + 1) * v1 * (BB * P) ≤ (t / v1 + 1) * ((v1 * BB + v2) * P + v0) := by
    rw [Nat.mul_assoc]
    refine Nat.mul_le_mul_left _ ?_
    have h4 : v1 * BB * P ≤ (v1 * BB + v2) * P := Nat.mul_le_mul_right _ (by omega)
    rw [Nat.mul_assoc] at h4
    omega
  have h5 : (t * BB + u0) * P + w0 < (t + 1) * (BB * P) := by
    have h6 : t * BB + u0 + 1 ≤ (t + 1) * BB := by rw [Nat.add_mul]; omega
    have h7 := Nat.mul_le_mul_right P h6
    rw [Nat.add_mul _ 1 P, Nat.one_mul, Nat.mul_assoc (t + 1)] at h7
    omega
  omega
theorem step_spec {v U : List Nat} {lo : Nat} (hv : Wd v) (hn : 2 ≤ v.length) (hnorm : BB ≤ 2 * v.getD (v.length - 1) 0) (hw : Wd U) (hU : lo + (v.length + 1) ≤ U.length) (hz : ∀ j, lo + (v.length + 1) ≤ j → U.getD j 0 = 0) (hlt : val U < BB ^ lo * (BB * val v)) :
    let S := subAt v (guessW v U lo) lo (v.length + 1) 0 U 0 0
    (S.b = 1 → 1 ≤ guessW v U lo ∧ StepOK v U lo (guessW v U lo - 1) (addAt v lo (v.length + 1) 0 S.u 0).1) ∧ (S.b ≠ 1 → StepOK v U lo (guessW v U lo) S.u) ∧ Wd S.u ∧ S.u.length = U.length ∧ guessW v U lo < BB := by
  intro S
  have hsp := val_split U (show lo ≤ U.length by omega)
  have htl := val_take_lt hw (show lo ≤ U.length by omega)
  have hG : 0 < BB ^ lo := Nat.pow_pos BB_pos
  have hW : val (U.drop lo) < BB * val v := by
    have : BB ^ lo * val (U.drop lo) < BB ^ lo * (BB * val v) := by omega
    exact Nat.lt_of_mul_lt_mul_left this
  obtain ⟨g1, g2, g3⟩ := guessW_spec hv hn hnorm hw hU hz hW
  obtain ⟨s1, s2, s3, s4, s5⟩ := subAt_spec (lo := lo) hv g3 (v.length + 1) 0 U 0 0 (by omega) (by omega) hw BB_pos (by omega)
  have sc : S.c = 0 := subAt_c v.length 0 U 0 0 (by omega) BB_pos (fun i => by
    have h1 := hv.getD i
    have h2 : guessW v U lo * v.getD i 0 ≤ (BB - 1) * (BB - 1) := Nat.mul_le_mul (by omega) (by omega)
    have e : (BB - 1) * (BB - 1) + BB ≤ BB * BB := by decide
    omega)
  simp only [Nat.add_zero, List.drop_zero] at s4 s5
  change S.u.length = _ at s1
  change Wd S.u at s2
  change S.b ≤ 1 at s3
  change ∀ j, _ → S.u.getD j 0 = _ at s4
  change val S.u + _ = val U + _ * (S.c + S.b) at s5
  have hzS : ∀ j, lo + (v.length + 1) ≤ j → S.u.getD j 0 = 0 := fun j hj => by rw [s4 j hj, hz j hj]
  have hvlt := val_lt hv
  rw [sc, Nat.zero_add] at s5
  have hSE := val_lt_of s2 (show lo + (v.length + 1) ≤ S.u.length by omega) hzS
  have hE : BB ^ lo * val v < BB ^ (lo + (v.length + 1)) := by
    rw [Nat.pow_add]
    refine Nat.mul_lt_mul_of_pos_left ?_ hG
    refine Nat.lt_trans hvlt ?_
    exact Nat.pow_lt_pow_right (by decide) (by omega)
  have hUlt : val U < BB ^ lo * ((guessW v U lo + 1) * val v) := by
    have h1 : BB ^ lo * (val (U.drop lo) + 1) ≤ BB ^ lo * ((guessW v U lo + 1) * val v) := Nat.mul_le_mul_left _ g1
    rw [Nat.mul_add, Nat.mul_one] at h1
    omega
  rw [Nat.add_mul, Nat.one_mul, Nat.mul_add] at hUlt
  refine ⟨fun hb => ?_, fun hb => ?_, s2, s1, g3⟩
  · rw [hb, Nat.mul_one] at s5
    have hpos : 1 ≤ guessW v U lo := by
      rcases Nat.eq_zero_or_pos (guessW v U lo) with h | h
      · rw [h, Nat.zero_mul, Nat.mul_zero] at s5; omega
      · exact h
    refine ⟨hpos, ?_⟩
    obtain ⟨a1, a2, a3, a4, a5⟩ := addAt_spec (lo := lo) hv (v.length + 1) 0 S.u 0 (by omega) (by omega) s2 (by omega)
    simp only [Nat.add_zero, List.drop_zero] at a4 a5
    have hzA : ∀ j, lo + (v.length + 1) ≤ j → (addAt v lo (v.length + 1) 0 S.u 0).1.getD j 0 = 0 := fun j hj => by rw [a4 j hj, hzS j hj]
    have hAE := val_lt_of a2 (show lo + (v.length + 1) ≤ (addAt v lo (v.length + 1) 0 S.u 0).1.length by omega) hzA
    have hgm : guessW v U lo * val v = (guessW v U lo - 1) * val v + val v := by
      have : guessW v U lo = guessW v U lo - 1 + 1 := by omega
      conv => lhs; rw [this, Nat.add_mul, Nat.one_mul]
    rw [hgm, Nat.mul_add] at s5 hUlt
    rw [hgm] at g2
    have hle : BB ^ lo * ((guessW v U lo - 1) * val v) ≤ BB ^ lo * val (U.drop lo) := Nat.mul_le_mul_left _ (by omega)
    generalize hX : BB ^ lo * ((guessW v U lo - 1) * val v) = X at *
    generalize hE2 : BB ^ (lo + (v.length + 1)) = E at *
    have ha : (addAt v lo (v.length + 1) 0 S.u 0).2 = 1 := by
      rcases (show (addAt v lo (v.length + 1) 0 S.u 0).2 = 0 ∨ (addAt v lo (v.length + 1) 0 S.u 0).2 = 1 by omega) with h | h
      · rw [h, Nat.mul_zero] at a5; omega
      · exact h
    rw [ha, Nat.mul_one] at a5
    refine ⟨by omega, a2, hzA, by omega, ?_, by omega⟩
    rw [hX]
    omega
  · have hb0 : S.b = 0 := by omega
    rw [hb0, Nat.mul_zero, Nat.add_zero] at s5
    exact ⟨s1, s2, hzS, g3, s5, by omega⟩
end Go.Vm.G
