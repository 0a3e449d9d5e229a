/- A part of the proof of: The law PolynomialRing of eliminantlaw06 returns true for every input, and the input reads behind the call as it read before; there are no conditions. -/
import Derived.Test.YtnjccbacinbhgaaGreatPrA1
import Derived.Test.YtnjccbacinbhgaaGreatProg
set_option linter.unusedSimpArgs false
set_option linter.unusedVariables false
namespace Go.Vm.G
open Go Go.Vm Go.Proofs
variable {P : Program} {F : Nat} {st : St} {Q : Ex → St → Prop}
def ir23 : IR :=
  (.seq
 (.reg [⟨some 2, .alloc [.b false, .sl 1 true [], .b false, .sl 1 true []], none, 0⟩] [] [] [0, 2] [2])
 (.seq
 (.reg [⟨some 3, .mv (.t 0), none, 0⟩,
 ⟨some 4, .call 84 [(.t 3)], none, 1⟩,
 ⟨some 5, .call 84 [(.k (.i .i64 1))], none, 2⟩,
 ⟨some 6, .build [.b false, .sl 1 true [], .b false, .sl 1 true []] [(0, 2, (.t 4)), (2, 2, (.t 5))], none, 3⟩,
 ⟨none, .store 4 (.t 2) (.t 6), none, 4⟩] [] [] [2] [2])
 .ret))
def rv23 : List RVar := [.c 2 4 true]
theorem chk23 : chk Tryz.prog Tryz.f23.ntmps ir23 (Tryz.f23.body.getD .skip) = true := by decide +kernel
theorem res23 : chkRes Tryz.prog Tryz.f23.results.toList rv23 = true := by decide +kernel
theorem fnr23 : FT Tryz.prog 23 7 ir23 rv23 := fnT Tryz.func23 rfl rfl chk23 res23 (by decide +kernel)
def ir28 : IR :=
  (.seq
 (.reg [⟨some 1, .box (.t 0), none, 0⟩,
 ⟨some 2, .mv (.k (.b false)), none, 1⟩] [] [] [1] [1])
 (.seq
 (.seq
 (.reg [⟨some 3, .fld 0 (.t 1), none, 0⟩,
 ⟨some 4, .load 2 true (.t 3), none, 1⟩,
 ⟨some 5, .call 88 [(.t 4)], none, 2⟩,
 ⟨some 6, .un .not (.t 5), none, 3⟩,
 ⟨some 7, .mv (.t 6), none, 4⟩,
 ⟨some 8, .fld 2 (.t 1), some (7, false), 5⟩,
 ⟨some 9, .load 2 true (.t 8), some (7, false), 6⟩,
 ⟨some 10, .call 88 [(.t 9)], some (7, false), 7⟩,
 ⟨some 11, .un .not (.t 10), some (7, false), 8⟩,
 ⟨some 12, .pick (.t 7) (.k (.b true)) (.t 11), none, 9⟩,
 ⟨some 13, .mv (.t 12), none, 10⟩,
 ⟨some 14, .fld 2 (.t 1), some (13, false), 11⟩,
 ⟨some 15, .load 2 true (.t 14), some (13, false), 12⟩,
 ⟨some 16, .call 89 [(.t 15)], some (13, false), 13⟩,
 ⟨some 17, .bin .lss (.t 16) (.k (.i .i64 1)), some (13, false), 14⟩,
 ⟨some 18, .pick (.t 13) (.k (.b true)) (.t 17), none, 15⟩] [] [] [1, 18] [1])
 (.cond (.t 18)
 (.seq
 (.reg [⟨some 2, .mv (.k (.b false)), none, 0⟩] [] [] [2] [])
 .ret)
 .skip))
 (.seq
 (.reg [⟨some 19, .fld 0 (.t 1), none, 0⟩,
 ⟨some 20, .load 2 true (.t 19), none, 1⟩,
 ⟨some 21, .fld 2 (.t 1), none, 2⟩,
 ⟨some 22, .load 2 true (.t 21), none, 3⟩,
 ⟨some 23, .call 91 [(.t 20), (.t 22)], none, 4⟩,
 ⟨some 24, .call 84 [(.k (.i .i64 1))], none, 5⟩,
 ⟨some 25, .call 90 [(.t 23), (.t 24)], none, 6⟩,
 ⟨some 26, .bin .eql (.t 25) (.k (.i .i64 0)), none, 7⟩,
 ⟨some 2, .mv (.t 26), none, 8⟩] [] [] [2] [])
 .ret)))
def rv28 : List RVar := [.t 2]
theorem chk28 : chk Tryz.prog Tryz.f28.ntmps ir28 (Tryz.f28.body.getD .skip) = true := by decide +kernel
theorem res28 : chkRes Tryz.prog Tryz.f28.results.toList rv28 = true := by decide +kernel
theorem fnr28 : FT Tryz.prog 28 27 ir28 rv28 := fnT Tryz.func28 rfl rfl chk28 res28 (by decide +kernel)
def ir29 : IR :=
  (.seq
 (.reg [⟨some 2, .box (.t 0), none, 0⟩,
 ⟨some 3, .box (.t 1), none, 1⟩,
 ⟨some 4, .mv (.k (.b false)), none, 2⟩] [] [] [2, 3] [2, 3])
 (.seq
 (.reg [⟨some 5, .fld 0 (.t 2), none, 0⟩,
 ⟨some 6, .load 2 true (.t 5), none, 1⟩,
 ⟨some 7, .fld 0 (.t 3), none, 2⟩,
 ⟨some 8, .load 2 true (.t 7), none, 3⟩,
 ⟨some 9, .call 92 [(.t 6), (.t 8)], none, 4⟩,
 ⟨some 10, .mv (.t 9), none, 5⟩,
 ⟨some 11, .fld 2 (.t 2), some (10, true), 6⟩,
 ⟨some 12, .load 2 true (.t 11), some (10, true), 7⟩,
 ⟨some 13, .fld 2 (.t 3), some (10, true), 8⟩,
 ⟨some 14, .load 2 true (.t 13), some (10, true), 9⟩,
 ⟨some 15, .call 92 [(.t 12), (.t 14)], some (10, true), 10⟩,
 ⟨some 16, .pick (.t 10) (.t 15) (.k (.b false)), none, 11⟩,
 ⟨some 4, .mv (.t 16), none, 12⟩] [] [] [4] [])
 .ret))
def rv29 : List RVar := [.t 4]
theorem chk29 : chk Tryz.prog Tryz.f29.ntmps ir29 (Tryz.f29.body.getD .skip) = true := by decide +kernel
theorem res29 : chkRes Tryz.prog Tryz.f29.results.toList rv29 = true := by decide +kernel
theorem fnr29 : FT Tryz.prog 29 17 ir29 rv29 := fnT Tryz.func29 rfl rfl chk29 res29 (by decide +kernel)
def ir31 : IR :=
  (.seq
 (.reg [⟨some 2, .box (.t 0), none, 0⟩,
 ⟨some 3, .box (.t 1), none, 1⟩,
 ⟨some 4, .alloc [.b false, .sl 1 true [], .b false, .sl 1 true []], none, 2⟩] [] [] [2, 3, 4] [2, 3, 4])
 (.seq
 (.reg [⟨some 5, .fld 0 (.t 2), none, 0⟩,
 ⟨some 6, .load 2 true (.t 5), none, 1⟩,
 ⟨some 7, .fld 2 (.t 3), none, 2⟩,
 ⟨some 8, .load 2 true (.t 7), none, 3⟩,
 ⟨some 9, .call 96 [(.t 6), (.t 8)], none, 4⟩,
 ⟨some 10, .fld 0 (.t 3), none, 5⟩,
 ⟨some 11, .load 2 true (.t 10), none, 6⟩,
 ⟨some 12, .fld 2 (.t 2), none, 7⟩,
 ⟨some 13, .load 2 true (.t 12), none, 8⟩,
 ⟨some 14, .call 96 [(.t 11), (.t 13)], none, 9⟩,
 ⟨some 15, .call 95 [(.t 9), (.t 14)], none, 10⟩,
 ⟨some 16, .fld 2 (.t 2), none, 11⟩,
 ⟨some 17, .load 2 true (.t 16), none, 12⟩,
 ⟨some 18, .fld 2 (.t 3), none, 13⟩,
 ⟨some 19, .load 2 true (.t 18), none, 14⟩,
 ⟨some 20, .call 96 [(.t 17), (.t 19)], none, 15⟩,
 ⟨some 21, .call 94 [(.t 15), (.t 20)], none, 16⟩,
 ⟨none, .store 4 (.t 4) (.t 21), none, 17⟩] [] [0, 1, 0, 4, 15, 0, 32, 0, 128, 511, 1023, 0, 2048, 0, 8192, 32767, 65535, 131071] [4] [4])
 .ret))
def rv31 : List RVar := [.c 4 4 true]
theorem chk31 : chk Tryz.prog Tryz.f31.ntmps ir31 (Tryz.f31.body.getD .skip) = true := by decide +kernel
theorem res31 : chkRes Tryz.prog Tryz.f31.results.toList rv31 = true := by decide +kernel
theorem fnr31 : FT Tryz.prog 31 22 ir31 rv31 := fnT Tryz.func31 rfl rfl chk31 res31 (by decide +kernel)
def ir32 : IR :=
  (.seq
 (.reg [⟨some 2, .box (.t 0), none, 0⟩,
 ⟨some 3, .box (.t 1), none, 1⟩,
 ⟨some 4, .alloc [.b false, .sl 1 true [], .b false, .sl 1 true []], none, 2⟩] [] [] [2, 3, 4] [2, 3, 4])
 (.seq
 (.reg [⟨some 5, .fld 0 (.t 2), none, 0⟩,
 ⟨some 6, .load 2 true (.t 5), none, 1⟩,
 ⟨some 7, .fld 0 (.t 3), none, 2⟩,
 ⟨some 8, .load 2 true (.t 7), none, 3⟩,
 ⟨some 9, .call 96 [(.t 6), (.t 8)], none, 4⟩,
 ⟨some 10, .fld 2 (.t 2), none, 5⟩,
 ⟨some 11, .load 2 true (.t 10), none, 6⟩,
 ⟨some 12, .fld 2 (.t 3), none, 7⟩,
 ⟨some 13, .load 2 true (.t 12), none, 8⟩,
 ⟨some 14, .call 96 [(.t 11), (.t 13)], none, 9⟩,
 ⟨some 15, .call 94 [(.t 9), (.t 14)], none, 10⟩,
 ⟨none, .store 4 (.t 4) (.t 15), none, 11⟩] [] [0, 1, 0, 4, 15, 0, 32, 0, 128, 511, 1023, 2047] [4] [4])
 .ret))
def rv32 : List RVar := [.c 4 4 true]
theorem chk32 : chk Tryz.prog Tryz.f32.ntmps ir32 (Tryz.f32.body.getD .skip) = true := by decide +kernel
theorem res32 : chkRes Tryz.prog Tryz.f32.results.toList rv32 = true := by decide +kernel
theorem fnr32 : FT Tryz.prog 32 16 ir32 rv32 := fnT Tryz.func32 rfl rfl chk32 res32 (by decide +kernel)
def ir71 : IR :=
  (.seq
 (.reg [⟨some 1, .box (.t 0), none, 0⟩,
 ⟨some 2, .mv (.k (.i .i64 0)), none, 1⟩] [] [] [1] [1])
 (.seq
 (.reg [⟨some 3, .fld 0 (.t 1), none, 0⟩,
 ⟨some 4, .load 2 true (.t 3), none, 1⟩,
 ⟨some 5, .call 89 [(.t 4)], none, 2⟩,
 ⟨some 2, .mv (.t 5), none, 3⟩] [] [] [2] [])
 .ret))
def rv71 : List RVar := [.t 2]
theorem chk71 : chk Tryz.prog Tryz.f71.ntmps ir71 (Tryz.f71.body.getD .skip) = true := by decide +kernel
theorem res71 : chkRes Tryz.prog Tryz.f71.results.toList rv71 = true := by decide +kernel
theorem fnr71 : FT Tryz.prog 71 6 ir71 rv71 := fnT Tryz.func71 rfl rfl chk71 res71 (by decide +kernel)
def ir84 : IR :=
  (.seq
 (.reg [⟨some 2, .alloc [.b false, .sl 1 true []], none, 0⟩] [] [] [0, 2] [2])
 (.seq
 (.seq
 (.reg [⟨some 3, .mv (.t 0), none, 0⟩,
 ⟨some 4, .bin .lss (.t 3) (.k (.i .i64 0)), none, 1⟩] [] [] [0, 2, 4] [2])
 (.cond (.t 4)
 (.seq
 (.reg [⟨some 5, .mv (.t 0), none, 0⟩,
 ⟨some 6, .bin .add (.t 5) (.k (.i .i64 1)), none, 1⟩,
 ⟨some 7, .un .neg (.t 6), none, 2⟩,
 ⟨some 8, .conv .u64 (.t 7), none, 3⟩,
 ⟨some 9, .bin .add (.t 8) (.k (.i .u64 1)), none, 4⟩,
 ⟨some 10, .call 139 [(.t 9)], none, 5⟩,
 ⟨some 11, .call 138 [(.k (.b true)), (.t 10)], none, 6⟩,
 ⟨none, .store 2 (.t 2) (.t 11), none, 7⟩] [] [] [2] [2])
 .ret)
 .skip))
 (.seq
 (.reg [⟨some 12, .mv (.t 0), none, 0⟩,
 ⟨some 13, .conv .u64 (.t 12), none, 1⟩,
 ⟨some 14, .call 139 [(.t 13)], none, 2⟩,
 ⟨some 15, .call 138 [(.k (.b false)), (.t 14)], none, 3⟩,
 ⟨none, .store 2 (.t 2) (.t 15), none, 4⟩] [] [] [2] [2])
 .ret)))
def rv84 : List RVar := [.c 2 2 true]
theorem chk84 : chk Tryz.prog Tryz.f84.ntmps ir84 (Tryz.f84.body.getD .skip) = true := by decide +kernel
theorem res84 : chkRes Tryz.prog Tryz.f84.results.toList rv84 = true := by decide +kernel
theorem fnr84 : FT Tryz.prog 84 16 ir84 rv84 := fnT Tryz.func84 rfl rfl chk84 res84 (by decide +kernel)
def ir88 : IR :=
  (.seq
 (.reg [⟨some 1, .box (.t 0), none, 0⟩,
 ⟨some 2, .mv (.k (.b false)), none, 1⟩] [] [] [1] [1])
 (.seq
 (.reg [⟨some 4, .fld 1 (.t 1), none, 0⟩,
 ⟨some 5, .load 1 false (.t 4), none, 1⟩,
 ⟨some 6, .len (.t 5), none, 2⟩,
 ⟨some 3, .mv (.t 6), none, 3⟩] [] [] [1, 3] [1])
 (.seq
 (.seq
 (.reg [⟨some 7, .mv (.t 3), none, 0⟩,
 ⟨some 8, .bin .eql (.t 7) (.k (.i .i64 0)), none, 1⟩] [] [] [1, 3, 8] [1])
 (.cond (.t 8)
 (.seq
 (.reg [⟨some 9, .fld 0 (.t 1), none, 0⟩,
 ⟨some 10, .load 1 false (.t 9), none, 1⟩,
 ⟨some 11, .un .not (.t 10), none, 2⟩,
 ⟨some 2, .mv (.t 11), none, 3⟩] [] [] [2] [])
 .ret)
 .skip))
 (.seq
 (.reg [⟨some 12, .fld 1 (.t 1), none, 0⟩,
 ⟨some 13, .load 1 false (.t 12), none, 1⟩,
 ⟨some 14, .mv (.t 3), none, 2⟩,
 ⟨some 15, .bin .sub (.t 14) (.k (.i .i64 1)), none, 3⟩,
 ⟨some 16, .ixs 1 (.t 13) (.t 15), none, 4⟩,
 ⟨some 17, .load 1 false (.t 16), none, 5⟩,
 ⟨some 18, .bin .neq (.t 17) (.k (.i .u32 0)), none, 6⟩,
 ⟨some 2, .mv (.t 18), none, 7⟩] [] [] [2] [])
 .ret))))
def rv88 : List RVar := [.t 2]
theorem chk88 : chk Tryz.prog Tryz.f88.ntmps ir88 (Tryz.f88.body.getD .skip) = true := by decide +kernel
theorem res88 : chkRes Tryz.prog Tryz.f88.results.toList rv88 = true := by decide +kernel
theorem fnr88 : FT Tryz.prog 88 19 ir88 rv88 := fnT Tryz.func88 rfl rfl chk88 res88 (by decide +kernel)
def ir89 : IR :=
  (.seq
 (.reg [⟨some 1, .box (.t 0), none, 0⟩,
 ⟨some 2, .mv (.k (.i .i64 0)), none, 1⟩] [] [] [1] [1])
 (.seq
 (.seq
 (.reg [⟨some 3, .fld 0 (.t 1), none, 0⟩,
 ⟨some 4, .load 1 false (.t 3), none, 1⟩] [] [] [1, 4] [1])
 (.cond (.t 4)
 (.seq
 (.reg [⟨some 2, .mv (.k (.i .i64 (-1))), none, 0⟩] [] [] [2] [])
 .ret)
 .skip))
 (.seq
 (.reg [⟨some 5, .fld 1 (.t 1), none, 0⟩,
 ⟨some 6, .load 1 false (.t 5), none, 1⟩,
 ⟨some 7, .len (.t 6), none, 2⟩,
 ⟨some 8, .mn (.t 7) (.k (.i .i64 1)), none, 3⟩,
 ⟨some 2, .mv (.t 8), none, 4⟩] [] [] [2] [])
 .ret)))
def rv89 : List RVar := [.t 2]
theorem chk89 : chk Tryz.prog Tryz.f89.ntmps ir89 (Tryz.f89.body.getD .skip) = true := by decide +kernel
theorem res89 : chkRes Tryz.prog Tryz.f89.results.toList rv89 = true := by decide +kernel
theorem fnr89 : FT Tryz.prog 89 9 ir89 rv89 := fnT Tryz.func89 rfl rfl chk89 res89 (by decide +kernel)
def ir90 : IR :=
  (.seq
 (.reg [⟨some 2, .box (.t 0), none, 0⟩,
 ⟨some 3, .box (.t 1), none, 1⟩,
 ⟨some 4, .mv (.k (.i .i64 0)), none, 2⟩] [] [] [2, 3] [2, 3])
 (.seq
 (.seq
 (.reg [⟨some 5, .fld 0 (.t 2), none, 0⟩,
 ⟨some 6, .load 1 false (.t 5), none, 1⟩,
 ⟨some 7, .mv (.t 6), none, 2⟩,
 ⟨some 8, .fld 0 (.t 3), some (7, true), 3⟩,
 ⟨some 9, .load 1 false (.t 8), some (7, true), 4⟩,
 ⟨some 10, .un .not (.t 9), some (7, true), 5⟩,
 ⟨some 11, .pick (.t 7) (.t 10) (.k (.b false)), none, 6⟩] [] [] [2, 3, 11] [2, 3])
 (.cond (.t 11)
 (.seq
 (.reg [⟨some 4, .mv (.k (.i .i64 (-1))), none, 0⟩] [] [] [4] [])
 .ret)
 .skip))
 (.seq
 (.seq
 (.reg [⟨some 12, .fld 0 (.t 2), none, 0⟩,
 ⟨some 13, .load 1 false (.t 12), none, 1⟩,
 ⟨some 14, .un .not (.t 13), none, 2⟩,
 ⟨some 15, .mv (.t 14), none, 3⟩,
 ⟨some 16, .fld 0 (.t 3), some (15, true), 4⟩,
 ⟨some 17, .load 1 false (.t 16), some (15, true), 5⟩,
 ⟨some 18, .pick (.t 15) (.t 17) (.k (.b false)), none, 6⟩] [] [] [2, 3, 18] [2, 3])
 (.cond (.t 18)
 (.seq
 (.reg [⟨some 4, .mv (.k (.i .i64 1)), none, 0⟩] [] [] [4] [])
 .ret)
 .skip))
 (.seq
 (.seq
 (.reg [⟨some 19, .fld 0 (.t 2), none, 0⟩,
 ⟨some 20, .load 1 false (.t 19), none, 1⟩] [] [] [2, 3, 20] [2, 3])
 (.cond (.t 20)
 (.seq
 (.reg [⟨some 21, .fld 1 (.t 3), none, 0⟩,
 ⟨some 22, .load 1 false (.t 21), none, 1⟩,
 ⟨some 23, .fld 1 (.t 2), none, 2⟩,
 ⟨some 24, .load 1 false (.t 23), none, 3⟩,
 ⟨some 25, .call 142 [(.t 22), (.t 24)], none, 4⟩,
 ⟨some 4, .mv (.t 25), none, 5⟩] [] [] [4] [])
 .ret)
 .skip))
 (.seq
 (.reg [⟨some 26, .fld 1 (.t 2), none, 0⟩,
 ⟨some 27, .load 1 false (.t 26), none, 1⟩,
 ⟨some 28, .fld 1 (.t 3), none, 2⟩,
 ⟨some 29, .load 1 false (.t 28), none, 3⟩,
 ⟨some 30, .call 142 [(.t 27), (.t 29)], none, 4⟩,
 ⟨some 4, .mv (.t 30), none, 5⟩] [] [] [4] [])
 .ret)))))
def rv90 : List RVar := [.t 4]
theorem chk90 : chk Tryz.prog Tryz.f90.ntmps ir90 (Tryz.f90.body.getD .skip) = true := by decide +kernel
theorem res90 : chkRes Tryz.prog Tryz.f90.results.toList rv90 = true := by decide +kernel
theorem fnr90 : FT Tryz.prog 90 31 ir90 rv90 := fnT Tryz.func90 rfl rfl chk90 res90 (by decide +kernel)
def ir91 : IR :=
  (.seq
 (.reg [⟨some 2, .box (.t 0), none, 0⟩,
 ⟨some 3, .box (.t 1), none, 1⟩,
 ⟨some 4, .alloc [.b false, .sl 1 true []], none, 2⟩] [] [] [2, 3, 4] [2, 3, 4])
 (.seq
 (.reg [⟨some 5, .fld 1 (.t 2), none, 0⟩,
 ⟨some 6, .load 1 false (.t 5), none, 1⟩,
 ⟨some 7, .fld 1 (.t 3), none, 2⟩,
 ⟨some 8, .load 1 false (.t 7), none, 3⟩,
 ⟨some 9, .call 143 [(.t 6), (.t 8)], none, 4⟩,
 ⟨some 10, .call 138 [(.k (.b false)), (.t 9)], none, 5⟩,
 ⟨none, .store 2 (.t 4) (.t 10), none, 6⟩] [] [] [4] [4])
 .ret))
def rv91 : List RVar := [.c 4 2 true]
theorem chk91 : chk Tryz.prog Tryz.f91.ntmps ir91 (Tryz.f91.body.getD .skip) = true := by decide +kernel
theorem res91 : chkRes Tryz.prog Tryz.f91.results.toList rv91 = true := by decide +kernel
theorem fnr91 : FT Tryz.prog 91 11 ir91 rv91 := fnT Tryz.func91 rfl rfl chk91 res91 (by decide +kernel)
def b92_0 : IR :=
  (.seq
 (.seq
 (.reg [⟨some 20, .mv (.t 5), none, 0⟩,
 ⟨some 21, .fld 1 (.t 2), none, 1⟩,
 ⟨some 22, .load 1 false (.t 21), none, 2⟩,
 ⟨some 23, .len (.t 22), none, 3⟩,
 ⟨some 24, .bin .lss (.t 20) (.t 23), none, 4⟩] [] [] [2, 3, 5, 24] [2, 3])
 (.cond (.t 24)
 .skip
 (.exit 0)))
 (.seq
 (.block 1
 (.seq
 (.reg [⟨some 27, .fld 1 (.t 2), none, 0⟩,
 ⟨some 28, .load 1 false (.t 27), none, 1⟩,
 ⟨some 29, .mv (.t 5), none, 2⟩,
 ⟨some 30, .ixs 1 (.t 28) (.t 29), none, 3⟩,
 ⟨some 31, .load 1 false (.t 30), none, 4⟩,
 ⟨some 32, .fld 1 (.t 3), none, 5⟩,
 ⟨some 33, .load 1 false (.t 32), none, 6⟩,
 ⟨some 34, .mv (.t 5), none, 7⟩,
 ⟨some 35, .ixs 1 (.t 33) (.t 34), none, 8⟩,
 ⟨some 36, .load 1 false (.t 35), none, 9⟩,
 ⟨some 37, .bin .neq (.t 31) (.t 36), none, 10⟩] [] [0, 1, 0, 7, 15, 0, 32, 0, 224, 480, 1023] [2, 3, 5, 37] [2, 3])
 (.cond (.t 37)
 (.seq
 (.reg [⟨some 4, .mv (.k (.b false)), none, 0⟩] [] [] [4] [])
 .ret)
 .skip)))
 (.reg [⟨some 25, .mv (.t 5), none, 0⟩,
 ⟨some 26, .bin .add (.t 25) (.k (.i .i64 1)), none, 1⟩,
 ⟨some 5, .mv (.t 26), none, 2⟩] [] [] [2, 3, 5] [2, 3])))
theorem wb92_0 : type_of% (@wbEq _ _ b92_0.eq_1 P F st Q) := wbEq b92_0.eq_1
def ir92 : IR :=
  (.seq
 (.reg [⟨some 2, .box (.t 0), none, 0⟩,
 ⟨some 3, .box (.t 1), none, 1⟩,
 ⟨some 4, .mv (.k (.b false)), none, 2⟩] [] [] [2, 3] [2, 3])
 (.seq
 (.seq
 (.reg [⟨some 6, .fld 0 (.t 2), none, 0⟩,
 ⟨some 7, .load 1 false (.t 6), none, 1⟩,
 ⟨some 8, .fld 0 (.t 3), none, 2⟩,
 ⟨some 9, .load 1 false (.t 8), none, 3⟩,
 ⟨some 10, .eqb true (.t 7) (.t 9), none, 4⟩,
 ⟨some 11, .mv (.t 10), none, 5⟩,
 ⟨some 12, .fld 1 (.t 2), some (11, false), 6⟩,
 ⟨some 13, .load 1 false (.t 12), some (11, false), 7⟩,
 ⟨some 14, .len (.t 13), some (11, false), 8⟩,
 ⟨some 15, .fld 1 (.t 3), some (11, false), 9⟩,
 ⟨some 16, .load 1 false (.t 15), some (11, false), 10⟩,
 ⟨some 17, .len (.t 16), some (11, false), 11⟩,
 ⟨some 18, .bin .neq (.t 14) (.t 17), some (11, false), 12⟩,
 ⟨some 19, .pick (.t 11) (.k (.b true)) (.t 18), none, 13⟩] [] [] [2, 3, 19] [2, 3])
 (.cond (.t 19)
 (.seq
 (.reg [⟨some 4, .mv (.k (.b false)), none, 0⟩] [] [] [4] [])
 .ret)
 .skip))
 (.seq
 (.seq
 (.reg [⟨some 5, .mv (.k (.i .i64 0)), none, 0⟩] [] [] [2, 3, 5] [2, 3])
 (.block 0
 (.loop [2, 3, 5] [2, 3] b92_0)))
 (.seq
 (.reg [⟨some 4, .mv (.k (.b true)), none, 0⟩] [] [] [4] [])
 .ret))))
def rv92 : List RVar := [.t 4]
theorem chk92 : chk Tryz.prog Tryz.f92.ntmps ir92 (Tryz.f92.body.getD .skip) = true := by decide +kernel
theorem res92 : chkRes Tryz.prog Tryz.f92.results.toList rv92 = true := by decide +kernel
theorem fnr92 : FT Tryz.prog 92 38 ir92 rv92 := fnT Tryz.func92 rfl rfl chk92 res92 (by decide +kernel)
def ir94 : IR :=
  (.seq
 (.reg [⟨some 2, .box (.t 0), none, 0⟩,
 ⟨some 3, .box (.t 1), none, 1⟩,
 ⟨some 4, .alloc [.b false, .sl 1 true [], .b false, .sl 1 true []], none, 2⟩] [] [] [2, 3, 4] [2, 3, 4])
 (.seq
 (.reg [⟨some 6, .load 2 true (.t 2), none, 0⟩,
 ⟨some 7, .load 2 true (.t 3), none, 1⟩,
 ⟨some 8, .call 91 [(.t 6), (.t 7)], none, 2⟩,
 ⟨some 5, .alloc [.b false, .sl 1 true []], none, 3⟩,
 ⟨none, .store 2 (.t 5) (.t 8), none, 4⟩] [] [] [2, 3, 4, 5] [2, 3, 4, 5])
 (.seq
 (.seq
 (.reg [⟨some 9, .load 2 true (.t 3), none, 0⟩,
 ⟨some 10, .call 89 [(.t 9)], none, 1⟩,
 ⟨some 11, .bin .lss (.t 10) (.k (.i .i64 0)), none, 2⟩] [] [] [2, 3, 4, 5, 11] [2, 3, 4, 5])
 (.cond (.t 11)
 (.reg [⟨some 12, .load 2 true (.t 5), none, 0⟩,
 ⟨some 13, .call 144 [(.t 12)], none, 1⟩,
 ⟨none, .store 2 (.t 5) (.t 13), none, 2⟩] [] [] [2, 3, 4, 5] [2, 3, 4, 5])
 .skip))
 (.seq
 (.reg [⟨some 14, .load 2 true (.t 2), none, 0⟩,
 ⟨some 15, .load 2 true (.t 5), none, 1⟩,
 ⟨some 16, .call 145 [(.t 14), (.t 15)], none, 2⟩,
 ⟨some 17, .load 2 true (.t 3), none, 3⟩,
 ⟨some 18, .load 2 true (.t 5), none, 4⟩,
 ⟨some 19, .call 145 [(.t 17), (.t 18)], none, 5⟩,
 ⟨some 20, .build [.b false, .sl 1 true [], .b false, .sl 1 true []] [(0, 2, (.t 16)), (2, 2, (.t 19))], none, 6⟩,
 ⟨none, .store 4 (.t 4) (.t 20), none, 7⟩] [] [0, 0, 3, 0, 0, 31, 63, 127] [4] [4])
 .ret))))
def rv94 : List RVar := [.c 4 4 true]
theorem chk94 : chk Tryz.prog Tryz.f94.ntmps ir94 (Tryz.f94.body.getD .skip) = true := by decide +kernel
theorem res94 : chkRes Tryz.prog Tryz.f94.results.toList rv94 = true := by decide +kernel
theorem fnr94 : FT Tryz.prog 94 21 ir94 rv94 := fnT Tryz.func94 rfl rfl chk94 res94 (by decide +kernel)
def ir95 : IR :=
  (.seq
 (.reg [⟨some 2, .box (.t 0), none, 0⟩,
 ⟨some 3, .box (.t 1), none, 1⟩,
 ⟨some 4, .alloc [.b false, .sl 1 true []], none, 2⟩] [] [] [2, 3, 4] [2, 3, 4])
 (.seq
 (.seq
 (.reg [⟨some 5, .fld 0 (.t 2), none, 0⟩,
 ⟨some 6, .load 1 false (.t 5), none, 1⟩,
 ⟨some 7, .fld 0 (.t 3), none, 2⟩,
 ⟨some 8, .load 1 false (.t 7), none, 3⟩,
 ⟨some 9, .eqb false (.t 6) (.t 8), none, 4⟩] [] [] [2, 3, 4, 9] [2, 3, 4])
 (.cond (.t 9)
 (.seq
 (.reg [⟨some 10, .fld 0 (.t 2), none, 0⟩,
 ⟨some 11, .load 1 false (.t 10), none, 1⟩,
 ⟨some 12, .fld 1 (.t 2), none, 2⟩,
 ⟨some 13, .load 1 false (.t 12), none, 3⟩,
 ⟨some 14, .fld 1 (.t 3), none, 4⟩,
 ⟨some 15, .load 1 false (.t 14), none, 5⟩,
 ⟨some 16, .call 146 [(.t 13), (.t 15)], none, 6⟩,
 ⟨some 17, .call 138 [(.t 11), (.t 16)], none, 7⟩,
 ⟨none, .store 2 (.t 4) (.t 17), none, 8⟩] [] [0, 1, 0, 4, 0, 16, 60, 127, 255] [4] [4])
 .ret)
 .skip))
 (.seq
 (.seq
 (.reg [⟨some 18, .fld 1 (.t 2), none, 0⟩,
 ⟨some 19, .load 1 false (.t 18), none, 1⟩,
 ⟨some 20, .fld 1 (.t 3), none, 2⟩,
 ⟨some 21, .load 1 false (.t 20), none, 3⟩,
 ⟨some 22, .call 142 [(.t 19), (.t 21)], none, 4⟩,
 ⟨some 23, .bin .lss (.t 22) (.k (.i .i64 0)), none, 5⟩] [] [] [2, 3, 4, 23] [2, 3, 4])
 (.cond (.t 23)
 (.seq
 (.reg [⟨some 24, .fld 0 (.t 3), none, 0⟩,
 ⟨some 25, .load 1 false (.t 24), none, 1⟩,
 ⟨some 26, .fld 1 (.t 3), none, 2⟩,
 ⟨some 27, .load 1 false (.t 26), none, 3⟩,
 ⟨some 28, .fld 1 (.t 2), none, 4⟩,
 ⟨some 29, .load 1 false (.t 28), none, 5⟩,
 ⟨some 30, .call 147 [(.t 27), (.t 29)], none, 6⟩,
 ⟨some 31, .call 138 [(.t 25), (.t 30)], none, 7⟩,
 ⟨none, .store 2 (.t 4) (.t 31), none, 8⟩] [] [0, 1, 0, 4, 0, 16, 60, 127, 255] [4] [4])
 .ret)
 .skip))
 (.seq
 (.reg [⟨some 32, .fld 0 (.t 2), none, 0⟩,
 ⟨some 33, .load 1 false (.t 32), none, 1⟩,
 ⟨some 34, .fld 1 (.t 2), none, 2⟩,
 ⟨some 35, .load 1 false (.t 34), none, 3⟩,
 ⟨some 36, .fld 1 (.t 3), none, 4⟩,
 ⟨some 37, .load 1 false (.t 36), none, 5⟩,
 ⟨some 38, .call 147 [(.t 35), (.t 37)], none, 6⟩,
 ⟨some 39, .call 138 [(.t 33), (.t 38)], none, 7⟩,
 ⟨none, .store 2 (.t 4) (.t 39), none, 8⟩] [] [0, 1, 0, 4, 0, 16, 60, 127, 255] [4] [4])
 .ret))))
def rv95 : List RVar := [.c 4 2 true]
theorem chk95 : chk Tryz.prog Tryz.f95.ntmps ir95 (Tryz.f95.body.getD .skip) = true := by decide +kernel
theorem res95 : chkRes Tryz.prog Tryz.f95.results.toList rv95 = true := by decide +kernel
theorem fnr95 : FT Tryz.prog 95 40 ir95 rv95 := fnT Tryz.func95 rfl rfl chk95 res95 (by decide +kernel)
def ir96 : IR :=
  (.seq
 (.reg [⟨some 2, .box (.t 0), none, 0⟩,
 ⟨some 3, .box (.t 1), none, 1⟩,
 ⟨some 4, .alloc [.b false, .sl 1 true []], none, 2⟩] [] [] [2, 3, 4] [2, 3, 4])
 (.seq
 (.reg [⟨some 5, .fld 0 (.t 2), none, 0⟩,
 ⟨some 6, .load 1 false (.t 5), none, 1⟩,
 ⟨some 7, .fld 0 (.t 3), none, 2⟩,
 ⟨some 8, .load 1 false (.t 7), none, 3⟩,
 ⟨some 9, .eqb true (.t 6) (.t 8), none, 4⟩,
 ⟨some 10, .fld 1 (.t 2), none, 5⟩,
 ⟨some 11, .load 1 false (.t 10), none, 6⟩,
 ⟨some 12, .fld 1 (.t 3), none, 7⟩,
 ⟨some 13, .load 1 false (.t 12), none, 8⟩,
 ⟨some 14, .call 148 [(.t 11), (.t 13)], none, 9⟩,
 ⟨some 15, .call 138 [(.t 9), (.t 14)], none, 10⟩,
 ⟨none, .store 2 (.t 4) (.t 15), none, 11⟩] [] [0, 1, 0, 4, 15, 0, 32, 0, 128, 480, 1023, 2047] [4] [4])
 .ret))
def rv96 : List RVar := [.c 4 2 true]
theorem chk96 : chk Tryz.prog Tryz.f96.ntmps ir96 (Tryz.f96.body.getD .skip) = true := by decide +kernel
theorem res96 : chkRes Tryz.prog Tryz.f96.results.toList rv96 = true := by decide +kernel
theorem fnr96 : FT Tryz.prog 96 16 ir96 rv96 := fnT Tryz.func96 rfl rfl chk96 res96 (by decide +kernel)
def ir138 : IR :=
  (.seq
 (.reg [⟨some 4, .alloc [.b false, .sl 1 true []], none, 0⟩] [] [] [0, 1, 4] [4])
 (.seq
 (.reg [⟨some 6, .mv (.t 1), none, 0⟩,
 ⟨some 7, .call 165 [(.t 6)], none, 1⟩,
 ⟨some 5, .mv (.t 7), none, 2⟩] [] [] [0, 4, 5] [4])
 (.seq
 (.reg [⟨some 8, .mv (.t 0), none, 0⟩,
 ⟨some 9, .mv (.t 8), none, 1⟩,
 ⟨some 10, .mv (.t 5), some (9, true), 2⟩,
 ⟨some 11, .len (.t 10), some (9, true), 3⟩,
 ⟨some 12, .bin .gtr (.t 11) (.k (.i .i64 0)), some (9, true), 4⟩,
 ⟨some 13, .pick (.t 9) (.t 12) (.k (.b false)), none, 5⟩,
 ⟨some 14, .mv (.t 5), none, 6⟩,
 ⟨some 15, .build [.b false, .sl 1 true []] [(0, 1, (.t 13)), (1, 1, (.t 14))], none, 7⟩,
 ⟨none, .store 2 (.t 4) (.t 15), none, 8⟩] [] [] [4] [4])
 .ret)))
def rv138 : List RVar := [.c 4 2 true]
theorem chk138 : chk Tryz.prog Tryz.f138.ntmps ir138 (Tryz.f138.body.getD .skip) = true := by decide +kernel
theorem res138 : chkRes Tryz.prog Tryz.f138.results.toList rv138 = true := by decide +kernel
theorem fnr138 : FT Tryz.prog 138 16 ir138 rv138 := fnT Tryz.func138 rfl rfl chk138 res138 (by decide +kernel)
def ir139 : IR :=
  (.seq
 (.reg [⟨some 2, .mv (.k (.sl 1 true [])), none, 0⟩] [] [] [0] [])
 (.seq
 (.reg [⟨some 3, .mv (.t 0), none, 0⟩,
 ⟨some 4, .bin .rem (.t 3) (.k (.i .u64 4294967296)), none, 1⟩,
 ⟨some 5, .conv .u32 (.t 4), none, 2⟩,
 ⟨some 6, .mv (.t 0), none, 3⟩,
 ⟨some 7, .bin .quo (.t 6) (.k (.i .u64 4294967296)), none, 4⟩,
 ⟨some 8, .conv .u32 (.t 7), none, 5⟩,
 ⟨some 9, .bsl 1 [(.t 5), (.t 8)], none, 6⟩,
 ⟨some 10, .call 165 [(.t 9)], none, 7⟩,
 ⟨some 2, .mv (.t 10), none, 8⟩] [] [] [2] [])
 .ret))
def rv139 : List RVar := [.t 2]
theorem chk139 : chk Tryz.prog Tryz.f139.ntmps ir139 (Tryz.f139.body.getD .skip) = true := by decide +kernel
theorem res139 : chkRes Tryz.prog Tryz.f139.results.toList rv139 = true := by decide +kernel
theorem fnr139 : FT Tryz.prog 139 11 ir139 rv139 := fnT Tryz.func139 rfl rfl chk139 res139 (by decide +kernel)
def b142_0 : IR :=
  (.seq
 (.seq
 (.reg [⟨some 19, .mv (.t 5), none, 0⟩,
 ⟨some 20, .bin .geq (.t 19) (.k (.i .i64 0)), none, 1⟩] [] [] [0, 1, 5, 20] [])
 (.cond (.t 20)
 .skip
 (.exit 0)))
 (.seq
 (.block 1
 (.seq
 (.seq
 (.reg [⟨some 23, .mv (.t 0), none, 0⟩,
 ⟨some 24, .mv (.t 5), none, 1⟩,
 ⟨some 25, .ixs 1 (.t 23) (.t 24), none, 2⟩,
 ⟨some 26, .load 1 false (.t 25), none, 3⟩,
 ⟨some 27, .mv (.t 1), none, 4⟩,
 ⟨some 28, .mv (.t 5), none, 5⟩,
 ⟨some 29, .ixs 1 (.t 27) (.t 28), none, 6⟩,
 ⟨some 30, .load 1 false (.t 29), none, 7⟩,
 ⟨some 31, .bin .lss (.t 26) (.t 30), none, 8⟩] [] [0, 0, 3, 7, 0, 0, 48, 112, 255] [0, 1, 5, 31] [])
 (.cond (.t 31)
 (.seq
 (.reg [⟨some 4, .mv (.k (.i .i64 (-1))), none, 0⟩] [] [] [4] [])
 .ret)
 .skip))
 (.seq
 (.reg [⟨some 32, .mv (.t 0), none, 0⟩,
 ⟨some 33, .mv (.t 5), none, 1⟩,
 ⟨some 34, .ixs 1 (.t 32) (.t 33), none, 2⟩,
 ⟨some 35, .load 1 false (.t 34), none, 3⟩,
 ⟨some 36, .mv (.t 1), none, 4⟩,
 ⟨some 37, .mv (.t 5), none, 5⟩,
 ⟨some 38, .ixs 1 (.t 36) (.t 37), none, 6⟩,
 ⟨some 39, .load 1 false (.t 38), none, 7⟩,
 ⟨some 40, .bin .gtr (.t 35) (.t 39), none, 8⟩] [] [0, 0, 3, 7, 0, 0, 48, 112, 255] [0, 1, 5, 40] [])
 (.cond (.t 40)
 (.seq
 (.reg [⟨some 4, .mv (.k (.i .i64 1)), none, 0⟩] [] [] [4] [])
 .ret)
 .skip))))
 (.reg [⟨some 21, .mv (.t 5), none, 0⟩,
 ⟨some 22, .bin .sub (.t 21) (.k (.i .i64 1)), none, 1⟩,
 ⟨some 5, .mv (.t 22), none, 2⟩] [] [] [0, 1, 5] [])))
theorem wb142_0 : type_of% (@wbEq _ _ b142_0.eq_1 P F st Q) := wbEq b142_0.eq_1
def ir142 : IR :=
  (.seq
 (.reg [⟨some 4, .mv (.k (.i .i64 0)), none, 0⟩] [] [] [0, 1] [])
 (.seq
 (.seq
 (.reg [⟨some 6, .mv (.t 0), none, 0⟩,
 ⟨some 7, .len (.t 6), none, 1⟩,
 ⟨some 8, .mv (.t 1), none, 2⟩,
 ⟨some 9, .len (.t 8), none, 3⟩,
 ⟨some 10, .bin .lss (.t 7) (.t 9), none, 4⟩] [] [] [0, 1, 10] [])
 (.cond (.t 10)
 (.seq
 (.reg [⟨some 4, .mv (.k (.i .i64 (-1))), none, 0⟩] [] [] [4] [])
 .ret)
 .skip))
 (.seq
 (.seq
 (.reg [⟨some 11, .mv (.t 0), none, 0⟩,
 ⟨some 12, .len (.t 11), none, 1⟩,
 ⟨some 13, .mv (.t 1), none, 2⟩,
 ⟨some 14, .len (.t 13), none, 3⟩,
 ⟨some 15, .bin .gtr (.t 12) (.t 14), none, 4⟩] [] [] [0, 1, 15] [])
 (.cond (.t 15)
 (.seq
 (.reg [⟨some 4, .mv (.k (.i .i64 1)), none, 0⟩] [] [] [4] [])
 .ret)
 .skip))
 (.seq
 (.seq
 (.reg [⟨some 16, .mv (.t 0), none, 0⟩,
 ⟨some 17, .len (.t 16), none, 1⟩,
 ⟨some 18, .bin .sub (.t 17) (.k (.i .i64 1)), none, 2⟩,
 ⟨some 5, .mv (.t 18), none, 3⟩] [] [] [0, 1, 5] [])
 (.block 0
 (.loop [0, 1, 5] [] b142_0)))
 (.seq
 (.reg [⟨some 4, .mv (.k (.i .i64 0)), none, 0⟩] [] [] [4] [])
 .ret)))))
def rv142 : List RVar := [.t 4]
theorem chk142 : chk Tryz.prog Tryz.f142.ntmps ir142 (Tryz.f142.body.getD .skip) = true := by decide +kernel
theorem res142 : chkRes Tryz.prog Tryz.f142.results.toList rv142 = true := by decide +kernel
theorem fnr142 : FT Tryz.prog 142 41 ir142 rv142 := fnT Tryz.func142 rfl rfl chk142 res142 (by decide +kernel)
def b143_0 : IR :=
  (.seq
 (.seq
 (.reg [⟨some 7, .mv (.t 1), none, 0⟩,
 ⟨some 8, .len (.t 7), none, 1⟩,
 ⟨some 9, .bin .gtr (.t 8) (.k (.i .i64 0)), none, 2⟩] [] [] [0, 1, 9] [])
 (.cond (.t 9)
 .skip
 (.exit 0)))
 (.block 1
 (.seq
 (.seq
 (.reg [⟨some 10, .mv (.t 0), none, 0⟩,
 ⟨some 11, .len (.t 10), none, 1⟩,
 ⟨some 12, .bin .leq (.t 11) (.k (.i .i64 2)), none, 2⟩,
 ⟨some 13, .mv (.t 12), none, 3⟩,
 ⟨some 14, .mv (.t 1), some (13, true), 4⟩,
 ⟨some 15, .len (.t 14), some (13, true), 5⟩,
 ⟨some 16, .bin .leq (.t 15) (.k (.i .i64 2)), some (13, true), 6⟩,
 ⟨some 17, .pick (.t 13) (.t 16) (.k (.b false)), none, 7⟩] [] [] [0, 1, 17] [])
 (.cond (.t 17)
 (.seq
 (.reg [⟨some 18, .mv (.t 0), none, 0⟩,
 ⟨some 19, .call 167 [(.t 18)], none, 1⟩,
 ⟨some 20, .mv (.t 1), none, 2⟩,
 ⟨some 21, .call 167 [(.t 20)], none, 3⟩,
 ⟨some 22, .call 166 [(.t 19), (.t 21)], none, 4⟩,
 ⟨some 23, .call 139 [(.t 22)], none, 5⟩,
 ⟨some 4, .mv (.t 23), none, 6⟩] [] [] [4] [])
 .ret)
 .skip))
 (.seq
 (.reg [⟨some 25, .mv (.t 0), none, 0⟩,
 ⟨some 26, .mv (.t 1), none, 1⟩,
 ⟨some 27, .call 168 [(.t 25), (.t 26)], none, 2⟩,
 ⟨some 24, .mv (.t 27), none, 3⟩,
 ⟨some 28, .ext 0 (.t 24), none, 4⟩,
 ⟨some 29, .ext 1 (.t 24), none, 5⟩,
 ⟨some 5, .mv (.t 28), none, 6⟩,
 ⟨some 6, .mv (.t 29), none, 7⟩] [] [] [1, 6] [])
 (.seq
 (.reg [⟨some 30, .mv (.t 1), none, 0⟩,
 ⟨some 0, .mv (.t 30), none, 1⟩] [] [] [0, 6] [])
 (.reg [⟨some 31, .mv (.t 6), none, 0⟩,
 ⟨some 1, .mv (.t 31), none, 1⟩] [] [] [0, 1] []))))))
theorem wb143_0 : type_of% (@wbEq _ _ b143_0.eq_1 P F st Q) := wbEq b143_0.eq_1
def ir143 : IR :=
  (.seq
 (.reg [⟨some 4, .mv (.k (.sl 1 true [])), none, 0⟩] [] [] [0, 1] [])
 (.seq
 (.block 0
 (.loop [0, 1] [] b143_0))
 (.seq
 (.reg [⟨some 32, .mv (.t 0), none, 0⟩,
 ⟨some 4, .mv (.t 32), none, 1⟩] [] [] [4] [])
 .ret)))
def rv143 : List RVar := [.t 4]
theorem chk143 : chk Tryz.prog Tryz.f143.ntmps ir143 (Tryz.f143.body.getD .skip) = true := by decide +kernel
theorem res143 : chkRes Tryz.prog Tryz.f143.results.toList rv143 = true := by decide +kernel
theorem fnr143 : FT Tryz.prog 143 33 ir143 rv143 := fnT Tryz.func143 rfl rfl chk143 res143 (by decide +kernel)
def ir144 : IR :=
  (.seq
 (.reg [⟨some 1, .box (.t 0), none, 0⟩,
 ⟨some 2, .alloc [.b false, .sl 1 true []], none, 1⟩] [] [] [1, 2] [1, 2])
 (.seq
 (.reg [⟨some 3, .fld 0 (.t 1), none, 0⟩,
 ⟨some 4, .load 1 false (.t 3), none, 1⟩,
 ⟨some 5, .un .not (.t 4), none, 2⟩,
 ⟨some 6, .fld 1 (.t 1), none, 3⟩,
 ⟨some 7, .load 1 false (.t 6), none, 4⟩,
 ⟨some 8, .call 138 [(.t 5), (.t 7)], none, 5⟩,
 ⟨none, .store 2 (.t 2) (.t 8), none, 6⟩] [] [] [2] [2])
 .ret))
def rv144 : List RVar := [.c 2 2 true]
theorem chk144 : chk Tryz.prog Tryz.f144.ntmps ir144 (Tryz.f144.body.getD .skip) = true := by decide +kernel
theorem res144 : chkRes Tryz.prog Tryz.f144.results.toList rv144 = true := by decide +kernel
theorem fnr144 : FT Tryz.prog 144 9 ir144 rv144 := fnT Tryz.func144 rfl rfl chk144 res144 (by decide +kernel)
def ir145 : IR :=
  (.seq
 (.reg [⟨some 2, .box (.t 0), none, 0⟩,
 ⟨some 3, .box (.t 1), none, 1⟩,
 ⟨some 4, .alloc [.b false, .sl 1 true []], none, 2⟩] [] [] [2, 3, 4] [2, 3, 4])
 (.seq
 (.reg [⟨some 9, .load 2 true (.t 2), none, 0⟩,
 ⟨some 10, .load 2 true (.t 3), none, 1⟩,
 ⟨some 11, .call 169 [(.t 9), (.t 10)], none, 2⟩,
 ⟨some 8, .mv (.t 11), none, 3⟩,
 ⟨some 12, .ext 0 (.t 8), none, 4⟩,
 ⟨some 13, .ext 1 (.t 8), none, 5⟩,
 ⟨some 14, .ext 2 (.t 8), none, 6⟩,
 ⟨some 5, .alloc [.b false, .sl 1 true []], none, 7⟩,
 ⟨some 6, .alloc [.b false, .sl 1 true []], none, 8⟩,
 ⟨none, .store 2 (.t 5) (.t 12), none, 9⟩,
 ⟨none, .store 2 (.t 6) (.t 13), none, 10⟩,
 ⟨some 7, .mv (.t 14), none, 11⟩] [] [] [4, 5] [4, 5])
 (.seq
 (.reg [⟨some 15, .load 2 true (.t 5), none, 0⟩,
 ⟨none, .store 2 (.t 4) (.t 15), none, 1⟩] [] [] [4] [4])
 .ret)))
def rv145 : List RVar := [.c 4 2 true]
theorem chk145 : chk Tryz.prog Tryz.f145.ntmps ir145 (Tryz.f145.body.getD .skip) = true := by decide +kernel
theorem res145 : chkRes Tryz.prog Tryz.f145.results.toList rv145 = true := by decide +kernel
theorem fnr145 : FT Tryz.prog 145 16 ir145 rv145 := fnT Tryz.func145 rfl rfl chk145 res145 (by decide +kernel)
def b146_0 : IR :=
  (.seq
 (.seq
 (.reg [⟨some 18, .mv (.t 8), none, 0⟩,
 ⟨some 19, .mv (.t 5), none, 1⟩,
 ⟨some 20, .bin .lss (.t 18) (.t 19), none, 2⟩] [] [] [0, 1, 5, 6, 7, 8, 20] [17])
 (.cond (.t 20)
 .skip
 (.exit 0)))
 (.seq
 (.block 1
 (.seq
 (.reg [⟨some 23, .mv (.t 0), none, 0⟩,
 ⟨some 24, .mv (.t 8), none, 1⟩,
 ⟨some 25, .call 170 [(.t 23), (.t 24)], none, 2⟩,
 ⟨some 26, .mv (.t 1), none, 3⟩,
 ⟨some 27, .mv (.t 8), none, 4⟩,
 ⟨some 28, .call 170 [(.t 26), (.t 27)], none, 5⟩,
 ⟨some 29, .bin .add (.t 25) (.t 28), none, 6⟩,
 ⟨some 30, .mv (.t 7), none, 7⟩,
 ⟨some 31, .bin .add (.t 29) (.t 30), none, 8⟩,
 ⟨some 9, .mv (.t 31), none, 9⟩] [] [] [0, 1, 5, 6, 8, 9] [17])
 (.seq
 (.reg [⟨some 32, .mv (.t 6), none, 0⟩,
 ⟨some 33, .mv (.t 8), none, 1⟩,
 ⟨some 34, .mv (.t 9), none, 2⟩,
 ⟨some 35, .bin .rem (.t 34) (.k (.i .u64 4294967296)), none, 3⟩,
 ⟨some 36, .conv .u32 (.t 35), none, 4⟩,
 ⟨some 37, .ixs 1 (.t 32) (.t 33), none, 5⟩,
 ⟨none, .store 1 (.t 37) (.t 36), none, 6⟩] [] [] [0, 1, 5, 6, 8, 9] [17])
 (.reg [⟨some 38, .mv (.t 9), none, 0⟩,
 ⟨some 39, .bin .quo (.t 38) (.k (.i .u64 4294967296)), none, 1⟩,
 ⟨some 7, .mv (.t 39), none, 2⟩] [] [] [0, 1, 5, 6, 7, 8] [17]))))
 (.reg [⟨some 21, .mv (.t 8), none, 0⟩,
 ⟨some 22, .bin .add (.t 21) (.k (.i .i64 1)), none, 1⟩,
 ⟨some 8, .mv (.t 22), none, 2⟩] [] [] [0, 1, 5, 6, 7, 8] [17])))
theorem wb146_0 : type_of% (@wbEq _ _ b146_0.eq_1 P F st Q) := wbEq b146_0.eq_1
def ir146 : IR :=
  (.seq
 (.reg [⟨some 4, .mv (.k (.sl 1 true [])), none, 0⟩] [] [] [0, 1] [])
 (.seq
 (.reg [⟨some 10, .mv (.t 0), none, 0⟩,
 ⟨some 11, .len (.t 10), none, 1⟩,
 ⟨some 12, .mv (.t 1), none, 2⟩,
 ⟨some 13, .len (.t 12), none, 3⟩,
 ⟨some 14, .mx (.t 11) (.t 13), none, 4⟩,
 ⟨some 15, .bin .add (.t 14) (.k (.i .i64 1)), none, 5⟩,
 ⟨some 5, .mv (.t 15), none, 6⟩] [] [] [0, 1, 5] [])
 (.seq
 (.reg [⟨some 16, .mv (.t 5), none, 0⟩,
 ⟨some 17, .mk 1 4 [.i .u32 0] (.t 16) (.t 16), none, 1⟩,
 ⟨some 6, .mv (.t 17), none, 2⟩] [] [] [0, 1, 5, 6] [17])
 (.seq
 (.reg [⟨some 7, .mv (.k (.i .u64 0)), none, 0⟩] [] [] [0, 1, 5, 6, 7] [17])
 (.seq
 (.seq
 (.reg [⟨some 8, .mv (.k (.i .i64 0)), none, 0⟩] [] [] [0, 1, 5, 6, 7, 8] [17])
 (.block 0
 (.loop [0, 1, 5, 6, 7, 8] [17] b146_0)))
 (.seq
 (.frz 6
 (.reg [⟨some 40, .mv (.t 6), none, 0⟩,
 ⟨some 41, .call 165 [(.t 40)], none, 1⟩,
 ⟨some 4, .mv (.t 41), none, 2⟩] [] [] [4] []))
 .ret))))))
def rv146 : List RVar := [.t 4]
theorem chk146 : chk Tryz.prog Tryz.f146.ntmps ir146 (Tryz.f146.body.getD .skip) = true := by decide +kernel
theorem res146 : chkRes Tryz.prog Tryz.f146.results.toList rv146 = true := by decide +kernel
theorem fnr146 : FT Tryz.prog 146 42 ir146 rv146 := fnT Tryz.func146 rfl rfl chk146 res146 (by decide +kernel)
def b147_0 : IR :=
  (.seq
 (.seq
 (.reg [⟨some 12, .mv (.t 7), none, 0⟩,
 ⟨some 13, .mv (.t 0), none, 1⟩,
 ⟨some 14, .len (.t 13), none, 2⟩,
 ⟨some 15, .bin .lss (.t 12) (.t 14), none, 3⟩] [] [] [0, 1, 5, 6, 7, 15] [11])
 (.cond (.t 15)
 .skip
 (.exit 0)))
 (.seq
 (.block 1
 (.seq
 (.reg [⟨some 18, .mv (.t 0), none, 0⟩,
 ⟨some 19, .mv (.t 7), none, 1⟩,
 ⟨some 20, .ixs 1 (.t 18) (.t 19), none, 2⟩,
 ⟨some 21, .load 1 false (.t 20), none, 3⟩,
 ⟨some 22, .conv .u64 (.t 21), none, 4⟩,
 ⟨some 23, .bin .add (.k (.i .u64 4294967296)) (.t 22), none, 5⟩,
 ⟨some 24, .mv (.t 1), none, 6⟩,
 ⟨some 25, .mv (.t 7), none, 7⟩,
 ⟨some 26, .call 170 [(.t 24), (.t 25)], none, 8⟩,
 ⟨some 27, .bin .sub (.t 23) (.t 26), none, 9⟩,
 ⟨some 28, .mv (.t 6), none, 10⟩,
 ⟨some 29, .bin .sub (.t 27) (.t 28), none, 11⟩,
 ⟨some 8, .mv (.t 29), none, 12⟩] [] [0, 0, 3, 7, 15, 31, 0, 0, 192, 511, 0, 2047, 4095] [0, 1, 5, 7, 8] [11])
 (.seq
 (.reg [⟨some 30, .mv (.t 5), none, 0⟩,
 ⟨some 31, .mv (.t 7), none, 1⟩,
 ⟨some 32, .mv (.t 8), none, 2⟩,
 ⟨some 33, .bin .rem (.t 32) (.k (.i .u64 4294967296)), none, 3⟩,
 ⟨some 34, .conv .u32 (.t 33), none, 4⟩,
 ⟨some 35, .ixs 1 (.t 30) (.t 31), none, 5⟩,
 ⟨none, .store 1 (.t 35) (.t 34), none, 6⟩] [] [] [0, 1, 5, 7, 8] [11])
 (.reg [⟨some 36, .mv (.t 8), none, 0⟩,
 ⟨some 37, .bin .quo (.t 36) (.k (.i .u64 4294967296)), none, 1⟩,
 ⟨some 38, .bin .sub (.k (.i .u64 1)) (.t 37), none, 2⟩,
 ⟨some 6, .mv (.t 38), none, 3⟩] [] [] [0, 1, 5, 6, 7] [11]))))
 (.reg [⟨some 16, .mv (.t 7), none, 0⟩,
 ⟨some 17, .bin .add (.t 16) (.k (.i .i64 1)), none, 1⟩,
 ⟨some 7, .mv (.t 17), none, 2⟩] [] [] [0, 1, 5, 6, 7] [11])))
theorem wb147_0 : type_of% (@wbEq _ _ b147_0.eq_1 P F st Q) := wbEq b147_0.eq_1
def ir147 : IR :=
  (.seq
 (.reg [⟨some 4, .mv (.k (.sl 1 true [])), none, 0⟩] [] [] [0, 1] [])
 (.seq
 (.reg [⟨some 9, .mv (.t 0), none, 0⟩,
 ⟨some 10, .len (.t 9), none, 1⟩,
 ⟨some 11, .mk 1 4 [.i .u32 0] (.t 10) (.t 10), none, 2⟩,
 ⟨some 5, .mv (.t 11), none, 3⟩] [] [] [0, 1, 5] [11])
 (.seq
 (.reg [⟨some 6, .mv (.k (.i .u64 0)), none, 0⟩] [] [] [0, 1, 5, 6] [11])
 (.seq
 (.seq
 (.reg [⟨some 7, .mv (.k (.i .i64 0)), none, 0⟩] [] [] [0, 1, 5, 6, 7] [11])
 (.block 0
 (.loop [0, 1, 5, 6, 7] [11] b147_0)))
 (.seq
 (.frz 5
 (.reg [⟨some 39, .mv (.t 5), none, 0⟩,
 ⟨some 40, .call 165 [(.t 39)], none, 1⟩,
 ⟨some 4, .mv (.t 40), none, 2⟩] [] [] [4] []))
 .ret)))))
def rv147 : List RVar := [.t 4]
theorem chk147 : chk Tryz.prog Tryz.f147.ntmps ir147 (Tryz.f147.body.getD .skip) = true := by decide +kernel
theorem res147 : chkRes Tryz.prog Tryz.f147.results.toList rv147 = true := by decide +kernel
theorem fnr147 : FT Tryz.prog 147 41 ir147 rv147 := fnT Tryz.func147 rfl rfl chk147 res147 (by decide +kernel)
def b148_0 : IR :=
  (.seq
 (.seq
 (.reg [⟨some 22, .mv (.t 8), none, 0⟩,
 ⟨some 23, .mv (.t 1), none, 1⟩,
 ⟨some 24, .len (.t 23), none, 2⟩,
 ⟨some 25, .bin .lss (.t 22) (.t 24), none, 3⟩] [] [] [0, 1, 5, 6, 7, 8, 25] [15])
 (.cond (.t 25)
 .skip
 (.exit 2)))
 (.seq
 (.block 3
 (.seq
 (.reg [⟨some 28, .mv (.t 0), none, 0⟩,
 ⟨some 29, .mv (.t 6), none, 1⟩,
 ⟨some 30, .ixs 1 (.t 28) (.t 29), none, 2⟩,
 ⟨some 31, .load 1 false (.t 30), none, 3⟩,
 ⟨some 32, .conv .u64 (.t 31), none, 4⟩,
 ⟨some 33, .mv (.t 1), none, 5⟩,
 ⟨some 34, .mv (.t 8), none, 6⟩,
 ⟨some 35, .ixs 1 (.t 33) (.t 34), none, 7⟩,
 ⟨some 36, .load 1 false (.t 35), none, 8⟩,
 ⟨some 37, .conv .u64 (.t 36), none, 9⟩,
 ⟨some 38, .bin .mul (.t 32) (.t 37), none, 10⟩,
 ⟨some 39, .mv (.t 5), none, 11⟩,
 ⟨some 40, .mv (.t 6), none, 12⟩,
 ⟨some 41, .mv (.t 8), none, 13⟩,
 ⟨some 42, .bin .add (.t 40) (.t 41), none, 14⟩,
 ⟨some 43, .ixs 1 (.t 39) (.t 42), none, 15⟩,
 ⟨some 44, .load 1 false (.t 43), none, 16⟩,
 ⟨some 45, .conv .u64 (.t 44), none, 17⟩,
 ⟨some 46, .bin .add (.t 38) (.t 45), none, 18⟩,
 ⟨some 47, .mv (.t 7), none, 19⟩,
 ⟨some 48, .bin .add (.t 46) (.t 47), none, 20⟩,
 ⟨some 9, .mv (.t 48), none, 21⟩] [] [0, 0, 3, 7, 15, 0, 0, 96, 224, 480, 1023, 0, 0, 0, 12288, 30720, 63488, 129024, 262143, 0, 1048575, 2097151] [0, 1, 5, 6, 8, 9] [15])
 (.seq
 (.reg [⟨some 49, .mv (.t 5), none, 0⟩,
 ⟨some 50, .mv (.t 6), none, 1⟩,
 ⟨some 51, .mv (.t 8), none, 2⟩,
 ⟨some 52, .bin .add (.t 50) (.t 51), none, 3⟩,
 ⟨some 53, .mv (.t 9), none, 4⟩,
 ⟨some 54, .bin .rem (.t 53) (.k (.i .u64 4294967296)), none, 5⟩,
 ⟨some 55, .conv .u32 (.t 54), none, 6⟩,
 ⟨some 56, .ixs 1 (.t 49) (.t 52), none, 7⟩,
 ⟨none, .store 1 (.t 56) (.t 55), none, 8⟩] [] [] [0, 1, 5, 6, 8, 9] [15])
 (.reg [⟨some 57, .mv (.t 9), none, 0⟩,
 ⟨some 58, .bin .quo (.t 57) (.k (.i .u64 4294967296)), none, 1⟩,
 ⟨some 7, .mv (.t 58), none, 2⟩] [] [] [0, 1, 5, 6, 7, 8] [15]))))
 (.reg [⟨some 26, .mv (.t 8), none, 0⟩,
 ⟨some 27, .bin .add (.t 26) (.k (.i .i64 1)), none, 1⟩,
 ⟨some 8, .mv (.t 27), none, 2⟩] [] [] [0, 1, 5, 6, 7, 8] [15])))
theorem wb148_0 : type_of% (@wbEq _ _ b148_0.eq_1 P F st Q) := wbEq b148_0.eq_1
def b148_1 : IR :=
  (.seq
 (.seq
 (.reg [⟨some 16, .mv (.t 6), none, 0⟩,
 ⟨some 17, .mv (.t 0), none, 1⟩,
 ⟨some 18, .len (.t 17), none, 2⟩,
 ⟨some 19, .bin .lss (.t 16) (.t 18), none, 3⟩] [] [] [0, 1, 5, 6, 19] [15])
 (.cond (.t 19)
 .skip
 (.exit 0)))
 (.seq
 (.block 1
 (.seq
 (.reg [⟨some 7, .mv (.k (.i .u64 0)), none, 0⟩] [] [] [0, 1, 5, 6, 7] [15])
 (.seq
 (.seq
 (.reg [⟨some 8, .mv (.k (.i .i64 0)), none, 0⟩] [] [] [0, 1, 5, 6, 7, 8] [15])
 (.block 2
 (.loop [0, 1, 5, 6, 7, 8] [15] b148_0)))
 (.reg [⟨some 59, .mv (.t 5), none, 0⟩,
 ⟨some 60, .mv (.t 6), none, 1⟩,
 ⟨some 61, .mv (.t 1), none, 2⟩,
 ⟨some 62, .len (.t 61), none, 3⟩,
 ⟨some 63, .bin .add (.t 60) (.t 62), none, 4⟩,
 ⟨some 64, .mv (.t 7), none, 5⟩,
 ⟨some 65, .conv .u32 (.t 64), none, 6⟩,
 ⟨some 66, .ixs 1 (.t 59) (.t 63), none, 7⟩,
 ⟨none, .store 1 (.t 66) (.t 65), none, 8⟩] [] [] [0, 1, 5, 6] [15]))))
 (.reg [⟨some 20, .mv (.t 6), none, 0⟩,
 ⟨some 21, .bin .add (.t 20) (.k (.i .i64 1)), none, 1⟩,
 ⟨some 6, .mv (.t 21), none, 2⟩] [] [] [0, 1, 5, 6] [15])))
theorem wb148_1 : type_of% (@wbEq _ _ b148_1.eq_1 P F st Q) := wbEq b148_1.eq_1
def ir148 : IR :=
  (.seq
 (.reg [⟨some 4, .mv (.k (.sl 1 true [])), none, 0⟩] [] [] [0, 1] [])
 (.seq
 (.reg [⟨some 10, .mv (.t 0), none, 0⟩,
 ⟨some 11, .len (.t 10), none, 1⟩,
 ⟨some 12, .mv (.t 1), none, 2⟩,
 ⟨some 13, .len (.t 12), none, 3⟩,
 ⟨some 14, .bin .add (.t 11) (.t 13), none, 4⟩,
 ⟨some 15, .mk 1 4 [.i .u32 0] (.t 14) (.t 14), none, 5⟩,
 ⟨some 5, .mv (.t 15), none, 6⟩] [] [] [0, 1, 5] [15])
 (.seq
 (.seq
 (.reg [⟨some 6, .mv (.k (.i .i64 0)), none, 0⟩] [] [] [0, 1, 5, 6] [15])
 (.block 0
 (.loop [0, 1, 5, 6] [15] b148_1)))
 (.seq
 (.frz 5
 (.reg [⟨some 67, .mv (.t 5), none, 0⟩,
 ⟨some 68, .call 165 [(.t 67)], none, 1⟩,
 ⟨some 4, .mv (.t 68), none, 2⟩] [] [] [4] []))
 .ret))))
def rv148 : List RVar := [.t 4]
theorem chk148 : chk Tryz.prog Tryz.f148.ntmps ir148 (Tryz.f148.body.getD .skip) = true := by decide +kernel
theorem res148 : chkRes Tryz.prog Tryz.f148.results.toList rv148 = true := by decide +kernel
theorem fnr148 : FT Tryz.prog 148 69 ir148 rv148 := fnT Tryz.func148 rfl rfl chk148 res148 (by decide +kernel)
def b165_0 : IR :=
  (.seq
 (.seq
 (.reg [⟨some 6, .mv (.t 3), none, 0⟩,
 ⟨some 7, .bin .gtr (.t 6) (.k (.i .i64 0)), none, 1⟩,
 ⟨some 8, .mv (.t 7), none, 2⟩,
 ⟨some 9, .mv (.t 0), some (8, true), 3⟩,
 ⟨some 10, .mv (.t 3), some (8, true), 4⟩,
 ⟨some 11, .bin .sub (.t 10) (.k (.i .i64 1)), some (8, true), 5⟩,
 ⟨some 12, .ixs 1 (.t 9) (.t 11), some (8, true), 6⟩,
 ⟨some 13, .load 1 false (.t 12), some (8, true), 7⟩,
 ⟨some 14, .bin .eql (.t 13) (.k (.i .u32 0)), some (8, true), 8⟩,
 ⟨some 15, .pick (.t 8) (.t 14) (.k (.b false)), none, 9⟩] [] [] [0, 3, 15] [])
 (.cond (.t 15)
 .skip
 (.exit 0)))
 (.block 1
 (.reg [⟨some 16, .mv (.t 3), none, 0⟩,
 ⟨some 17, .bin .sub (.t 16) (.k (.i .i64 1)), none, 1⟩,
 ⟨some 3, .mv (.t 17), none, 2⟩] [] [] [0, 3] [])))
theorem wb165_0 : type_of% (@wbEq _ _ b165_0.eq_1 P F st Q) := wbEq b165_0.eq_1
def ir165 : IR :=
  (.seq
 (.reg [⟨some 2, .mv (.k (.sl 1 true [])), none, 0⟩] [] [] [0] [])
 (.seq
 (.reg [⟨some 4, .mv (.t 0), none, 0⟩,
 ⟨some 5, .len (.t 4), none, 1⟩,
 ⟨some 3, .mv (.t 5), none, 2⟩] [] [] [0, 3] [])
 (.seq
 (.block 0
 (.loop [0, 3] [] b165_0))
 (.seq
 (.reg [⟨some 18, .mv (.t 0), none, 0⟩,
 ⟨some 19, .mv (.t 3), none, 1⟩,
 ⟨some 20, .slc 1 (.t 18) none (some (.t 19)) none, none, 2⟩,
 ⟨some 2, .mv (.t 20), none, 3⟩] [] [] [2] [])
 .ret))))
def rv165 : List RVar := [.t 2]
theorem chk165 : chk Tryz.prog Tryz.f165.ntmps ir165 (Tryz.f165.body.getD .skip) = true := by decide +kernel
theorem res165 : chkRes Tryz.prog Tryz.f165.results.toList rv165 = true := by decide +kernel
theorem fnr165 : FT Tryz.prog 165 21 ir165 rv165 := fnT Tryz.func165 rfl rfl chk165 res165 (by decide +kernel)
def b166_0 : IR :=
  (.seq
 (.seq
 (.reg [⟨some 6, .mv (.t 1), none, 0⟩,
 ⟨some 7, .bin .gtr (.t 6) (.k (.i .u64 0)), none, 1⟩] [] [] [0, 1, 7] [])
 (.cond (.t 7)
 .skip
 (.exit 0)))
 (.block 1
 (.seq
 (.reg [⟨some 8, .mv (.t 0), none, 0⟩,
 ⟨some 9, .mv (.t 1), none, 1⟩,
 ⟨some 10, .bin .rem (.t 8) (.t 9), none, 2⟩,
 ⟨some 5, .mv (.t 10), none, 3⟩] [] [] [1, 5] [])
 (.seq
 (.reg [⟨some 11, .mv (.t 1), none, 0⟩,
 ⟨some 0, .mv (.t 11), none, 1⟩] [] [] [0, 5] [])
 (.reg [⟨some 12, .mv (.t 5), none, 0⟩,
 ⟨some 1, .mv (.t 12), none, 1⟩] [] [] [0, 1] [])))))
theorem wb166_0 : type_of% (@wbEq _ _ b166_0.eq_1 P F st Q) := wbEq b166_0.eq_1
def ir166 : IR :=
  (.seq
 (.reg [⟨some 4, .mv (.k (.i .u64 0)), none, 0⟩] [] [] [0, 1] [])
 (.seq
 (.block 0
 (.loop [0, 1] [] b166_0))
 (.seq
 (.reg [⟨some 13, .mv (.t 0), none, 0⟩,
 ⟨some 4, .mv (.t 13), none, 1⟩] [] [] [4] [])
 .ret)))
def rv166 : List RVar := [.t 4]
theorem chk166 : chk Tryz.prog Tryz.f166.ntmps ir166 (Tryz.f166.body.getD .skip) = true := by decide +kernel
theorem res166 : chkRes Tryz.prog Tryz.f166.results.toList rv166 = true := by decide +kernel
theorem fnr166 : FT Tryz.prog 166 14 ir166 rv166 := fnT Tryz.func166 rfl rfl chk166 res166 (by decide +kernel)
def ir167 : IR :=
  (.seq
 (.reg [⟨some 2, .mv (.k (.i .u64 0)), none, 0⟩] [] [] [0] [])
 (.seq
 (.reg [⟨some 3, .mv (.t 0), none, 0⟩,
 ⟨some 4, .call 170 [(.t 3), (.k (.i .i64 1))], none, 1⟩,
 ⟨some 5, .bin .mul (.t 4) (.k (.i .u64 4294967296)), none, 2⟩,
 ⟨some 6, .mv (.t 0), none, 3⟩,
 ⟨some 7, .call 170 [(.t 6), (.k (.i .i64 0))], none, 4⟩,
 ⟨some 8, .bin .add (.t 5) (.t 7), none, 5⟩,
 ⟨some 2, .mv (.t 8), none, 6⟩] [] [] [2] [])
 .ret))
def rv167 : List RVar := [.t 2]
theorem chk167 : chk Tryz.prog Tryz.f167.ntmps ir167 (Tryz.f167.body.getD .skip) = true := by decide +kernel
theorem res167 : chkRes Tryz.prog Tryz.f167.results.toList rv167 = true := by decide +kernel
theorem fnr167 : FT Tryz.prog 167 9 ir167 rv167 := fnT Tryz.func167 rfl rfl chk167 res167 (by decide +kernel)
def b168_0 : IR :=
  (.seq
 (.seq
 (.reg [⟨some 72, .mv (.t 13), none, 0⟩,
 ⟨some 73, .bin .geq (.t 72) (.k (.i .i64 0)), none, 1⟩] [] [] [8, 9, 10, 11, 12, 13, 73] [55, 67])
 (.cond (.t 73)
 .skip
 (.exit 0)))
 (.seq
 (.block 1
 (.seq
 (.reg [⟨some 76, .mv (.t 11), none, 0⟩,
 ⟨some 77, .mv (.t 13), none, 1⟩,
 ⟨some 78, .mv (.t 13), none, 2⟩,
 ⟨some 79, .mv (.t 8), none, 3⟩,
 ⟨some 80, .bin .add (.t 78) (.t 79), none, 4⟩,
 ⟨some 81, .bin .add (.t 80) (.k (.i .i64 1)), none, 5⟩,
 ⟨some 82, .slc 1 (.t 76) (some (.t 77)) (some (.t 81)) none, none, 6⟩,
 ⟨some 14, .mv (.t 82), none, 7⟩] [] [] [8, 9, 10, 11, 12, 13, 14] [55, 67])
 (.seq
 (.reg [⟨some 83, .mv (.t 14), none, 0⟩,
 ⟨some 84, .mv (.t 10), none, 1⟩,
 ⟨some 85, .callR 195 [(.t 83), (.t 84)], none, 2⟩,
 ⟨some 15, .mv (.t 85), none, 3⟩] [] [] [8, 9, 10, 11, 12, 13, 14, 15] [55, 67])
 (.seq
 (.seq
 (.reg [⟨some 86, .mv (.t 14), none, 0⟩,
 ⟨some 87, .mv (.t 10), none, 1⟩,
 ⟨some 88, .mv (.t 15), none, 2⟩,
 ⟨some 89, .callR 196 [(.t 86), (.t 87), (.t 88)], none, 3⟩] [] [] [8, 9, 10, 11, 12, 13, 14, 15, 89] [55, 67])
 (.cond (.t 89)
 (.seq
 (.reg [⟨some 90, .mv (.t 15), none, 0⟩,
 ⟨some 91, .bin .sub (.t 90) (.k (.i .u64 1)), none, 1⟩,
 ⟨some 15, .mv (.t 91), none, 2⟩] [] [] [8, 9, 10, 11, 12, 13, 14, 15] [55, 67])
 (.reg [⟨some 92, .mv (.t 14), none, 0⟩,
 ⟨some 93, .mv (.t 10), none, 1⟩,
 ⟨some 94, .callR 197 [(.t 92), (.t 93)], none, 2⟩] [] [] [8, 9, 10, 11, 12, 13, 15] [55, 67]))
 .skip))
 (.reg [⟨some 95, .mv (.t 12), none, 0⟩,
 ⟨some 96, .mv (.t 13), none, 1⟩,
 ⟨some 97, .mv (.t 15), none, 2⟩,
 ⟨some 98, .conv .u32 (.t 97), none, 3⟩,
 ⟨some 99, .ixs 1 (.t 95) (.t 96), none, 4⟩,
 ⟨none, .store 1 (.t 99) (.t 98), none, 5⟩] [] [] [8, 9, 10, 11, 12, 13] [55, 67])))))
 (.reg [⟨some 74, .mv (.t 13), none, 0⟩,
 ⟨some 75, .bin .sub (.t 74) (.k (.i .i64 1)), none, 1⟩,
 ⟨some 13, .mv (.t 75), none, 2⟩] [] [] [8, 9, 10, 11, 12, 13] [55, 67])))
theorem wb168_0 : type_of% (@wbEq _ _ b168_0.eq_1 P F st Q) := wbEq b168_0.eq_1
def ir168 : IR :=
  (.seq
 (.reg [⟨some 4, .mv (.k (.sl 1 true [])), none, 0⟩,
 ⟨some 5, .mv (.k (.sl 1 true [])), none, 1⟩] [] [] [0, 1] [])
 (.seq
 (.seq
 (.reg [⟨some 18, .mv (.t 0), none, 0⟩,
 ⟨some 19, .mv (.t 1), none, 1⟩,
 ⟨some 20, .call 142 [(.t 18), (.t 19)], none, 2⟩,
 ⟨some 21, .bin .lss (.t 20) (.k (.i .i64 0)), none, 3⟩] [] [] [0, 1, 21] [])
 (.cond (.t 21)
 (.seq
 (.reg [⟨some 22, .mv (.t 0), none, 0⟩,
 ⟨some 4, .mv (.k (.sl 1 true [])), none, 1⟩,
 ⟨some 5, .mv (.t 22), none, 2⟩] [] [] [4, 5] [])
 .ret)
 .skip))
 (.seq
 (.seq
 (.reg [⟨some 23, .mv (.t 1), none, 0⟩,
 ⟨some 24, .len (.t 23), none, 1⟩,
 ⟨some 25, .bin .eql (.t 24) (.k (.i .i64 1)), none, 2⟩] [] [] [0, 1, 25] [])
 (.cond (.t 25)
 (.seq
 (.reg [⟨some 27, .mv (.t 0), none, 0⟩,
 ⟨some 28, .mv (.t 1), none, 1⟩,
 ⟨some 29, .ixs 1 (.t 28) (.k (.i .i64 0)), none, 2⟩,
 ⟨some 30, .load 1 false (.t 29), none, 3⟩,
 ⟨some 31, .conv .u64 (.t 30), none, 4⟩,
 ⟨some 32, .call 194 [(.t 27), (.t 31)], none, 5⟩,
 ⟨some 26, .mv (.t 32), none, 6⟩,
 ⟨some 33, .ext 0 (.t 26), none, 7⟩,
 ⟨some 34, .ext 1 (.t 26), none, 8⟩,
 ⟨some 6, .mv (.t 33), none, 9⟩,
 ⟨some 7, .mv (.t 34), none, 10⟩] [] [] [6, 7] [])
 (.seq
 (.reg [⟨some 35, .mv (.t 6), none, 0⟩,
 ⟨some 36, .mv (.t 7), none, 1⟩,
 ⟨some 37, .call 139 [(.t 36)], none, 2⟩,
 ⟨some 4, .mv (.t 35), none, 3⟩,
 ⟨some 5, .mv (.t 37), none, 4⟩] [] [] [4, 5] [])
 .ret))
 .skip))
 (.seq
 (.reg [⟨some 38, .mv (.t 1), none, 0⟩,
 ⟨some 39, .len (.t 38), none, 1⟩,
 ⟨some 8, .mv (.t 39), none, 2⟩] [] [] [0, 1, 8] [])
 (.seq
 (.reg [⟨some 40, .mv (.t 1), none, 0⟩,
 ⟨some 41, .mv (.t 8), none, 1⟩,
 ⟨some 42, .bin .sub (.t 41) (.k (.i .i64 1)), none, 2⟩,
 ⟨some 43, .ixs 1 (.t 40) (.t 42), none, 3⟩,
 ⟨some 44, .load 1 false (.t 43), none, 4⟩,
 ⟨some 45, .conv .u64 (.t 44), none, 5⟩,
 ⟨some 46, .bin .add (.t 45) (.k (.i .u64 1)), none, 6⟩,
 ⟨some 47, .bin .quo (.k (.i .u64 4294967296)) (.t 46), none, 7⟩,
 ⟨some 9, .mv (.t 47), none, 8⟩] [] [] [0, 1, 8, 9] [])
 (.seq
 (.reg [⟨some 48, .mv (.t 1), none, 0⟩,
 ⟨some 49, .mv (.t 9), none, 1⟩,
 ⟨some 50, .call 139 [(.t 49)], none, 2⟩,
 ⟨some 51, .call 148 [(.t 48), (.t 50)], none, 3⟩,
 ⟨some 10, .mv (.t 51), none, 4⟩] [] [] [0, 8, 9, 10] [])
 (.seq
 (.reg [⟨some 52, .mv (.t 0), none, 0⟩,
 ⟨some 53, .len (.t 52), none, 1⟩,
 ⟨some 54, .bin .add (.t 53) (.k (.i .i64 1)), none, 2⟩,
 ⟨some 55, .mk 1 4 [.i .u32 0] (.t 54) (.t 54), none, 3⟩,
 ⟨some 11, .mv (.t 55), none, 4⟩] [] [] [0, 8, 9, 10, 11] [55])
 (.seq
 (.reg [⟨some 56, .mv (.t 11), none, 0⟩,
 ⟨some 57, .mv (.t 0), none, 1⟩,
 ⟨some 58, .mv (.t 9), none, 2⟩,
 ⟨some 59, .call 139 [(.t 58)], none, 3⟩,
 ⟨some 60, .call 148 [(.t 57), (.t 59)], none, 4⟩,
 ⟨some 61, .cpy 1 (.t 56) (.t 60), none, 5⟩] [] [] [0, 8, 9, 10, 11] [55])
 (.seq
 (.reg [⟨some 62, .mv (.t 0), none, 0⟩,
 ⟨some 63, .len (.t 62), none, 1⟩,
 ⟨some 64, .mv (.t 8), none, 2⟩,
 ⟨some 65, .bin .sub (.t 63) (.t 64), none, 3⟩,
 ⟨some 66, .bin .add (.t 65) (.k (.i .i64 1)), none, 4⟩,
 ⟨some 67, .mk 1 4 [.i .u32 0] (.t 66) (.t 66), none, 5⟩,
 ⟨some 12, .mv (.t 67), none, 6⟩] [] [] [0, 8, 9, 10, 11, 12] [55, 67])
 (.seq
 (.seq
 (.reg [⟨some 68, .mv (.t 0), none, 0⟩,
 ⟨some 69, .len (.t 68), none, 1⟩,
 ⟨some 70, .mv (.t 8), none, 2⟩,
 ⟨some 71, .bin .sub (.t 69) (.t 70), none, 3⟩,
 ⟨some 13, .mv (.t 71), none, 4⟩] [] [] [8, 9, 10, 11, 12, 13] [55, 67])
 (.block 0
 (.loop [8, 9, 10, 11, 12, 13] [55, 67] b168_0)))
 (.seq
 (.frz 11
 (.reg [⟨some 101, .mv (.t 11), none, 0⟩,
 ⟨some 102, .call 165 [(.t 101)], none, 1⟩,
 ⟨some 103, .mv (.t 9), none, 2⟩,
 ⟨some 104, .call 194 [(.t 102), (.t 103)], none, 3⟩,
 ⟨some 100, .mv (.t 104), none, 4⟩,
 ⟨some 105, .ext 0 (.t 100), none, 5⟩,
 ⟨some 106, .ext 1 (.t 100), none, 6⟩,
 ⟨some 16, .mv (.t 105), none, 7⟩,
 ⟨some 17, .mv (.t 106), none, 8⟩] [] [] [12, 16] [67]))
 (.seq
 (.frz 12
 (.reg [⟨some 107, .mv (.t 12), none, 0⟩,
 ⟨some 108, .call 165 [(.t 107)], none, 1⟩,
 ⟨some 109, .mv (.t 16), none, 2⟩,
 ⟨some 4, .mv (.t 108), none, 3⟩,
 ⟨some 5, .mv (.t 109), none, 4⟩] [] [] [4, 5] []))
 .ret))))))))))))
def rv168 : List RVar := [.t 4, .t 5]
theorem chk168 : chk Tryz.prog Tryz.f168.ntmps ir168 (Tryz.f168.body.getD .skip) = true := by decide +kernel
theorem res168 : chkRes Tryz.prog Tryz.f168.results.toList rv168 = true := by decide +kernel
theorem fnr168 : FT Tryz.prog 168 110 ir168 rv168 := fnT Tryz.func168 rfl rfl chk168 res168 (by decide +kernel)
def ir169 : IR :=
  (.seq
 (.reg [⟨some 2, .box (.t 0), none, 0⟩,
 ⟨some 3, .box (.t 1), none, 1⟩,
 ⟨some 4, .alloc [.b false, .sl 1 true []], none, 2⟩,
 ⟨some 5, .alloc [.b false, .sl 1 true []], none, 3⟩,
 ⟨some 6, .mv (.k (.i .i64 0)), none, 4⟩] [] [] [2, 3, 4, 5] [2, 3, 4, 5])
 (.seq
 (.seq
 (.reg [⟨some 9, .fld 1 (.t 3), none, 0⟩,
 ⟨some 10, .load 1 false (.t 9), none, 1⟩,
 ⟨some 11, .len (.t 10), none, 2⟩,
 ⟨some 12, .bin .eql (.t 11) (.k (.i .i64 0)), none, 3⟩] [] [] [2, 3, 4, 5, 12] [2, 3, 4, 5])
 (.cond (.t 12)
 (.seq
 (.reg [⟨some 13, .build [.b false, .sl 1 true []] [], none, 0⟩,
 ⟨some 14, .build [.b false, .sl 1 true []] [], none, 1⟩,
 ⟨none, .store 2 (.t 4) (.t 13), none, 2⟩,
 ⟨none, .store 2 (.t 5) (.t 14), none, 3⟩,
 ⟨some 6, .mv (.k (.i .i64 10)), none, 4⟩] [] [] [4, 5, 6] [4, 5])
 .ret)
 .skip))
 (.seq
 (.reg [⟨some 16, .fld 1 (.t 2), none, 0⟩,
 ⟨some 17, .load 1 false (.t 16), none, 1⟩,
 ⟨some 18, .fld 1 (.t 3), none, 2⟩,
 ⟨some 19, .load 1 false (.t 18), none, 3⟩,
 ⟨some 20, .call 168 [(.t 17), (.t 19)], none, 4⟩,
 ⟨some 15, .mv (.t 20), none, 5⟩,
 ⟨some 21, .ext 0 (.t 15), none, 6⟩,
 ⟨some 22, .ext 1 (.t 15), none, 7⟩,
 ⟨some 7, .mv (.t 21), none, 8⟩,
 ⟨some 8, .mv (.t 22), none, 9⟩] [] [] [2, 3, 4, 5, 7, 8] [2, 3, 4, 5])
 (.seq
 (.seq
 (.reg [⟨some 23, .fld 0 (.t 2), none, 0⟩,
 ⟨some 24, .load 1 false (.t 23), none, 1⟩,
 ⟨some 25, .mv (.t 24), none, 2⟩,
 ⟨some 26, .mv (.t 8), some (25, true), 3⟩,
 ⟨some 27, .len (.t 26), some (25, true), 4⟩,
 ⟨some 28, .bin .gtr (.t 27) (.k (.i .i64 0)), some (25, true), 5⟩,
 ⟨some 29, .pick (.t 25) (.t 28) (.k (.b false)), none, 6⟩] [] [] [2, 3, 4, 5, 7, 8, 29] [2, 3, 4, 5])
 (.cond (.t 29)
 (.seq
 (.reg [⟨some 30, .mv (.t 7), none, 0⟩,
 ⟨some 31, .bsl 1 [(.k (.i .u32 1))], none, 1⟩,
 ⟨some 32, .call 146 [(.t 30), (.t 31)], none, 2⟩,
 ⟨some 7, .mv (.t 32), none, 3⟩] [] [] [2, 3, 4, 5, 7, 8] [2, 3, 4, 5])
 (.reg [⟨some 33, .fld 1 (.t 3), none, 0⟩,
 ⟨some 34, .load 1 false (.t 33), none, 1⟩,
 ⟨some 35, .mv (.t 8), none, 2⟩,
 ⟨some 36, .call 147 [(.t 34), (.t 35)], none, 3⟩,
 ⟨some 8, .mv (.t 36), none, 4⟩] [] [] [2, 3, 4, 5, 7, 8] [2, 3, 4, 5]))
 .skip))
 (.seq
 (.reg [⟨some 37, .fld 0 (.t 2), none, 0⟩,
 ⟨some 38, .load 1 false (.t 37), none, 1⟩,
 ⟨some 39, .fld 0 (.t 3), none, 2⟩,
 ⟨some 40, .load 1 false (.t 39), none, 3⟩,
 ⟨some 41, .eqb true (.t 38) (.t 40), none, 4⟩,
 ⟨some 42, .mv (.t 7), none, 5⟩,
 ⟨some 43, .call 138 [(.t 41), (.t 42)], none, 6⟩,
 ⟨some 44, .mv (.t 8), none, 7⟩,
 ⟨some 45, .call 138 [(.k (.b false)), (.t 44)], none, 8⟩,
 ⟨none, .store 2 (.t 4) (.t 43), none, 9⟩,
 ⟨none, .store 2 (.t 5) (.t 45), none, 10⟩,
 ⟨some 6, .mv (.k (.i .i64 0)), none, 11⟩] [] [] [4, 5, 6] [4, 5])
 .ret)))))
def rv169 : List RVar := [.c 4 2 true, .c 5 2 true, .t 6]
theorem chk169 : chk Tryz.prog Tryz.f169.ntmps ir169 (Tryz.f169.body.getD .skip) = true := by decide +kernel
theorem res169 : chkRes Tryz.prog Tryz.f169.results.toList rv169 = true := by decide +kernel
theorem fnr169 : FT Tryz.prog 169 46 ir169 rv169 := fnT Tryz.func169 rfl rfl chk169 res169 (by decide +kernel)
def ir170 : IR :=
  (.seq
 (.reg [⟨some 4, .mv (.k (.i .u64 0)), none, 0⟩] [] [] [0, 1] [])
 (.seq
 (.seq
 (.reg [⟨some 5, .mv (.t 1), none, 0⟩,
 ⟨some 6, .mv (.t 0), none, 1⟩,
 ⟨some 7, .len (.t 6), none, 2⟩,
 ⟨some 8, .bin .lss (.t 5) (.t 7), none, 3⟩] [] [] [0, 1, 8] [])
 (.cond (.t 8)
 (.seq
 (.reg [⟨some 9, .mv (.t 0), none, 0⟩,
 ⟨some 10, .mv (.t 1), none, 1⟩,
 ⟨some 11, .ixs 1 (.t 9) (.t 10), none, 2⟩,
 ⟨some 12, .load 1 false (.t 11), none, 3⟩,
 ⟨some 13, .conv .u64 (.t 12), none, 4⟩,
 ⟨some 4, .mv (.t 13), none, 5⟩] [] [] [4] [])
 .ret)
 .skip))
 (.seq
 (.reg [⟨some 4, .mv (.k (.i .u64 0)), none, 0⟩] [] [] [4] [])
 .ret)))
def rv170 : List RVar := [.t 4]
theorem chk170 : chk Tryz.prog Tryz.f170.ntmps ir170 (Tryz.f170.body.getD .skip) = true := by decide +kernel
theorem res170 : chkRes Tryz.prog Tryz.f170.results.toList rv170 = true := by decide +kernel
theorem fnr170 : FT Tryz.prog 170 14 ir170 rv170 := fnT Tryz.func170 rfl rfl chk170 res170 (by decide +kernel)
def b194_0 : IR :=
  (.seq
 (.seq
 (.reg [⟨some 16, .mv (.t 8), none, 0⟩,
 ⟨some 17, .bin .geq (.t 16) (.k (.i .i64 0)), none, 1⟩] [] [] [0, 1, 6, 7, 8, 17] [12])
 (.cond (.t 17)
 .skip
 (.exit 0)))
 (.seq
 (.block 1
 (.seq
 (.reg [⟨some 20, .mv (.t 7), none, 0⟩,
 ⟨some 21, .bin .mul (.t 20) (.k (.i .u64 4294967296)), none, 1⟩,
 ⟨some 22, .mv (.t 0), none, 2⟩,
 ⟨some 23, .mv (.t 8), none, 3⟩,
 ⟨some 24, .ixs 1 (.t 22) (.t 23), none, 4⟩,
 ⟨some 25, .load 1 false (.t 24), none, 5⟩,
 ⟨some 26, .conv .u64 (.t 25), none, 6⟩,
 ⟨some 27, .bin .add (.t 21) (.t 26), none, 7⟩,
 ⟨some 9, .mv (.t 27), none, 8⟩] [] [] [0, 1, 6, 8, 9] [12])
 (.seq
 (.reg [⟨some 28, .mv (.t 6), none, 0⟩,
 ⟨some 29, .mv (.t 8), none, 1⟩,
 ⟨some 30, .mv (.t 9), none, 2⟩,
 ⟨some 31, .mv (.t 1), none, 3⟩,
 ⟨some 32, .bin .quo (.t 30) (.t 31), none, 4⟩,
 ⟨some 33, .conv .u32 (.t 32), none, 5⟩,
 ⟨some 34, .ixs 1 (.t 28) (.t 29), none, 6⟩,
 ⟨none, .store 1 (.t 34) (.t 33), none, 7⟩] [] [] [0, 1, 6, 8, 9] [12])
 (.reg [⟨some 35, .mv (.t 9), none, 0⟩,
 ⟨some 36, .mv (.t 1), none, 1⟩,
 ⟨some 37, .bin .rem (.t 35) (.t 36), none, 2⟩,
 ⟨some 7, .mv (.t 37), none, 3⟩] [] [] [0, 1, 6, 7, 8] [12]))))
 (.reg [⟨some 18, .mv (.t 8), none, 0⟩,
 ⟨some 19, .bin .sub (.t 18) (.k (.i .i64 1)), none, 1⟩,
 ⟨some 8, .mv (.t 19), none, 2⟩] [] [] [0, 1, 6, 7, 8] [12])))
theorem wb194_0 : type_of% (@wbEq _ _ b194_0.eq_1 P F st Q) := wbEq b194_0.eq_1
def ir194 : IR :=
  (.seq
 (.reg [⟨some 4, .mv (.k (.sl 1 true [])), none, 0⟩,
 ⟨some 5, .mv (.k (.i .u64 0)), none, 1⟩] [] [] [0, 1] [])
 (.seq
 (.reg [⟨some 10, .mv (.t 0), none, 0⟩,
 ⟨some 11, .len (.t 10), none, 1⟩,
 ⟨some 12, .mk 1 4 [.i .u32 0] (.t 11) (.t 11), none, 2⟩,
 ⟨some 6, .mv (.t 12), none, 3⟩] [] [] [0, 1, 6] [12])
 (.seq
 (.reg [⟨some 7, .mv (.k (.i .u64 0)), none, 0⟩] [] [] [0, 1, 6, 7] [12])
 (.seq
 (.seq
 (.reg [⟨some 13, .mv (.t 0), none, 0⟩,
 ⟨some 14, .len (.t 13), none, 1⟩,
 ⟨some 15, .bin .sub (.t 14) (.k (.i .i64 1)), none, 2⟩,
 ⟨some 8, .mv (.t 15), none, 3⟩] [] [] [0, 1, 6, 7, 8] [12])
 (.block 0
 (.loop [0, 1, 6, 7, 8] [12] b194_0)))
 (.seq
 (.frz 6
 (.reg [⟨some 38, .mv (.t 6), none, 0⟩,
 ⟨some 39, .call 165 [(.t 38)], none, 1⟩,
 ⟨some 40, .mv (.t 7), none, 2⟩,
 ⟨some 4, .mv (.t 39), none, 3⟩,
 ⟨some 5, .mv (.t 40), none, 4⟩] [] [] [4, 5] []))
 .ret)))))
def rv194 : List RVar := [.t 4, .t 5]
theorem chk194 : chk Tryz.prog Tryz.f194.ntmps ir194 (Tryz.f194.body.getD .skip) = true := by decide +kernel
theorem res194 : chkRes Tryz.prog Tryz.f194.results.toList rv194 = true := by decide +kernel
theorem fnr194 : FT Tryz.prog 194 41 ir194 rv194 := fnT Tryz.func194 rfl rfl chk194 res194 (by decide +kernel)
def b195_0 : IR :=
  (.seq
 (.seq
 (.reg [⟨some 40, .mv (.t 7), none, 0⟩,
 ⟨some 41, .bin .geq (.t 40) (.k (.i .u64 4294967296)), none, 1⟩,
 ⟨some 42, .mv (.t 41), none, 2⟩,
 ⟨some 43, .mv (.t 7), some (42, false), 3⟩,
 ⟨some 44, .mv (.t 1), some (42, false), 4⟩,
 ⟨some 45, .mv (.t 5), some (42, false), 5⟩,
 ⟨some 46, .bin .sub (.t 45) (.k (.i .i64 2)), some (42, false), 6⟩,
 ⟨some 47, .ixs 1 (.t 44) (.t 46), some (42, false), 7⟩,
 ⟨some 48, .load 1 false (.t 47), some (42, false), 8⟩,
 ⟨some 49, .conv .u64 (.t 48), some (42, false), 9⟩,
 ⟨some 50, .bin .mul (.t 43) (.t 49), some (42, false), 10⟩,
 ⟨some 51, .mv (.t 8), some (42, false), 11⟩,
 ⟨some 52, .bin .mul (.t 51) (.k (.i .u64 4294967296)), some (42, false), 12⟩,
 ⟨some 53, .mv (.t 0), some (42, false), 13⟩,
 ⟨some 54, .mv (.t 5), some (42, false), 14⟩,
 ⟨some 55, .bin .sub (.t 54) (.k (.i .i64 2)), some (42, false), 15⟩,
 ⟨some 56, .ixs 1 (.t 53) (.t 55), some (42, false), 16⟩,
 ⟨some 57, .load 1 false (.t 56), some (42, false), 17⟩,
 ⟨some 58, .conv .u64 (.t 57), some (42, false), 18⟩,
 ⟨some 59, .bin .add (.t 52) (.t 58), some (42, false), 19⟩,
 ⟨some 60, .bin .gtr (.t 50) (.t 59), some (42, false), 20⟩,
 ⟨some 61, .pick (.t 42) (.k (.b true)) (.t 60), none, 21⟩] [] [0, 1, 3, 7, 7, 7, 39, 119, 247, 503, 1023, 7, 2055, 7, 7, 16391, 57351, 122887, 253959, 522247, 1048575, 2097151] [0, 1, 5, 7, 8, 61] [])
 (.cond (.t 61)
 .skip
 (.exit 0)))
 (.block 1
 (.seq
 (.reg [⟨some 62, .mv (.t 7), none, 0⟩,
 ⟨some 63, .bin .sub (.t 62) (.k (.i .u64 1)), none, 1⟩,
 ⟨some 7, .mv (.t 63), none, 2⟩] [] [] [0, 1, 5, 7, 8] [])
 (.seq
 (.reg [⟨some 64, .mv (.t 8), none, 0⟩,
 ⟨some 65, .mv (.t 1), none, 1⟩,
 ⟨some 66, .mv (.t 5), none, 2⟩,
 ⟨some 67, .bin .sub (.t 66) (.k (.i .i64 1)), none, 3⟩,
 ⟨some 68, .ixs 1 (.t 65) (.t 67), none, 4⟩,
 ⟨some 69, .load 1 false (.t 68), none, 5⟩,
 ⟨some 70, .conv .u64 (.t 69), none, 6⟩,
 ⟨some 71, .bin .add (.t 64) (.t 70), none, 7⟩,
 ⟨some 8, .mv (.t 71), none, 8⟩] [] [] [0, 1, 5, 7, 8] [])
 (.seq
 (.reg [⟨some 72, .mv (.t 8), none, 0⟩,
 ⟨some 73, .bin .geq (.t 72) (.k (.i .u64 4294967296)), none, 1⟩] [] [] [0, 1, 5, 7, 8, 73] [])
 (.cond (.t 73)
 (.exit 0)
 .skip))))))
theorem wb195_0 : type_of% (@wbEq _ _ b195_0.eq_1 P F st Q) := wbEq b195_0.eq_1
def ir195 : IR :=
  (.seq
 (.reg [⟨some 4, .mv (.k (.i .u64 0)), none, 0⟩] [] [] [0, 1] [])
 (.seq
 (.reg [⟨some 9, .mv (.t 1), none, 0⟩,
 ⟨some 10, .len (.t 9), none, 1⟩,
 ⟨some 5, .mv (.t 10), none, 2⟩] [] [] [0, 1, 5] [])
 (.seq
 (.reg [⟨some 11, .mv (.t 0), none, 0⟩,
 ⟨some 12, .mv (.t 5), none, 1⟩,
 ⟨some 13, .ixs 1 (.t 11) (.t 12), none, 2⟩,
 ⟨some 14, .load 1 false (.t 13), none, 3⟩,
 ⟨some 15, .conv .u64 (.t 14), none, 4⟩,
 ⟨some 16, .bin .mul (.t 15) (.k (.i .u64 4294967296)), none, 5⟩,
 ⟨some 17, .mv (.t 0), none, 6⟩,
 ⟨some 18, .mv (.t 5), none, 7⟩,
 ⟨some 19, .bin .sub (.t 18) (.k (.i .i64 1)), none, 8⟩,
 ⟨some 20, .ixs 1 (.t 17) (.t 19), none, 9⟩,
 ⟨some 21, .load 1 false (.t 20), none, 10⟩,
 ⟨some 22, .conv .u64 (.t 21), none, 11⟩,
 ⟨some 23, .bin .add (.t 16) (.t 22), none, 12⟩,
 ⟨some 6, .mv (.t 23), none, 13⟩] [] [0, 0, 3, 7, 15, 31, 0, 0, 128, 448, 960, 1984, 4095, 8191] [0, 1, 5, 6] [])
 (.seq
 (.reg [⟨some 24, .mv (.t 6), none, 0⟩,
 ⟨some 25, .mv (.t 1), none, 1⟩,
 ⟨some 26, .mv (.t 5), none, 2⟩,
 ⟨some 27, .bin .sub (.t 26) (.k (.i .i64 1)), none, 3⟩,
 ⟨some 28, .ixs 1 (.t 25) (.t 27), none, 4⟩,
 ⟨some 29, .load 1 false (.t 28), none, 5⟩,
 ⟨some 30, .conv .u64 (.t 29), none, 6⟩,
 ⟨some 31, .bin .quo (.t 24) (.t 30), none, 7⟩,
 ⟨some 7, .mv (.t 31), none, 8⟩] [] [] [0, 1, 5, 6, 7] [])
 (.seq
 (.reg [⟨some 32, .mv (.t 6), none, 0⟩,
 ⟨some 33, .mv (.t 1), none, 1⟩,
 ⟨some 34, .mv (.t 5), none, 2⟩,
 ⟨some 35, .bin .sub (.t 34) (.k (.i .i64 1)), none, 3⟩,
 ⟨some 36, .ixs 1 (.t 33) (.t 35), none, 4⟩,
 ⟨some 37, .load 1 false (.t 36), none, 5⟩,
 ⟨some 38, .conv .u64 (.t 37), none, 6⟩,
 ⟨some 39, .bin .rem (.t 32) (.t 38), none, 7⟩,
 ⟨some 8, .mv (.t 39), none, 8⟩] [] [] [0, 1, 5, 7, 8] [])
 (.seq
 (.block 0
 (.loop [0, 1, 5, 7, 8] [] b195_0))
 (.seq
 (.reg [⟨some 74, .mv (.t 7), none, 0⟩,
 ⟨some 4, .mv (.t 74), none, 1⟩] [] [] [4] [])
 .ret)))))))
def rv195 : List RVar := [.t 4]
theorem chk195 : chk Tryz.prog Tryz.f195.ntmps ir195 (Tryz.f195.body.getD .skip) = true := by decide +kernel
theorem res195 : chkRes Tryz.prog Tryz.f195.results.toList rv195 = true := by decide +kernel
theorem fnr195 : FT Tryz.prog 195 75 ir195 rv195 := fnT Tryz.func195 rfl rfl chk195 res195 (by decide +kernel)
def b196_0 : IR :=
  (.seq
 (.seq
 (.reg [⟨some 12, .mv (.t 9), none, 0⟩,
 ⟨some 13, .mv (.t 0), none, 1⟩,
 ⟨some 14, .len (.t 13), none, 2⟩,
 ⟨some 15, .bin .lss (.t 12) (.t 14), none, 3⟩] [] [] [0, 1, 2, 7, 8, 9, 15] [])
 (.cond (.t 15)
 .skip
 (.exit 0)))
 (.seq
 (.block 1
 (.seq
 (.reg [⟨some 18, .mv (.t 2), none, 0⟩,
 ⟨some 19, .mv (.t 1), none, 1⟩,
 ⟨some 20, .mv (.t 9), none, 2⟩,
 ⟨some 21, .call 170 [(.t 19), (.t 20)], none, 3⟩,
 ⟨some 22, .bin .mul (.t 18) (.t 21), none, 4⟩,
 ⟨some 23, .mv (.t 7), none, 5⟩,
 ⟨some 24, .bin .add (.t 22) (.t 23), none, 6⟩,
 ⟨some 10, .mv (.t 24), none, 7⟩] [] [] [0, 1, 2, 8, 9, 10] [])
 (.seq
 (.reg [⟨some 25, .mv (.t 10), none, 0⟩,
 ⟨some 26, .bin .quo (.t 25) (.k (.i .u64 4294967296)), none, 1⟩,
 ⟨some 7, .mv (.t 26), none, 2⟩] [] [] [0, 1, 2, 7, 8, 9, 10] [])
 (.seq
 (.reg [⟨some 27, .mv (.t 0), none, 0⟩,
 ⟨some 28, .mv (.t 9), none, 1⟩,
 ⟨some 29, .ixs 1 (.t 27) (.t 28), none, 2⟩,
 ⟨some 30, .load 1 false (.t 29), none, 3⟩,
 ⟨some 31, .conv .u64 (.t 30), none, 4⟩,
 ⟨some 32, .bin .add (.k (.i .u64 4294967296)) (.t 31), none, 5⟩,
 ⟨some 33, .mv (.t 10), none, 6⟩,
 ⟨some 34, .bin .rem (.t 33) (.k (.i .u64 4294967296)), none, 7⟩,
 ⟨some 35, .bin .sub (.t 32) (.t 34), none, 8⟩,
 ⟨some 36, .mv (.t 8), none, 9⟩,
 ⟨some 37, .bin .sub (.t 35) (.t 36), none, 10⟩,
 ⟨some 11, .mv (.t 37), none, 11⟩] [] [] [0, 1, 2, 7, 9, 11] [])
 (.seq
 (.reg [⟨some 38, .mv (.t 0), none, 0⟩,
 ⟨some 39, .mv (.t 9), none, 1⟩,
 ⟨some 40, .mv (.t 11), none, 2⟩,
 ⟨some 41, .bin .rem (.t 40) (.k (.i .u64 4294967296)), none, 3⟩,
 ⟨some 42, .conv .u32 (.t 41), none, 4⟩,
 ⟨some 43, .ixs 1 (.t 38) (.t 39), none, 5⟩,
 ⟨none, .store 1 (.t 43) (.t 42), none, 6⟩] [] [] [0, 1, 2, 7, 9, 11] [])
 (.reg [⟨some 44, .mv (.t 11), none, 0⟩,
 ⟨some 45, .bin .quo (.t 44) (.k (.i .u64 4294967296)), none, 1⟩,
 ⟨some 46, .bin .sub (.k (.i .u64 1)) (.t 45), none, 2⟩,
 ⟨some 8, .mv (.t 46), none, 3⟩] [] [] [0, 1, 2, 7, 8, 9] []))))))
 (.reg [⟨some 16, .mv (.t 9), none, 0⟩,
 ⟨some 17, .bin .add (.t 16) (.k (.i .i64 1)), none, 1⟩,
 ⟨some 9, .mv (.t 17), none, 2⟩] [] [] [0, 1, 2, 7, 8, 9] [])))
theorem wb196_0 : type_of% (@wbEq _ _ b196_0.eq_1 P F st Q) := wbEq b196_0.eq_1
def ir196 : IR :=
  (.seq
 (.reg [⟨some 6, .mv (.k (.b false)), none, 0⟩] [] [] [0, 1, 2] [])
 (.seq
 (.reg [⟨some 7, .mv (.k (.i .u64 0)), none, 0⟩] [] [] [0, 1, 2, 7] [])
 (.seq
 (.reg [⟨some 8, .mv (.k (.i .u64 0)), none, 0⟩] [] [] [0, 1, 2, 7, 8] [])
 (.seq
 (.seq
 (.reg [⟨some 9, .mv (.k (.i .i64 0)), none, 0⟩] [] [] [0, 1, 2, 7, 8, 9] [])
 (.block 0
 (.loop [0, 1, 2, 7, 8, 9] [] b196_0)))
 (.seq
 (.reg [⟨some 47, .mv (.t 8), none, 0⟩,
 ⟨some 48, .bin .eql (.t 47) (.k (.i .u64 1)), none, 1⟩,
 ⟨some 6, .mv (.t 48), none, 2⟩] [] [] [6] [])
 .ret)))))
def rv196 : List RVar := [.t 6]
theorem chk196 : chk Tryz.prog Tryz.f196.ntmps ir196 (Tryz.f196.body.getD .skip) = true := by decide +kernel
theorem res196 : chkRes Tryz.prog Tryz.f196.results.toList rv196 = true := by decide +kernel
theorem fnr196 : FT Tryz.prog 196 49 ir196 rv196 := fnT Tryz.func196 rfl rfl chk196 res196 (by decide +kernel)
def b197_0 : IR :=
  (.seq
 (.seq
 (.reg [⟨some 7, .mv (.t 5), none, 0⟩,
 ⟨some 8, .mv (.t 0), none, 1⟩,
 ⟨some 9, .len (.t 8), none, 2⟩,
 ⟨some 10, .bin .lss (.t 7) (.t 9), none, 3⟩] [] [] [0, 1, 4, 5, 10] [])
 (.cond (.t 10)
 .skip
 (.exit 0)))
 (.seq
 (.block 1
 (.seq
 (.reg [⟨some 13, .mv (.t 0), none, 0⟩,
 ⟨some 14, .mv (.t 5), none, 1⟩,
 ⟨some 15, .ixs 1 (.t 13) (.t 14), none, 2⟩,
 ⟨some 16, .load 1 false (.t 15), none, 3⟩,
 ⟨some 17, .conv .u64 (.t 16), none, 4⟩,
 ⟨some 18, .mv (.t 1), none, 5⟩,
 ⟨some 19, .mv (.t 5), none, 6⟩,
 ⟨some 20, .call 170 [(.t 18), (.t 19)], none, 7⟩,
 ⟨some 21, .bin .add (.t 17) (.t 20), none, 8⟩,
 ⟨some 22, .mv (.t 4), none, 9⟩,
 ⟨some 23, .bin .add (.t 21) (.t 22), none, 10⟩,
 ⟨some 6, .mv (.t 23), none, 11⟩] [] [0, 0, 3, 7, 15, 0, 0, 96, 255, 0, 1023, 2047] [0, 1, 5, 6] [])
 (.seq
 (.reg [⟨some 24, .mv (.t 0), none, 0⟩,
 ⟨some 25, .mv (.t 5), none, 1⟩,
 ⟨some 26, .mv (.t 6), none, 2⟩,
 ⟨some 27, .bin .rem (.t 26) (.k (.i .u64 4294967296)), none, 3⟩,
 ⟨some 28, .conv .u32 (.t 27), none, 4⟩,
 ⟨some 29, .ixs 1 (.t 24) (.t 25), none, 5⟩,
 ⟨none, .store 1 (.t 29) (.t 28), none, 6⟩] [] [] [0, 1, 5, 6] [])
 (.reg [⟨some 30, .mv (.t 6), none, 0⟩,
 ⟨some 31, .bin .quo (.t 30) (.k (.i .u64 4294967296)), none, 1⟩,
 ⟨some 4, .mv (.t 31), none, 2⟩] [] [] [0, 1, 4, 5] []))))
 (.reg [⟨some 11, .mv (.t 5), none, 0⟩,
 ⟨some 12, .bin .add (.t 11) (.k (.i .i64 1)), none, 1⟩,
 ⟨some 5, .mv (.t 12), none, 2⟩] [] [] [0, 1, 4, 5] [])))
theorem wb197_0 : type_of% (@wbEq _ _ b197_0.eq_1 P F st Q) := wbEq b197_0.eq_1
def ir197 : IR :=
  (.seq
 (.reg [⟨some 4, .mv (.k (.i .u64 0)), none, 0⟩] [] [] [0, 1, 4] [])
 (.seq
 (.reg [⟨some 5, .mv (.k (.i .i64 0)), none, 0⟩] [] [] [0, 1, 4, 5] [])
 (.block 0
 (.loop [0, 1, 4, 5] [] b197_0))))
def rv197 : List RVar := []
theorem chk197 : chk Tryz.prog Tryz.f197.ntmps ir197 (Tryz.f197.body.getD .skip) = true := by decide +kernel
theorem res197 : chkRes Tryz.prog Tryz.f197.results.toList rv197 = true := by decide +kernel
theorem fnr197 : FT Tryz.prog 197 32 ir197 rv197 := fnT Tryz.func197 rfl rfl chk197 res197 (by decide +kernel)
def ir67 : IR :=
  (.seq
 (.reg [⟨some 1, .box (.t 0), none, 0⟩,
 ⟨some 2, .mv (.k (.b false)), none, 1⟩] [] [] [1] [1])
 (.seq
 (.seq
 (.reg [⟨some 3, .fld 0 (.t 1), none, 0⟩,
 ⟨some 4, .load 2 true (.t 3), none, 1⟩,
 ⟨some 5, .call 123 [(.t 4)], none, 2⟩,
 ⟨some 6, .un .not (.t 5), none, 3⟩,
 ⟨some 7, .mv (.t 6), none, 4⟩,
 ⟨some 8, .fld 2 (.t 1), some (7, false), 5⟩,
 ⟨some 9, .load 2 true (.t 8), some (7, false), 6⟩,
 ⟨some 10, .call 123 [(.t 9)], some (7, false), 7⟩,
 ⟨some 11, .un .not (.t 10), some (7, false), 8⟩,
 ⟨some 12, .pick (.t 7) (.k (.b true)) (.t 11), none, 9⟩,
 ⟨some 13, .mv (.t 12), none, 10⟩,
 ⟨some 14, .fld 2 (.t 1), some (13, false), 11⟩,
 ⟨some 15, .load 2 true (.t 14), some (13, false), 12⟩,
 ⟨some 16, .call 124 [(.t 15)], some (13, false), 13⟩,
 ⟨some 17, .bin .leq (.t 16) (.k (.i .i64 0)), some (13, false), 14⟩,
 ⟨some 18, .pick (.t 13) (.k (.b true)) (.t 17), none, 15⟩] [] [] [1, 18] [1])
 (.cond (.t 18)
 (.seq
 (.reg [⟨some 2, .mv (.k (.b false)), none, 0⟩] [] [] [2] [])
 .ret)
 .skip))
 (.seq
 (.reg [⟨some 19, .fld 0 (.t 1), none, 0⟩,
 ⟨some 20, .load 2 true (.t 19), none, 1⟩,
 ⟨some 21, .fld 2 (.t 1), none, 2⟩,
 ⟨some 22, .load 2 true (.t 21), none, 3⟩,
 ⟨some 23, .call 126 [(.t 20), (.t 22)], none, 4⟩,
 ⟨some 24, .call 127 [(.k (.i .i64 1))], none, 5⟩,
 ⟨some 25, .call 125 [(.t 23), (.t 24)], none, 6⟩,
 ⟨some 26, .bin .eql (.t 25) (.k (.i .i64 0)), none, 7⟩,
 ⟨some 2, .mv (.t 26), none, 8⟩] [] [] [2] [])
 .ret)))
def rv67 : List RVar := [.t 2]
theorem chk67 : chk Tryz.prog Tryz.f67.ntmps ir67 (Tryz.f67.body.getD .skip) = true := by decide +kernel
theorem res67 : chkRes Tryz.prog Tryz.f67.results.toList rv67 = true := by decide +kernel
theorem fnr67 : FT Tryz.prog 67 27 ir67 rv67 := fnT Tryz.func67 rfl rfl chk67 res67 (by decide +kernel)
def ir68 : IR :=
  (.seq
 (.reg [⟨some 1, .box (.t 0), none, 0⟩,
 ⟨some 2, .mv (.k (.i .i64 0)), none, 1⟩] [] [] [1] [1])
 (.seq
 (.reg [⟨some 3, .fld 0 (.t 1), none, 0⟩,
 ⟨some 4, .load 2 true (.t 3), none, 1⟩,
 ⟨some 5, .call 124 [(.t 4)], none, 2⟩,
 ⟨some 2, .mv (.t 5), none, 3⟩] [] [] [2] [])
 .ret))
def rv68 : List RVar := [.t 2]
theorem chk68 : chk Tryz.prog Tryz.f68.ntmps ir68 (Tryz.f68.body.getD .skip) = true := by decide +kernel
theorem res68 : chkRes Tryz.prog Tryz.f68.results.toList rv68 = true := by decide +kernel
theorem fnr68 : FT Tryz.prog 68 6 ir68 rv68 := fnT Tryz.func68 rfl rfl chk68 res68 (by decide +kernel)
def ir76 : IR :=
  (.seq
 (.reg [⟨some 2, .box (.t 0), none, 0⟩,
 ⟨some 3, .box (.t 1), none, 1⟩,
 ⟨some 4, .alloc [.b false, .sl 1 true [], .b false, .sl 1 true []], none, 2⟩] [] [] [2, 3, 4] [2, 3, 4])
 (.seq
 (.reg [⟨some 5, .fld 0 (.t 2), none, 0⟩,
 ⟨some 6, .load 2 true (.t 5), none, 1⟩,
 ⟨some 7, .fld 0 (.t 3), none, 2⟩,
 ⟨some 8, .load 2 true (.t 7), none, 3⟩,
 ⟨some 9, .bsl 2 [(.t 6), (.t 8)], none, 4⟩,
 ⟨some 10, .call 132 [(.t 9)], none, 5⟩,
 ⟨some 11, .fld 2 (.t 2), none, 6⟩,
 ⟨some 12, .load 2 true (.t 11), none, 7⟩,
 ⟨some 13, .fld 2 (.t 3), none, 8⟩,
 ⟨some 14, .load 2 true (.t 13), none, 9⟩,
 ⟨some 15, .bsl 2 [(.t 12), (.t 14)], none, 10⟩,
 ⟨some 16, .call 132 [(.t 15)], none, 11⟩,
 ⟨some 17, .call 131 [(.t 10), (.t 16)], none, 12⟩,
 ⟨none, .store 4 (.t 4) (.t 17), none, 13⟩] [] [0, 1, 0, 4, 15, 31, 0, 64, 0, 256, 960, 2047, 4095, 8191] [4] [4])
 .ret))
def rv76 : List RVar := [.c 4 4 true]
theorem chk76 : chk Tryz.prog Tryz.f76.ntmps ir76 (Tryz.f76.body.getD .skip) = true := by decide +kernel
theorem res76 : chkRes Tryz.prog Tryz.f76.results.toList rv76 = true := by decide +kernel
theorem fnr76 : FT Tryz.prog 76 18 ir76 rv76 := fnT Tryz.func76 rfl rfl chk76 res76 (by decide +kernel)
def ir80 : IR :=
  (.seq
 (.reg [⟨some 2, .box (.t 0), none, 0⟩,
 ⟨some 3, .box (.t 1), none, 1⟩,
 ⟨some 4, .alloc [.b false, .sl 1 true [], .b false, .sl 1 true []], none, 2⟩] [] [] [2, 3, 4] [2, 3, 4])
 (.seq
 (.reg [⟨some 5, .fld 0 (.t 2), none, 0⟩,
 ⟨some 6, .load 2 true (.t 5), none, 1⟩,
 ⟨some 7, .fld 2 (.t 3), none, 2⟩,
 ⟨some 8, .load 2 true (.t 7), none, 3⟩,
 ⟨some 9, .bsl 2 [(.t 6), (.t 8)], none, 4⟩,
 ⟨some 10, .call 132 [(.t 9)], none, 5⟩,
 ⟨some 11, .fld 0 (.t 3), none, 6⟩,
 ⟨some 12, .load 2 true (.t 11), none, 7⟩,
 ⟨some 13, .fld 2 (.t 2), none, 8⟩,
 ⟨some 14, .load 2 true (.t 13), none, 9⟩,
 ⟨some 15, .bsl 2 [(.t 12), (.t 14)], none, 10⟩,
 ⟨some 16, .call 132 [(.t 15)], none, 11⟩,
 ⟨some 17, .call 135 [(.t 10), (.t 16)], none, 12⟩,
 ⟨some 18, .fld 2 (.t 2), none, 13⟩,
 ⟨some 19, .load 2 true (.t 18), none, 14⟩,
 ⟨some 20, .fld 2 (.t 3), none, 15⟩,
 ⟨some 21, .load 2 true (.t 20), none, 16⟩,
 ⟨some 22, .bsl 2 [(.t 19), (.t 21)], none, 17⟩,
 ⟨some 23, .call 132 [(.t 22)], none, 18⟩,
 ⟨some 24, .call 131 [(.t 17), (.t 23)], none, 19⟩,
 ⟨none, .store 4 (.t 4) (.t 24), none, 20⟩] [] [0, 1, 0, 4, 15, 31, 0, 64, 0, 256, 960, 2047, 4095, 0, 8192, 0, 32768, 122880, 262143, 524287, 1048575] [4] [4])
 .ret))
def rv80 : List RVar := [.c 4 4 true]
theorem chk80 : chk Tryz.prog Tryz.f80.ntmps ir80 (Tryz.f80.body.getD .skip) = true := by decide +kernel
theorem res80 : chkRes Tryz.prog Tryz.f80.results.toList rv80 = true := by decide +kernel
theorem fnr80 : FT Tryz.prog 80 25 ir80 rv80 := fnT Tryz.func80 rfl rfl chk80 res80 (by decide +kernel)
def ir82 : IR :=
  (.seq
 (.reg [⟨some 2, .box (.t 0), none, 0⟩,
 ⟨some 3, .box (.t 1), none, 1⟩,
 ⟨some 4, .alloc [.b false, .sl 1 true [], .b false, .sl 1 true []], none, 2⟩] [] [] [2, 3, 4] [2, 3, 4])
 (.seq
 (.reg [⟨some 5, .fld 0 (.t 2), none, 0⟩,
 ⟨some 6, .load 2 true (.t 5), none, 1⟩,
 ⟨some 7, .fld 2 (.t 3), none, 2⟩,
 ⟨some 8, .load 2 true (.t 7), none, 3⟩,
 ⟨some 9, .bsl 2 [(.t 6), (.t 8)], none, 4⟩,
 ⟨some 10, .call 132 [(.t 9)], none, 5⟩,
 ⟨some 11, .fld 0 (.t 3), none, 6⟩,
 ⟨some 12, .load 2 true (.t 11), none, 7⟩,
 ⟨some 13, .fld 2 (.t 2), none, 8⟩,
 ⟨some 14, .load 2 true (.t 13), none, 9⟩,
 ⟨some 15, .bsl 2 [(.t 12), (.t 14)], none, 10⟩,
 ⟨some 16, .call 132 [(.t 15)], none, 11⟩,
 ⟨some 17, .call 136 [(.t 10), (.t 16)], none, 12⟩,
 ⟨some 18, .fld 2 (.t 2), none, 13⟩,
 ⟨some 19, .load 2 true (.t 18), none, 14⟩,
 ⟨some 20, .fld 2 (.t 3), none, 15⟩,
 ⟨some 21, .load 2 true (.t 20), none, 16⟩,
 ⟨some 22, .bsl 2 [(.t 19), (.t 21)], none, 17⟩,
 ⟨some 23, .call 132 [(.t 22)], none, 18⟩,
 ⟨some 24, .call 131 [(.t 17), (.t 23)], none, 19⟩,
 ⟨none, .store 4 (.t 4) (.t 24), none, 20⟩] [] [0, 1, 0, 4, 15, 31, 0, 64, 0, 256, 960, 2047, 4095, 0, 8192, 0, 32768, 122880, 262143, 524287, 1048575] [4] [4])
 .ret))
def rv82 : List RVar := [.c 4 4 true]
theorem chk82 : chk Tryz.prog Tryz.f82.ntmps ir82 (Tryz.f82.body.getD .skip) = true := by decide +kernel
theorem res82 : chkRes Tryz.prog Tryz.f82.results.toList rv82 = true := by decide +kernel
theorem fnr82 : FT Tryz.prog 82 25 ir82 rv82 := fnT Tryz.func82 rfl rfl chk82 res82 (by decide +kernel)
def ir83 : IR :=
  (.seq
 (.reg [⟨some 1, .box (.t 0), none, 0⟩,
 ⟨some 2, .alloc [.b false, .sl 1 true [], .b false, .sl 1 true []], none, 1⟩] [] [] [1, 2] [1, 2])
 (.seq
 (.reg [⟨some 3, .fld 0 (.t 1), none, 0⟩,
 ⟨some 4, .load 2 true (.t 3), none, 1⟩,
 ⟨some 5, .call 137 [(.t 4)], none, 2⟩,
 ⟨some 6, .fld 2 (.t 1), none, 3⟩,
 ⟨some 7, .load 2 true (.t 6), none, 4⟩,
 ⟨some 8, .bsl 2 [(.t 7)], none, 5⟩,
 ⟨some 9, .call 132 [(.t 8)], none, 6⟩,
 ⟨some 10, .build [.b false, .sl 1 true [], .b false, .sl 1 true []] [(0, 2, (.t 5)), (2, 2, (.t 9))], none, 7⟩,
 ⟨none, .store 4 (.t 2) (.t 10), none, 8⟩] [] [0, 1, 3, 0, 8, 24, 63, 127, 255] [2] [2])
 .ret))
def rv83 : List RVar := [.c 2 4 true]
theorem chk83 : chk Tryz.prog Tryz.f83.ntmps ir83 (Tryz.f83.body.getD .skip) = true := by decide +kernel
theorem res83 : chkRes Tryz.prog Tryz.f83.results.toList rv83 = true := by decide +kernel
theorem fnr83 : FT Tryz.prog 83 11 ir83 rv83 := fnT Tryz.func83 rfl rfl chk83 res83 (by decide +kernel)
def ir85 : IR :=
  (.seq
 (.reg [⟨some 2, .alloc [.b false, .sl 1 true [], .b false, .sl 1 true []], none, 0⟩] [] [] [0, 2] [2])
 (.seq
 (.reg [⟨some 3, .mv (.t 0), none, 0⟩,
 ⟨some 4, .call 127 [(.t 3)], none, 1⟩,
 ⟨some 5, .call 140 [(.t 4)], none, 2⟩,
 ⟨none, .store 4 (.t 2) (.t 5), none, 3⟩] [] [] [2] [2])
 .ret))
def rv85 : List RVar := [.c 2 4 true]
theorem chk85 : chk Tryz.prog Tryz.f85.ntmps ir85 (Tryz.f85.body.getD .skip) = true := by decide +kernel
theorem res85 : chkRes Tryz.prog Tryz.f85.results.toList rv85 = true := by decide +kernel
theorem fnr85 : FT Tryz.prog 85 6 ir85 rv85 := fnT Tryz.func85 rfl rfl chk85 res85 (by decide +kernel)
def ir123 : IR :=
  (.seq
 (.reg [⟨some 1, .box (.t 0), none, 0⟩,
 ⟨some 2, .mv (.k (.b false)), none, 1⟩] [] [] [1] [1])
 (.seq
 (.seq
 (.reg [⟨some 4, .fld 1 (.t 1), none, 0⟩,
 ⟨some 5, .load 1 false (.t 4), none, 1⟩,
 ⟨some 6, .len (.t 5), none, 2⟩,
 ⟨some 3, .mv (.t 6), none, 3⟩] [] [] [1, 3] [1])
 (.seq
 (.reg [⟨some 7, .mv (.t 3), none, 0⟩,
 ⟨some 8, .bin .gtr (.t 7) (.k (.i .i64 0)), none, 1⟩] [] [] [1, 3, 8] [1])
 (.cond (.t 8)
 (.seq
 (.reg [⟨some 9, .fld 1 (.t 1), none, 0⟩,
 ⟨some 10, .load 1 false (.t 9), none, 1⟩,
 ⟨some 11, .mv (.t 3), none, 2⟩,
 ⟨some 12, .bin .sub (.t 11) (.k (.i .i64 1)), none, 3⟩,
 ⟨some 13, .ixs 1 (.t 10) (.t 12), none, 4⟩,
 ⟨some 14, .load 1 false (.t 13), none, 5⟩,
 ⟨some 15, .bin .neq (.t 14) (.k (.i .u32 0)), none, 6⟩,
 ⟨some 2, .mv (.t 15), none, 7⟩] [] [] [2] [])
 .ret)
 .skip)))
 (.seq
 (.reg [⟨some 16, .fld 0 (.t 1), none, 0⟩,
 ⟨some 17, .load 1 false (.t 16), none, 1⟩,
 ⟨some 18, .un .not (.t 17), none, 2⟩,
 ⟨some 2, .mv (.t 18), none, 3⟩] [] [] [2] [])
 .ret)))
def rv123 : List RVar := [.t 2]
theorem chk123 : chk Tryz.prog Tryz.f123.ntmps ir123 (Tryz.f123.body.getD .skip) = true := by decide +kernel
theorem res123 : chkRes Tryz.prog Tryz.f123.results.toList rv123 = true := by decide +kernel
theorem fnr123 : FT Tryz.prog 123 19 ir123 rv123 := fnT Tryz.func123 rfl rfl chk123 res123 (by decide +kernel)
def ir124 : IR :=
  (.seq
 (.reg [⟨some 1, .box (.t 0), none, 0⟩,
 ⟨some 2, .mv (.k (.i .i64 0)), none, 1⟩] [] [] [1] [1])
 (.seq
 (.seq
 (.reg [⟨some 3, .fld 0 (.t 1), none, 0⟩,
 ⟨some 4, .load 1 false (.t 3), none, 1⟩] [] [] [1, 4] [1])
 (.cond (.t 4)
 (.seq
 (.reg [⟨some 2, .mv (.k (.i .i64 (-1))), none, 0⟩] [] [] [2] [])
 .ret)
 .skip))
 (.seq
 (.reg [⟨some 5, .fld 1 (.t 1), none, 0⟩,
 ⟨some 6, .load 1 false (.t 5), none, 1⟩,
 ⟨some 7, .len (.t 6), none, 2⟩,
 ⟨some 8, .mn (.t 7) (.k (.i .i64 1)), none, 3⟩,
 ⟨some 2, .mv (.t 8), none, 4⟩] [] [] [2] [])
 .ret)))
def rv124 : List RVar := [.t 2]
theorem chk124 : chk Tryz.prog Tryz.f124.ntmps ir124 (Tryz.f124.body.getD .skip) = true := by decide +kernel
theorem res124 : chkRes Tryz.prog Tryz.f124.results.toList rv124 = true := by decide +kernel
theorem fnr124 : FT Tryz.prog 124 9 ir124 rv124 := fnT Tryz.func124 rfl rfl chk124 res124 (by decide +kernel)
def ir125 : IR :=
  (.seq
 (.reg [⟨some 2, .box (.t 0), none, 0⟩,
 ⟨some 3, .box (.t 1), none, 1⟩,
 ⟨some 4, .mv (.k (.i .i64 0)), none, 2⟩] [] [] [2, 3] [2, 3])
 (.seq
 (.seq
 (.reg [⟨some 5, .fld 0 (.t 2), none, 0⟩,
 ⟨some 6, .load 1 false (.t 5), none, 1⟩,
 ⟨some 7, .fld 0 (.t 3), none, 2⟩,
 ⟨some 8, .load 1 false (.t 7), none, 3⟩,
 ⟨some 9, .eqb true (.t 6) (.t 8), none, 4⟩] [] [] [2, 3, 9] [2, 3])
 (.cond (.t 9)
 (.seq
 (.reg [⟨some 10, .load 2 true (.t 2), none, 0⟩,
 ⟨some 11, .call 124 [(.t 10)], none, 1⟩,
 ⟨some 12, .load 2 true (.t 3), none, 2⟩,
 ⟨some 13, .call 124 [(.t 12)], none, 3⟩,
 ⟨some 14, .call 154 [(.t 11), (.t 13)], none, 4⟩,
 ⟨some 4, .mv (.t 14), none, 5⟩] [] [0, 1, 0, 7, 15, 31] [4] [])
 .ret)
 .skip))
 (.seq
 (.seq
 (.reg [⟨some 15, .fld 0 (.t 2), none, 0⟩,
 ⟨some 16, .load 1 false (.t 15), none, 1⟩] [] [] [2, 3, 16] [2, 3])
 (.cond (.t 16)
 (.reg [⟨some 17, .load 2 true (.t 3), none, 0⟩,
 ⟨some 18, .load 2 true (.t 2), none, 1⟩,
 ⟨none, .store 2 (.t 2) (.t 17), none, 2⟩,
 ⟨none, .store 2 (.t 3) (.t 18), none, 3⟩] [] [] [2, 3] [2, 3])
 .skip))
 (.seq
 (.reg [⟨some 19, .fld 1 (.t 2), none, 0⟩,
 ⟨some 20, .load 1 false (.t 19), none, 1⟩,
 ⟨some 21, .fld 1 (.t 3), none, 2⟩,
 ⟨some 22, .load 1 false (.t 21), none, 3⟩,
 ⟨some 23, .call 155 [(.t 20), (.t 22)], none, 4⟩,
 ⟨some 4, .mv (.t 23), none, 5⟩] [] [] [4] [])
 .ret))))
def rv125 : List RVar := [.t 4]
theorem chk125 : chk Tryz.prog Tryz.f125.ntmps ir125 (Tryz.f125.body.getD .skip) = true := by decide +kernel
theorem res125 : chkRes Tryz.prog Tryz.f125.results.toList rv125 = true := by decide +kernel
theorem fnr125 : FT Tryz.prog 125 24 ir125 rv125 := fnT Tryz.func125 rfl rfl chk125 res125 (by decide +kernel)
def b126_0 : IR :=
  (.seq
 (.seq
 (.reg [⟨some 13, .mv (.t 6), none, 0⟩,
 ⟨some 14, .len (.t 13), none, 1⟩,
 ⟨some 15, .bin .gtr (.t 14) (.k (.i .i64 0)), none, 2⟩] [] [] [4, 5, 6, 15] [4])
 (.cond (.t 15)
 .skip
 (.exit 0)))
 (.block 1
 (.seq
 (.reg [⟨some 17, .mv (.t 5), none, 0⟩,
 ⟨some 18, .mv (.t 6), none, 1⟩,
 ⟨some 19, .call 156 [(.t 17), (.t 18)], none, 2⟩,
 ⟨some 16, .mv (.t 19), none, 3⟩,
 ⟨some 20, .ext 0 (.t 16), none, 4⟩,
 ⟨some 21, .ext 1 (.t 16), none, 5⟩,
 ⟨some 7, .mv (.t 20), none, 6⟩,
 ⟨some 8, .mv (.t 21), none, 7⟩] [] [] [4, 6, 8] [4])
 (.reg [⟨some 22, .mv (.t 6), none, 0⟩,
 ⟨some 23, .mv (.t 8), none, 1⟩,
 ⟨some 5, .mv (.t 22), none, 2⟩,
 ⟨some 6, .mv (.t 23), none, 3⟩] [] [] [4, 5, 6] [4]))))
theorem wb126_0 : type_of% (@wbEq _ _ b126_0.eq_1 P F st Q) := wbEq b126_0.eq_1
def ir126 : IR :=
  (.seq
 (.reg [⟨some 2, .box (.t 0), none, 0⟩,
 ⟨some 3, .box (.t 1), none, 1⟩,
 ⟨some 4, .alloc [.b false, .sl 1 true []], none, 2⟩] [] [] [2, 3, 4] [2, 3, 4])
 (.seq
 (.reg [⟨some 9, .fld 1 (.t 2), none, 0⟩,
 ⟨some 10, .load 1 false (.t 9), none, 1⟩,
 ⟨some 11, .fld 1 (.t 3), none, 2⟩,
 ⟨some 12, .load 1 false (.t 11), none, 3⟩,
 ⟨some 5, .mv (.t 10), none, 4⟩,
 ⟨some 6, .mv (.t 12), none, 5⟩] [] [0, 1, 0, 4, 3, 31] [4, 5, 6] [4])
 (.seq
 (.block 0
 (.loop [4, 5, 6] [4] b126_0))
 (.seq
 (.reg [⟨some 24, .mv (.t 5), none, 0⟩,
 ⟨some 25, .call 157 [(.t 24), (.k (.b false))], none, 1⟩,
 ⟨none, .store 2 (.t 4) (.t 25), none, 2⟩] [] [] [4] [4])
 .ret))))
def rv126 : List RVar := [.c 4 2 true]
theorem chk126 : chk Tryz.prog Tryz.f126.ntmps ir126 (Tryz.f126.body.getD .skip) = true := by decide +kernel
theorem res126 : chkRes Tryz.prog Tryz.f126.results.toList rv126 = true := by decide +kernel
theorem fnr126 : FT Tryz.prog 126 26 ir126 rv126 := fnT Tryz.func126 rfl rfl chk126 res126 (by decide +kernel)
def ir127 : IR :=
  (.seq
 (.reg [⟨some 2, .alloc [.b false, .sl 1 true []], none, 0⟩] [] [] [0, 2] [2])
 (.seq
 (.seq
 (.reg [⟨some 3, .mv (.t 0), none, 0⟩,
 ⟨some 4, .bin .lss (.t 3) (.k (.i .i64 0)), none, 1⟩] [] [] [0, 2, 4] [2])
 (.cond (.t 4)
 (.seq
 (.reg [⟨some 5, .mv (.t 0), none, 0⟩,
 ⟨some 6, .conv .u64 (.t 5), none, 1⟩,
 ⟨some 7, .un .neg (.t 6), none, 2⟩,
 ⟨some 8, .call 158 [(.t 7)], none, 3⟩,
 ⟨some 9, .call 157 [(.t 8), (.k (.b true))], none, 4⟩,
 ⟨none, .store 2 (.t 2) (.t 9), none, 5⟩] [] [] [2] [2])
 .ret)
 .skip))
 (.seq
 (.reg [⟨some 10, .mv (.t 0), none, 0⟩,
 ⟨some 11, .conv .u64 (.t 10), none, 1⟩,
 ⟨some 12, .call 158 [(.t 11)], none, 2⟩,
 ⟨some 13, .call 157 [(.t 12), (.k (.b false))], none, 3⟩,
 ⟨none, .store 2 (.t 2) (.t 13), none, 4⟩] [] [] [2] [2])
 .ret)))
def rv127 : List RVar := [.c 2 2 true]
theorem chk127 : chk Tryz.prog Tryz.f127.ntmps ir127 (Tryz.f127.body.getD .skip) = true := by decide +kernel
theorem res127 : chkRes Tryz.prog Tryz.f127.results.toList rv127 = true := by decide +kernel
theorem fnr127 : FT Tryz.prog 127 14 ir127 rv127 := fnT Tryz.func127 rfl rfl chk127 res127 (by decide +kernel)
def ir131 : IR :=
  (.seq
 (.reg [⟨some 2, .box (.t 0), none, 0⟩,
 ⟨some 3, .box (.t 1), none, 1⟩,
 ⟨some 4, .alloc [.b false, .sl 1 true [], .b false, .sl 1 true []], none, 2⟩] [] [] [2, 3, 4] [2, 3, 4])
 (.seq
 (.reg [⟨some 6, .load 2 true (.t 2), none, 0⟩,
 ⟨some 7, .load 2 true (.t 3), none, 1⟩,
 ⟨some 8, .call 126 [(.t 6), (.t 7)], none, 2⟩,
 ⟨some 5, .alloc [.b false, .sl 1 true []], none, 3⟩,
 ⟨none, .store 2 (.t 5) (.t 8), none, 4⟩] [] [] [2, 3, 4, 5] [2, 3, 4, 5])
 (.seq
 (.seq
 (.reg [⟨some 9, .load 2 true (.t 3), none, 0⟩,
 ⟨some 10, .call 124 [(.t 9)], none, 1⟩,
 ⟨some 11, .bin .lss (.t 10) (.k (.i .i64 0)), none, 2⟩] [] [] [2, 3, 4, 5, 11] [2, 3, 4, 5])
 (.cond (.t 11)
 (.reg [⟨some 12, .load 2 true (.t 5), none, 0⟩,
 ⟨some 13, .call 137 [(.t 12)], none, 1⟩,
 ⟨none, .store 2 (.t 5) (.t 13), none, 2⟩] [] [] [2, 3, 4, 5] [2, 3, 4, 5])
 .skip))
 (.seq
 (.reg [⟨some 15, .load 2 true (.t 2), none, 0⟩,
 ⟨some 16, .load 2 true (.t 5), none, 1⟩,
 ⟨some 17, .call 159 [(.t 15), (.t 16)], none, 2⟩,
 ⟨some 14, .mv (.t 17), none, 3⟩,
 ⟨some 18, .ext 0 (.t 14), none, 4⟩,
 ⟨some 19, .ext 1 (.t 14), none, 5⟩,
 ⟨some 20, .ext 2 (.t 14), none, 6⟩,
 ⟨none, .store 2 (.t 2) (.t 18), none, 7⟩] [] [] [2, 3, 4, 5] [2, 3, 4, 5])
 (.seq
 (.reg [⟨some 22, .load 2 true (.t 3), none, 0⟩,
 ⟨some 23, .load 2 true (.t 5), none, 1⟩,
 ⟨some 24, .call 159 [(.t 22), (.t 23)], none, 2⟩,
 ⟨some 21, .mv (.t 24), none, 3⟩,
 ⟨some 25, .ext 0 (.t 21), none, 4⟩,
 ⟨some 26, .ext 1 (.t 21), none, 5⟩,
 ⟨some 27, .ext 2 (.t 21), none, 6⟩,
 ⟨none, .store 2 (.t 3) (.t 25), none, 7⟩] [] [] [2, 3, 4] [2, 3, 4])
 (.seq
 (.reg [⟨some 28, .load 2 true (.t 2), none, 0⟩,
 ⟨some 29, .load 2 true (.t 3), none, 1⟩,
 ⟨some 30, .build [.b false, .sl 1 true [], .b false, .sl 1 true []] [(0, 2, (.t 28)), (2, 2, (.t 29))], none, 2⟩,
 ⟨none, .store 4 (.t 4) (.t 30), none, 3⟩] [] [] [4] [4])
 .ret))))))
def rv131 : List RVar := [.c 4 4 true]
theorem chk131 : chk Tryz.prog Tryz.f131.ntmps ir131 (Tryz.f131.body.getD .skip) = true := by decide +kernel
theorem res131 : chkRes Tryz.prog Tryz.f131.results.toList rv131 = true := by decide +kernel
theorem fnr131 : FT Tryz.prog 131 31 ir131 rv131 := fnT Tryz.func131 rfl rfl chk131 res131 (by decide +kernel)
def b132_0 : IR :=
  (.seq
 (.reg [⟨some 10, .bin .lss (.t 9) (.t 8), none, 0⟩] [] [] [2, 3, 7, 8, 9, 10] [2, 3])
 (.seq
 (.cond (.t 10)
 .skip
 (.exit 0))
 (.seq
 (.block 1
 (.seq
 (.reg [⟨some 11, .ixs 2 (.t 7) (.t 9), none, 0⟩,
 ⟨some 12, .load 2 true (.t 11), none, 1⟩,
 ⟨some 5, .alloc [.b false, .sl 1 true []], none, 2⟩,
 ⟨none, .store 2 (.t 5) (.t 12), none, 3⟩] [] [] [2, 3, 5, 7, 8, 9] [2, 3, 5])
 (.reg [⟨some 13, .load 2 true (.t 3), none, 0⟩,
 ⟨some 14, .load 2 true (.t 5), none, 1⟩,
 ⟨some 15, .call 160 [(.t 13), (.t 14)], none, 2⟩,
 ⟨none, .store 2 (.t 3) (.t 15), none, 3⟩] [] [] [2, 3, 7, 8, 9] [2, 3])))
 (.reg [⟨some 16, .bin .add (.t 9) (.k (.i .i64 1)), none, 0⟩,
 ⟨some 9, .mv (.t 16), none, 1⟩] [] [] [2, 3, 7, 8, 9] [2, 3]))))
theorem wb132_0 : type_of% (@wbEq _ _ b132_0.eq_1 P F st Q) := wbEq b132_0.eq_1
def ir132 : IR :=
  (.seq
 (.reg [⟨some 2, .alloc [.b false, .sl 1 true []], none, 0⟩] [] [] [0, 2] [2])
 (.seq
 (.reg [⟨some 6, .call 127 [(.k (.i .i64 1))], none, 0⟩,
 ⟨some 3, .alloc [.b false, .sl 1 true []], none, 1⟩,
 ⟨none, .store 2 (.t 3) (.t 6), none, 2⟩] [] [] [0, 2, 3] [2, 3])
 (.seq
 (.seq
 (.reg [⟨some 7, .mv (.t 0), none, 0⟩,
 ⟨some 8, .len (.t 7), none, 1⟩,
 ⟨some 9, .mv (.k (.i .i64 0)), none, 2⟩] [] [] [2, 3, 7, 8, 9] [2, 3])
 (.block 0
 (.loop [2, 3, 7, 8, 9] [2, 3] b132_0)))
 (.seq
 (.reg [⟨some 17, .load 2 true (.t 3), none, 0⟩,
 ⟨none, .store 2 (.t 2) (.t 17), none, 1⟩] [] [] [2] [2])
 .ret))))
def rv132 : List RVar := [.c 2 2 true]
theorem chk132 : chk Tryz.prog Tryz.f132.ntmps ir132 (Tryz.f132.body.getD .skip) = true := by decide +kernel
theorem res132 : chkRes Tryz.prog Tryz.f132.results.toList rv132 = true := by decide +kernel
theorem fnr132 : FT Tryz.prog 132 18 ir132 rv132 := fnT Tryz.func132 rfl rfl chk132 res132 (by decide +kernel)
def ir135 : IR :=
  (.seq
 (.reg [⟨some 2, .box (.t 0), none, 0⟩,
 ⟨some 3, .box (.t 1), none, 1⟩,
 ⟨some 4, .alloc [.b false, .sl 1 true []], none, 2⟩] [] [] [2, 3, 4] [2, 3, 4])
 (.seq
 (.reg [⟨some 7, .fld 1 (.t 2), none, 0⟩,
 ⟨some 8, .load 1 false (.t 7), none, 1⟩,
 ⟨some 9, .fld 1 (.t 3), none, 2⟩,
 ⟨some 10, .load 1 false (.t 9), none, 3⟩,
 ⟨some 5, .mv (.t 8), none, 4⟩,
 ⟨some 6, .mv (.t 10), none, 5⟩] [] [0, 1, 0, 4, 3, 31] [2, 3, 4, 5, 6] [2, 3, 4])
 (.seq
 (.block 0
 (.seq
 (.reg [⟨some 12, .fld 0 (.t 2), none, 0⟩,
 ⟨some 13, .load 1 false (.t 12), none, 1⟩,
 ⟨some 14, .fld 0 (.t 3), none, 2⟩,
 ⟨some 15, .load 1 false (.t 14), none, 3⟩,
 ⟨some 16, .eqb false (.t 13) (.t 15), none, 4⟩,
 ⟨some 11, .mv (.t 16), none, 5⟩] [] [] [2, 3, 4, 5, 6, 11] [2, 3, 4])
 (.cond (.t 11)
 (.seq
 (.reg [⟨some 17, .mv (.t 5), none, 0⟩,
 ⟨some 18, .mv (.t 6), none, 1⟩,
 ⟨some 19, .call 163 [(.t 17), (.t 18)], none, 2⟩,
 ⟨some 20, .fld 0 (.t 2), none, 3⟩,
 ⟨some 21, .load 1 false (.t 20), none, 4⟩,
 ⟨some 22, .call 157 [(.t 19), (.t 21)], none, 5⟩,
 ⟨none, .store 2 (.t 4) (.t 22), none, 6⟩] [] [0, 0, 3, 0, 8, 31, 63] [4] [4])
 .ret)
 (.seq
 (.reg [⟨some 24, .mv (.t 5), none, 0⟩,
 ⟨some 25, .mv (.t 6), none, 1⟩,
 ⟨some 26, .call 155 [(.t 24), (.t 25)], none, 2⟩,
 ⟨some 27, .bin .lss (.t 26) (.k (.i .i64 0)), none, 3⟩,
 ⟨some 23, .mv (.t 27), none, 4⟩] [] [] [2, 3, 4, 5, 6, 23] [2, 3, 4])
 (.cond (.t 23)
 (.seq
 (.reg [⟨some 28, .mv (.t 6), none, 0⟩,
 ⟨some 29, .mv (.t 5), none, 1⟩,
 ⟨some 30, .call 164 [(.t 28), (.t 29)], none, 2⟩,
 ⟨some 31, .fld 0 (.t 3), none, 3⟩,
 ⟨some 32, .load 1 false (.t 31), none, 4⟩,
 ⟨some 33, .call 157 [(.t 30), (.t 32)], none, 5⟩,
 ⟨none, .store 2 (.t 4) (.t 33), none, 6⟩] [] [0, 0, 3, 0, 8, 31, 63] [4] [4])
 .ret)
 .skip)))))
 (.seq
 (.reg [⟨some 34, .mv (.t 5), none, 0⟩,
 ⟨some 35, .mv (.t 6), none, 1⟩,
 ⟨some 36, .call 164 [(.t 34), (.t 35)], none, 2⟩,
 ⟨some 37, .fld 0 (.t 2), none, 3⟩,
 ⟨some 38, .load 1 false (.t 37), none, 4⟩,
 ⟨some 39, .call 157 [(.t 36), (.t 38)], none, 5⟩,
 ⟨none, .store 2 (.t 4) (.t 39), none, 6⟩] [] [0, 0, 3, 0, 8, 31, 63] [4] [4])
 .ret))))
def rv135 : List RVar := [.c 4 2 true]
theorem chk135 : chk Tryz.prog Tryz.f135.ntmps ir135 (Tryz.f135.body.getD .skip) = true := by decide +kernel
theorem res135 : chkRes Tryz.prog Tryz.f135.results.toList rv135 = true := by decide +kernel
theorem fnr135 : FT Tryz.prog 135 40 ir135 rv135 := fnT Tryz.func135 rfl rfl chk135 res135 (by decide +kernel)
def ir136 : IR :=
  (.seq
 (.reg [⟨some 2, .box (.t 0), none, 0⟩,
 ⟨some 3, .box (.t 1), none, 1⟩,
 ⟨some 4, .alloc [.b false, .sl 1 true []], none, 2⟩] [] [] [2, 3, 4] [2, 3, 4])
 (.seq
 (.reg [⟨some 5, .load 2 true (.t 2), none, 0⟩,
 ⟨some 6, .load 2 true (.t 3), none, 1⟩,
 ⟨some 7, .call 137 [(.t 6)], none, 2⟩,
 ⟨some 8, .call 135 [(.t 5), (.t 7)], none, 3⟩,
 ⟨none, .store 2 (.t 4) (.t 8), none, 4⟩] [] [0, 0, 2, 7, 15] [4] [4])
 .ret))
def rv136 : List RVar := [.c 4 2 true]
theorem chk136 : chk Tryz.prog Tryz.f136.ntmps ir136 (Tryz.f136.body.getD .skip) = true := by decide +kernel
theorem res136 : chkRes Tryz.prog Tryz.f136.results.toList rv136 = true := by decide +kernel
theorem fnr136 : FT Tryz.prog 136 9 ir136 rv136 := fnT Tryz.func136 rfl rfl chk136 res136 (by decide +kernel)
def ir137 : IR :=
  (.seq
 (.reg [⟨some 1, .box (.t 0), none, 0⟩,
 ⟨some 2, .alloc [.b false, .sl 1 true []], none, 1⟩] [] [] [1, 2] [1, 2])
 (.seq
 (.reg [⟨some 3, .fld 1 (.t 1), none, 0⟩,
 ⟨some 4, .load 1 false (.t 3), none, 1⟩,
 ⟨some 5, .fld 0 (.t 1), none, 2⟩,
 ⟨some 6, .load 1 false (.t 5), none, 3⟩,
 ⟨some 7, .un .not (.t 6), none, 4⟩,
 ⟨some 8, .call 157 [(.t 4), (.t 7)], none, 5⟩,
 ⟨none, .store 2 (.t 2) (.t 8), none, 6⟩] [] [] [2] [2])
 .ret))
def rv137 : List RVar := [.c 2 2 true]
theorem chk137 : chk Tryz.prog Tryz.f137.ntmps ir137 (Tryz.f137.body.getD .skip) = true := by decide +kernel
theorem res137 : chkRes Tryz.prog Tryz.f137.results.toList rv137 = true := by decide +kernel
theorem fnr137 : FT Tryz.prog 137 9 ir137 rv137 := fnT Tryz.func137 rfl rfl chk137 res137 (by decide +kernel)
def ir140 : IR :=
  (.seq
 (.reg [⟨some 1, .box (.t 0), none, 0⟩,
 ⟨some 2, .alloc [.b false, .sl 1 true [], .b false, .sl 1 true []], none, 1⟩] [] [] [1, 2] [1, 2])
 (.seq
 (.reg [⟨some 3, .load 2 true (.t 1), none, 0⟩,
 ⟨some 4, .call 127 [(.k (.i .i64 1))], none, 1⟩,
 ⟨some 5, .build [.b false, .sl 1 true [], .b false, .sl 1 true []] [(0, 2, (.t 3)), (2, 2, (.t 4))], none, 2⟩,
 ⟨none, .store 4 (.t 2) (.t 5), none, 3⟩] [] [0, 0, 3, 7] [2] [2])
 .ret))
def rv140 : List RVar := [.c 2 4 true]
theorem chk140 : chk Tryz.prog Tryz.f140.ntmps ir140 (Tryz.f140.body.getD .skip) = true := by decide +kernel
theorem res140 : chkRes Tryz.prog Tryz.f140.results.toList rv140 = true := by decide +kernel
theorem fnr140 : FT Tryz.prog 140 6 ir140 rv140 := fnT Tryz.func140 rfl rfl chk140 res140 (by decide +kernel)
def ir154 : IR :=
  (.seq
 (.reg [⟨some 4, .mv (.k (.i .i64 0)), none, 0⟩] [] [] [0, 1] [])
 (.seq
 (.reg [⟨some 7, .mv (.t 0), none, 0⟩,
 ⟨some 8, .call 171 [(.t 7)], none, 1⟩,
 ⟨some 5, .mv (.t 8), none, 2⟩] [] [] [0, 1, 5] [])
 (.seq
 (.reg [⟨some 9, .mv (.t 1), none, 0⟩,
 ⟨some 10, .call 171 [(.t 9)], none, 1⟩,
 ⟨some 6, .mv (.t 10), none, 2⟩] [] [] [0, 1, 5, 6] [])
 (.seq
 (.seq
 (.reg [⟨some 11, .mv (.t 5), none, 0⟩] [] [] [0, 1, 6, 11] [])
 (.cond (.t 11)
 (.seq
 (.seq
 (.reg [⟨some 12, .mv (.t 6), none, 0⟩] [] [] [12] [])
 (.cond (.t 12)
 (.seq
 (.reg [⟨some 4, .mv (.k (.i .i64 0)), none, 0⟩] [] [] [4] [])
 .ret)
 .skip))
 (.seq
 (.reg [⟨some 4, .mv (.k (.i .i64 (-1))), none, 0⟩] [] [] [4] [])
 .ret))
 .skip))
 (.seq
 (.seq
 (.reg [⟨some 13, .mv (.t 6), none, 0⟩] [] [] [0, 1, 13] [])
 (.cond (.t 13)
 (.seq
 (.reg [⟨some 4, .mv (.k (.i .i64 1)), none, 0⟩] [] [] [4] [])
 .ret)
 .skip))
 (.seq
 (.seq
 (.reg [⟨some 14, .mv (.t 0), none, 0⟩,
 ⟨some 15, .mv (.t 1), none, 1⟩,
 ⟨some 16, .bin .lss (.t 14) (.t 15), none, 2⟩] [] [] [0, 1, 16] [])
 (.cond (.t 16)
 (.seq
 (.reg [⟨some 4, .mv (.k (.i .i64 (-1))), none, 0⟩] [] [] [4] [])
 .ret)
 .skip))
 (.seq
 (.seq
 (.reg [⟨some 17, .mv (.t 0), none, 0⟩,
 ⟨some 18, .mv (.t 1), none, 1⟩,
 ⟨some 19, .bin .gtr (.t 17) (.t 18), none, 2⟩] [] [] [19] [])
 (.cond (.t 19)
 (.seq
 (.reg [⟨some 4, .mv (.k (.i .i64 1)), none, 0⟩] [] [] [4] [])
 .ret)
 .skip))
 (.seq
 (.reg [⟨some 4, .mv (.k (.i .i64 0)), none, 0⟩] [] [] [4] [])
 .ret))))))))
def rv154 : List RVar := [.t 4]
theorem chk154 : chk Tryz.prog Tryz.f154.ntmps ir154 (Tryz.f154.body.getD .skip) = true := by decide +kernel
theorem res154 : chkRes Tryz.prog Tryz.f154.results.toList rv154 = true := by decide +kernel
theorem fnr154 : FT Tryz.prog 154 20 ir154 rv154 := fnT Tryz.func154 rfl rfl chk154 res154 (by decide +kernel)
def b155_0 : IR :=
  (.seq
 (.reg [⟨some 20, .bin .lss (.t 19) (.t 18), none, 0⟩] [] [] [0, 1, 18, 19, 20] [])
 (.seq
 (.cond (.t 20)
 .skip
 (.exit 0))
 (.seq
 (.block 1
 (.seq
 (.reg [⟨some 21, .mv (.t 19), none, 0⟩,
 ⟨some 5, .mv (.t 21), none, 1⟩] [] [] [0, 1, 5, 18, 19] [])
 (.seq
 (.reg [⟨some 22, .mv (.t 0), none, 0⟩,
 ⟨some 23, .len (.t 22), none, 1⟩,
 ⟨some 24, .bin .sub (.t 23) (.k (.i .i64 1)), none, 2⟩,
 ⟨some 25, .mv (.t 5), none, 3⟩,
 ⟨some 26, .bin .sub (.t 24) (.t 25), none, 4⟩,
 ⟨some 6, .mv (.t 26), none, 5⟩] [] [] [0, 1, 6, 18, 19] [])
 (.seq
 (.reg [⟨some 27, .mv (.t 0), none, 0⟩,
 ⟨some 28, .mv (.t 6), none, 1⟩,
 ⟨some 29, .ixs 1 (.t 27) (.t 28), none, 2⟩,
 ⟨some 30, .load 1 false (.t 29), none, 3⟩,
 ⟨some 31, .mv (.t 1), none, 4⟩,
 ⟨some 32, .mv (.t 6), none, 5⟩,
 ⟨some 33, .ixs 1 (.t 31) (.t 32), none, 6⟩,
 ⟨some 34, .load 1 false (.t 33), none, 7⟩,
 ⟨some 35, .bin .neq (.t 30) (.t 34), none, 8⟩] [] [0, 0, 3, 7, 0, 0, 48, 112, 255] [0, 1, 6, 18, 19, 35] [])
 (.cond (.t 35)
 (.seq
 (.reg [⟨some 36, .mv (.t 0), none, 0⟩,
 ⟨some 37, .mv (.t 6), none, 1⟩,
 ⟨some 38, .ixs 1 (.t 36) (.t 37), none, 2⟩,
 ⟨some 39, .load 1 false (.t 38), none, 3⟩,
 ⟨some 40, .mv (.t 1), none, 4⟩,
 ⟨some 41, .mv (.t 6), none, 5⟩,
 ⟨some 42, .ixs 1 (.t 40) (.t 41), none, 6⟩,
 ⟨some 43, .load 1 false (.t 42), none, 7⟩,
 ⟨some 44, .call 172 [(.t 39), (.t 43)], none, 8⟩,
 ⟨some 4, .mv (.t 44), none, 9⟩] [] [0, 0, 3, 7, 0, 0, 48, 112, 255, 511] [4] [])
 .ret)
 .skip)))))
 (.reg [⟨some 45, .bin .add (.t 19) (.k (.i .i64 1)), none, 0⟩,
 ⟨some 19, .mv (.t 45), none, 1⟩] [] [] [0, 1, 18, 19] []))))
theorem wb155_0 : type_of% (@wbEq _ _ b155_0.eq_1 P F st Q) := wbEq b155_0.eq_1
def ir155 : IR :=
  (.seq
 (.reg [⟨some 4, .mv (.k (.i .i64 0)), none, 0⟩] [] [] [0, 1] [])
 (.seq
 (.seq
 (.reg [⟨some 7, .mv (.t 0), none, 0⟩,
 ⟨some 8, .len (.t 7), none, 1⟩,
 ⟨some 9, .mv (.t 1), none, 2⟩,
 ⟨some 10, .len (.t 9), none, 3⟩,
 ⟨some 11, .bin .neq (.t 8) (.t 10), none, 4⟩] [] [] [0, 1, 11] [])
 (.cond (.t 11)
 (.seq
 (.reg [⟨some 12, .mv (.t 0), none, 0⟩,
 ⟨some 13, .len (.t 12), none, 1⟩,
 ⟨some 14, .mv (.t 1), none, 2⟩,
 ⟨some 15, .len (.t 14), none, 3⟩,
 ⟨some 16, .call 154 [(.t 13), (.t 15)], none, 4⟩,
 ⟨some 4, .mv (.t 16), none, 5⟩] [] [] [4] [])
 .ret)
 .skip))
 (.seq
 (.seq
 (.reg [⟨some 17, .mv (.t 0), none, 0⟩,
 ⟨some 18, .len (.t 17), none, 1⟩,
 ⟨some 19, .mv (.k (.i .i64 0)), none, 2⟩] [] [] [0, 1, 18, 19] [])
 (.block 0
 (.loop [0, 1, 18, 19] [] b155_0)))
 (.seq
 (.reg [⟨some 4, .mv (.k (.i .i64 0)), none, 0⟩] [] [] [4] [])
 .ret))))
def rv155 : List RVar := [.t 4]
theorem chk155 : chk Tryz.prog Tryz.f155.ntmps ir155 (Tryz.f155.body.getD .skip) = true := by decide +kernel
theorem res155 : chkRes Tryz.prog Tryz.f155.results.toList rv155 = true := by decide +kernel
theorem fnr155 : FT Tryz.prog 155 46 ir155 rv155 := fnT Tryz.func155 rfl rfl chk155 res155 (by decide +kernel)
def b156_0 : IR :=
  (.seq
 (.reg [⟨some 57, .bin .lss (.t 56) (.t 55), none, 0⟩] [] [] [8, 9, 10, 11, 55, 56, 57] [43, 53])
 (.seq
 (.cond (.t 57)
 .skip
 (.exit 0))
 (.seq
 (.block 1
 (.seq
 (.reg [⟨some 58, .mv (.t 56), none, 0⟩,
 ⟨some 12, .mv (.t 58), none, 1⟩] [] [] [8, 9, 10, 11, 12, 55, 56] [43, 53])
 (.seq
 (.reg [⟨some 59, .mv (.t 11), none, 0⟩,
 ⟨some 60, .len (.t 59), none, 1⟩,
 ⟨some 61, .bin .sub (.t 60) (.k (.i .i64 1)), none, 2⟩,
 ⟨some 62, .mv (.t 12), none, 3⟩,
 ⟨some 63, .bin .sub (.t 61) (.t 62), none, 4⟩,
 ⟨some 13, .mv (.t 63), none, 5⟩] [] [] [8, 9, 10, 11, 13, 55, 56] [43, 53])
 (.reg [⟨some 64, .mv (.t 11), none, 0⟩,
 ⟨some 65, .mv (.t 13), none, 1⟩,
 ⟨some 66, .mv (.t 9), none, 2⟩,
 ⟨some 67, .mv (.t 13), none, 3⟩,
 ⟨some 68, .mv (.t 13), none, 4⟩,
 ⟨some 69, .mv (.t 10), none, 5⟩,
 ⟨some 70, .len (.t 69), none, 6⟩,
 ⟨some 71, .bin .add (.t 68) (.t 70), none, 7⟩,
 ⟨some 72, .bin .add (.t 71) (.k (.i .i64 1)), none, 8⟩,
 ⟨some 73, .slc 1 (.t 66) (some (.t 67)) (some (.t 72)) none, none, 9⟩,
 ⟨some 74, .mv (.t 10), none, 10⟩,
 ⟨some 75, .callR 177 [(.t 73), (.t 74)], none, 11⟩,
 ⟨some 76, .ixs 1 (.t 64) (.t 65), none, 12⟩,
 ⟨none, .store 1 (.t 76) (.t 75), none, 13⟩] [] [] [8, 9, 10, 11, 55, 56] [43, 53]))))
 (.reg [⟨some 77, .bin .add (.t 56) (.k (.i .i64 1)), none, 0⟩,
 ⟨some 56, .mv (.t 77), none, 1⟩] [] [] [8, 9, 10, 11, 55, 56] [43, 53]))))
theorem wb156_0 : type_of% (@wbEq _ _ b156_0.eq_1 P F st Q) := wbEq b156_0.eq_1
def ir156 : IR :=
  (.seq
 (.reg [⟨some 4, .mv (.k (.sl 1 true [])), none, 0⟩,
 ⟨some 5, .mv (.k (.sl 1 true [])), none, 1⟩] [] [] [0, 1] [])
 (.seq
 (.seq
 (.reg [⟨some 14, .mv (.t 0), none, 0⟩,
 ⟨some 15, .mv (.t 1), none, 1⟩,
 ⟨some 16, .call 155 [(.t 14), (.t 15)], none, 2⟩,
 ⟨some 17, .bin .lss (.t 16) (.k (.i .i64 0)), none, 3⟩] [] [] [0, 1, 17] [])
 (.cond (.t 17)
 (.seq
 (.reg [⟨some 18, .mv (.t 0), none, 0⟩,
 ⟨some 4, .mv (.k (.sl 1 true [])), none, 1⟩,
 ⟨some 5, .mv (.t 18), none, 2⟩] [] [] [4, 5] [])
 .ret)
 .skip))
 (.seq
 (.seq
 (.reg [⟨some 19, .mv (.t 1), none, 0⟩,
 ⟨some 20, .len (.t 19), none, 1⟩,
 ⟨some 21, .bin .eql (.t 20) (.k (.i .i64 1)), none, 2⟩] [] [] [0, 1, 21] [])
 (.cond (.t 21)
 (.seq
 (.reg [⟨some 23, .mv (.t 0), none, 0⟩,
 ⟨some 24, .mv (.t 1), none, 1⟩,
 ⟨some 25, .ixs 1 (.t 24) (.k (.i .i64 0)), none, 2⟩,
 ⟨some 26, .load 1 false (.t 25), none, 3⟩,
 ⟨some 27, .call 173 [(.t 23), (.t 26)], none, 4⟩,
 ⟨some 22, .mv (.t 27), none, 5⟩,
 ⟨some 28, .ext 0 (.t 22), none, 6⟩,
 ⟨some 29, .ext 1 (.t 22), none, 7⟩,
 ⟨some 6, .mv (.t 28), none, 8⟩,
 ⟨some 7, .mv (.t 29), none, 9⟩] [] [] [6, 7] [])
 (.seq
 (.reg [⟨some 30, .mv (.t 6), none, 0⟩,
 ⟨some 31, .mv (.t 7), none, 1⟩,
 ⟨some 32, .bsl 1 [(.t 31)], none, 2⟩,
 ⟨some 33, .call 174 [(.t 32)], none, 3⟩,
 ⟨some 4, .mv (.t 30), none, 4⟩,
 ⟨some 5, .mv (.t 33), none, 5⟩] [] [] [4, 5] [])
 .ret))
 .skip))
 (.seq
 (.reg [⟨some 34, .mv (.t 1), none, 0⟩,
 ⟨some 35, .mv (.t 1), none, 1⟩,
 ⟨some 36, .len (.t 35), none, 2⟩,
 ⟨some 37, .bin .sub (.t 36) (.k (.i .i64 1)), none, 3⟩,
 ⟨some 38, .ixs 1 (.t 34) (.t 37), none, 4⟩,
 ⟨some 39, .load 1 false (.t 38), none, 5⟩,
 ⟨some 40, .call 175 [(.t 39)], none, 6⟩,
 ⟨some 8, .mv (.t 40), none, 7⟩] [] [] [0, 1, 8] [])
 (.seq
 (.reg [⟨some 41, .mv (.t 0), none, 0⟩,
 ⟨some 42, .mv (.t 8), none, 1⟩,
 ⟨some 43, .callN 176 [(.t 41), (.t 42)], none, 2⟩,
 ⟨some 44, .mv (.t 1), none, 3⟩,
 ⟨some 45, .mv (.t 8), none, 4⟩,
 ⟨some 46, .call 176 [(.t 44), (.t 45)], none, 5⟩,
 ⟨some 47, .call 174 [(.t 46)], none, 6⟩,
 ⟨some 9, .mv (.t 43), none, 7⟩,
 ⟨some 10, .mv (.t 47), none, 8⟩] [] [] [8, 9, 10] [43])
 (.seq
 (.reg [⟨some 48, .mv (.t 9), none, 0⟩,
 ⟨some 49, .len (.t 48), none, 1⟩,
 ⟨some 50, .mv (.t 10), none, 2⟩,
 ⟨some 51, .len (.t 50), none, 3⟩,
 ⟨some 52, .bin .sub (.t 49) (.t 51), none, 4⟩,
 ⟨some 53, .mk 1 4 [.i .u32 0] (.t 52) (.t 52), none, 5⟩,
 ⟨some 11, .mv (.t 53), none, 6⟩] [] [] [8, 9, 10, 11] [43, 53])
 (.seq
 (.seq
 (.reg [⟨some 54, .mv (.t 11), none, 0⟩,
 ⟨some 55, .len (.t 54), none, 1⟩,
 ⟨some 56, .mv (.k (.i .i64 0)), none, 2⟩] [] [] [8, 9, 10, 11, 55, 56] [43, 53])
 (.block 0
 (.loop [8, 9, 10, 11, 55, 56] [43, 53] b156_0)))
 (.seq
 (.frz 9
 (.frz 11
 (.reg [⟨some 78, .mv (.t 11), none, 0⟩,
 ⟨some 79, .call 174 [(.t 78)], none, 1⟩,
 ⟨some 80, .mv (.t 9), none, 2⟩,
 ⟨some 81, .call 174 [(.t 80)], none, 3⟩,
 ⟨some 82, .mv (.t 8), none, 4⟩,
 ⟨some 83, .call 178 [(.t 81), (.t 82)], none, 5⟩,
 ⟨some 4, .mv (.t 79), none, 6⟩,
 ⟨some 5, .mv (.t 83), none, 7⟩] [] [] [4, 5] [])))
 .ret))))))))
def rv156 : List RVar := [.t 4, .t 5]
theorem chk156 : chk Tryz.prog Tryz.f156.ntmps ir156 (Tryz.f156.body.getD .skip) = true := by decide +kernel
theorem res156 : chkRes Tryz.prog Tryz.f156.results.toList rv156 = true := by decide +kernel
theorem fnr156 : FT Tryz.prog 156 84 ir156 rv156 := fnT Tryz.func156 rfl rfl chk156 res156 (by decide +kernel)
def ir157 : IR :=
  (.seq
 (.reg [⟨some 4, .alloc [.b false, .sl 1 true []], none, 0⟩] [] [] [0, 1, 4] [4])
 (.seq
 (.reg [⟨some 5, .mv (.t 0), none, 0⟩,
 ⟨some 6, .call 174 [(.t 5)], none, 1⟩,
 ⟨some 0, .mv (.t 6), none, 2⟩] [] [] [0, 1, 4] [4])
 (.seq
 (.reg [⟨some 7, .mv (.t 1), none, 0⟩,
 ⟨some 8, .mv (.t 7), none, 1⟩,
 ⟨some 9, .mv (.t 0), some (8, true), 2⟩,
 ⟨some 10, .len (.t 9), some (8, true), 3⟩,
 ⟨some 11, .bin .gtr (.t 10) (.k (.i .i64 0)), some (8, true), 4⟩,
 ⟨some 12, .pick (.t 8) (.t 11) (.k (.b false)), none, 5⟩,
 ⟨some 13, .mv (.t 0), none, 6⟩,
 ⟨some 14, .call 179 [(.t 13)], none, 7⟩,
 ⟨some 15, .build [.b false, .sl 1 true []] [(0, 1, (.t 12)), (1, 1, (.t 14))], none, 8⟩,
 ⟨none, .store 2 (.t 4) (.t 15), none, 9⟩] [] [] [4] [4])
 .ret)))
def rv157 : List RVar := [.c 4 2 true]
theorem chk157 : chk Tryz.prog Tryz.f157.ntmps ir157 (Tryz.f157.body.getD .skip) = true := by decide +kernel
theorem res157 : chkRes Tryz.prog Tryz.f157.results.toList rv157 = true := by decide +kernel
theorem fnr157 : FT Tryz.prog 157 16 ir157 rv157 := fnT Tryz.func157 rfl rfl chk157 res157 (by decide +kernel)
def ir158 : IR :=
  (.seq
 (.reg [⟨some 2, .mv (.k (.sl 1 true [])), none, 0⟩] [] [] [0] [])
 (.seq
 (.reg [⟨some 3, .mv (.t 0), none, 0⟩,
 ⟨some 4, .conv .u32 (.t 3), none, 1⟩,
 ⟨some 5, .mv (.t 0), none, 2⟩,
 ⟨some 6, .bin .shr (.t 5) (.k (.i .u64 32)), none, 3⟩,
 ⟨some 7, .conv .u32 (.t 6), none, 4⟩,
 ⟨some 8, .bsl 1 [(.t 4), (.t 7)], none, 5⟩,
 ⟨some 9, .call 174 [(.t 8)], none, 6⟩,
 ⟨some 2, .mv (.t 9), none, 7⟩] [] [] [2] [])
 .ret))
def rv158 : List RVar := [.t 2]
theorem chk158 : chk Tryz.prog Tryz.f158.ntmps ir158 (Tryz.f158.body.getD .skip) = true := by decide +kernel
theorem res158 : chkRes Tryz.prog Tryz.f158.results.toList rv158 = true := by decide +kernel
theorem fnr158 : FT Tryz.prog 158 10 ir158 rv158 := fnT Tryz.func158 rfl rfl chk158 res158 (by decide +kernel)
def ir159 : IR :=
  (.seq
 (.reg [⟨some 2, .box (.t 0), none, 0⟩,
 ⟨some 3, .box (.t 1), none, 1⟩,
 ⟨some 4, .alloc [.b false, .sl 1 true []], none, 2⟩,
 ⟨some 5, .alloc [.b false, .sl 1 true []], none, 3⟩,
 ⟨some 6, .mv (.k (.i .i64 0)), none, 4⟩] [] [] [2, 3, 4, 5] [2, 3, 4, 5])
 (.seq
 (.reg [⟨some 10, .fld 1 (.t 3), none, 0⟩,
 ⟨some 11, .load 1 false (.t 10), none, 1⟩,
 ⟨some 7, .mv (.t 11), none, 2⟩] [] [] [2, 3, 4, 5, 7] [2, 3, 4, 5])
 (.seq
 (.seq
 (.reg [⟨some 12, .mv (.t 7), none, 0⟩,
 ⟨some 13, .len (.t 12), none, 1⟩,
 ⟨some 14, .bin .eql (.t 13) (.k (.i .i64 0)), none, 2⟩] [] [] [2, 3, 4, 5, 7, 14] [2, 3, 4, 5])
 (.cond (.t 14)
 (.seq
 (.reg [⟨some 15, .build [.b false, .sl 1 true []] [], none, 0⟩,
 ⟨some 16, .build [.b false, .sl 1 true []] [], none, 1⟩,
 ⟨none, .store 2 (.t 4) (.t 15), none, 2⟩,
 ⟨none, .store 2 (.t 5) (.t 16), none, 3⟩,
 ⟨some 6, .mv (.k (.i .i64 10)), none, 4⟩] [] [] [4, 5, 6] [4, 5])
 .ret)
 .skip))
 (.seq
 (.reg [⟨some 18, .fld 1 (.t 2), none, 0⟩,
 ⟨some 19, .load 1 false (.t 18), none, 1⟩,
 ⟨some 20, .mv (.t 7), none, 2⟩,
 ⟨some 21, .call 156 [(.t 19), (.t 20)], none, 3⟩,
 ⟨some 17, .mv (.t 21), none, 4⟩,
 ⟨some 22, .ext 0 (.t 17), none, 5⟩,
 ⟨some 23, .ext 1 (.t 17), none, 6⟩,
 ⟨some 8, .mv (.t 22), none, 7⟩,
 ⟨some 9, .mv (.t 23), none, 8⟩] [] [] [2, 3, 4, 5, 7, 8, 9] [2, 3, 4, 5])
 (.seq
 (.seq
 (.reg [⟨some 24, .fld 0 (.t 2), none, 0⟩,
 ⟨some 25, .load 1 false (.t 24), none, 1⟩,
 ⟨some 26, .mv (.t 25), none, 2⟩,
 ⟨some 27, .mv (.t 9), some (26, true), 3⟩,
 ⟨some 28, .len (.t 27), some (26, true), 4⟩,
 ⟨some 29, .bin .gtr (.t 28) (.k (.i .i64 0)), some (26, true), 5⟩,
 ⟨some 30, .pick (.t 26) (.t 29) (.k (.b false)), none, 6⟩] [] [] [2, 3, 4, 5, 7, 8, 9, 30] [2, 3, 4, 5])
 (.cond (.t 30)
 (.reg [⟨some 31, .mv (.t 8), none, 0⟩,
 ⟨some 32, .call 158 [(.k (.i .u64 1))], none, 1⟩,
 ⟨some 33, .call 163 [(.t 31), (.t 32)], none, 2⟩,
 ⟨some 34, .mv (.t 7), none, 3⟩,
 ⟨some 35, .mv (.t 9), none, 4⟩,
 ⟨some 36, .call 164 [(.t 34), (.t 35)], none, 5⟩,
 ⟨some 8, .mv (.t 33), none, 6⟩,
 ⟨some 9, .mv (.t 36), none, 7⟩] [] [] [2, 3, 4, 5, 8, 9] [2, 3, 4, 5])
 .skip))
 (.seq
 (.reg [⟨some 37, .mv (.t 8), none, 0⟩,
 ⟨some 38, .fld 0 (.t 2), none, 1⟩,
 ⟨some 39, .load 1 false (.t 38), none, 2⟩,
 ⟨some 40, .fld 0 (.t 3), none, 3⟩,
 ⟨some 41, .load 1 false (.t 40), none, 4⟩,
 ⟨some 42, .eqb true (.t 39) (.t 41), none, 5⟩,
 ⟨some 43, .call 157 [(.t 37), (.t 42)], none, 6⟩,
 ⟨some 44, .mv (.t 9), none, 7⟩,
 ⟨some 45, .call 157 [(.t 44), (.k (.b false))], none, 8⟩,
 ⟨none, .store 2 (.t 4) (.t 43), none, 9⟩,
 ⟨none, .store 2 (.t 5) (.t 45), none, 10⟩,
 ⟨some 6, .mv (.k (.i .i64 0)), none, 11⟩] [] [] [4, 5, 6] [4, 5])
 .ret))))))
def rv159 : List RVar := [.c 4 2 true, .c 5 2 true, .t 6]
theorem chk159 : chk Tryz.prog Tryz.f159.ntmps ir159 (Tryz.f159.body.getD .skip) = true := by decide +kernel
theorem res159 : chkRes Tryz.prog Tryz.f159.results.toList rv159 = true := by decide +kernel
theorem fnr159 : FT Tryz.prog 159 46 ir159 rv159 := fnT Tryz.func159 rfl rfl chk159 res159 (by decide +kernel)
def ir160 : IR :=
  (.seq
 (.reg [⟨some 2, .box (.t 0), none, 0⟩,
 ⟨some 3, .box (.t 1), none, 1⟩,
 ⟨some 4, .alloc [.b false, .sl 1 true []], none, 2⟩] [] [] [2, 3, 4] [2, 3, 4])
 (.seq
 (.reg [⟨some 5, .fld 1 (.t 2), none, 0⟩,
 ⟨some 6, .load 1 false (.t 5), none, 1⟩,
 ⟨some 7, .fld 1 (.t 3), none, 2⟩,
 ⟨some 8, .load 1 false (.t 7), none, 3⟩,
 ⟨some 9, .call 180 [(.t 6), (.t 8)], none, 4⟩,
 ⟨some 10, .fld 0 (.t 2), none, 5⟩,
 ⟨some 11, .load 1 false (.t 10), none, 6⟩,
 ⟨some 12, .fld 0 (.t 3), none, 7⟩,
 ⟨some 13, .load 1 false (.t 12), none, 8⟩,
 ⟨some 14, .eqb true (.t 11) (.t 13), none, 9⟩,
 ⟨some 15, .call 157 [(.t 9), (.t 14)], none, 10⟩,
 ⟨none, .store 2 (.t 4) (.t 15), none, 11⟩] [] [0, 1, 0, 4, 15, 0, 32, 0, 128, 480, 1023, 2047] [4] [4])
 .ret))
def rv160 : List RVar := [.c 4 2 true]
theorem chk160 : chk Tryz.prog Tryz.f160.ntmps ir160 (Tryz.f160.body.getD .skip) = true := by decide +kernel
theorem res160 : chkRes Tryz.prog Tryz.f160.results.toList rv160 = true := by decide +kernel
theorem fnr160 : FT Tryz.prog 160 16 ir160 rv160 := fnT Tryz.func160 rfl rfl chk160 res160 (by decide +kernel)
def b163_0 : IR :=
  (.seq
 (.reg [⟨some 19, .bin .lss (.t 18) (.t 17), none, 0⟩] [] [] [0, 1, 5, 6, 7, 17, 18, 19] [16])
 (.seq
 (.cond (.t 19)
 .skip
 (.exit 0))
 (.seq
 (.block 1
 (.seq
 (.reg [⟨some 20, .mv (.t 18), none, 0⟩,
 ⟨some 8, .mv (.t 20), none, 1⟩] [] [] [0, 1, 5, 6, 7, 8, 17, 18] [16])
 (.reg [⟨some 22, .mv (.t 6), none, 0⟩,
 ⟨some 23, .mv (.t 8), none, 1⟩,
 ⟨some 24, .mv (.t 0), none, 2⟩,
 ⟨some 25, .mv (.t 8), none, 3⟩,
 ⟨some 26, .call 192 [(.t 24), (.t 25)], none, 4⟩,
 ⟨some 27, .mv (.t 1), none, 5⟩,
 ⟨some 28, .mv (.t 8), none, 6⟩,
 ⟨some 29, .call 192 [(.t 27), (.t 28)], none, 7⟩,
 ⟨some 30, .mv (.t 7), none, 8⟩,
 ⟨some 31, .call 191 [(.t 26), (.t 29), (.t 30)], none, 9⟩,
 ⟨some 21, .mv (.t 31), none, 10⟩,
 ⟨some 32, .ext 0 (.t 21), none, 11⟩,
 ⟨some 33, .ext 1 (.t 21), none, 12⟩,
 ⟨some 34, .ixs 1 (.t 22) (.t 23), none, 13⟩,
 ⟨none, .store 1 (.t 34) (.t 32), none, 14⟩,
 ⟨some 7, .mv (.t 33), none, 15⟩] [] [] [0, 1, 5, 6, 7, 17, 18] [16])))
 (.reg [⟨some 35, .bin .add (.t 18) (.k (.i .i64 1)), none, 0⟩,
 ⟨some 18, .mv (.t 35), none, 1⟩] [] [] [0, 1, 5, 6, 7, 17, 18] [16]))))
theorem wb163_0 : type_of% (@wbEq _ _ b163_0.eq_1 P F st Q) := wbEq b163_0.eq_1
def ir163 : IR :=
  (.seq
 (.reg [⟨some 4, .mv (.k (.sl 1 true [])), none, 0⟩] [] [] [0, 1] [])
 (.seq
 (.reg [⟨some 9, .mv (.t 0), none, 0⟩,
 ⟨some 10, .len (.t 9), none, 1⟩,
 ⟨some 11, .mv (.t 1), none, 2⟩,
 ⟨some 12, .len (.t 11), none, 3⟩,
 ⟨some 13, .mx (.t 10) (.t 12), none, 4⟩,
 ⟨some 5, .mv (.t 13), none, 5⟩] [] [] [0, 1, 5] [])
 (.seq
 (.reg [⟨some 14, .mv (.t 5), none, 0⟩,
 ⟨some 15, .bin .add (.t 14) (.k (.i .i64 1)), none, 1⟩,
 ⟨some 16, .mk 1 4 [.i .u32 0] (.t 15) (.t 15), none, 2⟩,
 ⟨some 6, .mv (.t 16), none, 3⟩] [] [] [0, 1, 5, 6] [16])
 (.seq
 (.reg [⟨some 7, .mv (.k (.i .u32 0)), none, 0⟩] [] [] [0, 1, 5, 6, 7] [16])
 (.seq
 (.seq
 (.reg [⟨some 17, .mv (.t 5), none, 0⟩,
 ⟨some 18, .mv (.k (.i .i64 0)), none, 1⟩] [] [] [0, 1, 5, 6, 7, 17, 18] [16])
 (.block 0
 (.loop [0, 1, 5, 6, 7, 17, 18] [16] b163_0)))
 (.seq
 (.reg [⟨some 36, .mv (.t 6), none, 0⟩,
 ⟨some 37, .mv (.t 5), none, 1⟩,
 ⟨some 38, .mv (.t 7), none, 2⟩,
 ⟨some 39, .ixs 1 (.t 36) (.t 37), none, 3⟩,
 ⟨none, .store 1 (.t 39) (.t 38), none, 4⟩] [] [] [6] [16])
 (.seq
 (.frz 6
 (.reg [⟨some 40, .mv (.t 6), none, 0⟩,
 ⟨some 41, .call 174 [(.t 40)], none, 1⟩,
 ⟨some 4, .mv (.t 41), none, 2⟩] [] [] [4] []))
 .ret)))))))
def rv163 : List RVar := [.t 4]
theorem chk163 : chk Tryz.prog Tryz.f163.ntmps ir163 (Tryz.f163.body.getD .skip) = true := by decide +kernel
theorem res163 : chkRes Tryz.prog Tryz.f163.results.toList rv163 = true := by decide +kernel
theorem fnr163 : FT Tryz.prog 163 42 ir163 rv163 := fnT Tryz.func163 rfl rfl chk163 res163 (by decide +kernel)
def b164_0 : IR :=
  (.seq
 (.reg [⟨some 14, .bin .lss (.t 13) (.t 12), none, 0⟩] [] [] [0, 1, 5, 6, 12, 13, 14] [10])
 (.seq
 (.cond (.t 14)
 .skip
 (.exit 0))
 (.seq
 (.block 1
 (.seq
 (.reg [⟨some 15, .mv (.t 13), none, 0⟩,
 ⟨some 7, .mv (.t 15), none, 1⟩] [] [] [0, 1, 5, 6, 7, 12, 13] [10])
 (.reg [⟨some 17, .mv (.t 5), none, 0⟩,
 ⟨some 18, .mv (.t 7), none, 1⟩,
 ⟨some 19, .mv (.t 0), none, 2⟩,
 ⟨some 20, .mv (.t 7), none, 3⟩,
 ⟨some 21, .ixs 1 (.t 19) (.t 20), none, 4⟩,
 ⟨some 22, .load 1 false (.t 21), none, 5⟩,
 ⟨some 23, .mv (.t 1), none, 6⟩,
 ⟨some 24, .mv (.t 7), none, 7⟩,
 ⟨some 25, .call 192 [(.t 23), (.t 24)], none, 8⟩,
 ⟨some 26, .mv (.t 6), none, 9⟩,
 ⟨some 27, .call 193 [(.t 22), (.t 25), (.t 26)], none, 10⟩,
 ⟨some 16, .mv (.t 27), none, 11⟩,
 ⟨some 28, .ext 0 (.t 16), none, 12⟩,
 ⟨some 29, .ext 1 (.t 16), none, 13⟩,
 ⟨some 30, .ixs 1 (.t 17) (.t 18), none, 14⟩,
 ⟨none, .store 1 (.t 30) (.t 28), none, 15⟩,
 ⟨some 6, .mv (.t 29), none, 16⟩] [] [0, 0, 0, 0, 12, 28, 0, 0, 192, 0, 1020, 2044, 4092, 4092, 8191, 24575, 65535] [0, 1, 5, 6, 12, 13] [10])))
 (.reg [⟨some 31, .bin .add (.t 13) (.k (.i .i64 1)), none, 0⟩,
 ⟨some 13, .mv (.t 31), none, 1⟩] [] [] [0, 1, 5, 6, 12, 13] [10]))))
theorem wb164_0 : type_of% (@wbEq _ _ b164_0.eq_1 P F st Q) := wbEq b164_0.eq_1
def ir164 : IR :=
  (.seq
 (.reg [⟨some 4, .mv (.k (.sl 1 true [])), none, 0⟩] [] [] [0, 1] [])
 (.seq
 (.reg [⟨some 8, .mv (.t 0), none, 0⟩,
 ⟨some 9, .len (.t 8), none, 1⟩,
 ⟨some 10, .mk 1 4 [.i .u32 0] (.t 9) (.t 9), none, 2⟩,
 ⟨some 5, .mv (.t 10), none, 3⟩] [] [] [0, 1, 5] [10])
 (.seq
 (.reg [⟨some 6, .mv (.k (.i .u32 0)), none, 0⟩] [] [] [0, 1, 5, 6] [10])
 (.seq
 (.seq
 (.reg [⟨some 11, .mv (.t 5), none, 0⟩,
 ⟨some 12, .len (.t 11), none, 1⟩,
 ⟨some 13, .mv (.k (.i .i64 0)), none, 2⟩] [] [] [0, 1, 5, 6, 12, 13] [10])
 (.block 0
 (.loop [0, 1, 5, 6, 12, 13] [10] b164_0)))
 (.seq
 (.frz 5
 (.reg [⟨some 32, .mv (.t 5), none, 0⟩,
 ⟨some 33, .call 174 [(.t 32)], none, 1⟩,
 ⟨some 4, .mv (.t 33), none, 2⟩] [] [] [4] []))
 .ret)))))
def rv164 : List RVar := [.t 4]
theorem chk164 : chk Tryz.prog Tryz.f164.ntmps ir164 (Tryz.f164.body.getD .skip) = true := by decide +kernel
theorem res164 : chkRes Tryz.prog Tryz.f164.results.toList rv164 = true := by decide +kernel
theorem fnr164 : FT Tryz.prog 164 34 ir164 rv164 := fnT Tryz.func164 rfl rfl chk164 res164 (by decide +kernel)
def ir171 : IR :=
  (.seq
 (.reg [⟨some 2, .mv (.k (.b false)), none, 0⟩] [] [] [0] [])
 (.seq
 (.reg [⟨some 3, .mv (.t 0), none, 0⟩,
 ⟨some 4, .mv (.t 0), none, 1⟩,
 ⟨some 5, .bin .neq (.t 3) (.t 4), none, 2⟩,
 ⟨some 2, .mv (.t 5), none, 3⟩] [] [] [2] [])
 .ret))
def rv171 : List RVar := [.t 2]
theorem chk171 : chk Tryz.prog Tryz.f171.ntmps ir171 (Tryz.f171.body.getD .skip) = true := by decide +kernel
theorem res171 : chkRes Tryz.prog Tryz.f171.results.toList rv171 = true := by decide +kernel
theorem fnr171 : FT Tryz.prog 171 6 ir171 rv171 := fnT Tryz.func171 rfl rfl chk171 res171 (by decide +kernel)
def ir172 : IR :=
  (.seq
 (.reg [⟨some 4, .mv (.k (.i .i64 0)), none, 0⟩] [] [] [0, 1] [])
 (.seq
 (.reg [⟨some 7, .mv (.t 0), none, 0⟩,
 ⟨some 8, .call 198 [(.t 7)], none, 1⟩,
 ⟨some 5, .mv (.t 8), none, 2⟩] [] [] [0, 1, 5] [])
 (.seq
 (.reg [⟨some 9, .mv (.t 1), none, 0⟩,
 ⟨some 10, .call 198 [(.t 9)], none, 1⟩,
 ⟨some 6, .mv (.t 10), none, 2⟩] [] [] [0, 1, 5, 6] [])
 (.seq
 (.seq
 (.reg [⟨some 11, .mv (.t 5), none, 0⟩] [] [] [0, 1, 6, 11] [])
 (.cond (.t 11)
 (.seq
 (.seq
 (.reg [⟨some 12, .mv (.t 6), none, 0⟩] [] [] [12] [])
 (.cond (.t 12)
 (.seq
 (.reg [⟨some 4, .mv (.k (.i .i64 0)), none, 0⟩] [] [] [4] [])
 .ret)
 .skip))
 (.seq
 (.reg [⟨some 4, .mv (.k (.i .i64 (-1))), none, 0⟩] [] [] [4] [])
 .ret))
 .skip))
 (.seq
 (.seq
 (.reg [⟨some 13, .mv (.t 6), none, 0⟩] [] [] [0, 1, 13] [])
 (.cond (.t 13)
 (.seq
 (.reg [⟨some 4, .mv (.k (.i .i64 1)), none, 0⟩] [] [] [4] [])
 .ret)
 .skip))
 (.seq
 (.seq
 (.reg [⟨some 14, .mv (.t 0), none, 0⟩,
 ⟨some 15, .mv (.t 1), none, 1⟩,
 ⟨some 16, .bin .lss (.t 14) (.t 15), none, 2⟩] [] [] [0, 1, 16] [])
 (.cond (.t 16)
 (.seq
 (.reg [⟨some 4, .mv (.k (.i .i64 (-1))), none, 0⟩] [] [] [4] [])
 .ret)
 .skip))
 (.seq
 (.seq
 (.reg [⟨some 17, .mv (.t 0), none, 0⟩,
 ⟨some 18, .mv (.t 1), none, 1⟩,
 ⟨some 19, .bin .gtr (.t 17) (.t 18), none, 2⟩] [] [] [19] [])
 (.cond (.t 19)
 (.seq
 (.reg [⟨some 4, .mv (.k (.i .i64 1)), none, 0⟩] [] [] [4] [])
 .ret)
 .skip))
 (.seq
 (.reg [⟨some 4, .mv (.k (.i .i64 0)), none, 0⟩] [] [] [4] [])
 .ret))))))))
def rv172 : List RVar := [.t 4]
theorem chk172 : chk Tryz.prog Tryz.f172.ntmps ir172 (Tryz.f172.body.getD .skip) = true := by decide +kernel
theorem res172 : chkRes Tryz.prog Tryz.f172.results.toList rv172 = true := by decide +kernel
theorem fnr172 : FT Tryz.prog 172 20 ir172 rv172 := fnT Tryz.func172 rfl rfl chk172 res172 (by decide +kernel)
def b173_0 : IR :=
  (.seq
 (.reg [⟨some 16, .bin .lss (.t 15) (.t 14), none, 0⟩] [] [] [0, 1, 6, 7, 14, 15, 16] [12])
 (.seq
 (.cond (.t 16)
 .skip
 (.exit 0))
 (.seq
 (.block 1
 (.seq
 (.reg [⟨some 17, .mv (.t 15), none, 0⟩,
 ⟨some 8, .mv (.t 17), none, 1⟩] [] [] [0, 1, 6, 7, 8, 14, 15] [12])
 (.seq
 (.reg [⟨some 18, .mv (.t 0), none, 0⟩,
 ⟨some 19, .len (.t 18), none, 1⟩,
 ⟨some 20, .bin .sub (.t 19) (.k (.i .i64 1)), none, 2⟩,
 ⟨some 21, .mv (.t 8), none, 3⟩,
 ⟨some 22, .bin .sub (.t 20) (.t 21), none, 4⟩,
 ⟨some 9, .mv (.t 22), none, 5⟩] [] [] [0, 1, 6, 7, 9, 14, 15] [12])
 (.reg [⟨some 24, .mv (.t 6), none, 0⟩,
 ⟨some 25, .mv (.t 9), none, 1⟩,
 ⟨some 26, .mv (.t 7), none, 2⟩,
 ⟨some 27, .mv (.t 0), none, 3⟩,
 ⟨some 28, .mv (.t 9), none, 4⟩,
 ⟨some 29, .ixs 1 (.t 27) (.t 28), none, 5⟩,
 ⟨some 30, .load 1 false (.t 29), none, 6⟩,
 ⟨some 31, .mv (.t 1), none, 7⟩,
 ⟨some 32, .call 199 [(.t 26), (.t 30), (.t 31)], none, 8⟩,
 ⟨some 23, .mv (.t 32), none, 9⟩,
 ⟨some 33, .ext 0 (.t 23), none, 10⟩,
 ⟨some 34, .ext 1 (.t 23), none, 11⟩,
 ⟨some 35, .ixs 1 (.t 24) (.t 25), none, 12⟩,
 ⟨none, .store 1 (.t 35) (.t 33), none, 13⟩,
 ⟨some 7, .mv (.t 34), none, 14⟩] [] [] [0, 1, 6, 7, 14, 15] [12]))))
 (.reg [⟨some 36, .bin .add (.t 15) (.k (.i .i64 1)), none, 0⟩,
 ⟨some 15, .mv (.t 36), none, 1⟩] [] [] [0, 1, 6, 7, 14, 15] [12]))))
theorem wb173_0 : type_of% (@wbEq _ _ b173_0.eq_1 P F st Q) := wbEq b173_0.eq_1
def ir173 : IR :=
  (.seq
 (.reg [⟨some 4, .mv (.k (.sl 1 true [])), none, 0⟩,
 ⟨some 5, .mv (.k (.i .u32 0)), none, 1⟩] [] [] [0, 1] [])
 (.seq
 (.reg [⟨some 10, .mv (.t 0), none, 0⟩,
 ⟨some 11, .len (.t 10), none, 1⟩,
 ⟨some 12, .mk 1 4 [.i .u32 0] (.t 11) (.t 11), none, 2⟩,
 ⟨some 6, .mv (.t 12), none, 3⟩] [] [] [0, 1, 6] [12])
 (.seq
 (.reg [⟨some 7, .mv (.k (.i .u32 0)), none, 0⟩] [] [] [0, 1, 6, 7] [12])
 (.seq
 (.seq
 (.reg [⟨some 13, .mv (.t 0), none, 0⟩,
 ⟨some 14, .len (.t 13), none, 1⟩,
 ⟨some 15, .mv (.k (.i .i64 0)), none, 2⟩] [] [] [0, 1, 6, 7, 14, 15] [12])
 (.block 0
 (.loop [0, 1, 6, 7, 14, 15] [12] b173_0)))
 (.seq
 (.frz 6
 (.reg [⟨some 37, .mv (.t 6), none, 0⟩,
 ⟨some 38, .call 174 [(.t 37)], none, 1⟩,
 ⟨some 39, .mv (.t 7), none, 2⟩,
 ⟨some 4, .mv (.t 38), none, 3⟩,
 ⟨some 5, .mv (.t 39), none, 4⟩] [] [] [4, 5] []))
 .ret)))))
def rv173 : List RVar := [.t 4, .t 5]
theorem chk173 : chk Tryz.prog Tryz.f173.ntmps ir173 (Tryz.f173.body.getD .skip) = true := by decide +kernel
theorem res173 : chkRes Tryz.prog Tryz.f173.results.toList rv173 = true := by decide +kernel
theorem fnr173 : FT Tryz.prog 173 40 ir173 rv173 := fnT Tryz.func173 rfl rfl chk173 res173 (by decide +kernel)
def b174_0 : IR :=
  (.seq
 (.seq
 (.reg [⟨some 6, .mv (.t 3), none, 0⟩,
 ⟨some 7, .bin .gtr (.t 6) (.k (.i .i64 0)), none, 1⟩,
 ⟨some 8, .mv (.t 7), none, 2⟩,
 ⟨some 9, .mv (.t 0), some (8, true), 3⟩,
 ⟨some 10, .mv (.t 3), some (8, true), 4⟩,
 ⟨some 11, .bin .sub (.t 10) (.k (.i .i64 1)), some (8, true), 5⟩,
 ⟨some 12, .ixs 1 (.t 9) (.t 11), some (8, true), 6⟩,
 ⟨some 13, .load 1 false (.t 12), some (8, true), 7⟩,
 ⟨some 14, .bin .eql (.t 13) (.k (.i .u32 0)), some (8, true), 8⟩,
 ⟨some 15, .pick (.t 8) (.t 14) (.k (.b false)), none, 9⟩] [] [] [0, 3, 15] [])
 (.cond (.t 15)
 .skip
 (.exit 0)))
 (.block 1
 (.reg [⟨some 16, .mv (.t 3), none, 0⟩,
 ⟨some 17, .bin .sub (.t 16) (.k (.i .i64 1)), none, 1⟩,
 ⟨some 3, .mv (.t 17), none, 2⟩] [] [] [0, 3] [])))
theorem wb174_0 : type_of% (@wbEq _ _ b174_0.eq_1 P F st Q) := wbEq b174_0.eq_1
def ir174 : IR :=
  (.seq
 (.reg [⟨some 2, .mv (.k (.sl 1 true [])), none, 0⟩] [] [] [0] [])
 (.seq
 (.reg [⟨some 4, .mv (.t 0), none, 0⟩,
 ⟨some 5, .len (.t 4), none, 1⟩,
 ⟨some 3, .mv (.t 5), none, 2⟩] [] [] [0, 3] [])
 (.seq
 (.block 0
 (.loop [0, 3] [] b174_0))
 (.seq
 (.reg [⟨some 18, .mv (.t 0), none, 0⟩,
 ⟨some 19, .mv (.t 3), none, 1⟩,
 ⟨some 20, .mv (.t 3), none, 2⟩,
 ⟨some 21, .slc 1 (.t 18) none (some (.t 19)) (some (.t 20)), none, 3⟩,
 ⟨some 2, .mv (.t 21), none, 4⟩] [] [] [2] [])
 .ret))))
def rv174 : List RVar := [.t 2]
theorem chk174 : chk Tryz.prog Tryz.f174.ntmps ir174 (Tryz.f174.body.getD .skip) = true := by decide +kernel
theorem res174 : chkRes Tryz.prog Tryz.f174.results.toList rv174 = true := by decide +kernel
theorem fnr174 : FT Tryz.prog 174 22 ir174 rv174 := fnT Tryz.func174 rfl rfl chk174 res174 (by decide +kernel)
def ir175 : IR :=
  (.seq
 (.reg [⟨some 2, .mv (.k (.i .i64 0)), none, 0⟩] [] [] [0] [])
 (.seq
 (.reg [⟨some 3, .mv (.t 0), none, 0⟩,
 ⟨some 4, .call 189 [(.t 3)], none, 1⟩,
 ⟨some 5, .bin .sub (.k (.i .i64 32)) (.t 4), none, 2⟩,
 ⟨some 2, .mv (.t 5), none, 3⟩] [] [] [2] [])
 .ret))
def rv175 : List RVar := [.t 2]
theorem chk175 : chk Tryz.prog Tryz.f175.ntmps ir175 (Tryz.f175.body.getD .skip) = true := by decide +kernel
theorem res175 : chkRes Tryz.prog Tryz.f175.results.toList rv175 = true := by decide +kernel
theorem fnr175 : FT Tryz.prog 175 6 ir175 rv175 := fnT Tryz.func175 rfl rfl chk175 res175 (by decide +kernel)
def b176_0 : IR :=
  (.seq
 (.reg [⟨some 16, .bin .lss (.t 15) (.t 14), none, 0⟩] [] [] [1, 5, 13, 14, 15, 16] [12])
 (.seq
 (.cond (.t 16)
 .skip
 (.exit 0))
 (.seq
 (.block 1
 (.seq
 (.reg [⟨some 17, .mv (.t 15), none, 0⟩,
 ⟨some 18, .ixs 1 (.t 13) (.t 15), none, 1⟩,
 ⟨some 19, .load 1 false (.t 18), none, 2⟩,
 ⟨some 6, .mv (.t 17), none, 3⟩,
 ⟨some 7, .mv (.t 19), none, 4⟩] [] [] [1, 5, 6, 7, 13, 14, 15] [12])
 (.seq
 (.reg [⟨some 20, .mv (.t 7), none, 0⟩,
 ⟨some 21, .conv .u64 (.t 20), none, 1⟩,
 ⟨some 22, .mv (.t 1), none, 2⟩,
 ⟨some 23, .bin .shl (.t 21) (.t 22), none, 3⟩,
 ⟨some 8, .mv (.t 23), none, 4⟩] [] [] [1, 5, 6, 8, 13, 14, 15] [12])
 (.seq
 (.reg [⟨some 24, .mv (.t 5), none, 0⟩,
 ⟨some 25, .mv (.t 6), none, 1⟩,
 ⟨some 26, .ixs 1 (.t 24) (.t 25), none, 2⟩,
 ⟨some 27, .load 1 false (.t 26), none, 3⟩,
 ⟨some 28, .mv (.t 8), none, 4⟩,
 ⟨some 29, .conv .u32 (.t 28), none, 5⟩,
 ⟨some 30, .bin .or (.t 27) (.t 29), none, 6⟩,
 ⟨some 31, .ixs 1 (.t 24) (.t 25), none, 7⟩,
 ⟨none, .store 1 (.t 31) (.t 30), none, 8⟩] [] [] [1, 5, 6, 8, 13, 14, 15] [12])
 (.reg [⟨some 32, .mv (.t 5), none, 0⟩,
 ⟨some 33, .mv (.t 6), none, 1⟩,
 ⟨some 34, .bin .add (.t 33) (.k (.i .i64 1)), none, 2⟩,
 ⟨some 35, .mv (.t 8), none, 3⟩,
 ⟨some 36, .bin .shr (.t 35) (.k (.i .u64 32)), none, 4⟩,
 ⟨some 37, .conv .u32 (.t 36), none, 5⟩,
 ⟨some 38, .ixs 1 (.t 32) (.t 34), none, 6⟩,
 ⟨none, .store 1 (.t 38) (.t 37), none, 7⟩] [] [] [1, 5, 13, 14, 15] [12])))))
 (.reg [⟨some 39, .bin .add (.t 15) (.k (.i .i64 1)), none, 0⟩,
 ⟨some 15, .mv (.t 39), none, 1⟩] [] [] [1, 5, 13, 14, 15] [12]))))
theorem wb176_0 : type_of% (@wbEq _ _ b176_0.eq_1 P F st Q) := wbEq b176_0.eq_1
def ir176 : IR :=
  (.seq
 (.reg [⟨some 4, .mv (.k (.sl 1 true [])), none, 0⟩] [] [] [0, 1] [])
 (.seq
 (.reg [⟨some 9, .mv (.t 0), none, 0⟩,
 ⟨some 10, .len (.t 9), none, 1⟩,
 ⟨some 11, .bin .add (.t 10) (.k (.i .i64 1)), none, 2⟩,
 ⟨some 12, .mk 1 4 [.i .u32 0] (.t 11) (.t 11), none, 3⟩,
 ⟨some 5, .mv (.t 12), none, 4⟩] [] [] [0, 1, 5] [12])
 (.seq
 (.seq
 (.reg [⟨some 13, .mv (.t 0), none, 0⟩,
 ⟨some 14, .len (.t 13), none, 1⟩,
 ⟨some 15, .mv (.k (.i .i64 0)), none, 2⟩] [] [] [1, 5, 13, 14, 15] [12])
 (.block 0
 (.loop [1, 5, 13, 14, 15] [12] b176_0)))
 (.seq
 (.reg [⟨some 40, .mv (.t 5), none, 0⟩,
 ⟨some 4, .mv (.t 40), none, 1⟩] [] [] [4] [12])
 .ret))))
def rv176 : List RVar := [.t 4]
theorem chk176 : chk Tryz.prog Tryz.f176.ntmps ir176 (Tryz.f176.body.getD .skip) = true := by decide +kernel
theorem res176 : chkRes Tryz.prog Tryz.f176.results.toList rv176 = true := by decide +kernel
theorem fnn176 {args : List D} {sz : Nat} {es : List (List D)} (hlen : args.length ≤ 41) (hd : nrLL es = true)
    (hw : ∀ F out, wp Tryz.prog F ir176 { r := argsR args, own := fun _ => none, out := out, nx := 0 } (fun e st' => (match e with | .exit _ => False | _ => True) ∧ (∃ d, resAll (st'.look F) st'.r rv176 = some d ∧ ∃ s z, d = .w (F, s) z sz 0 es.length ∧ st'.own s = some (z, .row sz es)) ∧ st'.out = out)) : FnN Tryz.prog 176 args sz es :=
  fnN_intro (fn := Tryz.f176) Tryz.func176 rfl rfl chk176 res176 (Nat.le_trans hlen (by decide +kernel)) hd hw
def ir176f : IR :=
  (.seq
 (.reg [⟨some 4, .mv (.k (.sl 1 true [])), none, 0⟩] [] [] [0, 1] [])
 (.seq
 (.reg [⟨some 9, .mv (.t 0), none, 0⟩,
 ⟨some 10, .len (.t 9), none, 1⟩,
 ⟨some 11, .bin .add (.t 10) (.k (.i .i64 1)), none, 2⟩,
 ⟨some 12, .mk 1 4 [.i .u32 0] (.t 11) (.t 11), none, 3⟩,
 ⟨some 5, .mv (.t 12), none, 4⟩] [] [] [0, 1, 5] [12])
 (.seq
 (.seq
 (.reg [⟨some 13, .mv (.t 0), none, 0⟩,
 ⟨some 14, .len (.t 13), none, 1⟩,
 ⟨some 15, .mv (.k (.i .i64 0)), none, 2⟩] [] [] [1, 5, 13, 14, 15] [12])
 (.block 0
 (.loop [1, 5, 13, 14, 15] [12] b176_0)))
 (.seq
 (.reg [⟨some 40, .mv (.t 5), none, 0⟩,
 ⟨some 4, .mv (.t 40), none, 1⟩] [] [] [4] [12])
 (.frz 4
 .ret)))))
theorem chk176f : chk Tryz.prog Tryz.f176.ntmps ir176f (Tryz.f176.body.getD .skip) = true := by decide +kernel
theorem fnr176f : FT Tryz.prog 176 41 ir176f rv176 := fnT Tryz.func176 rfl rfl chk176f res176 (by decide +kernel)
def b177_0 : IR :=
  (.seq
 (.seq
 (.reg [⟨some 49, .mv (.t 9), none, 0⟩,
 ⟨some 50, .bin .leq (.t 49) (.k (.i .u64 4294967295)), none, 1⟩,
 ⟨some 51, .mv (.t 50), none, 2⟩,
 ⟨some 52, .mv (.t 6), some (51, true), 3⟩,
 ⟨some 53, .mv (.t 1), some (51, true), 4⟩,
 ⟨some 54, .mv (.t 5), some (51, true), 5⟩,
 ⟨some 55, .bin .sub (.t 54) (.k (.i .i64 2)), some (51, true), 6⟩,
 ⟨some 56, .ixs 1 (.t 53) (.t 55), some (51, true), 7⟩,
 ⟨some 57, .load 1 false (.t 56), some (51, true), 8⟩,
 ⟨some 58, .conv .u64 (.t 57), some (51, true), 9⟩,
 ⟨some 59, .bin .mul (.t 52) (.t 58), some (51, true), 10⟩,
 ⟨some 60, .mv (.t 9), some (51, true), 11⟩,
 ⟨some 61, .bin .shl (.t 60) (.k (.i .u64 32)), some (51, true), 12⟩,
 ⟨some 62, .mv (.t 0), some (51, true), 13⟩,
 ⟨some 63, .mv (.t 5), some (51, true), 14⟩,
 ⟨some 64, .bin .sub (.t 63) (.k (.i .i64 2)), some (51, true), 15⟩,
 ⟨some 65, .ixs 1 (.t 62) (.t 64), some (51, true), 16⟩,
 ⟨some 66, .load 1 false (.t 65), some (51, true), 17⟩,
 ⟨some 67, .conv .u64 (.t 66), some (51, true), 18⟩,
 ⟨some 68, .bin .or (.t 61) (.t 67), some (51, true), 19⟩,
 ⟨some 69, .bin .gtr (.t 59) (.t 68), some (51, true), 20⟩,
 ⟨some 70, .pick (.t 51) (.t 69) (.k (.b false)), none, 21⟩] [] [0, 1, 3, 7, 7, 7, 39, 119, 247, 503, 1023, 7, 2055, 7, 7, 16391, 57351, 122887, 253959, 522247, 1048575, 2097151] [0, 1, 5, 6, 9, 70] [])
 (.cond (.t 70)
 .skip
 (.exit 0)))
 (.seq
 (.block 1
 (.reg [⟨some 79, .mv (.t 6), none, 0⟩,
 ⟨some 80, .bin .sub (.t 79) (.k (.i .u64 1)), none, 1⟩,
 ⟨some 6, .mv (.t 80), none, 2⟩] [] [] [0, 1, 5, 6, 9] []))
 (.reg [⟨some 71, .mv (.t 9), none, 0⟩,
 ⟨some 72, .mv (.t 1), none, 1⟩,
 ⟨some 73, .mv (.t 5), none, 2⟩,
 ⟨some 74, .bin .sub (.t 73) (.k (.i .i64 1)), none, 3⟩,
 ⟨some 75, .ixs 1 (.t 72) (.t 74), none, 4⟩,
 ⟨some 76, .load 1 false (.t 75), none, 5⟩,
 ⟨some 77, .conv .u64 (.t 76), none, 6⟩,
 ⟨some 78, .bin .add (.t 71) (.t 77), none, 7⟩,
 ⟨some 9, .mv (.t 78), none, 8⟩] [] [] [0, 1, 5, 6, 9] [])))
theorem wb177_0 : type_of% (@wbEq _ _ b177_0.eq_1 P F st Q) := wbEq b177_0.eq_1
def b177_1 : IR :=
  (.seq
 (.reg [⟨some 84, .bin .lss (.t 83) (.t 82), none, 0⟩] [] [] [0, 1, 6, 10, 11, 82, 83, 84] [])
 (.seq
 (.cond (.t 84)
 .skip
 (.exit 2))
 (.seq
 (.block 3
 (.seq
 (.reg [⟨some 85, .mv (.t 83), none, 0⟩,
 ⟨some 12, .mv (.t 85), none, 1⟩] [] [] [0, 1, 6, 10, 11, 12, 82, 83] [])
 (.seq
 (.reg [⟨some 86, .mv (.t 10), none, 0⟩,
 ⟨some 87, .mv (.t 6), none, 1⟩,
 ⟨some 88, .mv (.t 1), none, 2⟩,
 ⟨some 89, .mv (.t 12), none, 3⟩,
 ⟨some 90, .call 192 [(.t 88), (.t 89)], none, 4⟩,
 ⟨some 91, .conv .u64 (.t 90), none, 5⟩,
 ⟨some 92, .bin .mul (.t 87) (.t 91), none, 6⟩,
 ⟨some 93, .bin .add (.t 86) (.t 92), none, 7⟩,
 ⟨some 10, .mv (.t 93), none, 8⟩] [] [] [0, 1, 6, 10, 11, 12, 82, 83] [])
 (.seq
 (.reg [⟨some 95, .mv (.t 0), none, 0⟩,
 ⟨some 96, .mv (.t 12), none, 1⟩,
 ⟨some 97, .mv (.t 0), none, 2⟩,
 ⟨some 98, .mv (.t 12), none, 3⟩,
 ⟨some 99, .ixs 1 (.t 97) (.t 98), none, 4⟩,
 ⟨some 100, .load 1 false (.t 99), none, 5⟩,
 ⟨some 101, .mv (.t 10), none, 6⟩,
 ⟨some 102, .conv .u32 (.t 101), none, 7⟩,
 ⟨some 103, .mv (.t 11), none, 8⟩,
 ⟨some 104, .call 193 [(.t 100), (.t 102), (.t 103)], none, 9⟩,
 ⟨some 94, .mv (.t 104), none, 10⟩,
 ⟨some 105, .ext 0 (.t 94), none, 11⟩,
 ⟨some 106, .ext 1 (.t 94), none, 12⟩,
 ⟨some 107, .ixs 1 (.t 95) (.t 96), none, 13⟩,
 ⟨none, .store 1 (.t 107) (.t 105), none, 14⟩,
 ⟨some 11, .mv (.t 106), none, 15⟩] [] [] [0, 1, 6, 10, 11, 82, 83] [])
 (.reg [⟨some 108, .mv (.t 10), none, 0⟩,
 ⟨some 109, .bin .shr (.t 108) (.k (.i .u64 32)), none, 1⟩,
 ⟨some 10, .mv (.t 109), none, 2⟩] [] [] [0, 1, 6, 10, 11, 82, 83] [])))))
 (.reg [⟨some 110, .bin .add (.t 83) (.k (.i .i64 1)), none, 0⟩,
 ⟨some 83, .mv (.t 110), none, 1⟩] [] [] [0, 1, 6, 10, 11, 82, 83] []))))
theorem wb177_1 : type_of% (@wbEq _ _ b177_1.eq_1 P F st Q) := wbEq b177_1.eq_1
def b177_2 : IR :=
  (.seq
 (.reg [⟨some 118, .bin .lss (.t 117) (.t 116), none, 0⟩] [] [] [0, 1, 6, 11, 13, 116, 117, 118] [])
 (.seq
 (.cond (.t 118)
 .skip
 (.exit 6))
 (.seq
 (.block 7
 (.seq
 (.reg [⟨some 119, .mv (.t 117), none, 0⟩,
 ⟨some 14, .mv (.t 119), none, 1⟩] [] [] [0, 1, 6, 11, 13, 14, 116, 117] [])
 (.reg [⟨some 121, .mv (.t 0), none, 0⟩,
 ⟨some 122, .mv (.t 14), none, 1⟩,
 ⟨some 123, .mv (.t 0), none, 2⟩,
 ⟨some 124, .mv (.t 14), none, 3⟩,
 ⟨some 125, .ixs 1 (.t 123) (.t 124), none, 4⟩,
 ⟨some 126, .load 1 false (.t 125), none, 5⟩,
 ⟨some 127, .mv (.t 1), none, 6⟩,
 ⟨some 128, .mv (.t 14), none, 7⟩,
 ⟨some 129, .call 192 [(.t 127), (.t 128)], none, 8⟩,
 ⟨some 130, .mv (.t 13), none, 9⟩,
 ⟨some 131, .call 191 [(.t 126), (.t 129), (.t 130)], none, 10⟩,
 ⟨some 120, .mv (.t 131), none, 11⟩,
 ⟨some 132, .ext 0 (.t 120), none, 12⟩,
 ⟨some 133, .ext 1 (.t 120), none, 13⟩,
 ⟨some 134, .ixs 1 (.t 121) (.t 122), none, 14⟩,
 ⟨none, .store 1 (.t 134) (.t 132), none, 15⟩,
 ⟨some 13, .mv (.t 133), none, 16⟩] [] [0, 0, 0, 0, 12, 28, 0, 0, 192, 0, 1020, 2044, 4092, 4092, 8191, 24575, 65535] [0, 1, 6, 11, 13, 116, 117] [])))
 (.reg [⟨some 135, .bin .add (.t 117) (.k (.i .i64 1)), none, 0⟩,
 ⟨some 117, .mv (.t 135), none, 1⟩] [] [] [0, 1, 6, 11, 13, 116, 117] []))))
theorem wb177_2 : type_of% (@wbEq _ _ b177_2.eq_1 P F st Q) := wbEq b177_2.eq_1
def b177_3 : IR :=
  (.seq
 (.seq
 (.reg [⟨some 111, .mv (.t 11), none, 0⟩,
 ⟨some 112, .bin .gtr (.t 111) (.k (.i .u32 0)), none, 1⟩] [] [] [0, 1, 6, 11, 112] [])
 (.cond (.t 112)
 .skip
 (.exit 4)))
 (.block 5
 (.seq
 (.reg [⟨some 113, .mv (.t 6), none, 0⟩,
 ⟨some 114, .bin .sub (.t 113) (.k (.i .u64 1)), none, 1⟩,
 ⟨some 6, .mv (.t 114), none, 2⟩] [] [] [0, 1, 6, 11] [])
 (.seq
 (.reg [⟨some 13, .mv (.k (.i .u32 0)), none, 0⟩] [] [] [0, 1, 6, 11, 13] [])
 (.seq
 (.seq
 (.reg [⟨some 115, .mv (.t 0), none, 0⟩,
 ⟨some 116, .len (.t 115), none, 1⟩,
 ⟨some 117, .mv (.k (.i .i64 0)), none, 2⟩] [] [] [0, 1, 6, 11, 13, 116, 117] [])
 (.block 6
 (.loop [0, 1, 6, 11, 13, 116, 117] [] b177_2)))
 (.reg [⟨some 136, .mv (.t 11), none, 0⟩,
 ⟨some 137, .mv (.t 13), none, 1⟩,
 ⟨some 138, .bin .sub (.t 136) (.t 137), none, 2⟩,
 ⟨some 11, .mv (.t 138), none, 3⟩] [] [] [0, 1, 6, 11] []))))))
theorem wb177_3 : type_of% (@wbEq _ _ b177_3.eq_1 P F st Q) := wbEq b177_3.eq_1
def ir177 : IR :=
  (.seq
 (.reg [⟨some 4, .mv (.k (.i .u32 0)), none, 0⟩] [] [] [0, 1] [])
 (.seq
 (.reg [⟨some 15, .mv (.t 1), none, 0⟩,
 ⟨some 16, .len (.t 15), none, 1⟩,
 ⟨some 5, .mv (.t 16), none, 2⟩] [] [] [0, 1, 5] [])
 (.seq
 (.reg [⟨some 6, .mv (.k (.i .u64 4294967295)), none, 0⟩] [] [] [0, 1, 5, 6] [])
 (.seq
 (.seq
 (.reg [⟨some 17, .mv (.t 0), none, 0⟩,
 ⟨some 18, .mv (.t 5), none, 1⟩,
 ⟨some 19, .ixs 1 (.t 17) (.t 18), none, 2⟩,
 ⟨some 20, .load 1 false (.t 19), none, 3⟩,
 ⟨some 21, .mv (.t 1), none, 4⟩,
 ⟨some 22, .mv (.t 5), none, 5⟩,
 ⟨some 23, .bin .sub (.t 22) (.k (.i .i64 1)), none, 6⟩,
 ⟨some 24, .ixs 1 (.t 21) (.t 23), none, 7⟩,
 ⟨some 25, .load 1 false (.t 24), none, 8⟩,
 ⟨some 26, .bin .lss (.t 20) (.t 25), none, 9⟩] [] [0, 0, 3, 7, 0, 0, 32, 112, 240, 511] [0, 1, 5, 6, 26] [])
 (.cond (.t 26)
 (.seq
 (.reg [⟨some 28, .mv (.t 0), none, 0⟩,
 ⟨some 29, .mv (.t 5), none, 1⟩,
 ⟨some 30, .ixs 1 (.t 28) (.t 29), none, 2⟩,
 ⟨some 31, .load 1 false (.t 30), none, 3⟩,
 ⟨some 32, .mv (.t 0), none, 4⟩,
 ⟨some 33, .mv (.t 5), none, 5⟩,
 ⟨some 34, .bin .sub (.t 33) (.k (.i .i64 1)), none, 6⟩,
 ⟨some 35, .ixs 1 (.t 32) (.t 34), none, 7⟩,
 ⟨some 36, .load 1 false (.t 35), none, 8⟩,
 ⟨some 37, .mv (.t 1), none, 9⟩,
 ⟨some 38, .mv (.t 5), none, 10⟩,
 ⟨some 39, .bin .sub (.t 38) (.k (.i .i64 1)), none, 11⟩,
 ⟨some 40, .ixs 1 (.t 37) (.t 39), none, 12⟩,
 ⟨some 41, .load 1 false (.t 40), none, 13⟩,
 ⟨some 42, .call 199 [(.t 31), (.t 36), (.t 41)], none, 14⟩,
 ⟨some 27, .mv (.t 42), none, 15⟩,
 ⟨some 43, .ext 0 (.t 27), none, 16⟩,
 ⟨some 44, .ext 1 (.t 27), none, 17⟩,
 ⟨some 7, .mv (.t 43), none, 18⟩,
 ⟨some 8, .mv (.t 44), none, 19⟩] [] [0, 0, 3, 7, 0, 0, 32, 112, 240, 0, 0, 1024, 3584, 7680, 16383, 32767, 65535, 65535, 131071, 524287] [0, 1, 5, 7, 8] [])
 (.seq
 (.reg [⟨some 45, .mv (.t 8), none, 0⟩,
 ⟨some 46, .conv .u64 (.t 45), none, 1⟩,
 ⟨some 9, .mv (.t 46), none, 2⟩] [] [] [0, 1, 5, 7, 9] [])
 (.seq
 (.reg [⟨some 47, .mv (.t 7), none, 0⟩,
 ⟨some 48, .conv .u64 (.t 47), none, 1⟩,
 ⟨some 6, .mv (.t 48), none, 2⟩] [] [] [0, 1, 5, 6, 9] [])
 (.block 0
 (.loop [0, 1, 5, 6, 9] [] b177_0)))))
 .skip))
 (.seq
 (.reg [⟨some 10, .mv (.k (.i .u64 0)), none, 0⟩] [] [] [0, 1, 6, 10] [])
 (.seq
 (.reg [⟨some 11, .mv (.k (.i .u32 0)), none, 0⟩] [] [] [0, 1, 6, 10, 11] [])
 (.seq
 (.seq
 (.reg [⟨some 81, .mv (.t 0), none, 0⟩,
 ⟨some 82, .len (.t 81), none, 1⟩,
 ⟨some 83, .mv (.k (.i .i64 0)), none, 2⟩] [] [] [0, 1, 6, 10, 11, 82, 83] [])
 (.block 2
 (.loop [0, 1, 6, 10, 11, 82, 83] [] b177_1)))
 (.seq
 (.block 4
 (.loop [0, 1, 6, 11] [] b177_3))
 (.seq
 (.reg [⟨some 139, .mv (.t 6), none, 0⟩,
 ⟨some 140, .conv .u32 (.t 139), none, 1⟩,
 ⟨some 4, .mv (.t 140), none, 2⟩] [] [] [4] [])
 .ret)))))))))
def rv177 : List RVar := [.t 4]
theorem chk177 : chk Tryz.prog Tryz.f177.ntmps ir177 (Tryz.f177.body.getD .skip) = true := by decide +kernel
theorem res177 : chkRes Tryz.prog Tryz.f177.results.toList rv177 = true := by decide +kernel
theorem fnr177 : FT Tryz.prog 177 141 ir177 rv177 := fnT Tryz.func177 rfl rfl chk177 res177 (by decide +kernel)
def b178_0 : IR :=
  (.seq
 (.reg [⟨some 13, .bin .lss (.t 12) (.t 11), none, 0⟩] [] [] [0, 1, 5, 11, 12, 13] [9])
 (.seq
 (.cond (.t 13)
 .skip
 (.exit 0))
 (.seq
 (.block 1
 (.seq
 (.reg [⟨some 14, .mv (.t 12), none, 0⟩,
 ⟨some 6, .mv (.t 14), none, 1⟩] [] [] [0, 1, 5, 6, 11, 12] [9])
 (.reg [⟨some 15, .mv (.t 5), none, 0⟩,
 ⟨some 16, .mv (.t 6), none, 1⟩,
 ⟨some 17, .mv (.t 0), none, 2⟩,
 ⟨some 18, .mv (.t 6), none, 3⟩,
 ⟨some 19, .bin .add (.t 18) (.k (.i .i64 1)), none, 4⟩,
 ⟨some 20, .call 192 [(.t 17), (.t 19)], none, 5⟩,
 ⟨some 21, .conv .u64 (.t 20), none, 6⟩,
 ⟨some 22, .bin .shl (.t 21) (.k (.i .u64 32)), none, 7⟩,
 ⟨some 23, .mv (.t 0), none, 8⟩,
 ⟨some 24, .mv (.t 6), none, 9⟩,
 ⟨some 25, .ixs 1 (.t 23) (.t 24), none, 10⟩,
 ⟨some 26, .load 1 false (.t 25), none, 11⟩,
 ⟨some 27, .conv .u64 (.t 26), none, 12⟩,
 ⟨some 28, .bin .or (.t 22) (.t 27), none, 13⟩,
 ⟨some 29, .mv (.t 1), none, 14⟩,
 ⟨some 30, .bin .shr (.t 28) (.t 29), none, 15⟩,
 ⟨some 31, .conv .u32 (.t 30), none, 16⟩,
 ⟨some 32, .ixs 1 (.t 15) (.t 16), none, 17⟩,
 ⟨none, .store 1 (.t 32) (.t 31), none, 18⟩] [] [0, 0, 0, 0, 8, 28, 60, 124, 0, 0, 768, 1792, 3840, 8188, 0, 32764, 65532, 131071, 262143] [0, 1, 5, 11, 12] [9])))
 (.reg [⟨some 33, .bin .add (.t 12) (.k (.i .i64 1)), none, 0⟩,
 ⟨some 12, .mv (.t 33), none, 1⟩] [] [] [0, 1, 5, 11, 12] [9]))))
theorem wb178_0 : type_of% (@wbEq _ _ b178_0.eq_1 P F st Q) := wbEq b178_0.eq_1
def ir178 : IR :=
  (.seq
 (.reg [⟨some 4, .mv (.k (.sl 1 true [])), none, 0⟩] [] [] [0, 1] [])
 (.seq
 (.reg [⟨some 7, .mv (.t 0), none, 0⟩,
 ⟨some 8, .len (.t 7), none, 1⟩,
 ⟨some 9, .mk 1 4 [.i .u32 0] (.t 8) (.t 8), none, 2⟩,
 ⟨some 5, .mv (.t 9), none, 3⟩] [] [] [0, 1, 5] [9])
 (.seq
 (.seq
 (.reg [⟨some 10, .mv (.t 0), none, 0⟩,
 ⟨some 11, .len (.t 10), none, 1⟩,
 ⟨some 12, .mv (.k (.i .i64 0)), none, 2⟩] [] [] [0, 1, 5, 11, 12] [9])
 (.block 0
 (.loop [0, 1, 5, 11, 12] [9] b178_0)))
 (.seq
 (.frz 5
 (.reg [⟨some 34, .mv (.t 5), none, 0⟩,
 ⟨some 35, .call 174 [(.t 34)], none, 1⟩,
 ⟨some 4, .mv (.t 35), none, 2⟩] [] [] [4] []))
 .ret))))
def rv178 : List RVar := [.t 4]
theorem chk178 : chk Tryz.prog Tryz.f178.ntmps ir178 (Tryz.f178.body.getD .skip) = true := by decide +kernel
theorem res178 : chkRes Tryz.prog Tryz.f178.results.toList rv178 = true := by decide +kernel
theorem fnr178 : FT Tryz.prog 178 36 ir178 rv178 := fnT Tryz.func178 rfl rfl chk178 res178 (by decide +kernel)
def ir179 : IR :=
  (.seq
 (.reg [⟨some 2, .mv (.k (.sl 1 true [])), none, 0⟩] [] [] [0] [])
 (.seq
 (.seq
 (.reg [⟨some 3, .mv (.t 0), none, 0⟩,
 ⟨some 4, .nilq false (.t 3), none, 1⟩] [] [] [0, 4] [])
 (.cond (.t 4)
 (.seq
 (.reg [⟨some 2, .mv (.k (.sl 1 true [])), none, 0⟩] [] [] [2] [7])
 (.frz 2
 .ret))
 .skip))
 (.seq
 (.reg [⟨some 5, .bsl 1 [], none, 0⟩,
 ⟨some 6, .mv (.t 0), none, 1⟩,
 ⟨some 7, .app 1 4 (.t 5) (.t 6), none, 2⟩,
 ⟨some 2, .mv (.t 7), none, 3⟩] [] [] [2] [7])
 (.frz 2
 .ret))))
def rv179 : List RVar := [.t 2]
theorem chk179 : chk Tryz.prog Tryz.f179.ntmps ir179 (Tryz.f179.body.getD .skip) = true := by decide +kernel
theorem res179 : chkRes Tryz.prog Tryz.f179.results.toList rv179 = true := by decide +kernel
theorem fnr179 : FT Tryz.prog 179 8 ir179 rv179 := fnT Tryz.func179 rfl rfl chk179 res179 (by decide +kernel)
def b180_0 : IR :=
  (.seq
 (.reg [⟨some 27, .bin .lss (.t 26) (.t 25), none, 0⟩] [] [] [1, 5, 6, 7, 8, 17, 18, 19, 24, 25, 26, 27] [16])
 (.seq
 (.cond (.t 27)
 .skip
 (.exit 2))
 (.seq
 (.block 3
 (.seq
 (.reg [⟨some 28, .mv (.t 26), none, 0⟩,
 ⟨some 29, .ixs 1 (.t 24) (.t 26), none, 1⟩,
 ⟨some 30, .load 1 false (.t 29), none, 2⟩,
 ⟨some 9, .mv (.t 28), none, 3⟩,
 ⟨some 10, .mv (.t 30), none, 4⟩] [] [] [1, 5, 6, 7, 8, 9, 10, 17, 18, 19, 24, 25, 26] [16])
 (.seq
 (.reg [⟨some 31, .mv (.t 8), none, 0⟩,
 ⟨some 32, .mv (.t 7), none, 1⟩,
 ⟨some 33, .conv .u64 (.t 32), none, 2⟩,
 ⟨some 34, .mv (.t 10), none, 3⟩,
 ⟨some 35, .conv .u64 (.t 34), none, 4⟩,
 ⟨some 36, .bin .mul (.t 33) (.t 35), none, 5⟩,
 ⟨some 37, .mv (.t 5), none, 6⟩,
 ⟨some 38, .mv (.t 6), none, 7⟩,
 ⟨some 39, .mv (.t 9), none, 8⟩,
 ⟨some 40, .bin .add (.t 38) (.t 39), none, 9⟩,
 ⟨some 41, .ixs 1 (.t 37) (.t 40), none, 10⟩,
 ⟨some 42, .load 1 false (.t 41), none, 11⟩,
 ⟨some 43, .conv .u64 (.t 42), none, 12⟩,
 ⟨some 44, .bin .add (.t 36) (.t 43), none, 13⟩,
 ⟨some 45, .bin .add (.t 31) (.t 44), none, 14⟩,
 ⟨some 8, .mv (.t 45), none, 15⟩] [] [] [1, 5, 6, 7, 8, 9, 17, 18, 19, 24, 25, 26] [16])
 (.seq
 (.reg [⟨some 46, .mv (.t 5), none, 0⟩,
 ⟨some 47, .mv (.t 6), none, 1⟩,
 ⟨some 48, .mv (.t 9), none, 2⟩,
 ⟨some 49, .bin .add (.t 47) (.t 48), none, 3⟩,
 ⟨some 50, .mv (.t 8), none, 4⟩,
 ⟨some 51, .conv .u32 (.t 50), none, 5⟩,
 ⟨some 52, .ixs 1 (.t 46) (.t 49), none, 6⟩,
 ⟨none, .store 1 (.t 52) (.t 51), none, 7⟩] [] [] [1, 5, 6, 7, 8, 17, 18, 19, 24, 25, 26] [16])
 (.reg [⟨some 53, .mv (.t 8), none, 0⟩,
 ⟨some 54, .bin .shr (.t 53) (.k (.i .u64 32)), none, 1⟩,
 ⟨some 8, .mv (.t 54), none, 2⟩] [] [] [1, 5, 6, 7, 8, 17, 18, 19, 24, 25, 26] [16])))))
 (.reg [⟨some 55, .bin .add (.t 26) (.k (.i .i64 1)), none, 0⟩,
 ⟨some 26, .mv (.t 55), none, 1⟩] [] [] [1, 5, 6, 7, 8, 17, 18, 19, 24, 25, 26] [16]))))
theorem wb180_0 : type_of% (@wbEq _ _ b180_0.eq_1 P F st Q) := wbEq b180_0.eq_1
def b180_1 : IR :=
  (.seq
 (.reg [⟨some 20, .bin .lss (.t 19) (.t 18), none, 0⟩] [] [] [1, 5, 17, 18, 19, 20] [16])
 (.seq
 (.cond (.t 20)
 .skip
 (.exit 0))
 (.seq
 (.block 1
 (.seq
 (.reg [⟨some 21, .mv (.t 19), none, 0⟩,
 ⟨some 22, .ixs 1 (.t 17) (.t 19), none, 1⟩,
 ⟨some 23, .load 1 false (.t 22), none, 2⟩,
 ⟨some 6, .mv (.t 21), none, 3⟩,
 ⟨some 7, .mv (.t 23), none, 4⟩] [] [] [1, 5, 6, 7, 17, 18, 19] [16])
 (.seq
 (.reg [⟨some 8, .mv (.k (.i .u64 0)), none, 0⟩] [] [] [1, 5, 6, 7, 8, 17, 18, 19] [16])
 (.seq
 (.seq
 (.reg [⟨some 24, .mv (.t 1), none, 0⟩,
 ⟨some 25, .len (.t 24), none, 1⟩,
 ⟨some 26, .mv (.k (.i .i64 0)), none, 2⟩] [] [] [1, 5, 6, 7, 8, 17, 18, 19, 24, 25, 26] [16])
 (.block 2
 (.loop [1, 5, 6, 7, 8, 17, 18, 19, 24, 25, 26] [16] b180_0)))
 (.reg [⟨some 56, .mv (.t 5), none, 0⟩,
 ⟨some 57, .mv (.t 6), none, 1⟩,
 ⟨some 58, .mv (.t 1), none, 2⟩,
 ⟨some 59, .len (.t 58), none, 3⟩,
 ⟨some 60, .bin .add (.t 57) (.t 59), none, 4⟩,
 ⟨some 61, .mv (.t 8), none, 5⟩,
 ⟨some 62, .conv .u32 (.t 61), none, 6⟩,
 ⟨some 63, .ixs 1 (.t 56) (.t 60), none, 7⟩,
 ⟨none, .store 1 (.t 63) (.t 62), none, 8⟩] [] [] [1, 5, 17, 18, 19] [16])))))
 (.reg [⟨some 64, .bin .add (.t 19) (.k (.i .i64 1)), none, 0⟩,
 ⟨some 19, .mv (.t 64), none, 1⟩] [] [] [1, 5, 17, 18, 19] [16]))))
theorem wb180_1 : type_of% (@wbEq _ _ b180_1.eq_1 P F st Q) := wbEq b180_1.eq_1
def ir180 : IR :=
  (.seq
 (.reg [⟨some 4, .mv (.k (.sl 1 true [])), none, 0⟩] [] [] [0, 1] [])
 (.seq
 (.reg [⟨some 11, .mv (.t 0), none, 0⟩,
 ⟨some 12, .len (.t 11), none, 1⟩,
 ⟨some 13, .mv (.t 1), none, 2⟩,
 ⟨some 14, .len (.t 13), none, 3⟩,
 ⟨some 15, .bin .add (.t 12) (.t 14), none, 4⟩,
 ⟨some 16, .mk 1 4 [.i .u32 0] (.t 15) (.t 15), none, 5⟩,
 ⟨some 5, .mv (.t 16), none, 6⟩] [] [] [0, 1, 5] [16])
 (.seq
 (.seq
 (.reg [⟨some 17, .mv (.t 0), none, 0⟩,
 ⟨some 18, .len (.t 17), none, 1⟩,
 ⟨some 19, .mv (.k (.i .i64 0)), none, 2⟩] [] [] [1, 5, 17, 18, 19] [16])
 (.block 0
 (.loop [1, 5, 17, 18, 19] [16] b180_1)))
 (.seq
 (.frz 5
 (.reg [⟨some 65, .mv (.t 5), none, 0⟩,
 ⟨some 66, .call 174 [(.t 65)], none, 1⟩,
 ⟨some 4, .mv (.t 66), none, 2⟩] [] [] [4] []))
 .ret))))
def rv180 : List RVar := [.t 4]
theorem chk180 : chk Tryz.prog Tryz.f180.ntmps ir180 (Tryz.f180.body.getD .skip) = true := by decide +kernel
theorem res180 : chkRes Tryz.prog Tryz.f180.results.toList rv180 = true := by decide +kernel
theorem fnr180 : FT Tryz.prog 180 67 ir180 rv180 := fnT Tryz.func180 rfl rfl chk180 res180 (by decide +kernel)
def tb189 : List Nat := [0, 1, 2, 2, 3, 3, 3, 3, 4, 4, 4, 4, 4, 4, 4, 4, 5, 5, 5, 5, 5, 5, 5, 5, 5, 5, 5, 5, 5, 5, 5, 5, 6, 6, 6, 6, 6, 6, 6, 6, 6, 6, 6, 6, 6, 6, 6, 6, 6, 6, 6, 6, 6, 6, 6, 6, 6, 6, 6, 6, 6, 6, 6, 6, 7, 7, 7, 7, 7, 7, 7, 7, 7, 7, 7, 7, 7, 7, 7, 7, 7, 7, 7, 7, 7, 7, 7, 7, 7, 7, 7, 7, 7, 7, 7, 7, 7, 7, 7, 7, 7, 7, 7, 7, 7, 7, 7, 7, 7, 7, 7, 7, 7, 7, 7, 7, 7, 7, 7, 7, 7, 7, 7, 7, 7, 7, 7, 7, 8, 8, 8, 8, 8, 8, 8, 8, 8, 8, 8, 8, 8, 8, 8, 8, 8, 8, 8, 8, 8, 8, 8, 8, 8, 8, 8, 8, 8, 8, 8, 8, 8, 8, 8, 8, 8, 8, 8, 8, 8, 8, 8, 8, 8, 8, 8, 8, 8, 8, 8, 8, 8, 8, 8, 8, 8, 8, 8, 8, 8, 8, 8, 8, 8, 8, 8, 8, 8, 8, 8, 8, 8, 8, 8, 8, 8, 8, 8, 8, 8, 8, 8, 8, 8, 8, 8, 8, 8, 8, 8, 8, 8, 8, 8, 8, 8, 8, 8, 8, 8, 8, 8, 8, 8, 8, 8, 8, 8, 8, 8, 8, 8, 8, 8, 8, 8, 8, 8, 8, 8, 8, 8, 8, 8, 8, 8, 8]
def ir189 : IR :=
  (.seq
 (.reg [⟨some 2, .mv (.k (.i .i64 0)), none, 0⟩] [] [] [0, 2] [])
 (.seq
 (.seq
 (.reg [⟨some 3, .mv (.t 0), none, 0⟩,
 ⟨some 4, .bin .geq (.t 3) (.k (.i .u32 65536)), none, 1⟩] [] [] [0, 2, 4] [])
 (.cond (.t 4)
 (.seq
 (.reg [⟨some 5, .mv (.t 0), none, 0⟩,
 ⟨some 6, .bin .shr (.t 5) (.k (.i .u64 16)), none, 1⟩,
 ⟨some 0, .mv (.t 6), none, 2⟩] [] [] [0] [])
 (.reg [⟨some 2, .mv (.k (.i .i64 16)), none, 0⟩] [] [] [0, 2] []))
 .skip))
 (.seq
 (.seq
 (.reg [⟨some 7, .mv (.t 0), none, 0⟩,
 ⟨some 8, .bin .geq (.t 7) (.k (.i .u32 256)), none, 1⟩] [] [] [0, 2, 8] [])
 (.cond (.t 8)
 (.seq
 (.reg [⟨some 9, .mv (.t 0), none, 0⟩,
 ⟨some 10, .bin .shr (.t 9) (.k (.i .u64 8)), none, 1⟩,
 ⟨some 0, .mv (.t 10), none, 2⟩] [] [] [0, 2] [])
 (.reg [⟨some 11, .mv (.t 2), none, 0⟩,
 ⟨some 12, .bin .add (.t 11) (.k (.i .i64 8)), none, 1⟩,
 ⟨some 2, .mv (.t 12), none, 2⟩] [] [] [0, 2] []))
 .skip))
 (.seq
 (.reg [⟨some 13, .mv (.t 2), none, 0⟩,
 ⟨some 14, .mv (.t 0), none, 1⟩,
 ⟨some 15, .conv .u8 (.t 14), none, 2⟩,
 ⟨some 16, .tab tb189 (.t 15), none, 3⟩,
 ⟨some 17, .conv .i64 (.t 16), none, 4⟩,
 ⟨some 18, .bin .add (.t 13) (.t 17), none, 5⟩,
 ⟨some 2, .mv (.t 18), none, 6⟩] [] [] [2] [])
 .ret))))
def rv189 : List RVar := [.t 2]
theorem chk189 : chk Tryz.prog Tryz.f189.ntmps ir189 (Tryz.f189.body.getD .skip) = true := by decide +kernel
theorem res189 : chkRes Tryz.prog Tryz.f189.results.toList rv189 = true := by decide +kernel
theorem fnr189 : FT Tryz.prog 189 19 ir189 rv189 := fnT Tryz.func189 rfl rfl chk189 res189 (by decide +kernel)
def ir191 : IR :=
  (.seq
 (.reg [⟨some 6, .mv (.k (.i .u32 0)), none, 0⟩,
 ⟨some 7, .mv (.k (.i .u32 0)), none, 1⟩] [] [] [0, 1, 2] [])
 (.seq
 (.reg [⟨some 9, .mv (.t 0), none, 0⟩,
 ⟨some 10, .conv .u64 (.t 9), none, 1⟩,
 ⟨some 11, .mv (.t 1), none, 2⟩,
 ⟨some 12, .conv .u64 (.t 11), none, 3⟩,
 ⟨some 13, .bin .add (.t 10) (.t 12), none, 4⟩,
 ⟨some 14, .mv (.t 2), none, 5⟩,
 ⟨some 15, .conv .u64 (.t 14), none, 6⟩,
 ⟨some 16, .bin .add (.t 13) (.t 15), none, 7⟩,
 ⟨some 8, .mv (.t 16), none, 8⟩] [] [] [8] [])
 (.seq
 (.reg [⟨some 17, .mv (.t 8), none, 0⟩,
 ⟨some 18, .conv .u32 (.t 17), none, 1⟩,
 ⟨some 6, .mv (.t 18), none, 2⟩] [] [] [6, 8] [])
 (.seq
 (.reg [⟨some 19, .mv (.t 8), none, 0⟩,
 ⟨some 20, .bin .shr (.t 19) (.k (.i .u64 32)), none, 1⟩,
 ⟨some 21, .conv .u32 (.t 20), none, 2⟩,
 ⟨some 7, .mv (.t 21), none, 3⟩] [] [] [6, 7] [])
 .ret))))
def rv191 : List RVar := [.t 6, .t 7]
theorem chk191 : chk Tryz.prog Tryz.f191.ntmps ir191 (Tryz.f191.body.getD .skip) = true := by decide +kernel
theorem res191 : chkRes Tryz.prog Tryz.f191.results.toList rv191 = true := by decide +kernel
theorem fnr191 : FT Tryz.prog 191 22 ir191 rv191 := fnT Tryz.func191 rfl rfl chk191 res191 (by decide +kernel)
def ir192 : IR :=
  (.seq
 (.reg [⟨some 4, .mv (.k (.i .u32 0)), none, 0⟩] [] [] [0, 1] [])
 (.seq
 (.seq
 (.reg [⟨some 5, .mv (.t 1), none, 0⟩,
 ⟨some 6, .mv (.t 0), none, 1⟩,
 ⟨some 7, .len (.t 6), none, 2⟩,
 ⟨some 8, .bin .lss (.t 5) (.t 7), none, 3⟩] [] [] [0, 1, 8] [])
 (.cond (.t 8)
 (.seq
 (.reg [⟨some 9, .mv (.t 0), none, 0⟩,
 ⟨some 10, .mv (.t 1), none, 1⟩,
 ⟨some 11, .ixs 1 (.t 9) (.t 10), none, 2⟩,
 ⟨some 12, .load 1 false (.t 11), none, 3⟩,
 ⟨some 4, .mv (.t 12), none, 4⟩] [] [] [4] [])
 .ret)
 .skip))
 (.seq
 (.reg [⟨some 4, .mv (.k (.i .u32 0)), none, 0⟩] [] [] [4] [])
 .ret)))
def rv192 : List RVar := [.t 4]
theorem chk192 : chk Tryz.prog Tryz.f192.ntmps ir192 (Tryz.f192.body.getD .skip) = true := by decide +kernel
theorem res192 : chkRes Tryz.prog Tryz.f192.results.toList rv192 = true := by decide +kernel
theorem fnr192 : FT Tryz.prog 192 13 ir192 rv192 := fnT Tryz.func192 rfl rfl chk192 res192 (by decide +kernel)
def ir193 : IR :=
  (.seq
 (.reg [⟨some 6, .mv (.k (.i .u32 0)), none, 0⟩,
 ⟨some 7, .mv (.k (.i .u32 0)), none, 1⟩] [] [] [0, 1, 2] [])
 (.seq
 (.reg [⟨some 8, .mv (.t 0), none, 0⟩,
 ⟨some 9, .mv (.t 1), none, 1⟩,
 ⟨some 10, .bin .sub (.t 8) (.t 9), none, 2⟩,
 ⟨some 11, .mv (.t 2), none, 3⟩,
 ⟨some 12, .bin .sub (.t 10) (.t 11), none, 4⟩,
 ⟨some 6, .mv (.t 12), none, 5⟩] [] [] [0, 1, 6] [])
 (.seq
 (.reg [⟨some 13, .mv (.t 0), none, 0⟩,
 ⟨some 14, .un .xor (.t 13), none, 1⟩,
 ⟨some 15, .mv (.t 1), none, 2⟩,
 ⟨some 16, .bin .and (.t 14) (.t 15), none, 3⟩,
 ⟨some 17, .mv (.t 0), none, 4⟩,
 ⟨some 18, .mv (.t 1), none, 5⟩,
 ⟨some 19, .bin .xor (.t 17) (.t 18), none, 6⟩,
 ⟨some 20, .un .xor (.t 19), none, 7⟩,
 ⟨some 21, .mv (.t 6), none, 8⟩,
 ⟨some 22, .bin .and (.t 20) (.t 21), none, 9⟩,
 ⟨some 23, .bin .or (.t 16) (.t 22), none, 10⟩,
 ⟨some 24, .bin .shr (.t 23) (.k (.i .u64 31)), none, 11⟩,
 ⟨some 7, .mv (.t 24), none, 12⟩] [] [] [6, 7] [])
 .ret)))
def rv193 : List RVar := [.t 6, .t 7]
theorem chk193 : chk Tryz.prog Tryz.f193.ntmps ir193 (Tryz.f193.body.getD .skip) = true := by decide +kernel
theorem res193 : chkRes Tryz.prog Tryz.f193.results.toList rv193 = true := by decide +kernel
theorem fnr193 : FT Tryz.prog 193 25 ir193 rv193 := fnT Tryz.func193 rfl rfl chk193 res193 (by decide +kernel)
def ir198 : IR :=
  (.seq
 (.reg [⟨some 2, .mv (.k (.b false)), none, 0⟩] [] [] [0] [])
 (.seq
 (.reg [⟨some 3, .mv (.t 0), none, 0⟩,
 ⟨some 4, .mv (.t 0), none, 1⟩,
 ⟨some 5, .bin .neq (.t 3) (.t 4), none, 2⟩,
 ⟨some 2, .mv (.t 5), none, 3⟩] [] [] [2] [])
 .ret))
def rv198 : List RVar := [.t 2]
theorem chk198 : chk Tryz.prog Tryz.f198.ntmps ir198 (Tryz.f198.body.getD .skip) = true := by decide +kernel
theorem res198 : chkRes Tryz.prog Tryz.f198.results.toList rv198 = true := by decide +kernel
theorem fnr198 : FT Tryz.prog 198 6 ir198 rv198 := fnT Tryz.func198 rfl rfl chk198 res198 (by decide +kernel)
def ir199 : IR :=
  (.seq
 (.reg [⟨some 6, .mv (.k (.i .u32 0)), none, 0⟩,
 ⟨some 7, .mv (.k (.i .u32 0)), none, 1⟩] [] [] [0, 1, 2] [])
 (.seq
 (.seq
 (.reg [⟨some 9, .mv (.t 2), none, 0⟩,
 ⟨some 10, .bin .neq (.t 9) (.k (.i .u32 0)), none, 1⟩,
 ⟨some 11, .mv (.t 10), none, 2⟩,
 ⟨some 12, .mv (.t 2), some (11, true), 3⟩,
 ⟨some 13, .mv (.t 0), some (11, true), 4⟩,
 ⟨some 14, .bin .leq (.t 12) (.t 13), some (11, true), 5⟩,
 ⟨some 15, .pick (.t 11) (.t 14) (.k (.b false)), none, 6⟩] [] [] [0, 1, 2, 15] [])
 (.cond (.t 15)
 (.reg [⟨some 16, .load 1 false (.k .u), none, 0⟩,
 ⟨none, .bad, none, 1⟩] [] [] [0, 1, 2] [])
 .skip))
 (.seq
 (.reg [⟨some 17, .mv (.t 0), none, 0⟩,
 ⟨some 18, .conv .u64 (.t 17), none, 1⟩,
 ⟨some 19, .bin .shl (.t 18) (.k (.i .u64 32)), none, 2⟩,
 ⟨some 20, .mv (.t 1), none, 3⟩,
 ⟨some 21, .conv .u64 (.t 20), none, 4⟩,
 ⟨some 22, .bin .or (.t 19) (.t 21), none, 5⟩,
 ⟨some 8, .mv (.t 22), none, 6⟩] [] [] [2, 8] [])
 (.seq
 (.reg [⟨some 23, .mv (.t 8), none, 0⟩,
 ⟨some 24, .mv (.t 2), none, 1⟩,
 ⟨some 25, .conv .u64 (.t 24), none, 2⟩,
 ⟨some 26, .bin .quo (.t 23) (.t 25), none, 3⟩,
 ⟨some 27, .conv .u32 (.t 26), none, 4⟩,
 ⟨some 28, .mv (.t 8), none, 5⟩,
 ⟨some 29, .mv (.t 2), none, 6⟩,
 ⟨some 30, .conv .u64 (.t 29), none, 7⟩,
 ⟨some 31, .bin .rem (.t 28) (.t 30), none, 8⟩,
 ⟨some 32, .conv .u32 (.t 31), none, 9⟩,
 ⟨some 6, .mv (.t 27), none, 10⟩,
 ⟨some 7, .mv (.t 32), none, 11⟩] [] [0, 0, 2, 7, 15, 0, 0, 64, 224, 480, 31, 2047] [6, 7] [])
 .ret))))
def rv199 : List RVar := [.t 6, .t 7]
theorem chk199 : chk Tryz.prog Tryz.f199.ntmps ir199 (Tryz.f199.body.getD .skip) = true := by decide +kernel
theorem res199 : chkRes Tryz.prog Tryz.f199.results.toList rv199 = true := by decide +kernel
theorem fnr199 : FT Tryz.prog 199 33 ir199 rv199 := fnT Tryz.func199 rfl rfl chk199 res199 (by decide +kernel)
def b14_0 : IR :=
  (.seq
 (.reg [⟨some 8, .bin .lss (.t 7) (.t 6), none, 0⟩] [] [] [0, 5, 6, 7, 8] [])
 (.seq
 (.cond (.t 8)
 .skip
 (.exit 0))
 (.seq
 (.block 1
 (.seq
 (.reg [⟨some 9, .mv (.t 7), none, 0⟩,
 ⟨some 10, .ixs 12 (.t 5) (.t 7), none, 1⟩,
 ⟨some 11, .load 12 true (.t 10), none, 2⟩,
 ⟨some 4, .alloc [.b false, .sl 1 true [], .b false, .sl 1 true [], .i .i64 0, .i .i64 0, .i .i64 0, .i .i64 0, .i .i64 0, .i .i64 0, .i .i64 0, .i .i64 0], none, 3⟩,
 ⟨some 3, .mv (.t 9), none, 4⟩,
 ⟨none, .store 12 (.t 4) (.t 11), none, 5⟩] [] [] [0, 3, 4, 5, 6, 7] [4])
 (.seq
 (.seq
 (.reg [⟨some 12, .fld 0 (.t 4), none, 0⟩,
 ⟨some 13, .load 4 true (.t 12), none, 1⟩,
 ⟨some 14, .call 67 [(.t 13)], none, 2⟩,
 ⟨some 15, .un .not (.t 14), none, 3⟩,
 ⟨some 16, .mv (.t 15), none, 4⟩,
 ⟨some 17, .fld 0 (.t 4), some (16, false), 5⟩,
 ⟨some 18, .load 4 true (.t 17), some (16, false), 6⟩,
 ⟨some 19, .call 68 [(.t 18)], some (16, false), 7⟩,
 ⟨some 20, .bin .eql (.t 19) (.k (.i .i64 0)), some (16, false), 8⟩,
 ⟨some 21, .pick (.t 16) (.k (.b true)) (.t 20), none, 9⟩,
 ⟨some 22, .mv (.t 21), none, 10⟩,
 ⟨some 23, .fld 4 (.t 4), some (22, false), 11⟩,
 ⟨some 24, .load 8 true (.t 23), some (22, false), 12⟩,
 ⟨some 25, .call 69 [(.t 24)], some (22, false), 13⟩,
 ⟨some 26, .un .not (.t 25), some (22, false), 14⟩,
 ⟨some 27, .pick (.t 22) (.k (.b true)) (.t 26), none, 15⟩] [] [] [0, 3, 4, 5, 6, 7, 27] [4])
 (.cond (.t 27)
 (.seq
 (.reg [⟨some 2, .mv (.k (.b false)), none, 0⟩] [] [] [2] [])
 .ret)
 .skip))
 (.seq
 (.reg [⟨some 28, .mv (.t 3), none, 0⟩,
 ⟨some 29, .bin .gtr (.t 28) (.k (.i .i64 0)), none, 1⟩,
 ⟨some 30, .mv (.t 29), none, 2⟩,
 ⟨some 31, .mv (.t 0), some (30, true), 3⟩,
 ⟨some 32, .mv (.t 3), some (30, true), 4⟩,
 ⟨some 33, .bin .sub (.t 32) (.k (.i .i64 1)), some (30, true), 5⟩,
 ⟨some 34, .ixs 12 (.t 31) (.t 33), some (30, true), 6⟩,
 ⟨some 35, .fld 4 (.t 34), some (30, true), 7⟩,
 ⟨some 36, .load 8 true (.t 35), some (30, true), 8⟩,
 ⟨some 37, .fld 4 (.t 4), some (30, true), 9⟩,
 ⟨some 38, .load 8 true (.t 37), some (30, true), 10⟩,
 ⟨some 39, .call 70 [(.t 36), (.t 38)], some (30, true), 11⟩,
 ⟨some 40, .bin .leq (.t 39) (.k (.i .i64 0)), some (30, true), 12⟩,
 ⟨some 41, .pick (.t 30) (.t 40) (.k (.b false)), none, 13⟩] [] [0, 1, 3, 7, 7, 23, 63, 127, 255, 7, 519, 2047, 4095, 8191] [0, 5, 6, 7, 41] [])
 (.cond (.t 41)
 (.seq
 (.reg [⟨some 2, .mv (.k (.b false)), none, 0⟩] [] [] [2] [])
 .ret)
 .skip)))))
 (.reg [⟨some 42, .bin .add (.t 7) (.k (.i .i64 1)), none, 0⟩,
 ⟨some 7, .mv (.t 42), none, 1⟩] [] [] [0, 5, 6, 7] []))))
theorem wb14_0 : type_of% (@wbEq _ _ b14_0.eq_1 P F st Q) := wbEq b14_0.eq_1
def ir14 : IR :=
  (.seq
 (.reg [⟨some 2, .mv (.k (.b false)), none, 0⟩] [] [] [0] [])
 (.seq
 (.seq
 (.reg [⟨some 5, .mv (.t 0), none, 0⟩,
 ⟨some 6, .len (.t 5), none, 1⟩,
 ⟨some 7, .mv (.k (.i .i64 0)), none, 2⟩] [] [] [0, 5, 6, 7] [])
 (.block 0
 (.loop [0, 5, 6, 7] [] b14_0)))
 (.seq
 (.reg [⟨some 2, .mv (.k (.b true)), none, 0⟩] [] [] [2] [])
 .ret)))
def rv14 : List RVar := [.t 2]
theorem chk14 : chk Tryz.prog Tryz.f14.ntmps ir14 (Tryz.f14.body.getD .skip) = true := by decide +kernel
theorem res14 : chkRes Tryz.prog Tryz.f14.results.toList rv14 = true := by decide +kernel
theorem fnr14 : FT Tryz.prog 14 43 ir14 rv14 := fnT Tryz.func14 rfl rfl chk14 res14 (by decide +kernel)
def b18_0 : IR :=
  (.seq
 (.reg [⟨some 23, .bin .lss (.t 22) (.t 21), none, 0⟩] [] [] [1, 6, 8, 14, 15, 16, 20, 21, 22, 23] [8, 13])
 (.seq
 (.cond (.t 23)
 .skip
 (.exit 2))
 (.seq
 (.block 3
 (.seq
 (.reg [⟨some 24, .ixs 12 (.t 20) (.t 22), none, 0⟩,
 ⟨some 25, .load 12 true (.t 24), none, 1⟩,
 ⟨some 10, .alloc [.b false, .sl 1 true [], .b false, .sl 1 true [], .i .i64 0, .i .i64 0, .i .i64 0, .i .i64 0, .i .i64 0, .i .i64 0, .i .i64 0, .i .i64 0], none, 2⟩,
 ⟨none, .store 12 (.t 10) (.t 25), none, 3⟩] [] [] [1, 6, 8, 10, 14, 15, 16, 20, 21, 22] [8, 10, 13])
 (.seq
 (.reg [⟨some 27, .fld 4 (.t 8), none, 0⟩,
 ⟨some 28, .load 8 true (.t 27), none, 1⟩,
 ⟨some 29, .fld 4 (.t 10), none, 2⟩,
 ⟨some 30, .load 8 true (.t 29), none, 3⟩,
 ⟨some 31, .call 74 [(.t 28), (.t 30)], none, 4⟩,
 ⟨some 26, .mv (.t 31), none, 5⟩,
 ⟨some 32, .ext 0 (.t 26), none, 6⟩,
 ⟨some 33, .ext 1 (.t 26), none, 7⟩,
 ⟨some 11, .alloc [.i .i64 0, .i .i64 0, .i .i64 0, .i .i64 0, .i .i64 0, .i .i64 0, .i .i64 0, .i .i64 0], none, 8⟩,
 ⟨none, .store 8 (.t 11) (.t 32), none, 9⟩,
 ⟨some 12, .mv (.t 33), none, 10⟩] [] [] [1, 6, 8, 10, 11, 12, 14, 15, 16, 20, 21, 22] [8, 10, 11, 13])
 (.seq
 (.seq
 (.reg [⟨some 34, .mv (.t 12), none, 0⟩,
 ⟨some 35, .bin .neq (.t 34) (.k (.i .i64 0)), none, 1⟩] [] [] [1, 6, 8, 10, 11, 14, 15, 16, 20, 21, 22, 35] [8, 10, 11, 13])
 (.cond (.t 35)
 (.seq
 (.reg [⟨some 4, .mv (.k (.sl 12 true [])), none, 0⟩,
 ⟨some 5, .mv (.k (.i .i64 2)), none, 1⟩] [] [] [4, 5] [])
 .ret)
 .skip))
 (.reg [⟨some 36, .mv (.t 6), none, 0⟩,
 ⟨some 37, .fld 0 (.t 8), none, 1⟩,
 ⟨some 38, .load 4 true (.t 37), none, 2⟩,
 ⟨some 39, .fld 0 (.t 10), none, 3⟩,
 ⟨some 40, .load 4 true (.t 39), none, 4⟩,
 ⟨some 41, .call 76 [(.t 38), (.t 40)], none, 5⟩,
 ⟨some 42, .load 8 true (.t 11), none, 6⟩,
 ⟨some 43, .callR 75 [(.t 36), (.t 41), (.t 42)], none, 7⟩] [] [0, 0, 2, 0, 8, 30, 0, 127] [1, 6, 8, 14, 15, 16, 20, 21, 22] [8, 13])))))
 (.reg [⟨some 44, .bin .add (.t 22) (.k (.i .i64 1)), none, 0⟩,
 ⟨some 22, .mv (.t 44), none, 1⟩] [] [] [1, 6, 8, 14, 15, 16, 20, 21, 22] [8, 13]))))
theorem wb18_0 : type_of% (@wbEq _ _ b18_0.eq_1 P F st Q) := wbEq b18_0.eq_1
def b18_1 : IR :=
  (.seq
 (.reg [⟨some 17, .bin .lss (.t 16) (.t 15), none, 0⟩] [] [] [1, 6, 14, 15, 16, 17] [13])
 (.seq
 (.cond (.t 17)
 .skip
 (.exit 0))
 (.seq
 (.block 1
 (.seq
 (.reg [⟨some 18, .ixs 12 (.t 14) (.t 16), none, 0⟩,
 ⟨some 19, .load 12 true (.t 18), none, 1⟩,
 ⟨some 8, .alloc [.b false, .sl 1 true [], .b false, .sl 1 true [], .i .i64 0, .i .i64 0, .i .i64 0, .i .i64 0, .i .i64 0, .i .i64 0, .i .i64 0, .i .i64 0], none, 2⟩,
 ⟨none, .store 12 (.t 8) (.t 19), none, 3⟩] [] [] [1, 6, 8, 14, 15, 16] [8, 13])
 (.seq
 (.reg [⟨some 20, .mv (.t 1), none, 0⟩,
 ⟨some 21, .len (.t 20), none, 1⟩,
 ⟨some 22, .mv (.k (.i .i64 0)), none, 2⟩] [] [] [1, 6, 8, 14, 15, 16, 20, 21, 22] [8, 13])
 (.block 2
 (.loop [1, 6, 8, 14, 15, 16, 20, 21, 22] [8, 13] b18_0)))))
 (.reg [⟨some 45, .bin .add (.t 16) (.k (.i .i64 1)), none, 0⟩,
 ⟨some 16, .mv (.t 45), none, 1⟩] [] [] [1, 6, 14, 15, 16] [13]))))
theorem wb18_1 : type_of% (@wbEq _ _ b18_1.eq_1 P F st Q) := wbEq b18_1.eq_1
def ir18 : IR :=
  (.seq
 (.reg [⟨some 4, .mv (.k (.sl 12 true [])), none, 0⟩,
 ⟨some 5, .mv (.k (.i .i64 0)), none, 1⟩] [] [] [0, 1] [])
 (.seq
 (.reg [⟨some 13, .mkmap, none, 0⟩,
 ⟨some 6, .mv (.t 13), none, 1⟩] [] [] [0, 1, 6] [13])
 (.seq
 (.seq
 (.reg [⟨some 14, .mv (.t 0), none, 0⟩,
 ⟨some 15, .len (.t 14), none, 1⟩,
 ⟨some 16, .mv (.k (.i .i64 0)), none, 2⟩] [] [] [1, 6, 14, 15, 16] [13])
 (.block 0
 (.loop [1, 6, 14, 15, 16] [13] b18_1)))
 (.seq
 (.reg [⟨some 46, .mv (.t 6), none, 0⟩,
 ⟨some 47, .callR 77 [(.t 46)], none, 1⟩,
 ⟨some 4, .mv (.t 47), none, 2⟩,
 ⟨some 5, .mv (.k (.i .i64 0)), none, 3⟩] [] [] [4, 5] [])
 .ret))))
def rv18 : List RVar := [.t 4, .t 5]
theorem chk18 : chk Tryz.prog Tryz.f18.ntmps ir18 (Tryz.f18.body.getD .skip) = true := by decide +kernel
theorem res18 : chkRes Tryz.prog Tryz.f18.results.toList rv18 = true := by decide +kernel
theorem fnr18 : FT Tryz.prog 18 48 ir18 rv18 := fnT Tryz.func18 rfl rfl chk18 res18 (by decide +kernel)
def ir20 : IR :=
  (.seq
 (.reg [⟨some 4, .mv (.k (.sl 12 true [])), none, 0⟩] [] [] [0, 1] [])
 (.seq
 (.reg [⟨some 5, .mv (.t 0), none, 0⟩,
 ⟨some 6, .mv (.t 1), none, 1⟩,
 ⟨some 7, .call 79 [(.t 5), (.t 6), (.k (.f 80 [] [])), (.k (.f 81 [] []))], none, 2⟩,
 ⟨some 4, .mv (.t 7), none, 3⟩] [] [] [4] [])
 .ret))
def rv20 : List RVar := [.t 4]
theorem chk20 : chk Tryz.prog Tryz.f20.ntmps ir20 (Tryz.f20.body.getD .skip) = true := by decide +kernel
theorem res20 : chkRes Tryz.prog Tryz.f20.results.toList rv20 = true := by decide +kernel
theorem fnr20 : FT Tryz.prog 20 8 ir20 rv20 := fnT Tryz.func20 rfl rfl chk20 res20 (by decide +kernel)
def ir21 : IR :=
  (.seq
 (.reg [⟨some 4, .mv (.k (.sl 12 true [])), none, 0⟩] [] [] [0, 1] [])
 (.seq
 (.reg [⟨some 5, .mv (.t 0), none, 0⟩,
 ⟨some 6, .mv (.t 1), none, 1⟩,
 ⟨some 7, .call 79 [(.t 5), (.t 6), (.k (.f 82 [] [])), (.k (.f 83 [] []))], none, 2⟩,
 ⟨some 4, .mv (.t 7), none, 3⟩] [] [] [4] [])
 .ret))
def rv21 : List RVar := [.t 4]
theorem chk21 : chk Tryz.prog Tryz.f21.ntmps ir21 (Tryz.f21.body.getD .skip) = true := by decide +kernel
theorem res21 : chkRes Tryz.prog Tryz.f21.results.toList rv21 = true := by decide +kernel
theorem fnr21 : FT Tryz.prog 21 8 ir21 rv21 := fnT Tryz.func21 rfl rfl chk21 res21 (by decide +kernel)
def ir22 : IR :=
  (.seq
 (.reg [⟨some 1, .box (.t 0), none, 0⟩,
 ⟨some 2, .mv (.k (.sl 12 true [])), none, 1⟩] [] [] [1] [1])
 (.seq
 (.seq
 (.reg [⟨some 3, .load 4 true (.t 1), none, 0⟩,
 ⟨some 4, .call 68 [(.t 3)], none, 1⟩,
 ⟨some 5, .bin .eql (.t 4) (.k (.i .i64 0)), none, 2⟩] [] [] [1, 5] [1])
 (.cond (.t 5)
 (.seq
 (.reg [⟨some 2, .mv (.k (.sl 12 true [])), none, 0⟩] [] [] [2] [])
 .ret)
 .skip))
 (.seq
 (.reg [⟨some 6, .load 4 true (.t 1), none, 0⟩,
 ⟨some 7, .build [.b false, .sl 1 true [], .b false, .sl 1 true [], .i .i64 0, .i .i64 0, .i .i64 0, .i .i64 0, .i .i64 0, .i .i64 0, .i .i64 0, .i .i64 0] [(0, 4, (.t 6))], none, 1⟩,
 ⟨some 8, .bsl 12 [(.t 7)], none, 2⟩,
 ⟨some 2, .mv (.t 8), none, 3⟩] [] [] [2] [])
 .ret)))
def rv22 : List RVar := [.t 2]
theorem chk22 : chk Tryz.prog Tryz.f22.ntmps ir22 (Tryz.f22.body.getD .skip) = true := by decide +kernel
theorem res22 : chkRes Tryz.prog Tryz.f22.results.toList rv22 = true := by decide +kernel
theorem fnr22 : FT Tryz.prog 22 9 ir22 rv22 := fnT Tryz.func22 rfl rfl chk22 res22 (by decide +kernel)
def ir25 : IR :=
  (.seq
 (.reg [⟨some 2, .mv (.k (.sl 12 true [])), none, 0⟩,
 ⟨some 3, .mv (.k (.i .i64 0)), none, 1⟩] [] [] [0] [])
 (.seq
 (.seq
 (.reg [⟨some 5, .mv (.t 0), none, 0⟩,
 ⟨some 6, .bin .lss (.t 5) (.k (.i .i64 0)), none, 1⟩,
 ⟨some 7, .mv (.t 6), none, 2⟩,
 ⟨some 8, .mv (.t 0), some (7, false), 3⟩,
 ⟨some 9, .bin .geq (.t 8) (.k (.i .i64 8)), some (7, false), 4⟩,
 ⟨some 10, .pick (.t 7) (.k (.b true)) (.t 9), none, 5⟩] [] [] [0, 10] [])
 (.cond (.t 10)
 (.seq
 (.reg [⟨some 2, .mv (.k (.sl 12 true [])), none, 0⟩,
 ⟨some 3, .mv (.k (.i .i64 1)), none, 1⟩] [] [] [2, 3] [])
 .ret)
 .skip))
 (.seq
 (.reg [⟨some 4, .alloc [.i .i64 0, .i .i64 0, .i .i64 0, .i .i64 0, .i .i64 0, .i .i64 0, .i .i64 0, .i .i64 0], none, 0⟩] [] [] [0, 4] [4])
 (.seq
 (.reg [⟨some 11, .mv (.t 0), none, 0⟩,
 ⟨some 12, .ixa 8 1 (.t 4) (.t 11), none, 1⟩,
 ⟨none, .store 1 (.t 12) (.k (.i .i64 1)), none, 2⟩] [] [] [4] [4])
 (.seq
 (.reg [⟨some 13, .call 85 [(.k (.i .i64 1))], none, 0⟩,
 ⟨some 14, .load 8 true (.t 4), none, 1⟩,
 ⟨some 15, .build [.b false, .sl 1 true [], .b false, .sl 1 true [], .i .i64 0, .i .i64 0, .i .i64 0, .i .i64 0, .i .i64 0, .i .i64 0, .i .i64 0, .i .i64 0] [(0, 4, (.t 13)), (4, 8, (.t 14))], none, 2⟩,
 ⟨some 16, .bsl 12 [(.t 15)], none, 3⟩,
 ⟨some 2, .mv (.t 16), none, 4⟩,
 ⟨some 3, .mv (.k (.i .i64 0)), none, 5⟩] [] [0, 0, 3, 7, 15, 31] [2, 3] [])
 .ret)))))
def rv25 : List RVar := [.t 2, .t 3]
theorem chk25 : chk Tryz.prog Tryz.f25.ntmps ir25 (Tryz.f25.body.getD .skip) = true := by decide +kernel
theorem res25 : chkRes Tryz.prog Tryz.f25.results.toList rv25 = true := by decide +kernel
theorem fnr25 : FT Tryz.prog 25 17 ir25 rv25 := fnT Tryz.func25 rfl rfl chk25 res25 (by decide +kernel)
def ir38 : IR :=
  (.seq
 (.reg [⟨some 3, .box (.t 1), none, 0⟩,
 ⟨some 4, .alloc [.b false, .sl 1 true [], .b false, .sl 1 true [], .i .i64 0, .i .i64 0, .i .i64 0, .i .i64 0, .i .i64 0, .i .i64 0, .i .i64 0, .i .i64 0], none, 1⟩,
 ⟨some 5, .mv (.k (.b false)), none, 2⟩] [] [] [0, 3, 4] [3, 4])
 (.seq
 (.seq
 (.reg [⟨some 6, .mv (.t 0), none, 0⟩,
 ⟨some 7, .len (.t 6), none, 1⟩,
 ⟨some 8, .bin .eql (.t 7) (.k (.i .i64 0)), none, 2⟩] [] [] [0, 3, 4, 8] [3, 4])
 (.cond (.t 8)
 (.seq
 (.reg [⟨some 9, .build [.b false, .sl 1 true [], .b false, .sl 1 true [], .i .i64 0, .i .i64 0, .i .i64 0, .i .i64 0, .i .i64 0, .i .i64 0, .i .i64 0, .i .i64 0] [], none, 0⟩,
 ⟨none, .store 12 (.t 4) (.t 9), none, 1⟩,
 ⟨some 5, .mv (.k (.b false)), none, 2⟩] [] [] [4, 5] [4])
 .ret)
 .skip))
 (.seq
 (.frz 3
 (.reg [⟨some 10, .mv (.t 0), none, 0⟩,
 ⟨some 11, .mkf 106 [(.t 3)], none, 1⟩,
 ⟨some 12, .call 105 [(.t 10), (.t 11)], none, 2⟩,
 ⟨none, .store 12 (.t 4) (.t 12), none, 3⟩,
 ⟨some 5, .mv (.k (.b true)), none, 4⟩] [] [] [4, 5] [4]))
 .ret)))
def rv38 : List RVar := [.c 4 12 true, .t 5]
theorem chk38 : chk Tryz.prog Tryz.f38.ntmps ir38 (Tryz.f38.body.getD .skip) = true := by decide +kernel
theorem res38 : chkRes Tryz.prog Tryz.f38.results.toList rv38 = true := by decide +kernel
theorem fnr38 : FT Tryz.prog 38 13 ir38 rv38 := fnT Tryz.func38 rfl rfl chk38 res38 (by decide +kernel)
def b40_0 : IR :=
  (.seq
 (.reg [⟨some 9, .bin .lss (.t 8) (.t 7), none, 0⟩] [] [] [3, 6, 7, 8, 9] [])
 (.seq
 (.cond (.t 9)
 .skip
 (.exit 0))
 (.seq
 (.block 1
 (.seq
 (.reg [⟨some 10, .ixs 12 (.t 6) (.t 8), none, 0⟩,
 ⟨some 11, .load 12 true (.t 10), none, 1⟩,
 ⟨some 5, .alloc [.b false, .sl 1 true [], .b false, .sl 1 true [], .i .i64 0, .i .i64 0, .i .i64 0, .i .i64 0, .i .i64 0, .i .i64 0, .i .i64 0, .i .i64 0], none, 2⟩,
 ⟨none, .store 12 (.t 5) (.t 11), none, 3⟩] [] [] [3, 5, 6, 7, 8] [5])
 (.reg [⟨some 12, .mv (.t 3), none, 0⟩,
 ⟨some 13, .fld 4 (.t 5), none, 1⟩,
 ⟨some 14, .load 8 true (.t 13), none, 2⟩,
 ⟨some 15, .call 108 [(.t 14)], none, 3⟩,
 ⟨some 16, .mx (.t 12) (.t 15), none, 4⟩,
 ⟨some 3, .mv (.t 16), none, 5⟩] [] [] [3, 6, 7, 8] [])))
 (.reg [⟨some 17, .bin .add (.t 8) (.k (.i .i64 1)), none, 0⟩,
 ⟨some 8, .mv (.t 17), none, 1⟩] [] [] [3, 6, 7, 8] []))))
theorem wb40_0 : type_of% (@wbEq _ _ b40_0.eq_1 P F st Q) := wbEq b40_0.eq_1
def ir40 : IR :=
  (.seq
 (.reg [⟨some 2, .mv (.k (.i .i64 0)), none, 0⟩] [] [] [0] [])
 (.seq
 (.reg [⟨some 3, .mv (.k (.i .i64 (-1))), none, 0⟩] [] [] [0, 3] [])
 (.seq
 (.seq
 (.reg [⟨some 6, .mv (.t 0), none, 0⟩,
 ⟨some 7, .len (.t 6), none, 1⟩,
 ⟨some 8, .mv (.k (.i .i64 0)), none, 2⟩] [] [] [3, 6, 7, 8] [])
 (.block 0
 (.loop [3, 6, 7, 8] [] b40_0)))
 (.seq
 (.reg [⟨some 18, .mv (.t 3), none, 0⟩,
 ⟨some 2, .mv (.t 18), none, 1⟩] [] [] [2] [])
 .ret))))
def rv40 : List RVar := [.t 2]
theorem chk40 : chk Tryz.prog Tryz.f40.ntmps ir40 (Tryz.f40.body.getD .skip) = true := by decide +kernel
theorem res40 : chkRes Tryz.prog Tryz.f40.results.toList rv40 = true := by decide +kernel
theorem fnr40 : FT Tryz.prog 40 19 ir40 rv40 := fnT Tryz.func40 rfl rfl chk40 res40 (by decide +kernel)
def b69_0 : IR :=
  (.seq
 (.reg [⟨some 7, .bin .lss (.t 6) (.k (.i .i64 8)), none, 0⟩] [] [] [5, 6, 7] [])
 (.seq
 (.cond (.t 7)
 .skip
 (.exit 0))
 (.seq
 (.block 1
 (.seq
 (.reg [⟨some 8, .ixv 8 1 false (.t 5) (.t 6), none, 0⟩,
 ⟨some 4, .mv (.t 8), none, 1⟩] [] [] [4, 5, 6] [])
 (.seq
 (.reg [⟨some 9, .mv (.t 4), none, 0⟩,
 ⟨some 10, .bin .lss (.t 9) (.k (.i .i64 0)), none, 1⟩,
 ⟨some 11, .mv (.t 10), none, 2⟩,
 ⟨some 12, .mv (.t 4), some (11, false), 3⟩,
 ⟨some 13, .bin .gtr (.t 12) (.k (.i .i64 65535)), some (11, false), 4⟩,
 ⟨some 14, .pick (.t 11) (.k (.b true)) (.t 13), none, 5⟩] [] [] [5, 6, 14] [])
 (.cond (.t 14)
 (.seq
 (.reg [⟨some 2, .mv (.k (.b false)), none, 0⟩] [] [] [2] [])
 .ret)
 .skip))))
 (.reg [⟨some 15, .bin .add (.t 6) (.k (.i .i64 1)), none, 0⟩,
 ⟨some 6, .mv (.t 15), none, 1⟩] [] [] [5, 6] []))))
theorem wb69_0 : type_of% (@wbEq _ _ b69_0.eq_1 P F st Q) := wbEq b69_0.eq_1
def ir69 : IR :=
  (.seq
 (.reg [⟨some 1, .box (.t 0), none, 0⟩,
 ⟨some 2, .mv (.k (.b false)), none, 1⟩] [] [] [1] [1])
 (.seq
 (.seq
 (.reg [⟨some 5, .load 8 true (.t 1), none, 0⟩,
 ⟨some 6, .mv (.k (.i .i64 0)), none, 1⟩] [] [] [5, 6] [])
 (.block 0
 (.loop [5, 6] [] b69_0)))
 (.seq
 (.reg [⟨some 2, .mv (.k (.b true)), none, 0⟩] [] [] [2] [])
 .ret)))
def rv69 : List RVar := [.t 2]
theorem chk69 : chk Tryz.prog Tryz.f69.ntmps ir69 (Tryz.f69.body.getD .skip) = true := by decide +kernel
theorem res69 : chkRes Tryz.prog Tryz.f69.results.toList rv69 = true := by decide +kernel
theorem fnr69 : FT Tryz.prog 69 16 ir69 rv69 := fnT Tryz.func69 rfl rfl chk69 res69 (by decide +kernel)
def ir70 : IR :=
  (.seq
 (.reg [⟨some 2, .box (.t 0), none, 0⟩,
 ⟨some 3, .box (.t 1), none, 1⟩,
 ⟨some 4, .mv (.k (.i .i64 0)), none, 2⟩] [] [] [2, 3] [2, 3])
 (.seq
 (.frz 3
 (.frz 2
 (.reg [⟨some 5, .sla 8 (.t 2), none, 0⟩,
 ⟨some 6, .sla 8 (.t 3), none, 1⟩,
 ⟨some 7, .call 128 [(.t 5), (.t 6)], none, 2⟩,
 ⟨some 4, .mv (.t 7), none, 3⟩] [] [0, 0, 3, 7] [4] [])))
 .ret))
def rv70 : List RVar := [.t 4]
theorem chk70 : chk Tryz.prog Tryz.f70.ntmps ir70 (Tryz.f70.body.getD .skip) = true := by decide +kernel
theorem res70 : chkRes Tryz.prog Tryz.f70.results.toList rv70 = true := by decide +kernel
theorem fnr70 : FT Tryz.prog 70 8 ir70 rv70 := fnT Tryz.func70 rfl rfl chk70 res70 (by decide +kernel)
def ir74 : IR :=
  (.seq
 (.reg [⟨some 2, .box (.t 0), none, 0⟩,
 ⟨some 3, .box (.t 1), none, 1⟩,
 ⟨some 4, .alloc [.i .i64 0, .i .i64 0, .i .i64 0, .i .i64 0, .i .i64 0, .i .i64 0, .i .i64 0, .i .i64 0], none, 2⟩,
 ⟨some 5, .mv (.k (.i .i64 0)), none, 3⟩] [] [] [2, 3, 4] [2, 3, 4])
 (.seq
 (.reg [⟨some 7, .load 8 true (.t 2), none, 0⟩,
 ⟨some 8, .load 8 true (.t 3), none, 1⟩,
 ⟨some 9, .call 129 [(.t 7), (.t 8), (.k (.f 130 [] []))], none, 2⟩,
 ⟨some 6, .alloc [.i .i64 0, .i .i64 0, .i .i64 0, .i .i64 0, .i .i64 0, .i .i64 0, .i .i64 0, .i .i64 0], none, 3⟩,
 ⟨none, .store 8 (.t 6) (.t 9), none, 4⟩] [] [] [4, 6] [4, 6])
 (.seq
 (.seq
 (.reg [⟨some 10, .load 8 true (.t 6), none, 0⟩,
 ⟨some 11, .call 69 [(.t 10)], none, 1⟩,
 ⟨some 12, .un .not (.t 11), none, 2⟩] [] [] [4, 6, 12] [4, 6])
 (.cond (.t 12)
 (.seq
 (.reg [⟨some 13, .build [.i .i64 0, .i .i64 0, .i .i64 0, .i .i64 0, .i .i64 0, .i .i64 0, .i .i64 0, .i .i64 0] [], none, 0⟩,
 ⟨none, .store 8 (.t 4) (.t 13), none, 1⟩,
 ⟨some 5, .mv (.k (.i .i64 2)), none, 2⟩] [] [] [4, 5] [4])
 .ret)
 .skip))
 (.seq
 (.reg [⟨some 14, .load 8 true (.t 6), none, 0⟩,
 ⟨none, .store 8 (.t 4) (.t 14), none, 1⟩,
 ⟨some 5, .mv (.k (.i .i64 0)), none, 2⟩] [] [] [4, 5] [4])
 .ret))))
def rv74 : List RVar := [.c 4 8 true, .t 5]
theorem chk74 : chk Tryz.prog Tryz.f74.ntmps ir74 (Tryz.f74.body.getD .skip) = true := by decide +kernel
theorem res74 : chkRes Tryz.prog Tryz.f74.results.toList rv74 = true := by decide +kernel
theorem fnr74 : FT Tryz.prog 74 15 ir74 rv74 := fnT Tryz.func74 rfl rfl chk74 res74 (by decide +kernel)
def ir75 : IR :=
  (.seq
 (.reg [⟨some 4, .box (.t 1), none, 0⟩,
 ⟨some 5, .box (.t 2), none, 1⟩] [] [] [0, 4, 5] [4, 5])
 (.seq
 (.seq
 (.reg [⟨some 9, .mv (.t 0), none, 0⟩,
 ⟨some 10, .load 8 true (.t 5), none, 1⟩,
 ⟨some 11, .mapget 8 [.b false, .sl 1 true [], .b false, .sl 1 true []] true true (.t 9) (.t 10), none, 2⟩,
 ⟨some 8, .mv (.t 11), none, 3⟩,
 ⟨some 12, .ext 0 (.t 8), none, 4⟩,
 ⟨some 13, .ext 1 (.t 8), none, 5⟩,
 ⟨some 6, .alloc [.b false, .sl 1 true [], .b false, .sl 1 true []], none, 6⟩,
 ⟨none, .store 4 (.t 6) (.t 12), none, 7⟩,
 ⟨some 7, .mv (.t 13), none, 8⟩] [] [] [0, 4, 5, 6, 7] [4, 5, 6])
 (.seq
 (.reg [⟨some 14, .mv (.t 7), none, 0⟩] [] [] [0, 4, 5, 6, 14] [4, 5, 6])
 (.cond (.t 14)
 (.reg [⟨some 15, .load 4 true (.t 6), none, 0⟩,
 ⟨some 16, .load 4 true (.t 4), none, 1⟩,
 ⟨some 17, .call 80 [(.t 15), (.t 16)], none, 2⟩,
 ⟨none, .store 4 (.t 4) (.t 17), none, 3⟩] [] [] [0, 4, 5] [4, 5])
 .skip)))
 (.reg [⟨some 18, .mv (.t 0), none, 0⟩,
 ⟨some 19, .load 8 true (.t 5), none, 1⟩,
 ⟨some 20, .load 4 true (.t 4), none, 2⟩,
 ⟨none, .mapset 8 (.t 18) (.t 19) (.t 20), none, 3⟩] [] [] [] [])))
def rv75 : List RVar := []
theorem chk75 : chk Tryz.prog Tryz.f75.ntmps ir75 (Tryz.f75.body.getD .skip) = true := by decide +kernel
theorem res75 : chkRes Tryz.prog Tryz.f75.results.toList rv75 = true := by decide +kernel
theorem fnr75 : FT Tryz.prog 75 21 ir75 rv75 := fnT Tryz.func75 rfl rfl chk75 res75 (by decide +kernel)
def b77_0 : IR :=
  (.seq
 (.nxt 9 8 [⟨some 10, .ext 0 (.t 9), none, 1⟩] [3, 8, 10] [8, 22])
 (.seq
 (.cond (.t 10)
 .skip
 (.exit 0))
 (.block 1
 (.seq
 (.reg [⟨some 11, .entry (.t 8), none, 0⟩,
 ⟨some 12, .ext 0 (.t 11), none, 1⟩,
 ⟨some 13, .ext 1 (.t 11), none, 2⟩,
 ⟨some 4, .alloc [.i .i64 0, .i .i64 0, .i .i64 0, .i .i64 0, .i .i64 0, .i .i64 0, .i .i64 0, .i .i64 0], none, 3⟩,
 ⟨some 5, .alloc [.b false, .sl 1 true [], .b false, .sl 1 true []], none, 4⟩,
 ⟨none, .store 8 (.t 4) (.t 12), none, 5⟩,
 ⟨none, .store 4 (.t 5) (.t 13), none, 6⟩] [] [] [3, 4, 5, 8] [4, 5, 8, 22])
 (.seq
 (.reg [⟨some 14, .load 4 true (.t 5), none, 0⟩,
 ⟨some 15, .call 68 [(.t 14)], none, 1⟩,
 ⟨some 16, .bin .neq (.t 15) (.k (.i .i64 0)), none, 2⟩] [] [] [3, 4, 5, 8, 16] [4, 5, 8, 22])
 (.cond (.t 16)
 (.reg [⟨some 17, .mv (.t 3), none, 0⟩,
 ⟨some 18, .load 4 true (.t 5), none, 1⟩,
 ⟨some 19, .load 8 true (.t 4), none, 2⟩,
 ⟨some 20, .build [.b false, .sl 1 true [], .b false, .sl 1 true [], .i .i64 0, .i .i64 0, .i .i64 0, .i .i64 0, .i .i64 0, .i .i64 0, .i .i64 0, .i .i64 0] [(0, 4, (.t 18)), (4, 8, (.t 19))], none, 3⟩,
 ⟨some 21, .bsl 12 [(.t 20)], none, 4⟩,
 ⟨some 22, .app 12 128 (.t 17) (.t 21), none, 5⟩,
 ⟨some 3, .mv (.t 22), none, 6⟩] [] [] [3, 8] [8, 22])
 .skip))))))
theorem wb77_0 : type_of% (@wbEq _ _ b77_0.eq_1 P F st Q) := wbEq b77_0.eq_1
def ir77 : IR :=
  (.seq
 (.reg [⟨some 2, .mv (.k (.sl 12 true [])), none, 0⟩] [] [] [0] [])
 (.seq
 (.reg [⟨some 6, .bsl 12 [], none, 0⟩,
 ⟨some 3, .mv (.t 6), none, 1⟩] [] [] [0, 3] [22])
 (.seq
 (.seq
 (.reg [⟨some 7, .mv (.t 0), none, 0⟩,
 ⟨some 8, .range (.t 7), none, 1⟩] [] [] [3, 8] [8, 22])
 (.block 0
 (.loop [3, 8] [8, 22] b77_0)))
 (.seq
 (.reg [⟨some 23, .mv (.t 3), none, 0⟩,
 ⟨some 24, .callR 133 [(.t 23), (.k (.f 134 [] []))], none, 1⟩] [] [] [3] [22])
 (.seq
 (.reg [⟨some 25, .mv (.t 3), none, 0⟩,
 ⟨some 2, .mv (.t 25), none, 1⟩] [] [] [2] [22])
 (.frz 2
 .ret))))))
def rv77 : List RVar := [.t 2]
theorem chk77 : chk Tryz.prog Tryz.f77.ntmps ir77 (Tryz.f77.body.getD .skip) = true := by decide +kernel
theorem res77 : chkRes Tryz.prog Tryz.f77.results.toList rv77 = true := by decide +kernel
theorem fnr77 : FT Tryz.prog 77 26 ir77 rv77 := fnT Tryz.func77 rfl rfl chk77 res77 (by decide +kernel)
def b79_0 : IR :=
  (.seq
 (.seq
 (.reg [⟨some 20, .mv (.t 0), none, 0⟩,
 ⟨some 21, .len (.t 20), none, 1⟩,
 ⟨some 22, .bin .gtr (.t 21) (.k (.i .i64 0)), none, 2⟩,
 ⟨some 23, .mv (.t 22), none, 3⟩,
 ⟨some 24, .mv (.t 1), some (23, true), 4⟩,
 ⟨some 25, .len (.t 24), some (23, true), 5⟩,
 ⟨some 26, .bin .gtr (.t 25) (.k (.i .i64 0)), some (23, true), 6⟩,
 ⟨some 27, .pick (.t 23) (.t 26) (.k (.b false)), none, 7⟩] [] [] [0, 1, 2, 3, 9, 27] [19, 58, 71, 90, 95, 111])
 (.cond (.t 27)
 .skip
 (.exit 0)))
 (.block 1
 (.seq
 (.reg [⟨some 28, .mv (.t 0), none, 0⟩,
 ⟨some 29, .ixs 12 (.t 28) (.k (.i .i64 0)), none, 1⟩,
 ⟨some 30, .fld 4 (.t 29), none, 2⟩,
 ⟨some 31, .load 8 true (.t 30), none, 3⟩,
 ⟨some 32, .mv (.t 1), none, 4⟩,
 ⟨some 33, .ixs 12 (.t 32) (.k (.i .i64 0)), none, 5⟩,
 ⟨some 34, .fld 4 (.t 33), none, 6⟩,
 ⟨some 35, .load 8 true (.t 34), none, 7⟩,
 ⟨some 36, .call 70 [(.t 31), (.t 35)], none, 8⟩,
 ⟨some 10, .mv (.t 36), none, 9⟩] [] [0, 1, 3, 7, 0, 16, 48, 112, 255, 511] [0, 1, 2, 3, 9, 10] [19, 58, 71, 90, 95, 111])
 (.block 2
 (.seq
 (.reg [⟨some 64, .mv (.t 10), none, 0⟩,
 ⟨some 65, .bin .gtr (.t 64) (.k (.i .i64 0)), none, 1⟩,
 ⟨some 63, .mv (.t 65), none, 2⟩] [] [] [0, 1, 2, 3, 9, 10, 63] [19, 58, 71, 90, 95, 111])
 (.cond (.t 63)
 (.reg [⟨some 66, .mv (.t 9), none, 0⟩,
 ⟨some 67, .mv (.t 0), none, 1⟩,
 ⟨some 68, .ixs 12 (.t 67) (.k (.i .i64 0)), none, 2⟩,
 ⟨some 69, .load 12 true (.t 68), none, 3⟩,
 ⟨some 70, .bsl 12 [(.t 69)], none, 4⟩,
 ⟨some 71, .app 12 128 (.t 66) (.t 70), none, 5⟩,
 ⟨some 72, .mv (.t 0), none, 6⟩,
 ⟨some 73, .slc 12 (.t 72) (some (.k (.i .i64 1))) none none, none, 7⟩,
 ⟨some 9, .mv (.t 71), none, 8⟩,
 ⟨some 0, .mv (.t 73), none, 9⟩] [] [0, 0, 2, 6, 14, 31, 0, 64, 63, 511] [0, 1, 2, 3, 9] [19, 58, 71, 90, 95, 111])
 (.seq
 (.reg [⟨some 75, .mv (.t 10), none, 0⟩,
 ⟨some 76, .bin .lss (.t 75) (.k (.i .i64 0)), none, 1⟩,
 ⟨some 74, .mv (.t 76), none, 2⟩] [] [] [0, 1, 2, 3, 9, 74] [19, 58, 71, 90, 95, 111])
 (.cond (.t 74)
 (.reg [⟨some 77, .mv (.t 9), none, 0⟩,
 ⟨some 78, .mv (.t 3), none, 1⟩,
 ⟨some 79, .mv (.t 1), none, 2⟩,
 ⟨some 80, .ixs 12 (.t 79) (.k (.i .i64 0)), none, 3⟩,
 ⟨some 81, .fld 0 (.t 80), none, 4⟩,
 ⟨some 82, .load 4 true (.t 81), none, 5⟩,
 ⟨some 83, .callv (.t 78) [(.t 82)], none, 6⟩,
 ⟨some 84, .mv (.t 1), none, 7⟩,
 ⟨some 85, .ixs 12 (.t 84) (.k (.i .i64 0)), none, 8⟩,
 ⟨some 86, .fld 4 (.t 85), none, 9⟩,
 ⟨some 87, .load 8 true (.t 86), none, 10⟩,
 ⟨some 88, .build [.b false, .sl 1 true [], .b false, .sl 1 true [], .i .i64 0, .i .i64 0, .i .i64 0, .i .i64 0, .i .i64 0, .i .i64 0, .i .i64 0, .i .i64 0] [(0, 4, (.t 83)), (4, 8, (.t 87))], none, 11⟩,
 ⟨some 89, .bsl 12 [(.t 88)], none, 12⟩,
 ⟨some 90, .app 12 128 (.t 77) (.t 89), none, 13⟩,
 ⟨some 91, .mv (.t 1), none, 14⟩,
 ⟨some 92, .slc 12 (.t 91) (some (.k (.i .i64 1))) none none, none, 15⟩,
 ⟨some 9, .mv (.t 90), none, 16⟩,
 ⟨some 1, .mv (.t 92), none, 17⟩] [] [0, 0, 0, 4, 12, 28, 62, 0, 128, 384, 896, 2046, 4094, 8191, 0, 16384, 16383, 131071] [0, 1, 2, 3, 9] [19, 58, 71, 90, 95, 111])
 (.seq
 (.seq
 (.reg [⟨some 37, .mv (.t 2), none, 0⟩,
 ⟨some 38, .mv (.t 0), none, 1⟩,
 ⟨some 39, .ixs 12 (.t 38) (.k (.i .i64 0)), none, 2⟩,
 ⟨some 40, .fld 0 (.t 39), none, 3⟩,
 ⟨some 41, .load 4 true (.t 40), none, 4⟩,
 ⟨some 42, .mv (.t 1), none, 5⟩,
 ⟨some 43, .ixs 12 (.t 42) (.k (.i .i64 0)), none, 6⟩,
 ⟨some 44, .fld 0 (.t 43), none, 7⟩,
 ⟨some 45, .load 4 true (.t 44), none, 8⟩,
 ⟨some 46, .callv (.t 37) [(.t 41), (.t 45)], none, 9⟩,
 ⟨some 11, .alloc [.b false, .sl 1 true [], .b false, .sl 1 true []], none, 10⟩,
 ⟨none, .store 4 (.t 11) (.t 46), none, 11⟩] [] [0, 0, 2, 6, 14, 0, 32, 96, 224, 511, 0, 2047] [0, 1, 2, 3, 9, 11] [11, 19, 58, 71, 90, 95, 111])
 (.seq
 (.reg [⟨some 47, .load 4 true (.t 11), none, 0⟩,
 ⟨some 48, .call 68 [(.t 47)], none, 1⟩,
 ⟨some 49, .bin .neq (.t 48) (.k (.i .i64 0)), none, 2⟩] [] [] [0, 1, 2, 3, 9, 11, 49] [11, 19, 58, 71, 90, 95, 111])
 (.cond (.t 49)
 (.reg [⟨some 50, .mv (.t 9), none, 0⟩,
 ⟨some 51, .load 4 true (.t 11), none, 1⟩,
 ⟨some 52, .mv (.t 0), none, 2⟩,
 ⟨some 53, .ixs 12 (.t 52) (.k (.i .i64 0)), none, 3⟩,
 ⟨some 54, .fld 4 (.t 53), none, 4⟩,
 ⟨some 55, .load 8 true (.t 54), none, 5⟩,
 ⟨some 56, .build [.b false, .sl 1 true [], .b false, .sl 1 true [], .i .i64 0, .i .i64 0, .i .i64 0, .i .i64 0, .i .i64 0, .i .i64 0, .i .i64 0, .i .i64 0] [(0, 4, (.t 51)), (4, 8, (.t 55))], none, 6⟩,
 ⟨some 57, .bsl 12 [(.t 56)], none, 7⟩,
 ⟨some 58, .app 12 128 (.t 50) (.t 57), none, 8⟩,
 ⟨some 9, .mv (.t 58), none, 9⟩] [] [0, 0, 0, 4, 12, 28, 62, 126, 255, 511] [0, 1, 2, 3, 9] [19, 58, 71, 90, 95, 111])
 .skip)))
 (.reg [⟨some 59, .mv (.t 0), none, 0⟩,
 ⟨some 60, .slc 12 (.t 59) (some (.k (.i .i64 1))) none none, none, 1⟩,
 ⟨some 61, .mv (.t 1), none, 2⟩,
 ⟨some 62, .slc 12 (.t 61) (some (.k (.i .i64 1))) none none, none, 3⟩,
 ⟨some 0, .mv (.t 60), none, 4⟩,
 ⟨some 1, .mv (.t 62), none, 5⟩] [] [0, 1, 0, 4, 3, 31] [0, 1, 2, 3, 9] [19, 58, 71, 90, 95, 111]))))))))))
theorem wb79_0 : type_of% (@wbEq _ _ b79_0.eq_1 P F st Q) := wbEq b79_0.eq_1
def b79_1 : IR :=
  (.seq
 (.reg [⟨some 99, .bin .lss (.t 98) (.t 97), none, 0⟩] [] [] [3, 9, 96, 97, 98, 99] [19, 58, 71, 90, 95, 111])
 (.seq
 (.cond (.t 99)
 .skip
 (.exit 3))
 (.seq
 (.block 4
 (.seq
 (.reg [⟨some 100, .ixs 12 (.t 96) (.t 98), none, 0⟩,
 ⟨some 101, .load 12 true (.t 100), none, 1⟩,
 ⟨some 13, .alloc [.b false, .sl 1 true [], .b false, .sl 1 true [], .i .i64 0, .i .i64 0, .i .i64 0, .i .i64 0, .i .i64 0, .i .i64 0, .i .i64 0, .i .i64 0], none, 2⟩,
 ⟨none, .store 12 (.t 13) (.t 101), none, 3⟩] [] [] [3, 9, 13, 96, 97, 98] [13, 19, 58, 71, 90, 95, 111])
 (.reg [⟨some 102, .mv (.t 9), none, 0⟩,
 ⟨some 103, .mv (.t 3), none, 1⟩,
 ⟨some 104, .fld 0 (.t 13), none, 2⟩,
 ⟨some 105, .load 4 true (.t 104), none, 3⟩,
 ⟨some 106, .callv (.t 103) [(.t 105)], none, 4⟩,
 ⟨some 107, .fld 4 (.t 13), none, 5⟩,
 ⟨some 108, .load 8 true (.t 107), none, 6⟩,
 ⟨some 109, .build [.b false, .sl 1 true [], .b false, .sl 1 true [], .i .i64 0, .i .i64 0, .i .i64 0, .i .i64 0, .i .i64 0, .i .i64 0, .i .i64 0, .i .i64 0] [(0, 4, (.t 106)), (4, 8, (.t 108))], none, 7⟩,
 ⟨some 110, .bsl 12 [(.t 109)], none, 8⟩,
 ⟨some 111, .app 12 128 (.t 102) (.t 110), none, 9⟩,
 ⟨some 9, .mv (.t 111), none, 10⟩] [] [0, 0, 0, 4, 14, 0, 32, 126, 254, 511, 1023] [3, 9, 96, 97, 98] [19, 58, 71, 90, 95, 111])))
 (.reg [⟨some 112, .bin .add (.t 98) (.k (.i .i64 1)), none, 0⟩,
 ⟨some 98, .mv (.t 112), none, 1⟩] [] [] [3, 9, 96, 97, 98] [19, 58, 71, 90, 95, 111]))))
theorem wb79_1 : type_of% (@wbEq _ _ b79_1.eq_1 P F st Q) := wbEq b79_1.eq_1
def ir79 : IR :=
  (.seq
 (.reg [⟨some 8, .mv (.k (.sl 12 true [])), none, 0⟩] [] [] [0, 1, 2, 3] [])
 (.seq
 (.reg [⟨some 14, .mv (.t 0), none, 0⟩,
 ⟨some 15, .len (.t 14), none, 1⟩,
 ⟨some 16, .mv (.t 1), none, 2⟩,
 ⟨some 17, .len (.t 16), none, 3⟩,
 ⟨some 18, .bin .add (.t 15) (.t 17), none, 4⟩,
 ⟨some 19, .mk 12 128 [.b false, .sl 1 true [], .b false, .sl 1 true [], .i .i64 0, .i .i64 0, .i .i64 0, .i .i64 0, .i .i64 0, .i .i64 0, .i .i64 0, .i .i64 0] (.k (.i .i64 0)) (.t 18), none, 5⟩,
 ⟨some 9, .mv (.t 19), none, 6⟩] [] [] [0, 1, 2, 3, 9] [19, 58, 71, 90, 95, 111])
 (.seq
 (.block 0
 (.loop [0, 1, 2, 3, 9] [19, 58, 71, 90, 95, 111] b79_0))
 (.seq
 (.reg [⟨some 93, .mv (.t 9), none, 0⟩,
 ⟨some 94, .mv (.t 0), none, 1⟩,
 ⟨some 95, .app 12 128 (.t 93) (.t 94), none, 2⟩,
 ⟨some 9, .mv (.t 95), none, 3⟩] [] [] [1, 3, 9] [19, 58, 71, 90, 95, 111])
 (.seq
 (.seq
 (.reg [⟨some 96, .mv (.t 1), none, 0⟩,
 ⟨some 97, .len (.t 96), none, 1⟩,
 ⟨some 98, .mv (.k (.i .i64 0)), none, 2⟩] [] [] [3, 9, 96, 97, 98] [19, 58, 71, 90, 95, 111])
 (.block 3
 (.loop [3, 9, 96, 97, 98] [19, 58, 71, 90, 95, 111] b79_1)))
 (.seq
 (.reg [⟨some 113, .mv (.t 9), none, 0⟩,
 ⟨some 8, .mv (.t 113), none, 1⟩] [] [] [8] [19, 58, 71, 90, 95, 111])
 (.frz 8
 .ret)))))))
def rv79 : List RVar := [.t 8]
theorem chk79 : chk Tryz.prog Tryz.f79.ntmps ir79 (Tryz.f79.body.getD .skip) = true := by decide +kernel
theorem res79 : chkRes Tryz.prog Tryz.f79.results.toList rv79 = true := by decide +kernel
theorem fnr79 : FT Tryz.prog 79 114 ir79 rv79 := fnT Tryz.func79 rfl rfl chk79 res79 (by decide +kernel)
def ir81 : IR :=
  (.seq
 (.reg [⟨some 1, .box (.t 0), none, 0⟩,
 ⟨some 2, .alloc [.b false, .sl 1 true [], .b false, .sl 1 true []], none, 1⟩] [] [] [1, 2] [1, 2])
 (.seq
 (.reg [⟨some 3, .load 4 true (.t 1), none, 0⟩,
 ⟨none, .store 4 (.t 2) (.t 3), none, 1⟩] [] [] [2] [2])
 .ret))
def rv81 : List RVar := [.c 2 4 true]
theorem chk81 : chk Tryz.prog Tryz.f81.ntmps ir81 (Tryz.f81.body.getD .skip) = true := by decide +kernel
theorem res81 : chkRes Tryz.prog Tryz.f81.results.toList rv81 = true := by decide +kernel
theorem fnr81 : FT Tryz.prog 81 4 ir81 rv81 := fnT Tryz.func81 rfl rfl chk81 res81 (by decide +kernel)
def b105_0 : IR :=
  (.seq
 (.seq
 (.reg [⟨some 14, .mv (.t 6), none, 0⟩,
 ⟨some 15, .mv (.t 0), none, 1⟩,
 ⟨some 16, .len (.t 15), none, 2⟩,
 ⟨some 17, .bin .lss (.t 14) (.t 16), none, 3⟩] [] [] [0, 1, 4, 5, 6, 17] [4, 5])
 (.cond (.t 17)
 .skip
 (.exit 0)))
 (.seq
 (.block 1
 (.seq
 (.reg [⟨some 20, .mv (.t 1), none, 0⟩,
 ⟨some 21, .mv (.t 0), none, 1⟩,
 ⟨some 22, .mv (.t 6), none, 2⟩,
 ⟨some 23, .ixs 12 (.t 21) (.t 22), none, 3⟩,
 ⟨some 24, .load 12 true (.t 23), none, 4⟩,
 ⟨some 25, .load 12 true (.t 5), none, 5⟩,
 ⟨some 26, .callv (.t 20) [(.t 24), (.t 25)], none, 6⟩,
 ⟨some 27, .bin .gtr (.t 26) (.k (.i .i64 0)), none, 7⟩] [] [0, 0, 0, 6, 14, 0, 63, 127] [0, 1, 4, 5, 6, 27] [4, 5])
 (.cond (.t 27)
 (.reg [⟨some 28, .mv (.t 0), none, 0⟩,
 ⟨some 29, .mv (.t 6), none, 1⟩,
 ⟨some 30, .ixs 12 (.t 28) (.t 29), none, 2⟩,
 ⟨some 31, .load 12 true (.t 30), none, 3⟩,
 ⟨none, .store 12 (.t 5) (.t 31), none, 4⟩] [] [] [0, 1, 4, 5, 6] [4, 5])
 .skip)))
 (.reg [⟨some 18, .mv (.t 6), none, 0⟩,
 ⟨some 19, .bin .add (.t 18) (.k (.i .i64 1)), none, 1⟩,
 ⟨some 6, .mv (.t 19), none, 2⟩] [] [] [0, 1, 4, 5, 6] [4, 5])))
theorem wb105_0 : type_of% (@wbEq _ _ b105_0.eq_1 P F st Q) := wbEq b105_0.eq_1
def ir105 : IR :=
  (.seq
 (.reg [⟨some 4, .alloc [.b false, .sl 1 true [], .b false, .sl 1 true [], .i .i64 0, .i .i64 0, .i .i64 0, .i .i64 0, .i .i64 0, .i .i64 0, .i .i64 0, .i .i64 0], none, 0⟩] [] [] [0, 1, 4] [4])
 (.seq
 (.seq
 (.reg [⟨some 7, .mv (.t 0), none, 0⟩,
 ⟨some 8, .len (.t 7), none, 1⟩,
 ⟨some 9, .bin .lss (.t 8) (.k (.i .i64 1)), none, 2⟩] [] [] [0, 1, 4, 9] [4])
 (.cond (.t 9)
 (.reg [⟨some 10, .bad, none, 0⟩,
 ⟨none, .bad, none, 1⟩] [] [] [0, 1, 4] [4])
 .skip))
 (.seq
 (.reg [⟨some 11, .mv (.t 0), none, 0⟩,
 ⟨some 12, .ixs 12 (.t 11) (.k (.i .i64 0)), none, 1⟩,
 ⟨some 13, .load 12 true (.t 12), none, 2⟩,
 ⟨some 5, .alloc [.b false, .sl 1 true [], .b false, .sl 1 true [], .i .i64 0, .i .i64 0, .i .i64 0, .i .i64 0, .i .i64 0, .i .i64 0, .i .i64 0, .i .i64 0], none, 3⟩,
 ⟨none, .store 12 (.t 5) (.t 13), none, 4⟩] [] [] [0, 1, 4, 5] [4, 5])
 (.seq
 (.seq
 (.reg [⟨some 6, .mv (.k (.i .i64 1)), none, 0⟩] [] [] [0, 1, 4, 5, 6] [4, 5])
 (.block 0
 (.loop [0, 1, 4, 5, 6] [4, 5] b105_0)))
 (.seq
 (.reg [⟨some 32, .load 12 true (.t 5), none, 0⟩,
 ⟨none, .store 12 (.t 4) (.t 32), none, 1⟩] [] [] [4] [4])
 .ret)))))
def rv105 : List RVar := [.c 4 12 true]
theorem chk105 : chk Tryz.prog Tryz.f105.ntmps ir105 (Tryz.f105.body.getD .skip) = true := by decide +kernel
theorem res105 : chkRes Tryz.prog Tryz.f105.results.toList rv105 = true := by decide +kernel
theorem fnr105 : FT Tryz.prog 105 33 ir105 rv105 := fnT Tryz.func105 rfl rfl chk105 res105 (by decide +kernel)
def ir106 : IR :=
  (.seq
 (.reg [⟨some 3, .box (.t 0), none, 0⟩,
 ⟨some 4, .box (.t 1), none, 1⟩,
 ⟨some 5, .mv (.k (.i .i64 0)), none, 2⟩] [] [] [2, 3, 4] [3, 4])
 (.seq
 (.reg [⟨some 6, .load 1 false (.t 2), none, 0⟩,
 ⟨some 7, .fld 4 (.t 3), none, 1⟩,
 ⟨some 8, .load 8 true (.t 7), none, 2⟩,
 ⟨some 9, .fld 4 (.t 4), none, 3⟩,
 ⟨some 10, .load 8 true (.t 9), none, 4⟩,
 ⟨some 11, .call 107 [(.t 6), (.t 8), (.t 10)], none, 5⟩,
 ⟨some 5, .mv (.t 11), none, 6⟩] [] [] [5] [])
 .ret))
def rv106 : List RVar := [.t 5]
theorem chk106 : chk Tryz.prog Tryz.f106.ntmps ir106 (Tryz.f106.body.getD .skip) = true := by decide +kernel
theorem res106 : chkRes Tryz.prog Tryz.f106.results.toList rv106 = true := by decide +kernel
theorem fnr106 : FT Tryz.prog 106 12 ir106 rv106 := fnT Tryz.func106 rfl rfl chk106 res106 (by decide +kernel)
def b107_0 : IR :=
  (.seq
 (.reg [⟨some 23, .bin .lss (.t 22) (.k (.i .i64 8)), none, 0⟩] [] [] [4, 5, 9, 15, 16, 17, 21, 22, 23] [4, 5])
 (.seq
 (.cond (.t 23)
 .skip
 (.exit 2))
 (.seq
 (.block 3
 (.seq
 (.reg [⟨some 24, .mv (.t 22), none, 0⟩,
 ⟨some 25, .ixv 8 1 false (.t 21) (.t 22), none, 1⟩,
 ⟨some 10, .mv (.t 24), none, 2⟩,
 ⟨some 11, .mv (.t 25), none, 3⟩] [] [] [4, 5, 9, 10, 11, 15, 16, 17, 21, 22] [4, 5])
 (.reg [⟨some 26, .mv (.t 9), none, 0⟩,
 ⟨some 27, .mv (.t 11), none, 1⟩,
 ⟨some 28, .mv (.t 10), none, 2⟩,
 ⟨some 29, .ixa 8 1 (.t 4) (.t 28), none, 3⟩,
 ⟨some 30, .load 1 false (.t 29), none, 4⟩,
 ⟨some 31, .mv (.t 10), none, 5⟩,
 ⟨some 32, .ixa 8 1 (.t 5) (.t 31), none, 6⟩,
 ⟨some 33, .load 1 false (.t 32), none, 7⟩,
 ⟨some 34, .bin .sub (.t 30) (.t 33), none, 8⟩,
 ⟨some 35, .bin .mul (.t 27) (.t 34), none, 9⟩,
 ⟨some 36, .bin .add (.t 26) (.t 35), none, 10⟩,
 ⟨some 9, .mv (.t 36), none, 11⟩] [] [0, 0, 0, 4, 12, 0, 32, 96, 252, 510, 1023, 2047] [4, 5, 9, 15, 16, 17, 21, 22] [4, 5])))
 (.reg [⟨some 37, .bin .add (.t 22) (.k (.i .i64 1)), none, 0⟩,
 ⟨some 22, .mv (.t 37), none, 1⟩] [] [] [4, 5, 9, 15, 16, 17, 21, 22] [4, 5]))))
theorem wb107_0 : type_of% (@wbEq _ _ b107_0.eq_1 P F st Q) := wbEq b107_0.eq_1
def b107_1 : IR :=
  (.seq
 (.reg [⟨some 18, .bin .lss (.t 17) (.t 16), none, 0⟩] [] [] [4, 5, 15, 16, 17, 18] [4, 5])
 (.seq
 (.cond (.t 18)
 .skip
 (.exit 0))
 (.seq
 (.block 1
 (.seq
 (.reg [⟨some 19, .ixs 8 (.t 15) (.t 17), none, 0⟩,
 ⟨some 20, .load 8 true (.t 19), none, 1⟩,
 ⟨some 8, .alloc [.i .i64 0, .i .i64 0, .i .i64 0, .i .i64 0, .i .i64 0, .i .i64 0, .i .i64 0, .i .i64 0], none, 2⟩,
 ⟨none, .store 8 (.t 8) (.t 20), none, 3⟩] [] [] [4, 5, 8, 15, 16, 17] [4, 5, 8])
 (.seq
 (.reg [⟨some 9, .mv (.k (.i .i64 0)), none, 0⟩] [] [] [4, 5, 8, 9, 15, 16, 17] [4, 5, 8])
 (.seq
 (.seq
 (.reg [⟨some 21, .load 8 true (.t 8), none, 0⟩,
 ⟨some 22, .mv (.k (.i .i64 0)), none, 1⟩] [] [] [4, 5, 9, 15, 16, 17, 21, 22] [4, 5])
 (.block 2
 (.loop [4, 5, 9, 15, 16, 17, 21, 22] [4, 5] b107_0)))
 (.block 4
 (.seq
 (.reg [⟨some 39, .mv (.t 9), none, 0⟩,
 ⟨some 40, .bin .lss (.t 39) (.k (.i .i64 0)), none, 1⟩,
 ⟨some 38, .mv (.t 40), none, 2⟩] [] [] [4, 5, 9, 15, 16, 17, 38] [4, 5])
 (.cond (.t 38)
 (.seq
 (.reg [⟨some 6, .mv (.k (.i .i64 (-1))), none, 0⟩] [] [] [6] [])
 .ret)
 (.seq
 (.reg [⟨some 42, .mv (.t 9), none, 0⟩,
 ⟨some 43, .bin .gtr (.t 42) (.k (.i .i64 0)), none, 1⟩,
 ⟨some 41, .mv (.t 43), none, 2⟩] [] [] [4, 5, 15, 16, 17, 41] [4, 5])
 (.cond (.t 41)
 (.seq
 (.reg [⟨some 6, .mv (.k (.i .i64 1)), none, 0⟩] [] [] [6] [])
 .ret)
 .skip)))))))))
 (.reg [⟨some 44, .bin .add (.t 17) (.k (.i .i64 1)), none, 0⟩,
 ⟨some 17, .mv (.t 44), none, 1⟩] [] [] [4, 5, 15, 16, 17] [4, 5]))))
theorem wb107_1 : type_of% (@wbEq _ _ b107_1.eq_1 P F st Q) := wbEq b107_1.eq_1
def ir107 : IR :=
  (.seq
 (.reg [⟨some 4, .box (.t 1), none, 0⟩,
 ⟨some 5, .box (.t 2), none, 1⟩,
 ⟨some 6, .mv (.k (.i .i64 0)), none, 2⟩] [] [] [0, 4, 5] [4, 5])
 (.seq
 (.seq
 (.reg [⟨some 12, .load 8 true (.t 4), none, 0⟩,
 ⟨some 13, .load 8 true (.t 5), none, 1⟩,
 ⟨some 14, .eqa false 8 (.t 12) (.t 13), none, 2⟩] [] [] [0, 4, 5, 14] [4, 5])
 (.cond (.t 14)
 (.seq
 (.reg [⟨some 6, .mv (.k (.i .i64 0)), none, 0⟩] [] [] [6] [])
 .ret)
 .skip))
 (.seq
 (.seq
 (.reg [⟨some 15, .mv (.t 0), none, 0⟩,
 ⟨some 16, .len (.t 15), none, 1⟩,
 ⟨some 17, .mv (.k (.i .i64 0)), none, 2⟩] [] [] [4, 5, 15, 16, 17] [4, 5])
 (.block 0
 (.loop [4, 5, 15, 16, 17] [4, 5] b107_1)))
 (.seq
 (.reg [⟨some 45, .load 8 true (.t 4), none, 0⟩,
 ⟨some 46, .load 8 true (.t 5), none, 1⟩,
 ⟨some 47, .call 70 [(.t 45), (.t 46)], none, 2⟩,
 ⟨some 6, .mv (.t 47), none, 3⟩] [] [] [6] [])
 .ret))))
def rv107 : List RVar := [.t 6]
theorem chk107 : chk Tryz.prog Tryz.f107.ntmps ir107 (Tryz.f107.body.getD .skip) = true := by decide +kernel
theorem res107 : chkRes Tryz.prog Tryz.f107.results.toList rv107 = true := by decide +kernel
theorem fnr107 : FT Tryz.prog 107 48 ir107 rv107 := fnT Tryz.func107 rfl rfl chk107 res107 (by decide +kernel)
def b108_0 : IR :=
  (.seq
 (.reg [⟨some 8, .bin .lss (.t 7) (.k (.i .i64 8)), none, 0⟩] [] [] [3, 6, 7, 8] [])
 (.seq
 (.cond (.t 8)
 .skip
 (.exit 0))
 (.seq
 (.block 1
 (.seq
 (.reg [⟨some 9, .ixv 8 1 false (.t 6) (.t 7), none, 0⟩,
 ⟨some 5, .mv (.t 9), none, 1⟩] [] [] [3, 5, 6, 7] [])
 (.reg [⟨some 10, .mv (.t 3), none, 0⟩,
 ⟨some 11, .mv (.t 5), none, 1⟩,
 ⟨some 12, .bin .add (.t 10) (.t 11), none, 2⟩,
 ⟨some 3, .mv (.t 12), none, 3⟩] [] [] [3, 6, 7] [])))
 (.reg [⟨some 13, .bin .add (.t 7) (.k (.i .i64 1)), none, 0⟩,
 ⟨some 7, .mv (.t 13), none, 1⟩] [] [] [3, 6, 7] []))))
theorem wb108_0 : type_of% (@wbEq _ _ b108_0.eq_1 P F st Q) := wbEq b108_0.eq_1
def ir108 : IR :=
  (.seq
 (.reg [⟨some 1, .box (.t 0), none, 0⟩,
 ⟨some 2, .mv (.k (.i .i64 0)), none, 1⟩] [] [] [1] [1])
 (.seq
 (.reg [⟨some 3, .mv (.k (.i .i64 0)), none, 0⟩] [] [] [1, 3] [1])
 (.seq
 (.seq
 (.reg [⟨some 6, .load 8 true (.t 1), none, 0⟩,
 ⟨some 7, .mv (.k (.i .i64 0)), none, 1⟩] [] [] [3, 6, 7] [])
 (.block 0
 (.loop [3, 6, 7] [] b108_0)))
 (.seq
 (.reg [⟨some 14, .mv (.t 3), none, 0⟩,
 ⟨some 2, .mv (.t 14), none, 1⟩] [] [] [2] [])
 .ret))))
def rv108 : List RVar := [.t 2]
theorem chk108 : chk Tryz.prog Tryz.f108.ntmps ir108 (Tryz.f108.body.getD .skip) = true := by decide +kernel
theorem res108 : chkRes Tryz.prog Tryz.f108.results.toList rv108 = true := by decide +kernel
theorem fnr108 : FT Tryz.prog 108 15 ir108 rv108 := fnT Tryz.func108 rfl rfl chk108 res108 (by decide +kernel)
def b128_0 : IR :=
  (.seq
 (.reg [⟨some 12, .bin .lss (.t 11) (.t 10), none, 0⟩] [] [] [0, 1, 9, 10, 11, 12] [])
 (.seq
 (.cond (.t 12)
 .skip
 (.exit 0))
 (.seq
 (.block 1
 (.seq
 (.reg [⟨some 13, .mv (.t 11), none, 0⟩,
 ⟨some 14, .ixs 1 (.t 9) (.t 11), none, 1⟩,
 ⟨some 15, .load 1 false (.t 14), none, 2⟩,
 ⟨some 5, .mv (.t 13), none, 3⟩,
 ⟨some 6, .mv (.t 15), none, 4⟩] [] [] [0, 1, 5, 6, 9, 10, 11] [])
 (.seq
 (.seq
 (.reg [⟨some 16, .mv (.t 5), none, 0⟩,
 ⟨some 17, .mv (.t 1), none, 1⟩,
 ⟨some 18, .len (.t 17), none, 2⟩,
 ⟨some 19, .bin .geq (.t 16) (.t 18), none, 3⟩] [] [] [0, 1, 5, 6, 9, 10, 11, 19] [])
 (.cond (.t 19)
 (.seq
 (.reg [⟨some 4, .mv (.k (.i .i64 1)), none, 0⟩] [] [] [4] [])
 .ret)
 .skip))
 (.seq
 (.reg [⟨some 20, .mv (.t 1), none, 0⟩,
 ⟨some 21, .mv (.t 5), none, 1⟩,
 ⟨some 22, .ixs 1 (.t 20) (.t 21), none, 2⟩,
 ⟨some 23, .load 1 false (.t 22), none, 3⟩,
 ⟨some 7, .mv (.t 23), none, 4⟩] [] [] [0, 1, 6, 7, 9, 10, 11] [])
 (.seq
 (.reg [⟨some 24, .mv (.t 6), none, 0⟩,
 ⟨some 25, .mv (.t 7), none, 1⟩,
 ⟨some 26, .call 154 [(.t 24), (.t 25)], none, 2⟩,
 ⟨some 8, .mv (.t 26), none, 3⟩] [] [] [0, 1, 8, 9, 10, 11] [])
 (.seq
 (.reg [⟨some 27, .mv (.t 8), none, 0⟩,
 ⟨some 28, .bin .neq (.t 27) (.k (.i .i64 0)), none, 1⟩] [] [] [0, 1, 8, 9, 10, 11, 28] [])
 (.cond (.t 28)
 (.seq
 (.reg [⟨some 29, .mv (.t 8), none, 0⟩,
 ⟨some 4, .mv (.t 29), none, 1⟩] [] [] [4] [])
 .ret)
 .skip)))))))
 (.reg [⟨some 30, .bin .add (.t 11) (.k (.i .i64 1)), none, 0⟩,
 ⟨some 11, .mv (.t 30), none, 1⟩] [] [] [0, 1, 9, 10, 11] []))))
theorem wb128_0 : type_of% (@wbEq _ _ b128_0.eq_1 P F st Q) := wbEq b128_0.eq_1
def ir128 : IR :=
  (.seq
 (.reg [⟨some 4, .mv (.k (.i .i64 0)), none, 0⟩] [] [] [0, 1] [])
 (.seq
 (.seq
 (.reg [⟨some 9, .mv (.t 0), none, 0⟩,
 ⟨some 10, .len (.t 9), none, 1⟩,
 ⟨some 11, .mv (.k (.i .i64 0)), none, 2⟩] [] [] [0, 1, 9, 10, 11] [])
 (.block 0
 (.loop [0, 1, 9, 10, 11] [] b128_0)))
 (.seq
 (.seq
 (.reg [⟨some 31, .mv (.t 0), none, 0⟩,
 ⟨some 32, .len (.t 31), none, 1⟩,
 ⟨some 33, .mv (.t 1), none, 2⟩,
 ⟨some 34, .len (.t 33), none, 3⟩,
 ⟨some 35, .bin .lss (.t 32) (.t 34), none, 4⟩] [] [] [35] [])
 (.cond (.t 35)
 (.seq
 (.reg [⟨some 4, .mv (.k (.i .i64 (-1))), none, 0⟩] [] [] [4] [])
 .ret)
 .skip))
 (.seq
 (.reg [⟨some 4, .mv (.k (.i .i64 0)), none, 0⟩] [] [] [4] [])
 .ret))))
def rv128 : List RVar := [.t 4]
theorem chk128 : chk Tryz.prog Tryz.f128.ntmps ir128 (Tryz.f128.body.getD .skip) = true := by decide +kernel
theorem res128 : chkRes Tryz.prog Tryz.f128.results.toList rv128 = true := by decide +kernel
theorem fnr128 : FT Tryz.prog 128 36 ir128 rv128 := fnT Tryz.func128 rfl rfl chk128 res128 (by decide +kernel)
def b129_0 : IR :=
  (.seq
 (.reg [⟨some 9, .bin .lss (.t 8) (.k (.i .i64 8)), none, 0⟩] [] [] [2, 3, 4, 6, 8, 9] [3, 4, 6])
 (.seq
 (.cond (.t 9)
 .skip
 (.exit 0))
 (.seq
 (.block 1
 (.seq
 (.reg [⟨some 10, .mv (.t 8), none, 0⟩,
 ⟨some 7, .mv (.t 10), none, 1⟩] [] [] [2, 3, 4, 6, 7, 8] [3, 4, 6])
 (.reg [⟨some 11, .mv (.t 7), none, 0⟩,
 ⟨some 12, .mv (.t 2), none, 1⟩,
 ⟨some 13, .mv (.t 7), none, 2⟩,
 ⟨some 14, .ixa 8 1 (.t 3) (.t 13), none, 3⟩,
 ⟨some 15, .load 1 false (.t 14), none, 4⟩,
 ⟨some 16, .mv (.t 7), none, 5⟩,
 ⟨some 17, .ixa 8 1 (.t 4) (.t 16), none, 6⟩,
 ⟨some 18, .load 1 false (.t 17), none, 7⟩,
 ⟨some 19, .callv (.t 12) [(.t 15), (.t 18)], none, 8⟩,
 ⟨some 20, .ixa 8 1 (.t 3) (.t 11), none, 9⟩,
 ⟨none, .store 1 (.t 20) (.t 19), none, 10⟩] [] [0, 0, 0, 4, 12, 0, 32, 96, 254, 511, 1023] [2, 3, 4, 6, 8] [3, 4, 6])))
 (.reg [⟨some 21, .bin .add (.t 8) (.k (.i .i64 1)), none, 0⟩,
 ⟨some 8, .mv (.t 21), none, 1⟩] [] [] [2, 3, 4, 6, 8] [3, 4, 6]))))
theorem wb129_0 : type_of% (@wbEq _ _ b129_0.eq_1 P F st Q) := wbEq b129_0.eq_1
def ir129 : IR :=
  (.seq
 (.reg [⟨some 3, .box (.t 0), none, 0⟩,
 ⟨some 4, .box (.t 1), none, 1⟩,
 ⟨some 6, .alloc [.i .i64 0, .i .i64 0, .i .i64 0, .i .i64 0, .i .i64 0, .i .i64 0, .i .i64 0, .i .i64 0], none, 2⟩] [] [] [2, 3, 4, 6] [3, 4, 6])
 (.seq
 (.seq
 (.reg [⟨some 8, .mv (.k (.i .i64 0)), none, 0⟩] [] [] [2, 3, 4, 6, 8] [3, 4, 6])
 (.block 0
 (.loop [2, 3, 4, 6, 8] [3, 4, 6] b129_0)))
 (.seq
 (.reg [⟨some 22, .load 8 true (.t 3), none, 0⟩,
 ⟨none, .store 8 (.t 6) (.t 22), none, 1⟩] [] [] [6] [6])
 .ret)))
def rv129 : List RVar := [.c 6 8 true]
theorem chk129 : chk Tryz.prog Tryz.f129.ntmps ir129 (Tryz.f129.body.getD .skip) = true := by decide +kernel
theorem res129 : chkRes Tryz.prog Tryz.f129.results.toList rv129 = true := by decide +kernel
theorem fnr129 : FT Tryz.prog 129 23 ir129 rv129 := fnT Tryz.func129 rfl rfl chk129 res129 (by decide +kernel)
def ir130 : IR :=
  (.seq
 (.reg [⟨some 4, .mv (.k (.i .i64 0)), none, 0⟩] [] [] [0, 1] [])
 (.seq
 (.reg [⟨some 5, .mv (.t 0), none, 0⟩,
 ⟨some 6, .mv (.t 1), none, 1⟩,
 ⟨some 7, .bin .add (.t 5) (.t 6), none, 2⟩,
 ⟨some 4, .mv (.t 7), none, 3⟩] [] [] [4] [])
 .ret))
def rv130 : List RVar := [.t 4]
theorem chk130 : chk Tryz.prog Tryz.f130.ntmps ir130 (Tryz.f130.body.getD .skip) = true := by decide +kernel
theorem res130 : chkRes Tryz.prog Tryz.f130.results.toList rv130 = true := by decide +kernel
theorem fnr130 : FT Tryz.prog 130 8 ir130 rv130 := fnT Tryz.func130 rfl rfl chk130 res130 (by decide +kernel)
def ir134 : IR :=
  (.seq
 (.reg [⟨some 2, .box (.t 0), none, 0⟩,
 ⟨some 3, .box (.t 1), none, 1⟩,
 ⟨some 4, .mv (.k (.i .i64 0)), none, 2⟩] [] [] [2, 3] [2, 3])
 (.seq
 (.reg [⟨some 5, .fld 4 (.t 3), none, 0⟩,
 ⟨some 6, .load 8 true (.t 5), none, 1⟩,
 ⟨some 7, .fld 4 (.t 2), none, 2⟩,
 ⟨some 8, .load 8 true (.t 7), none, 3⟩,
 ⟨some 9, .call 70 [(.t 6), (.t 8)], none, 4⟩,
 ⟨some 4, .mv (.t 9), none, 5⟩] [] [] [4] [])
 .ret))
def rv134 : List RVar := [.t 4]
theorem chk134 : chk Tryz.prog Tryz.f134.ntmps ir134 (Tryz.f134.body.getD .skip) = true := by decide +kernel
theorem res134 : chkRes Tryz.prog Tryz.f134.results.toList rv134 = true := by decide +kernel
theorem fnr134 : FT Tryz.prog 134 10 ir134 rv134 := fnT Tryz.func134 rfl rfl chk134 res134 (by decide +kernel)
def b15_0 : IR :=
  (.seq
 (.seq
 (.reg [⟨some 4, .mv (.t 3), none, 0⟩,
 ⟨some 5, .mv (.t 0), none, 1⟩,
 ⟨some 6, .len (.t 5), none, 2⟩,
 ⟨some 7, .bin .lss (.t 4) (.t 6), none, 3⟩] [] [] [0, 3, 7] [])
 (.cond (.t 7)
 .skip
 (.exit 0)))
 (.seq
 (.block 1
 (.seq
 (.seq
 (.reg [⟨some 10, .mv (.t 0), none, 0⟩,
 ⟨some 11, .mv (.t 3), none, 1⟩,
 ⟨some 12, .ixs 12 (.t 10) (.t 11), none, 2⟩,
 ⟨some 13, .fld 0 (.t 12), none, 3⟩,
 ⟨some 14, .load 4 true (.t 13), none, 4⟩,
 ⟨some 15, .call 28 [(.t 14)], none, 5⟩,
 ⟨some 16, .un .not (.t 15), none, 6⟩,
 ⟨some 17, .mv (.t 16), none, 7⟩,
 ⟨some 18, .mv (.t 0), some (17, false), 8⟩,
 ⟨some 19, .mv (.t 3), some (17, false), 9⟩,
 ⟨some 20, .ixs 12 (.t 18) (.t 19), some (17, false), 10⟩,
 ⟨some 21, .fld 0 (.t 20), some (17, false), 11⟩,
 ⟨some 22, .load 4 true (.t 21), some (17, false), 12⟩,
 ⟨some 23, .call 71 [(.t 22)], some (17, false), 13⟩,
 ⟨some 24, .bin .eql (.t 23) (.k (.i .i64 0)), some (17, false), 14⟩,
 ⟨some 25, .pick (.t 17) (.k (.b true)) (.t 24), none, 15⟩,
 ⟨some 26, .mv (.t 25), none, 16⟩,
 ⟨some 27, .mv (.t 0), some (26, false), 17⟩,
 ⟨some 28, .mv (.t 3), some (26, false), 18⟩,
 ⟨some 29, .ixs 12 (.t 27) (.t 28), some (26, false), 19⟩,
 ⟨some 30, .fld 4 (.t 29), some (26, false), 20⟩,
 ⟨some 31, .load 8 true (.t 30), some (26, false), 21⟩,
 ⟨some 32, .call 72 [(.t 31)], some (26, false), 22⟩,
 ⟨some 33, .un .not (.t 32), some (26, false), 23⟩,
 ⟨some 34, .pick (.t 26) (.k (.b true)) (.t 33), none, 24⟩] [] [] [0, 3, 34] [])
 (.cond (.t 34)
 (.seq
 (.reg [⟨some 2, .mv (.k (.b false)), none, 0⟩] [] [] [2] [])
 .ret)
 .skip))
 (.seq
 (.reg [⟨some 35, .mv (.t 3), none, 0⟩,
 ⟨some 36, .bin .gtr (.t 35) (.k (.i .i64 0)), none, 1⟩,
 ⟨some 37, .mv (.t 36), none, 2⟩,
 ⟨some 38, .mv (.t 0), some (37, true), 3⟩,
 ⟨some 39, .mv (.t 3), some (37, true), 4⟩,
 ⟨some 40, .bin .sub (.t 39) (.k (.i .i64 1)), some (37, true), 5⟩,
 ⟨some 41, .ixs 12 (.t 38) (.t 40), some (37, true), 6⟩,
 ⟨some 42, .fld 4 (.t 41), some (37, true), 7⟩,
 ⟨some 43, .load 8 true (.t 42), some (37, true), 8⟩,
 ⟨some 44, .mv (.t 0), some (37, true), 9⟩,
 ⟨some 45, .mv (.t 3), some (37, true), 10⟩,
 ⟨some 46, .ixs 12 (.t 44) (.t 45), some (37, true), 11⟩,
 ⟨some 47, .fld 4 (.t 46), some (37, true), 12⟩,
 ⟨some 48, .load 8 true (.t 47), some (37, true), 13⟩,
 ⟨some 49, .call 73 [(.t 43), (.t 48)], some (37, true), 14⟩,
 ⟨some 50, .bin .leq (.t 49) (.k (.i .i64 0)), some (37, true), 15⟩,
 ⟨some 51, .pick (.t 37) (.t 50) (.k (.b false)), none, 16⟩] [] [0, 1, 3, 7, 7, 23, 63, 127, 255, 7, 7, 1543, 3591, 7687, 16383, 32767, 65535] [0, 3, 51] [])
 (.cond (.t 51)
 (.seq
 (.reg [⟨some 2, .mv (.k (.b false)), none, 0⟩] [] [] [2] [])
 .ret)
 .skip))))
 (.reg [⟨some 8, .mv (.t 3), none, 0⟩,
 ⟨some 9, .bin .add (.t 8) (.k (.i .i64 1)), none, 1⟩,
 ⟨some 3, .mv (.t 9), none, 2⟩] [] [] [0, 3] [])))
theorem wb15_0 : type_of% (@wbEq _ _ b15_0.eq_1 P F st Q) := wbEq b15_0.eq_1
def ir15 : IR :=
  (.seq
 (.reg [⟨some 2, .mv (.k (.b false)), none, 0⟩] [] [] [0] [])
 (.seq
 (.seq
 (.reg [⟨some 3, .mv (.k (.i .i64 0)), none, 0⟩] [] [] [0, 3] [])
 (.block 0
 (.loop [0, 3] [] b15_0)))
 (.seq
 (.reg [⟨some 2, .mv (.k (.b true)), none, 0⟩] [] [] [2] [])
 .ret)))
def rv15 : List RVar := [.t 2]
theorem chk15 : chk Tryz.prog Tryz.f15.ntmps ir15 (Tryz.f15.body.getD .skip) = true := by decide +kernel
theorem res15 : chkRes Tryz.prog Tryz.f15.results.toList rv15 = true := by decide +kernel
theorem fnr15 : FT Tryz.prog 15 52 ir15 rv15 := fnT Tryz.func15 rfl rfl chk15 res15 (by decide +kernel)
def b19_0 : IR :=
  (.seq
 (.seq
 (.reg [⟨some 11, .mv (.t 5), none, 0⟩,
 ⟨some 12, .mv (.t 0), none, 1⟩,
 ⟨some 13, .len (.t 12), none, 2⟩,
 ⟨some 14, .bin .lss (.t 11) (.t 13), none, 3⟩] [] [] [0, 1, 5, 14] [])
 (.cond (.t 14)
 .skip
 (.exit 0)))
 (.seq
 (.block 1
 (.seq
 (.reg [⟨some 17, .mv (.t 0), none, 0⟩,
 ⟨some 18, .mv (.t 5), none, 1⟩,
 ⟨some 19, .ixs 12 (.t 17) (.t 18), none, 2⟩,
 ⟨some 20, .load 12 true (.t 19), none, 3⟩,
 ⟨some 21, .mv (.t 1), none, 4⟩,
 ⟨some 22, .mv (.t 5), none, 5⟩,
 ⟨some 23, .ixs 12 (.t 21) (.t 22), none, 6⟩,
 ⟨some 24, .load 12 true (.t 23), none, 7⟩,
 ⟨some 25, .call 78 [(.t 20), (.t 24)], none, 8⟩,
 ⟨some 26, .un .not (.t 25), none, 9⟩] [] [0, 0, 3, 7, 0, 0, 48, 112, 255, 511] [0, 1, 5, 26] [])
 (.cond (.t 26)
 (.seq
 (.reg [⟨some 4, .mv (.k (.b false)), none, 0⟩] [] [] [4] [])
 .ret)
 .skip)))
 (.reg [⟨some 15, .mv (.t 5), none, 0⟩,
 ⟨some 16, .bin .add (.t 15) (.k (.i .i64 1)), none, 1⟩,
 ⟨some 5, .mv (.t 16), none, 2⟩] [] [] [0, 1, 5] [])))
theorem wb19_0 : type_of% (@wbEq _ _ b19_0.eq_1 P F st Q) := wbEq b19_0.eq_1
def ir19 : IR :=
  (.seq
 (.reg [⟨some 4, .mv (.k (.b false)), none, 0⟩] [] [] [0, 1] [])
 (.seq
 (.seq
 (.reg [⟨some 6, .mv (.t 0), none, 0⟩,
 ⟨some 7, .len (.t 6), none, 1⟩,
 ⟨some 8, .mv (.t 1), none, 2⟩,
 ⟨some 9, .len (.t 8), none, 3⟩,
 ⟨some 10, .bin .neq (.t 7) (.t 9), none, 4⟩] [] [] [0, 1, 10] [])
 (.cond (.t 10)
 (.seq
 (.reg [⟨some 4, .mv (.k (.b false)), none, 0⟩] [] [] [4] [])
 .ret)
 .skip))
 (.seq
 (.seq
 (.reg [⟨some 5, .mv (.k (.i .i64 0)), none, 0⟩] [] [] [0, 1, 5] [])
 (.block 0
 (.loop [0, 1, 5] [] b19_0)))
 (.seq
 (.reg [⟨some 4, .mv (.k (.b true)), none, 0⟩] [] [] [4] [])
 .ret))))
def rv19 : List RVar := [.t 4]
theorem chk19 : chk Tryz.prog Tryz.f19.ntmps ir19 (Tryz.f19.body.getD .skip) = true := by decide +kernel
theorem res19 : chkRes Tryz.prog Tryz.f19.results.toList rv19 = true := by decide +kernel
theorem fnr19 : FT Tryz.prog 19 27 ir19 rv19 := fnT Tryz.func19 rfl rfl chk19 res19 (by decide +kernel)
def b33_0 : IR :=
  (.seq
 (.seq
 (.reg [⟨some 29, .mv (.t 13), none, 0⟩,
 ⟨some 30, .mv (.t 1), none, 1⟩,
 ⟨some 31, .bin .lss (.t 29) (.t 30), none, 2⟩,
 ⟨some 32, .mv (.t 31), none, 3⟩,
 ⟨some 33, .mv (.t 13), some (32, true), 4⟩,
 ⟨some 34, .bin .lss (.t 33) (.k (.i .i64 4)), some (32, true), 5⟩,
 ⟨some 35, .pick (.t 32) (.t 34) (.k (.b false)), none, 6⟩] [] [] [1, 2, 3, 4, 9, 10, 11, 12, 13, 35] [4, 11])
 (.cond (.t 35)
 .skip
 (.exit 2)))
 (.seq
 (.block 3
 (.seq
 (.reg [⟨some 38, .mv (.t 13), none, 0⟩,
 ⟨some 39, .fld 0 (.t 4), none, 1⟩,
 ⟨some 40, .load 1 false (.t 39), none, 2⟩,
 ⟨some 41, .mv (.t 10), none, 3⟩,
 ⟨some 42, .mv (.t 13), none, 4⟩,
 ⟨some 43, .bin .add (.k (.i .i64 1)) (.t 42), none, 5⟩,
 ⟨some 44, .ixs 5 (.t 40) (.t 41), none, 6⟩,
 ⟨some 45, .ixa 5 1 (.t 44) (.t 43), none, 7⟩,
 ⟨some 46, .load 1 false (.t 45), none, 8⟩,
 ⟨some 47, .call 97 [(.t 46)], none, 9⟩,
 ⟨some 48, .mv (.t 12), none, 10⟩,
 ⟨some 49, .bin .add (.t 48) (.k (.i .i64 1)), none, 11⟩,
 ⟨some 50, .bin .rem (.t 47) (.t 49), none, 12⟩,
 ⟨some 51, .ixa 8 1 (.t 11) (.t 38), none, 13⟩,
 ⟨none, .store 1 (.t 51) (.t 50), none, 14⟩] [] [] [1, 2, 3, 4, 9, 10, 11, 12, 13] [4, 11])
 (.reg [⟨some 52, .mv (.t 12), none, 0⟩,
 ⟨some 53, .mv (.t 13), none, 1⟩,
 ⟨some 54, .ixa 8 1 (.t 11) (.t 53), none, 2⟩,
 ⟨some 55, .load 1 false (.t 54), none, 3⟩,
 ⟨some 56, .bin .sub (.t 52) (.t 55), none, 4⟩,
 ⟨some 12, .mv (.t 56), none, 5⟩] [] [] [1, 2, 3, 4, 9, 10, 11, 12, 13] [4, 11])))
 (.reg [⟨some 36, .mv (.t 13), none, 0⟩,
 ⟨some 37, .bin .add (.t 36) (.k (.i .i64 1)), none, 1⟩,
 ⟨some 13, .mv (.t 37), none, 2⟩] [] [] [1, 2, 3, 4, 9, 10, 11, 12, 13] [4, 11])))
theorem wb33_0 : type_of% (@wbEq _ _ b33_0.eq_1 P F st Q) := wbEq b33_0.eq_1
def b33_1 : IR :=
  (.seq
 (.seq
 (.reg [⟨some 15, .mv (.t 10), none, 0⟩,
 ⟨some 16, .fld 0 (.t 4), none, 1⟩,
 ⟨some 17, .load 1 false (.t 16), none, 2⟩,
 ⟨some 18, .len (.t 17), none, 3⟩,
 ⟨some 19, .bin .lss (.t 15) (.t 18), none, 4⟩,
 ⟨some 20, .mv (.t 19), none, 5⟩,
 ⟨some 21, .mv (.t 10), some (20, true), 6⟩,
 ⟨some 22, .mv (.t 3), some (20, true), 7⟩,
 ⟨some 23, .bin .lss (.t 21) (.t 22), some (20, true), 8⟩,
 ⟨some 24, .pick (.t 20) (.t 23) (.k (.b false)), none, 9⟩] [] [] [1, 2, 3, 4, 9, 10, 24] [4])
 (.cond (.t 24)
 .skip
 (.exit 0)))
 (.seq
 (.block 1
 (.seq
 (.reg [⟨some 27, .build [.i .i64 0, .i .i64 0, .i .i64 0, .i .i64 0, .i .i64 0, .i .i64 0, .i .i64 0, .i .i64 0] [], none, 0⟩,
 ⟨some 11, .alloc [.i .i64 0, .i .i64 0, .i .i64 0, .i .i64 0, .i .i64 0, .i .i64 0, .i .i64 0, .i .i64 0], none, 1⟩,
 ⟨none, .store 8 (.t 11) (.t 27), none, 2⟩] [] [] [1, 2, 3, 4, 9, 10, 11] [4, 11])
 (.seq
 (.reg [⟨some 28, .mv (.t 2), none, 0⟩,
 ⟨some 12, .mv (.t 28), none, 1⟩] [] [] [1, 2, 3, 4, 9, 10, 11, 12] [4, 11])
 (.seq
 (.seq
 (.reg [⟨some 13, .mv (.k (.i .i64 0)), none, 0⟩] [] [] [1, 2, 3, 4, 9, 10, 11, 12, 13] [4, 11])
 (.block 2
 (.loop [1, 2, 3, 4, 9, 10, 11, 12, 13] [4, 11] b33_0)))
 (.reg [⟨some 57, .mv (.t 9), none, 0⟩,
 ⟨some 58, .fld 0 (.t 4), none, 1⟩,
 ⟨some 59, .load 1 false (.t 58), none, 2⟩,
 ⟨some 60, .mv (.t 10), none, 3⟩,
 ⟨some 61, .ixs 5 (.t 59) (.t 60), none, 4⟩,
 ⟨some 62, .ixa 5 1 (.t 61) (.k (.i .i64 0)), none, 5⟩,
 ⟨some 63, .load 1 false (.t 62), none, 6⟩,
 ⟨some 64, .bin .rem (.t 63) (.k (.i .i8 4)), none, 7⟩,
 ⟨some 65, .conv .i64 (.t 64), none, 8⟩,
 ⟨some 66, .call 23 [(.t 65)], none, 9⟩,
 ⟨some 67, .call 23 [(.k (.i .i64 1))], none, 10⟩,
 ⟨some 68, .load 8 true (.t 11), none, 11⟩,
 ⟨some 69, .build [.b false, .sl 1 true [], .b false, .sl 1 true [], .i .i64 0, .i .i64 0, .i .i64 0, .i .i64 0, .i .i64 0, .i .i64 0, .i .i64 0, .i .i64 0] [(0, 4, (.t 67)), (4, 8, (.t 68))], none, 12⟩,
 ⟨some 70, .bsl 12 [(.t 69)], none, 13⟩,
 ⟨some 71, .call 98 [(.t 66), (.t 70)], none, 14⟩,
 ⟨some 72, .call 56 [(.t 57), (.t 71)], none, 15⟩,
 ⟨some 9, .mv (.t 72), none, 16⟩] [] [0, 0, 2, 0, 14, 30, 62, 126, 254, 510, 1022, 0, 4094, 8190, 16382, 32767, 65535] [1, 2, 3, 4, 9, 10] [4])))))
 (.reg [⟨some 25, .mv (.t 10), none, 0⟩,
 ⟨some 26, .bin .add (.t 25) (.k (.i .i64 1)), none, 1⟩,
 ⟨some 10, .mv (.t 26), none, 2⟩] [] [] [1, 2, 3, 4, 9, 10] [4])))
theorem wb33_1 : type_of% (@wbEq _ _ b33_1.eq_1 P F st Q) := wbEq b33_1.eq_1
def ir33 : IR :=
  (.seq
 (.reg [⟨some 4, .box (.t 0), none, 0⟩,
 ⟨some 8, .mv (.k (.sl 12 true [])), none, 1⟩] [] [] [1, 2, 3, 4] [4])
 (.seq
 (.reg [⟨some 14, .bsl 12 [], none, 0⟩,
 ⟨some 9, .mv (.t 14), none, 1⟩] [] [] [1, 2, 3, 4, 9] [4])
 (.seq
 (.seq
 (.reg [⟨some 10, .mv (.k (.i .i64 0)), none, 0⟩] [] [] [1, 2, 3, 4, 9, 10] [4])
 (.block 0
 (.loop [1, 2, 3, 4, 9, 10] [4] b33_1)))
 (.seq
 (.reg [⟨some 73, .mv (.t 9), none, 0⟩,
 ⟨some 8, .mv (.t 73), none, 1⟩] [] [] [8] [])
 .ret))))
def rv33 : List RVar := [.t 8]
theorem chk33 : chk Tryz.prog Tryz.f33.ntmps ir33 (Tryz.f33.body.getD .skip) = true := by decide +kernel
theorem res33 : chkRes Tryz.prog Tryz.f33.results.toList rv33 = true := by decide +kernel
theorem fnr33 : FT Tryz.prog 33 74 ir33 rv33 := fnT Tryz.func33 rfl rfl chk33 res33 (by decide +kernel)
def b39_0 : IR :=
  (.seq
 (.seq
 (.reg [⟨some 7, .mv (.t 6), none, 0⟩,
 ⟨some 8, .bin .lss (.t 7) (.k (.i .i64 8)), none, 1⟩] [] [] [2, 3, 4, 6, 8] [2, 3, 4])
 (.cond (.t 8)
 .skip
 (.exit 0)))
 (.seq
 (.block 1
 (.reg [⟨some 11, .mv (.t 6), none, 0⟩,
 ⟨some 12, .ixa 8 1 (.t 2) (.t 11), none, 1⟩,
 ⟨some 13, .load 1 false (.t 12), none, 2⟩,
 ⟨some 14, .mv (.t 6), none, 3⟩,
 ⟨some 15, .ixa 8 1 (.t 3) (.t 14), none, 4⟩,
 ⟨some 16, .load 1 false (.t 15), none, 5⟩,
 ⟨some 17, .bin .add (.t 13) (.t 16), none, 6⟩,
 ⟨some 18, .ixa 8 1 (.t 2) (.t 11), none, 7⟩,
 ⟨none, .store 1 (.t 18) (.t 17), none, 8⟩] [] [0, 1, 3, 0, 8, 24, 63, 127, 255] [2, 3, 4, 6] [2, 3, 4]))
 (.reg [⟨some 9, .mv (.t 6), none, 0⟩,
 ⟨some 10, .bin .add (.t 9) (.k (.i .i64 1)), none, 1⟩,
 ⟨some 6, .mv (.t 10), none, 2⟩] [] [] [2, 3, 4, 6] [2, 3, 4])))
theorem wb39_0 : type_of% (@wbEq _ _ b39_0.eq_1 P F st Q) := wbEq b39_0.eq_1
def ir39 : IR :=
  (.seq
 (.reg [⟨some 2, .box (.t 0), none, 0⟩,
 ⟨some 3, .box (.t 1), none, 1⟩,
 ⟨some 4, .alloc [.i .i64 0, .i .i64 0, .i .i64 0, .i .i64 0, .i .i64 0, .i .i64 0, .i .i64 0, .i .i64 0], none, 2⟩,
 ⟨some 5, .mv (.k (.i .i64 0)), none, 3⟩] [] [] [2, 3, 4] [2, 3, 4])
 (.seq
 (.seq
 (.reg [⟨some 6, .mv (.k (.i .i64 0)), none, 0⟩] [] [] [2, 3, 4, 6] [2, 3, 4])
 (.block 0
 (.loop [2, 3, 4, 6] [2, 3, 4] b39_0)))
 (.seq
 (.seq
 (.reg [⟨some 19, .load 8 true (.t 2), none, 0⟩,
 ⟨some 20, .call 72 [(.t 19)], none, 1⟩,
 ⟨some 21, .un .not (.t 20), none, 2⟩] [] [] [2, 4, 21] [2, 4])
 (.cond (.t 21)
 (.seq
 (.reg [⟨some 22, .build [.i .i64 0, .i .i64 0, .i .i64 0, .i .i64 0, .i .i64 0, .i .i64 0, .i .i64 0, .i .i64 0] [], none, 0⟩,
 ⟨none, .store 8 (.t 4) (.t 22), none, 1⟩,
 ⟨some 5, .mv (.k (.i .i64 2)), none, 2⟩] [] [] [4, 5] [4])
 .ret)
 .skip))
 (.seq
 (.reg [⟨some 23, .load 8 true (.t 2), none, 0⟩,
 ⟨none, .store 8 (.t 4) (.t 23), none, 1⟩,
 ⟨some 5, .mv (.k (.i .i64 0)), none, 2⟩] [] [] [4, 5] [4])
 .ret))))
def rv39 : List RVar := [.c 4 8 true, .t 5]
theorem chk39 : chk Tryz.prog Tryz.f39.ntmps ir39 (Tryz.f39.body.getD .skip) = true := by decide +kernel
theorem res39 : chkRes Tryz.prog Tryz.f39.results.toList rv39 = true := by decide +kernel
theorem fnr39 : FT Tryz.prog 39 24 ir39 rv39 := fnT Tryz.func39 rfl rfl chk39 res39 (by decide +kernel)
def ir47 : IR :=
  (.seq
 (.reg [⟨some 4, .mv (.k (.sl 12 true [])), none, 0⟩] [] [] [0, 1] [])
 (.seq
 (.reg [⟨some 8, .mv (.t 0), none, 0⟩,
 ⟨some 9, .mv (.t 1), none, 1⟩,
 ⟨some 10, .call 115 [(.t 8), (.t 9)], none, 2⟩,
 ⟨some 7, .mv (.t 10), none, 3⟩,
 ⟨some 11, .ext 0 (.t 7), none, 4⟩,
 ⟨some 12, .ext 1 (.t 7), none, 5⟩,
 ⟨some 5, .mv (.t 11), none, 6⟩,
 ⟨some 6, .mv (.t 12), none, 7⟩] [] [] [5] [])
 (.seq
 (.reg [⟨some 13, .mv (.t 5), none, 0⟩,
 ⟨some 4, .mv (.t 13), none, 1⟩] [] [] [4] [])
 .ret)))
def rv47 : List RVar := [.t 4]
theorem chk47 : chk Tryz.prog Tryz.f47.ntmps ir47 (Tryz.f47.body.getD .skip) = true := by decide +kernel
theorem res47 : chkRes Tryz.prog Tryz.f47.results.toList rv47 = true := by decide +kernel
theorem fnr47 : FT Tryz.prog 47 14 ir47 rv47 := fnT Tryz.func47 rfl rfl chk47 res47 (by decide +kernel)
def ir49 : IR :=
  (.seq
 (.reg [⟨some 2, .mv (.k (.sl 12 true [])), none, 0⟩] [] [] [0] [])
 (.seq
 (.reg [⟨some 6, .mv (.t 0), none, 0⟩,
 ⟨some 7, .call 116 [(.t 6)], none, 1⟩,
 ⟨some 5, .mv (.t 7), none, 2⟩,
 ⟨some 8, .ext 0 (.t 5), none, 3⟩,
 ⟨some 9, .ext 1 (.t 5), none, 4⟩,
 ⟨some 3, .mv (.t 8), none, 5⟩,
 ⟨some 4, .mv (.t 9), none, 6⟩] [] [] [3] [])
 (.seq
 (.reg [⟨some 10, .mv (.t 3), none, 0⟩,
 ⟨some 2, .mv (.t 10), none, 1⟩] [] [] [2] [])
 .ret)))
def rv49 : List RVar := [.t 2]
theorem chk49 : chk Tryz.prog Tryz.f49.ntmps ir49 (Tryz.f49.body.getD .skip) = true := by decide +kernel
theorem res49 : chkRes Tryz.prog Tryz.f49.results.toList rv49 = true := by decide +kernel
theorem fnr49 : FT Tryz.prog 49 11 ir49 rv49 := fnT Tryz.func49 rfl rfl chk49 res49 (by decide +kernel)
def b52_0 : IR :=
  (.seq
 (.seq
 (.reg [⟨some 16, .mv (.t 9), none, 0⟩,
 ⟨some 17, .mv (.t 2), none, 1⟩,
 ⟨some 18, .len (.t 17), none, 2⟩,
 ⟨some 19, .bin .lss (.t 16) (.t 18), none, 3⟩] [] [] [2, 3, 4, 8, 9, 19] [3, 4, 45])
 (.cond (.t 19)
 .skip
 (.exit 0)))
 (.seq
 (.block 1
 (.seq
 (.reg [⟨some 23, .load 8 true (.t 4), none, 0⟩,
 ⟨some 24, .mv (.t 2), none, 1⟩,
 ⟨some 25, .mv (.t 9), none, 2⟩,
 ⟨some 26, .ixs 12 (.t 24) (.t 25), none, 3⟩,
 ⟨some 27, .fld 4 (.t 26), none, 4⟩,
 ⟨some 28, .load 8 true (.t 27), none, 5⟩,
 ⟨some 29, .call 39 [(.t 23), (.t 28)], none, 6⟩,
 ⟨some 22, .mv (.t 29), none, 7⟩,
 ⟨some 30, .ext 0 (.t 22), none, 8⟩,
 ⟨some 31, .ext 1 (.t 22), none, 9⟩,
 ⟨some 10, .alloc [.i .i64 0, .i .i64 0, .i .i64 0, .i .i64 0, .i .i64 0, .i .i64 0, .i .i64 0, .i .i64 0], none, 10⟩,
 ⟨none, .store 8 (.t 10) (.t 30), none, 11⟩,
 ⟨some 11, .mv (.t 31), none, 12⟩] [] [0, 0, 0, 6, 14, 30, 63, 127, 255, 255, 0, 1535, 4095] [2, 3, 4, 8, 9, 10, 11] [3, 4, 10, 45])
 (.seq
 (.seq
 (.reg [⟨some 32, .mv (.t 11), none, 0⟩,
 ⟨some 33, .bin .neq (.t 32) (.k (.i .i64 0)), none, 1⟩] [] [] [2, 3, 4, 8, 9, 10, 33] [3, 4, 10, 45])
 (.cond (.t 33)
 (.seq
 (.reg [⟨some 6, .mv (.k (.sl 12 true [])), none, 0⟩,
 ⟨some 7, .mv (.k (.i .i64 2)), none, 1⟩] [] [] [6, 7] [45])
 (.frz 6
 .ret))
 .skip))
 (.reg [⟨some 34, .mv (.t 8), none, 0⟩,
 ⟨some 35, .load 4 true (.t 3), none, 1⟩,
 ⟨some 36, .mv (.t 2), none, 2⟩,
 ⟨some 37, .mv (.t 9), none, 3⟩,
 ⟨some 38, .ixs 12 (.t 36) (.t 37), none, 4⟩,
 ⟨some 39, .fld 0 (.t 38), none, 5⟩,
 ⟨some 40, .load 4 true (.t 39), none, 6⟩,
 ⟨some 41, .call 32 [(.t 35), (.t 40)], none, 7⟩,
 ⟨some 42, .load 8 true (.t 10), none, 8⟩,
 ⟨some 43, .build [.b false, .sl 1 true [], .b false, .sl 1 true [], .i .i64 0, .i .i64 0, .i .i64 0, .i .i64 0, .i .i64 0, .i .i64 0, .i .i64 0, .i .i64 0] [(0, 4, (.t 41)), (4, 8, (.t 42))], none, 9⟩,
 ⟨some 44, .bsl 12 [(.t 43)], none, 10⟩,
 ⟨some 45, .app 12 128 (.t 34) (.t 44), none, 11⟩,
 ⟨some 8, .mv (.t 45), none, 12⟩] [] [0, 0, 0, 0, 12, 28, 60, 126, 0, 510, 1022, 2047, 4095] [2, 3, 4, 8, 9] [3, 4, 45]))))
 (.reg [⟨some 20, .mv (.t 9), none, 0⟩,
 ⟨some 21, .bin .add (.t 20) (.k (.i .i64 1)), none, 1⟩,
 ⟨some 9, .mv (.t 21), none, 2⟩] [] [] [2, 3, 4, 8, 9] [3, 4, 45])))
theorem wb52_0 : type_of% (@wbEq _ _ b52_0.eq_1 P F st Q) := wbEq b52_0.eq_1
def ir52 : IR :=
  (.seq
 (.reg [⟨some 3, .box (.t 0), none, 0⟩,
 ⟨some 4, .box (.t 1), none, 1⟩,
 ⟨some 6, .mv (.k (.sl 12 true [])), none, 2⟩,
 ⟨some 7, .mv (.k (.i .i64 0)), none, 3⟩] [] [] [2, 3, 4] [3, 4])
 (.seq
 (.reg [⟨some 12, .bsl 12 [], none, 0⟩,
 ⟨some 8, .mv (.t 12), none, 1⟩] [] [] [2, 3, 4, 8] [3, 4, 45])
 (.seq
 (.seq
 (.reg [⟨some 13, .load 4 true (.t 3), none, 0⟩,
 ⟨some 14, .call 71 [(.t 13)], none, 1⟩,
 ⟨some 15, .bin .eql (.t 14) (.k (.i .i64 0)), none, 2⟩] [] [] [2, 3, 4, 8, 15] [3, 4, 45])
 (.cond (.t 15)
 (.seq
 (.reg [⟨some 6, .mv (.k (.sl 12 true [])), none, 0⟩,
 ⟨some 7, .mv (.k (.i .i64 0)), none, 1⟩] [] [] [6, 7] [45])
 (.frz 6
 .ret))
 .skip))
 (.seq
 (.seq
 (.reg [⟨some 9, .mv (.k (.i .i64 0)), none, 0⟩] [] [] [2, 3, 4, 8, 9] [3, 4, 45])
 (.block 0
 (.loop [2, 3, 4, 8, 9] [3, 4, 45] b52_0)))
 (.seq
 (.reg [⟨some 46, .mv (.t 8), none, 0⟩,
 ⟨some 6, .mv (.t 46), none, 1⟩,
 ⟨some 7, .mv (.k (.i .i64 0)), none, 2⟩] [] [] [6, 7] [45])
 (.frz 6
 .ret))))))
def rv52 : List RVar := [.t 6, .t 7]
theorem chk52 : chk Tryz.prog Tryz.f52.ntmps ir52 (Tryz.f52.body.getD .skip) = true := by decide +kernel
theorem res52 : chkRes Tryz.prog Tryz.f52.results.toList rv52 = true := by decide +kernel
theorem fnr52 : FT Tryz.prog 52 47 ir52 rv52 := fnT Tryz.func52 rfl rfl chk52 res52 (by decide +kernel)
def b56_0 : IR :=
  (.seq
 (.seq
 (.reg [⟨some 10, .mv (.t 6), none, 0⟩,
 ⟨some 11, .mv (.t 0), none, 1⟩,
 ⟨some 12, .len (.t 11), none, 2⟩,
 ⟨some 13, .bin .lss (.t 10) (.t 12), none, 3⟩,
 ⟨some 14, .mv (.t 13), none, 4⟩,
 ⟨some 15, .mv (.t 7), some (14, false), 5⟩,
 ⟨some 16, .mv (.t 1), some (14, false), 6⟩,
 ⟨some 17, .len (.t 16), some (14, false), 7⟩,
 ⟨some 18, .bin .lss (.t 15) (.t 17), some (14, false), 8⟩,
 ⟨some 19, .pick (.t 14) (.k (.b true)) (.t 18), none, 9⟩] [] [] [0, 1, 5, 6, 7, 19] [50, 77, 103])
 (.cond (.t 19)
 .skip
 (.exit 0)))
 (.block 1
 (.seq
 (.seq
 (.reg [⟨some 20, .mv (.t 7), none, 0⟩,
 ⟨some 21, .mv (.t 1), none, 1⟩,
 ⟨some 22, .len (.t 21), none, 2⟩,
 ⟨some 23, .bin .eql (.t 20) (.t 22), none, 3⟩,
 ⟨some 24, .mv (.t 23), none, 4⟩,
 ⟨some 25, .mv (.t 6), some (24, false), 5⟩,
 ⟨some 26, .mv (.t 0), some (24, false), 6⟩,
 ⟨some 27, .len (.t 26), some (24, false), 7⟩,
 ⟨some 28, .bin .lss (.t 25) (.t 27), some (24, false), 8⟩,
 ⟨some 29, .mv (.t 28), some (24, false), 9⟩,
 ⟨some 30, .mv (.t 0), some (29, true), 10⟩,
 ⟨some 31, .mv (.t 6), some (29, true), 11⟩,
 ⟨some 32, .ixs 12 (.t 30) (.t 31), some (29, true), 12⟩,
 ⟨some 33, .fld 4 (.t 32), some (29, true), 13⟩,
 ⟨some 34, .load 8 true (.t 33), some (29, true), 14⟩,
 ⟨some 35, .mv (.t 1), some (29, true), 15⟩,
 ⟨some 36, .mv (.t 7), some (29, true), 16⟩,
 ⟨some 37, .ixs 12 (.t 35) (.t 36), some (29, true), 17⟩,
 ⟨some 38, .fld 4 (.t 37), some (29, true), 18⟩,
 ⟨some 39, .load 8 true (.t 38), some (29, true), 19⟩,
 ⟨some 40, .call 73 [(.t 34), (.t 39)], some (29, true), 20⟩,
 ⟨some 41, .bin .gtr (.t 40) (.k (.i .i64 0)), some (29, true), 21⟩,
 ⟨some 42, .pick (.t 29) (.t 41) (.k (.b false)), some (24, false), 22⟩,
 ⟨some 43, .pick (.t 24) (.k (.b true)) (.t 42), none, 23⟩] [] [0, 0, 2, 7, 15, 31, 31, 95, 255, 511, 1023, 1023, 4095, 8191, 16383, 1023, 1023, 99327, 230399, 492543, 1048575, 2097151, 4194303, 8388607] [0, 1, 5, 6, 7, 43] [50, 77, 103])
 (.cond (.t 43)
 (.seq
 (.reg [⟨some 44, .mv (.t 5), none, 0⟩,
 ⟨some 45, .mv (.t 0), none, 1⟩,
 ⟨some 46, .mv (.t 6), none, 2⟩,
 ⟨some 47, .ixs 12 (.t 45) (.t 46), none, 3⟩,
 ⟨some 48, .load 12 true (.t 47), none, 4⟩,
 ⟨some 49, .bsl 12 [(.t 48)], none, 5⟩,
 ⟨some 50, .app 12 128 (.t 44) (.t 49), none, 6⟩,
 ⟨some 5, .mv (.t 50), none, 7⟩] [] [] [0, 1, 5, 6, 7] [50, 77, 103])
 (.seq
 (.reg [⟨some 51, .mv (.t 6), none, 0⟩,
 ⟨some 52, .bin .add (.t 51) (.k (.i .i64 1)), none, 1⟩,
 ⟨some 6, .mv (.t 52), none, 2⟩] [] [] [0, 1, 5, 6, 7] [50, 77, 103])
 (.exit 1)))
 .skip))
 (.seq
 (.seq
 (.reg [⟨some 53, .mv (.t 6), none, 0⟩,
 ⟨some 54, .mv (.t 0), none, 1⟩,
 ⟨some 55, .len (.t 54), none, 2⟩,
 ⟨some 56, .bin .eql (.t 53) (.t 55), none, 3⟩,
 ⟨some 57, .mv (.t 56), none, 4⟩,
 ⟨some 58, .mv (.t 0), some (57, false), 5⟩,
 ⟨some 59, .mv (.t 6), some (57, false), 6⟩,
 ⟨some 60, .ixs 12 (.t 58) (.t 59), some (57, false), 7⟩,
 ⟨some 61, .fld 4 (.t 60), some (57, false), 8⟩,
 ⟨some 62, .load 8 true (.t 61), some (57, false), 9⟩,
 ⟨some 63, .mv (.t 1), some (57, false), 10⟩,
 ⟨some 64, .mv (.t 7), some (57, false), 11⟩,
 ⟨some 65, .ixs 12 (.t 63) (.t 64), some (57, false), 12⟩,
 ⟨some 66, .fld 4 (.t 65), some (57, false), 13⟩,
 ⟨some 67, .load 8 true (.t 66), some (57, false), 14⟩,
 ⟨some 68, .call 73 [(.t 62), (.t 67)], some (57, false), 15⟩,
 ⟨some 69, .bin .lss (.t 68) (.k (.i .i64 0)), some (57, false), 16⟩,
 ⟨some 70, .pick (.t 57) (.k (.b true)) (.t 69), none, 17⟩] [] [0, 0, 2, 7, 15, 31, 31, 127, 255, 511, 31, 31, 3103, 7199, 15391, 32767, 65535, 131071] [0, 1, 5, 6, 7, 70] [50, 77, 103])
 (.cond (.t 70)
 (.seq
 (.reg [⟨some 71, .mv (.t 5), none, 0⟩,
 ⟨some 72, .mv (.t 1), none, 1⟩,
 ⟨some 73, .mv (.t 7), none, 2⟩,
 ⟨some 74, .ixs 12 (.t 72) (.t 73), none, 3⟩,
 ⟨some 75, .load 12 true (.t 74), none, 4⟩,
 ⟨some 76, .bsl 12 [(.t 75)], none, 5⟩,
 ⟨some 77, .app 12 128 (.t 71) (.t 76), none, 6⟩,
 ⟨some 5, .mv (.t 77), none, 7⟩] [] [] [0, 1, 5, 6, 7] [50, 77, 103])
 (.seq
 (.reg [⟨some 78, .mv (.t 7), none, 0⟩,
 ⟨some 79, .bin .add (.t 78) (.k (.i .i64 1)), none, 1⟩,
 ⟨some 7, .mv (.t 79), none, 2⟩] [] [] [0, 1, 5, 6, 7] [50, 77, 103])
 (.exit 1)))
 .skip))
 (.seq
 (.reg [⟨some 80, .mv (.t 0), none, 0⟩,
 ⟨some 81, .mv (.t 6), none, 1⟩,
 ⟨some 82, .ixs 12 (.t 80) (.t 81), none, 2⟩,
 ⟨some 83, .fld 0 (.t 82), none, 3⟩,
 ⟨some 84, .load 4 true (.t 83), none, 4⟩,
 ⟨some 85, .mv (.t 1), none, 5⟩,
 ⟨some 86, .mv (.t 7), none, 6⟩,
 ⟨some 87, .ixs 12 (.t 85) (.t 86), none, 7⟩,
 ⟨some 88, .fld 0 (.t 87), none, 8⟩,
 ⟨some 89, .load 4 true (.t 88), none, 9⟩,
 ⟨some 90, .call 31 [(.t 84), (.t 89)], none, 10⟩,
 ⟨some 8, .alloc [.b false, .sl 1 true [], .b false, .sl 1 true []], none, 11⟩,
 ⟨none, .store 4 (.t 8) (.t 90), none, 12⟩] [] [0, 0, 3, 7, 15, 0, 0, 96, 224, 480, 1023, 0, 4095] [0, 1, 5, 6, 7, 8] [8, 50, 77, 103])
 (.seq
 (.seq
 (.reg [⟨some 91, .load 4 true (.t 8), none, 0⟩,
 ⟨some 92, .call 71 [(.t 91)], none, 1⟩,
 ⟨some 93, .bin .neq (.t 92) (.k (.i .i64 0)), none, 2⟩] [] [] [0, 1, 5, 6, 7, 8, 93] [8, 50, 77, 103])
 (.cond (.t 93)
 (.reg [⟨some 94, .mv (.t 5), none, 0⟩,
 ⟨some 95, .load 4 true (.t 8), none, 1⟩,
 ⟨some 96, .mv (.t 0), none, 2⟩,
 ⟨some 97, .mv (.t 6), none, 3⟩,
 ⟨some 98, .ixs 12 (.t 96) (.t 97), none, 4⟩,
 ⟨some 99, .fld 4 (.t 98), none, 5⟩,
 ⟨some 100, .load 8 true (.t 99), none, 6⟩,
 ⟨some 101, .build [.b false, .sl 1 true [], .b false, .sl 1 true [], .i .i64 0, .i .i64 0, .i .i64 0, .i .i64 0, .i .i64 0, .i .i64 0, .i .i64 0, .i .i64 0] [(0, 4, (.t 95)), (4, 8, (.t 100))], none, 7⟩,
 ⟨some 102, .bsl 12 [(.t 101)], none, 8⟩,
 ⟨some 103, .app 12 128 (.t 94) (.t 102), none, 9⟩,
 ⟨some 5, .mv (.t 103), none, 10⟩] [] [0, 0, 0, 0, 12, 28, 60, 126, 254, 511, 1023] [0, 1, 5, 6, 7] [50, 77, 103])
 .skip))
 (.seq
 (.reg [⟨some 104, .mv (.t 6), none, 0⟩,
 ⟨some 105, .bin .add (.t 104) (.k (.i .i64 1)), none, 1⟩,
 ⟨some 6, .mv (.t 105), none, 2⟩] [] [] [0, 1, 5, 6, 7] [50, 77, 103])
 (.reg [⟨some 106, .mv (.t 7), none, 0⟩,
 ⟨some 107, .bin .add (.t 106) (.k (.i .i64 1)), none, 1⟩,
 ⟨some 7, .mv (.t 107), none, 2⟩] [] [] [0, 1, 5, 6, 7] [50, 77, 103]))))))))
theorem wb56_0 : type_of% (@wbEq _ _ b56_0.eq_1 P F st Q) := wbEq b56_0.eq_1
def ir56 : IR :=
  (.seq
 (.reg [⟨some 4, .mv (.k (.sl 12 true [])), none, 0⟩] [] [] [0, 1] [])
 (.seq
 (.reg [⟨some 9, .bsl 12 [], none, 0⟩,
 ⟨some 5, .mv (.t 9), none, 1⟩] [] [] [0, 1, 5] [50, 77, 103])
 (.seq
 (.reg [⟨some 6, .mv (.k (.i .i64 0)), none, 0⟩,
 ⟨some 7, .mv (.k (.i .i64 0)), none, 1⟩] [] [] [0, 1, 5, 6, 7] [50, 77, 103])
 (.seq
 (.block 0
 (.loop [0, 1, 5, 6, 7] [50, 77, 103] b56_0))
 (.seq
 (.reg [⟨some 108, .mv (.t 5), none, 0⟩,
 ⟨some 4, .mv (.t 108), none, 1⟩] [] [] [4] [50, 77, 103])
 (.frz 4
 .ret))))))
def rv56 : List RVar := [.t 4]
theorem chk56 : chk Tryz.prog Tryz.f56.ntmps ir56 (Tryz.f56.body.getD .skip) = true := by decide +kernel
theorem res56 : chkRes Tryz.prog Tryz.f56.results.toList rv56 = true := by decide +kernel
theorem fnr56 : FT Tryz.prog 56 109 ir56 rv56 := fnT Tryz.func56 rfl rfl chk56 res56 (by decide +kernel)
def ir57 : IR :=
  (.seq
 (.reg [⟨some 4, .mv (.k (.sl 12 true [])), none, 0⟩] [] [] [0, 1] [])
 (.seq
 (.reg [⟨some 5, .mv (.t 0), none, 0⟩,
 ⟨some 6, .call 23 [(.k (.i .i64 (-1)))], none, 1⟩,
 ⟨some 7, .mv (.t 1), none, 2⟩,
 ⟨some 8, .call 98 [(.t 6), (.t 7)], none, 3⟩,
 ⟨some 9, .call 56 [(.t 5), (.t 8)], none, 4⟩,
 ⟨some 4, .mv (.t 9), none, 5⟩] [] [] [4] [])
 .ret))
def rv57 : List RVar := [.t 4]
theorem chk57 : chk Tryz.prog Tryz.f57.ntmps ir57 (Tryz.f57.body.getD .skip) = true := by decide +kernel
theorem res57 : chkRes Tryz.prog Tryz.f57.results.toList rv57 = true := by decide +kernel
theorem fnr57 : FT Tryz.prog 57 10 ir57 rv57 := fnT Tryz.func57 rfl rfl chk57 res57 (by decide +kernel)
def ir63 : IR :=
  (.seq
 (.reg [⟨some 1, .box (.t 0), none, 0⟩,
 ⟨some 2, .mv (.k (.sl 12 true [])), none, 1⟩] [] [] [1] [1])
 (.seq
 (.seq
 (.reg [⟨some 3, .load 4 true (.t 1), none, 0⟩,
 ⟨some 4, .call 71 [(.t 3)], none, 1⟩,
 ⟨some 5, .bin .eql (.t 4) (.k (.i .i64 0)), none, 2⟩] [] [] [1, 5] [1])
 (.cond (.t 5)
 (.seq
 (.reg [⟨some 2, .mv (.k (.sl 12 true [])), none, 0⟩] [] [] [2] [])
 .ret)
 .skip))
 (.seq
 (.reg [⟨some 6, .load 4 true (.t 1), none, 0⟩,
 ⟨some 7, .build [.b false, .sl 1 true [], .b false, .sl 1 true [], .i .i64 0, .i .i64 0, .i .i64 0, .i .i64 0, .i .i64 0, .i .i64 0, .i .i64 0, .i .i64 0] [(0, 4, (.t 6))], none, 1⟩,
 ⟨some 8, .bsl 12 [(.t 7)], none, 2⟩,
 ⟨some 2, .mv (.t 8), none, 3⟩] [] [] [2] [])
 .ret)))
def rv63 : List RVar := [.t 2]
theorem chk63 : chk Tryz.prog Tryz.f63.ntmps ir63 (Tryz.f63.body.getD .skip) = true := by decide +kernel
theorem res63 : chkRes Tryz.prog Tryz.f63.results.toList rv63 = true := by decide +kernel
theorem fnr63 : FT Tryz.prog 63 9 ir63 rv63 := fnT Tryz.func63 rfl rfl chk63 res63 (by decide +kernel)
def ir64 : IR :=
  (.seq
 (.reg [⟨some 2, .mv (.k (.sl 12 true [])), none, 0⟩] [] [] [0] [])
 (.seq
 (.reg [⟨some 3, .mv (.t 0), none, 0⟩,
 ⟨some 4, .call 23 [(.t 3)], none, 1⟩,
 ⟨some 5, .call 63 [(.t 4)], none, 2⟩,
 ⟨some 2, .mv (.t 5), none, 3⟩] [] [] [2] [])
 .ret))
def rv64 : List RVar := [.t 2]
theorem chk64 : chk Tryz.prog Tryz.f64.ntmps ir64 (Tryz.f64.body.getD .skip) = true := by decide +kernel
theorem res64 : chkRes Tryz.prog Tryz.f64.results.toList rv64 = true := by decide +kernel
theorem fnr64 : FT Tryz.prog 64 6 ir64 rv64 := fnT Tryz.func64 rfl rfl chk64 res64 (by decide +kernel)
def ir65 : IR :=
  (.seq
 (.reg [⟨some 0, .mv (.k (.sl 8 true [])), none, 0⟩] [] [] [] [])
 (.seq
 (.reg [⟨some 1, .build [.i .i64 0, .i .i64 0, .i .i64 0, .i .i64 0, .i .i64 0, .i .i64 0, .i .i64 0, .i .i64 0] [(0, 1, (.k (.i .i64 1))), (1, 1, (.k (.i .i64 1))), (2, 1, (.k (.i .i64 1))), (3, 1, (.k (.i .i64 1))), (4, 1, (.k (.i .i64 1))), (5, 1, (.k (.i .i64 1))), (6, 1, (.k (.i .i64 1))), (7, 1, (.k (.i .i64 1)))], none, 0⟩,
 ⟨some 2, .bsl 8 [(.t 1)], none, 1⟩,
 ⟨some 0, .mv (.t 2), none, 2⟩] [] [] [0] [])
 .ret))
def rv65 : List RVar := [.t 0]
theorem chk65 : chk Tryz.prog Tryz.f65.ntmps ir65 (Tryz.f65.body.getD .skip) = true := by decide +kernel
theorem res65 : chkRes Tryz.prog Tryz.f65.results.toList rv65 = true := by decide +kernel
theorem fnr65 : FT Tryz.prog 65 3 ir65 rv65 := fnT Tryz.func65 rfl rfl chk65 res65 (by decide +kernel)
def ir66 : IR :=
  (.seq
 (.reg [⟨some 0, .mv (.k (.sl 8 true [])), none, 0⟩] [] [] [] [])
 (.seq
 (.reg [⟨some 1, .bsl 8 [], none, 0⟩,
 ⟨some 0, .mv (.t 1), none, 1⟩] [] [] [0] [])
 .ret))
def rv66 : List RVar := [.t 0]
theorem chk66 : chk Tryz.prog Tryz.f66.ntmps ir66 (Tryz.f66.body.getD .skip) = true := by decide +kernel
theorem res66 : chkRes Tryz.prog Tryz.f66.results.toList rv66 = true := by decide +kernel
theorem fnr66 : FT Tryz.prog 66 2 ir66 rv66 := fnT Tryz.func66 rfl rfl chk66 res66 (by decide +kernel)
def b72_0 : IR :=
  (.seq
 (.seq
 (.reg [⟨some 4, .mv (.t 3), none, 0⟩,
 ⟨some 5, .bin .lss (.t 4) (.k (.i .i64 8)), none, 1⟩] [] [] [1, 3, 5] [1])
 (.cond (.t 5)
 .skip
 (.exit 0)))
 (.seq
 (.block 1
 (.seq
 (.reg [⟨some 8, .mv (.t 3), none, 0⟩,
 ⟨some 9, .ixa 8 1 (.t 1) (.t 8), none, 1⟩,
 ⟨some 10, .load 1 false (.t 9), none, 2⟩,
 ⟨some 11, .bin .lss (.t 10) (.k (.i .i64 0)), none, 3⟩,
 ⟨some 12, .mv (.t 11), none, 4⟩,
 ⟨some 13, .mv (.t 3), some (12, false), 5⟩,
 ⟨some 14, .ixa 8 1 (.t 1) (.t 13), some (12, false), 6⟩,
 ⟨some 15, .load 1 false (.t 14), some (12, false), 7⟩,
 ⟨some 16, .bin .gtr (.t 15) (.k (.i .i64 65535)), some (12, false), 8⟩,
 ⟨some 17, .pick (.t 12) (.k (.b true)) (.t 16), none, 9⟩] [] [] [1, 3, 17] [1])
 (.cond (.t 17)
 (.seq
 (.reg [⟨some 2, .mv (.k (.b false)), none, 0⟩] [] [] [2] [])
 .ret)
 .skip)))
 (.reg [⟨some 6, .mv (.t 3), none, 0⟩,
 ⟨some 7, .bin .add (.t 6) (.k (.i .i64 1)), none, 1⟩,
 ⟨some 3, .mv (.t 7), none, 2⟩] [] [] [1, 3] [1])))
theorem wb72_0 : type_of% (@wbEq _ _ b72_0.eq_1 P F st Q) := wbEq b72_0.eq_1
def ir72 : IR :=
  (.seq
 (.reg [⟨some 1, .box (.t 0), none, 0⟩,
 ⟨some 2, .mv (.k (.b false)), none, 1⟩] [] [] [1] [1])
 (.seq
 (.seq
 (.reg [⟨some 3, .mv (.k (.i .i64 0)), none, 0⟩] [] [] [1, 3] [1])
 (.block 0
 (.loop [1, 3] [1] b72_0)))
 (.seq
 (.reg [⟨some 2, .mv (.k (.b true)), none, 0⟩] [] [] [2] [])
 .ret)))
def rv72 : List RVar := [.t 2]
theorem chk72 : chk Tryz.prog Tryz.f72.ntmps ir72 (Tryz.f72.body.getD .skip) = true := by decide +kernel
theorem res72 : chkRes Tryz.prog Tryz.f72.results.toList rv72 = true := by decide +kernel
theorem fnr72 : FT Tryz.prog 72 18 ir72 rv72 := fnT Tryz.func72 rfl rfl chk72 res72 (by decide +kernel)
def b73_0 : IR :=
  (.seq
 (.seq
 (.reg [⟨some 6, .mv (.t 5), none, 0⟩,
 ⟨some 7, .bin .lss (.t 6) (.k (.i .i64 8)), none, 1⟩] [] [] [2, 3, 5, 7] [2, 3])
 (.cond (.t 7)
 .skip
 (.exit 0)))
 (.seq
 (.block 1
 (.seq
 (.seq
 (.reg [⟨some 10, .mv (.t 5), none, 0⟩,
 ⟨some 11, .ixa 8 1 (.t 2) (.t 10), none, 1⟩,
 ⟨some 12, .load 1 false (.t 11), none, 2⟩,
 ⟨some 13, .mv (.t 5), none, 3⟩,
 ⟨some 14, .ixa 8 1 (.t 3) (.t 13), none, 4⟩,
 ⟨some 15, .load 1 false (.t 14), none, 5⟩,
 ⟨some 16, .bin .lss (.t 12) (.t 15), none, 6⟩] [] [0, 1, 3, 0, 8, 24, 63] [2, 3, 5, 16] [2, 3])
 (.cond (.t 16)
 (.seq
 (.reg [⟨some 4, .mv (.k (.i .i64 (-1))), none, 0⟩] [] [] [4] [])
 .ret)
 .skip))
 (.seq
 (.reg [⟨some 17, .mv (.t 5), none, 0⟩,
 ⟨some 18, .ixa 8 1 (.t 2) (.t 17), none, 1⟩,
 ⟨some 19, .load 1 false (.t 18), none, 2⟩,
 ⟨some 20, .mv (.t 5), none, 3⟩,
 ⟨some 21, .ixa 8 1 (.t 3) (.t 20), none, 4⟩,
 ⟨some 22, .load 1 false (.t 21), none, 5⟩,
 ⟨some 23, .bin .gtr (.t 19) (.t 22), none, 6⟩] [] [0, 1, 3, 0, 8, 24, 63] [2, 3, 5, 23] [2, 3])
 (.cond (.t 23)
 (.seq
 (.reg [⟨some 4, .mv (.k (.i .i64 1)), none, 0⟩] [] [] [4] [])
 .ret)
 .skip))))
 (.reg [⟨some 8, .mv (.t 5), none, 0⟩,
 ⟨some 9, .bin .add (.t 8) (.k (.i .i64 1)), none, 1⟩,
 ⟨some 5, .mv (.t 9), none, 2⟩] [] [] [2, 3, 5] [2, 3])))
theorem wb73_0 : type_of% (@wbEq _ _ b73_0.eq_1 P F st Q) := wbEq b73_0.eq_1
def ir73 : IR :=
  (.seq
 (.reg [⟨some 2, .box (.t 0), none, 0⟩,
 ⟨some 3, .box (.t 1), none, 1⟩,
 ⟨some 4, .mv (.k (.i .i64 0)), none, 2⟩] [] [] [2, 3] [2, 3])
 (.seq
 (.seq
 (.reg [⟨some 5, .mv (.k (.i .i64 0)), none, 0⟩] [] [] [2, 3, 5] [2, 3])
 (.block 0
 (.loop [2, 3, 5] [2, 3] b73_0)))
 (.seq
 (.reg [⟨some 4, .mv (.k (.i .i64 0)), none, 0⟩] [] [] [4] [])
 .ret)))
def rv73 : List RVar := [.t 4]
theorem chk73 : chk Tryz.prog Tryz.f73.ntmps ir73 (Tryz.f73.body.getD .skip) = true := by decide +kernel
theorem res73 : chkRes Tryz.prog Tryz.f73.results.toList rv73 = true := by decide +kernel
theorem fnr73 : FT Tryz.prog 73 24 ir73 rv73 := fnT Tryz.func73 rfl rfl chk73 res73 (by decide +kernel)
def ir97 : IR :=
  (.seq
 (.reg [⟨some 2, .mv (.k (.i .i64 0)), none, 0⟩] [] [] [0] [])
 (.seq
 (.seq
 (.reg [⟨some 3, .mv (.t 0), none, 0⟩,
 ⟨some 4, .bin .lss (.t 3) (.k (.i .i8 0)), none, 1⟩] [] [] [0, 4] [])
 (.cond (.t 4)
 (.seq
 (.reg [⟨some 5, .mv (.t 0), none, 0⟩,
 ⟨some 6, .conv .i64 (.t 5), none, 1⟩,
 ⟨some 7, .un .neg (.t 6), none, 2⟩,
 ⟨some 2, .mv (.t 7), none, 3⟩] [] [] [2] [])
 .ret)
 .skip))
 (.seq
 (.reg [⟨some 8, .mv (.t 0), none, 0⟩,
 ⟨some 9, .conv .i64 (.t 8), none, 1⟩,
 ⟨some 2, .mv (.t 9), none, 2⟩] [] [] [2] [])
 .ret)))
def rv97 : List RVar := [.t 2]
theorem chk97 : chk Tryz.prog Tryz.f97.ntmps ir97 (Tryz.f97.body.getD .skip) = true := by decide +kernel
theorem res97 : chkRes Tryz.prog Tryz.f97.results.toList rv97 = true := by decide +kernel
theorem fnr97 : FT Tryz.prog 97 10 ir97 rv97 := fnT Tryz.func97 rfl rfl chk97 res97 (by decide +kernel)
def ir98 : IR :=
  (.seq
 (.reg [⟨some 2, .box (.t 0), none, 0⟩,
 ⟨some 4, .mv (.k (.sl 12 true [])), none, 1⟩] [] [] [1, 2] [2])
 (.seq
 (.reg [⟨some 8, .load 4 true (.t 2), none, 0⟩,
 ⟨some 9, .build [.i .i64 0, .i .i64 0, .i .i64 0, .i .i64 0, .i .i64 0, .i .i64 0, .i .i64 0, .i .i64 0] [], none, 1⟩,
 ⟨some 10, .mv (.t 1), none, 2⟩,
 ⟨some 11, .call 52 [(.t 8), (.t 9), (.t 10)], none, 3⟩,
 ⟨some 7, .mv (.t 11), none, 4⟩,
 ⟨some 12, .ext 0 (.t 7), none, 5⟩,
 ⟨some 13, .ext 1 (.t 7), none, 6⟩,
 ⟨some 5, .mv (.t 12), none, 7⟩,
 ⟨some 6, .mv (.t 13), none, 8⟩] [] [] [5] [])
 (.seq
 (.reg [⟨some 14, .mv (.t 5), none, 0⟩,
 ⟨some 4, .mv (.t 14), none, 1⟩] [] [] [4] [])
 .ret)))
def rv98 : List RVar := [.t 4]
theorem chk98 : chk Tryz.prog Tryz.f98.ntmps ir98 (Tryz.f98.body.getD .skip) = true := by decide +kernel
theorem res98 : chkRes Tryz.prog Tryz.f98.results.toList rv98 = true := by decide +kernel
theorem fnr98 : FT Tryz.prog 98 15 ir98 rv98 := fnT Tryz.func98 rfl rfl chk98 res98 (by decide +kernel)
def b115_0 : IR :=
  (.seq
 (.seq
 (.reg [⟨some 11, .mv (.t 7), none, 0⟩,
 ⟨some 12, .mv (.t 0), none, 1⟩,
 ⟨some 13, .len (.t 12), none, 2⟩,
 ⟨some 14, .bin .lss (.t 11) (.t 13), none, 3⟩] [] [] [0, 1, 6, 7, 14] [])
 (.cond (.t 14)
 .skip
 (.exit 0)))
 (.seq
 (.block 1
 (.seq
 (.reg [⟨some 18, .mv (.t 0), none, 0⟩,
 ⟨some 19, .mv (.t 7), none, 1⟩,
 ⟨some 20, .ixs 12 (.t 18) (.t 19), none, 2⟩,
 ⟨some 21, .fld 0 (.t 20), none, 3⟩,
 ⟨some 22, .load 4 true (.t 21), none, 4⟩,
 ⟨some 23, .mv (.t 0), none, 5⟩,
 ⟨some 24, .mv (.t 7), none, 6⟩,
 ⟨some 25, .ixs 12 (.t 23) (.t 24), none, 7⟩,
 ⟨some 26, .fld 4 (.t 25), none, 8⟩,
 ⟨some 27, .load 8 true (.t 26), none, 9⟩,
 ⟨some 28, .mv (.t 1), none, 10⟩,
 ⟨some 29, .call 52 [(.t 22), (.t 27), (.t 28)], none, 11⟩,
 ⟨some 17, .mv (.t 29), none, 12⟩,
 ⟨some 30, .ext 0 (.t 17), none, 13⟩,
 ⟨some 31, .ext 1 (.t 17), none, 14⟩,
 ⟨some 8, .mv (.t 30), none, 15⟩,
 ⟨some 9, .mv (.t 31), none, 16⟩] [] [0, 0, 3, 7, 15, 0, 0, 96, 224, 480, 0, 2047, 4095, 8191, 8191, 16383, 65535] [0, 1, 6, 7, 8, 9] [])
 (.seq
 (.seq
 (.reg [⟨some 32, .mv (.t 9), none, 0⟩,
 ⟨some 33, .bin .neq (.t 32) (.k (.i .i64 0)), none, 1⟩] [] [] [0, 1, 6, 7, 8, 9, 33] [])
 (.cond (.t 33)
 (.seq
 (.reg [⟨some 34, .mv (.t 9), none, 0⟩,
 ⟨some 4, .mv (.k (.sl 12 true [])), none, 1⟩,
 ⟨some 5, .mv (.t 34), none, 2⟩] [] [] [4, 5] [])
 .ret)
 .skip))
 (.reg [⟨some 35, .mv (.t 6), none, 0⟩,
 ⟨some 36, .mv (.t 8), none, 1⟩,
 ⟨some 37, .call 56 [(.t 35), (.t 36)], none, 2⟩,
 ⟨some 6, .mv (.t 37), none, 3⟩] [] [] [0, 1, 6, 7] []))))
 (.reg [⟨some 15, .mv (.t 7), none, 0⟩,
 ⟨some 16, .bin .add (.t 15) (.k (.i .i64 1)), none, 1⟩,
 ⟨some 7, .mv (.t 16), none, 2⟩] [] [] [0, 1, 6, 7] [])))
theorem wb115_0 : type_of% (@wbEq _ _ b115_0.eq_1 P F st Q) := wbEq b115_0.eq_1
def ir115 : IR :=
  (.seq
 (.reg [⟨some 4, .mv (.k (.sl 12 true [])), none, 0⟩,
 ⟨some 5, .mv (.k (.i .i64 0)), none, 1⟩] [] [] [0, 1] [])
 (.seq
 (.reg [⟨some 10, .bsl 12 [], none, 0⟩,
 ⟨some 6, .mv (.t 10), none, 1⟩] [] [] [0, 1, 6] [])
 (.seq
 (.seq
 (.reg [⟨some 7, .mv (.k (.i .i64 0)), none, 0⟩] [] [] [0, 1, 6, 7] [])
 (.block 0
 (.loop [0, 1, 6, 7] [] b115_0)))
 (.seq
 (.reg [⟨some 38, .mv (.t 6), none, 0⟩,
 ⟨some 4, .mv (.t 38), none, 1⟩,
 ⟨some 5, .mv (.k (.i .i64 0)), none, 2⟩] [] [] [4, 5] [])
 .ret))))
def rv115 : List RVar := [.t 4, .t 5]
theorem chk115 : chk Tryz.prog Tryz.f115.ntmps ir115 (Tryz.f115.body.getD .skip) = true := by decide +kernel
theorem res115 : chkRes Tryz.prog Tryz.f115.results.toList rv115 = true := by decide +kernel
theorem fnr115 : FT Tryz.prog 115 39 ir115 rv115 := fnT Tryz.func115 rfl rfl chk115 res115 (by decide +kernel)
def ir116 : IR :=
  (.seq
 (.reg [⟨some 2, .mv (.k (.sl 12 true [])), none, 0⟩,
 ⟨some 3, .mv (.k (.i .i64 0)), none, 1⟩] [] [] [0] [])
 (.seq
 (.seq
 (.reg [⟨some 5, .mv (.t 0), none, 0⟩,
 ⟨some 6, .bin .lss (.t 5) (.k (.i .i64 0)), none, 1⟩,
 ⟨some 7, .mv (.t 6), none, 2⟩,
 ⟨some 8, .mv (.t 0), some (7, false), 3⟩,
 ⟨some 9, .bin .geq (.t 8) (.k (.i .i64 8)), some (7, false), 4⟩,
 ⟨some 10, .pick (.t 7) (.k (.b true)) (.t 9), none, 5⟩] [] [] [0, 10] [])
 (.cond (.t 10)
 (.seq
 (.reg [⟨some 2, .mv (.k (.sl 12 true [])), none, 0⟩,
 ⟨some 3, .mv (.k (.i .i64 1)), none, 1⟩] [] [] [2, 3] [])
 .ret)
 .skip))
 (.seq
 (.reg [⟨some 11, .build [.i .i64 0, .i .i64 0, .i .i64 0, .i .i64 0, .i .i64 0, .i .i64 0, .i .i64 0, .i .i64 0] [], none, 0⟩,
 ⟨some 4, .alloc [.i .i64 0, .i .i64 0, .i .i64 0, .i .i64 0, .i .i64 0, .i .i64 0, .i .i64 0, .i .i64 0], none, 1⟩,
 ⟨none, .store 8 (.t 4) (.t 11), none, 2⟩] [] [] [0, 4] [4])
 (.seq
 (.reg [⟨some 12, .mv (.t 0), none, 0⟩,
 ⟨some 13, .ixa 8 1 (.t 4) (.t 12), none, 1⟩,
 ⟨none, .store 1 (.t 13) (.k (.i .i64 1)), none, 2⟩] [] [] [4] [4])
 (.seq
 (.reg [⟨some 14, .call 23 [(.k (.i .i64 1))], none, 0⟩,
 ⟨some 15, .load 8 true (.t 4), none, 1⟩,
 ⟨some 16, .build [.b false, .sl 1 true [], .b false, .sl 1 true [], .i .i64 0, .i .i64 0, .i .i64 0, .i .i64 0, .i .i64 0, .i .i64 0, .i .i64 0, .i .i64 0] [(0, 4, (.t 14)), (4, 8, (.t 15))], none, 2⟩,
 ⟨some 17, .bsl 12 [(.t 16)], none, 3⟩,
 ⟨some 2, .mv (.t 17), none, 4⟩,
 ⟨some 3, .mv (.k (.i .i64 0)), none, 5⟩] [] [0, 0, 3, 7, 15, 31] [2, 3] [])
 .ret)))))
def rv116 : List RVar := [.t 2, .t 3]
theorem chk116 : chk Tryz.prog Tryz.f116.ntmps ir116 (Tryz.f116.body.getD .skip) = true := by decide +kernel
theorem res116 : chkRes Tryz.prog Tryz.f116.results.toList rv116 = true := by decide +kernel
theorem fnr116 : FT Tryz.prog 116 18 ir116 rv116 := fnT Tryz.func116 rfl rfl chk116 res116 (by decide +kernel)
def ir4 : IR :=
  (.seq
 (.reg [⟨some 3, .box (.t 0), none, 0⟩,
 ⟨some 4, .box (.t 1), none, 1⟩,
 ⟨some 5, .box (.t 2), none, 2⟩,
 ⟨some 6, .mv (.k (.b false)), none, 3⟩] [] [] [3, 4, 5] [3, 4, 5])
 (.seq
 (.reg [⟨some 17, .call 13 [], none, 0⟩,
 ⟨some 7, .mv (.t 17), none, 1⟩] [] [] [3, 4, 5, 7] [3, 4, 5])
 (.seq
 (.seq
 (.reg [⟨some 18, .mv (.t 7), none, 0⟩,
 ⟨some 19, .un .not (.t 18), none, 1⟩] [] [] [3, 4, 5, 7, 19] [3, 4, 5])
 (.cond (.t 19)
 (.seq
 (.reg [⟨some 6, .mv (.k (.b false)), none, 0⟩] [] [] [6] [])
 .ret)
 .skip))
 (.seq
 (.reg [⟨some 20, .load 1 true (.t 3), none, 0⟩,
 ⟨some 21, .call 16 [(.t 20)], none, 1⟩,
 ⟨some 22, .load 1 true (.t 4), none, 2⟩,
 ⟨some 23, .call 16 [(.t 22)], none, 3⟩,
 ⟨some 24, .load 1 true (.t 5), none, 4⟩,
 ⟨some 25, .call 16 [(.t 24)], none, 5⟩,
 ⟨some 8, .mv (.t 21), none, 6⟩,
 ⟨some 9, .mv (.t 23), none, 7⟩,
 ⟨some 10, .mv (.t 25), none, 8⟩] [] [0, 1, 0, 7, 0, 31, 63, 127, 255] [7, 8, 9, 10] [])
 (.seq
 (.reg [⟨some 26, .mv (.t 8), none, 0⟩,
 ⟨some 27, .mv (.t 9), none, 1⟩,
 ⟨some 28, .call 18 [(.t 26), (.t 27)], none, 2⟩,
 ⟨some 29, .ext 0 (.t 28), none, 3⟩,
 ⟨some 30, .ext 1 (.t 28), none, 4⟩,
 ⟨some 31, .call 17 [(.t 29), (.t 30)], none, 5⟩,
 ⟨some 32, .mv (.t 9), none, 6⟩,
 ⟨some 33, .mv (.t 10), none, 7⟩,
 ⟨some 34, .call 18 [(.t 32), (.t 33)], none, 8⟩,
 ⟨some 35, .ext 0 (.t 34), none, 9⟩,
 ⟨some 36, .ext 1 (.t 34), none, 10⟩,
 ⟨some 37, .call 17 [(.t 35), (.t 36)], none, 11⟩,
 ⟨some 11, .mv (.t 31), none, 12⟩,
 ⟨some 12, .mv (.t 37), none, 13⟩] [] [] [7, 8, 9, 10, 11, 12] [])
 (.seq
 (.seq
 (.reg [⟨some 38, .mv (.t 11), none, 0⟩,
 ⟨some 39, .call 15 [(.t 38)], none, 1⟩,
 ⟨some 40, .un .not (.t 39), none, 2⟩,
 ⟨some 41, .mv (.t 40), none, 3⟩,
 ⟨some 42, .mv (.t 12), some (41, false), 4⟩,
 ⟨some 43, .call 15 [(.t 42)], some (41, false), 5⟩,
 ⟨some 44, .un .not (.t 43), some (41, false), 6⟩,
 ⟨some 45, .pick (.t 41) (.k (.b true)) (.t 44), none, 7⟩,
 ⟨some 46, .mv (.t 45), none, 8⟩,
 ⟨some 47, .mv (.t 11), some (46, false), 9⟩,
 ⟨some 48, .mv (.t 9), some (46, false), 10⟩,
 ⟨some 49, .mv (.t 8), some (46, false), 11⟩,
 ⟨some 50, .call 18 [(.t 48), (.t 49)], some (46, false), 12⟩,
 ⟨some 51, .ext 0 (.t 50), some (46, false), 13⟩,
 ⟨some 52, .ext 1 (.t 50), some (46, false), 14⟩,
 ⟨some 53, .call 17 [(.t 51), (.t 52)], some (46, false), 15⟩,
 ⟨some 54, .call 19 [(.t 47), (.t 53)], some (46, false), 16⟩,
 ⟨some 55, .un .not (.t 54), some (46, false), 17⟩,
 ⟨some 56, .pick (.t 46) (.k (.b true)) (.t 55), none, 18⟩,
 ⟨some 57, .mv (.t 56), none, 19⟩,
 ⟨some 58, .mv (.t 11), some (57, false), 20⟩,
 ⟨some 59, .len (.t 58), some (57, false), 21⟩,
 ⟨some 60, .bin .eql (.t 59) (.k (.i .i64 0)), some (57, false), 22⟩,
 ⟨some 61, .mv (.t 8), some (57, false), 23⟩,
 ⟨some 62, .len (.t 61), some (57, false), 24⟩,
 ⟨some 63, .bin .eql (.t 62) (.k (.i .i64 0)), some (57, false), 25⟩,
 ⟨some 64, .mv (.t 63), some (57, false), 26⟩,
 ⟨some 65, .mv (.t 9), some (64, false), 27⟩,
 ⟨some 66, .len (.t 65), some (64, false), 28⟩,
 ⟨some 67, .bin .eql (.t 66) (.k (.i .i64 0)), some (64, false), 29⟩,
 ⟨some 68, .pick (.t 64) (.k (.b true)) (.t 67), some (57, false), 30⟩,
 ⟨some 69, .eqb true (.t 60) (.t 68), some (57, false), 31⟩,
 ⟨some 70, .pick (.t 57) (.k (.b true)) (.t 69), none, 32⟩] [] [] [7, 8, 9, 10, 11, 12, 70] [])
 (.cond (.t 70)
 (.seq
 (.reg [⟨some 6, .mv (.k (.b false)), none, 0⟩] [] [] [6] [])
 .ret)
 .skip))
 (.seq
 (.reg [⟨some 71, .mv (.t 9), none, 0⟩,
 ⟨some 72, .mv (.t 10), none, 1⟩,
 ⟨some 73, .call 20 [(.t 71), (.t 72)], none, 2⟩,
 ⟨some 13, .mv (.t 73), none, 3⟩] [] [] [7, 8, 9, 10, 11, 12, 13] [])
 (.seq
 (.seq
 (.reg [⟨some 74, .mv (.t 13), none, 0⟩,
 ⟨some 75, .call 15 [(.t 74)], none, 1⟩,
 ⟨some 76, .un .not (.t 75), none, 2⟩,
 ⟨some 77, .mv (.t 76), none, 3⟩,
 ⟨some 78, .mv (.t 13), some (77, false), 4⟩,
 ⟨some 79, .mv (.t 10), some (77, false), 5⟩,
 ⟨some 80, .mv (.t 9), some (77, false), 6⟩,
 ⟨some 81, .call 20 [(.t 79), (.t 80)], some (77, false), 7⟩,
 ⟨some 82, .call 19 [(.t 78), (.t 81)], some (77, false), 8⟩,
 ⟨some 83, .un .not (.t 82), some (77, false), 9⟩,
 ⟨some 84, .pick (.t 77) (.k (.b true)) (.t 83), none, 10⟩,
 ⟨some 85, .mv (.t 84), none, 11⟩,
 ⟨some 86, .mv (.t 8), some (85, false), 12⟩,
 ⟨some 87, .mv (.t 8), some (85, false), 13⟩,
 ⟨some 88, .call 21 [(.t 86), (.t 87)], some (85, false), 14⟩,
 ⟨some 89, .len (.t 88), some (85, false), 15⟩,
 ⟨some 90, .bin .gtr (.t 89) (.k (.i .i64 0)), some (85, false), 16⟩,
 ⟨some 91, .pick (.t 85) (.k (.b true)) (.t 90), none, 17⟩] [] [] [7, 8, 9, 10, 11, 12, 13, 91] [])
 (.cond (.t 91)
 (.seq
 (.reg [⟨some 6, .mv (.k (.b false)), none, 0⟩] [] [] [6] [])
 .ret)
 .skip))
 (.seq
 (.reg [⟨some 92, .mv (.t 8), none, 0⟩,
 ⟨some 93, .mv (.t 13), none, 1⟩,
 ⟨some 94, .call 18 [(.t 92), (.t 93)], none, 2⟩,
 ⟨some 95, .ext 0 (.t 94), none, 3⟩,
 ⟨some 96, .ext 1 (.t 94), none, 4⟩,
 ⟨some 97, .call 17 [(.t 95), (.t 96)], none, 5⟩,
 ⟨some 14, .mv (.t 97), none, 6⟩] [] [] [7, 8, 9, 10, 11, 12, 14] [])
 (.seq
 (.reg [⟨some 98, .mv (.t 11), none, 0⟩,
 ⟨some 99, .mv (.t 8), none, 1⟩,
 ⟨some 100, .mv (.t 10), none, 2⟩,
 ⟨some 101, .call 18 [(.t 99), (.t 100)], none, 3⟩,
 ⟨some 102, .ext 0 (.t 101), none, 4⟩,
 ⟨some 103, .ext 1 (.t 101), none, 5⟩,
 ⟨some 104, .call 17 [(.t 102), (.t 103)], none, 6⟩,
 ⟨some 105, .call 20 [(.t 98), (.t 104)], none, 7⟩,
 ⟨some 15, .mv (.t 105), none, 8⟩] [] [] [7, 8, 9, 10, 11, 12, 14, 15] [])
 (.seq
 (.reg [⟨some 106, .mv (.t 14), none, 0⟩,
 ⟨some 107, .mv (.t 15), none, 1⟩,
 ⟨some 108, .call 19 [(.t 106), (.t 107)], none, 2⟩,
 ⟨some 109, .mv (.t 108), none, 3⟩,
 ⟨some 110, .mv (.t 11), some (109, true), 4⟩,
 ⟨some 111, .mv (.t 10), some (109, true), 5⟩,
 ⟨some 112, .call 18 [(.t 110), (.t 111)], some (109, true), 6⟩,
 ⟨some 113, .ext 0 (.t 112), some (109, true), 7⟩,
 ⟨some 114, .ext 1 (.t 112), some (109, true), 8⟩,
 ⟨some 115, .call 17 [(.t 113), (.t 114)], some (109, true), 9⟩,
 ⟨some 116, .mv (.t 8), some (109, true), 10⟩,
 ⟨some 117, .mv (.t 12), some (109, true), 11⟩,
 ⟨some 118, .call 18 [(.t 116), (.t 117)], some (109, true), 12⟩,
 ⟨some 119, .ext 0 (.t 118), some (109, true), 13⟩,
 ⟨some 120, .ext 1 (.t 118), some (109, true), 14⟩,
 ⟨some 121, .call 17 [(.t 119), (.t 120)], some (109, true), 15⟩,
 ⟨some 122, .call 19 [(.t 115), (.t 121)], some (109, true), 16⟩,
 ⟨some 123, .pick (.t 109) (.t 122) (.k (.b false)), none, 17⟩,
 ⟨some 16, .mv (.t 123), none, 18⟩] [] [] [7, 8, 9, 16] [])
 (.seq
 (.reg [⟨some 124, .mv (.t 16), none, 0⟩,
 ⟨some 125, .mv (.t 124), none, 1⟩,
 ⟨some 126, .mv (.t 8), some (125, true), 2⟩,
 ⟨some 127, .call 20 [(.t 126), (.k (.sl 12 true []))], some (125, true), 3⟩,
 ⟨some 128, .mv (.t 8), some (125, true), 4⟩,
 ⟨some 129, .call 19 [(.t 127), (.t 128)], some (125, true), 5⟩,
 ⟨some 130, .pick (.t 125) (.t 129) (.k (.b false)), none, 6⟩,
 ⟨some 131, .mv (.t 130), none, 7⟩,
 ⟨some 132, .mv (.t 8), some (131, true), 8⟩,
 ⟨some 133, .call 23 [(.k (.i .i64 1))], some (131, true), 9⟩,
 ⟨some 134, .call 22 [(.t 133)], some (131, true), 10⟩,
 ⟨some 135, .call 18 [(.t 132), (.t 134)], some (131, true), 11⟩,
 ⟨some 136, .ext 0 (.t 135), some (131, true), 12⟩,
 ⟨some 137, .ext 1 (.t 135), some (131, true), 13⟩,
 ⟨some 138, .call 17 [(.t 136), (.t 137)], some (131, true), 14⟩,
 ⟨some 139, .mv (.t 8), some (131, true), 15⟩,
 ⟨some 140, .call 19 [(.t 138), (.t 139)], some (131, true), 16⟩,
 ⟨some 141, .pick (.t 131) (.t 140) (.k (.b false)), none, 17⟩,
 ⟨some 142, .mv (.t 141), none, 18⟩,
 ⟨some 143, .mv (.t 8), some (142, true), 19⟩,
 ⟨some 144, .mv (.t 9), some (142, true), 20⟩,
 ⟨some 145, .call 21 [(.t 143), (.t 144)], some (142, true), 21⟩,
 ⟨some 146, .mv (.t 9), some (142, true), 22⟩,
 ⟨some 147, .call 20 [(.t 145), (.t 146)], some (142, true), 23⟩,
 ⟨some 148, .mv (.t 8), some (142, true), 24⟩,
 ⟨some 149, .call 19 [(.t 147), (.t 148)], some (142, true), 25⟩,
 ⟨some 150, .pick (.t 142) (.t 149) (.k (.b false)), none, 26⟩,
 ⟨some 151, .mv (.t 150), none, 27⟩,
 ⟨some 152, .mv (.t 7), some (151, true), 28⟩,
 ⟨some 153, .pick (.t 151) (.t 152) (.k (.b false)), none, 29⟩,
 ⟨some 6, .mv (.t 153), none, 30⟩] [] [] [6] [])
 .ret))))))))))))
def rv4 : List RVar := [.t 6]
theorem chk4 : chk Tryz.prog Tryz.f4.ntmps ir4 (Tryz.f4.body.getD .skip) = true := by decide +kernel
theorem res4 : chkRes Tryz.prog Tryz.f4.results.toList rv4 = true := by decide +kernel
theorem fnr4 : FT Tryz.prog 4 154 ir4 rv4 := fnT Tryz.func4 rfl rfl chk4 res4 (by decide +kernel)
def ir16 : IR :=
  (.seq
 (.reg [⟨some 1, .box (.t 0), none, 0⟩,
 ⟨some 2, .mv (.k (.sl 12 true [])), none, 1⟩] [] [] [1] [1])
 (.seq
 (.reg [⟨some 3, .load 1 true (.t 1), none, 0⟩,
 ⟨some 4, .call 33 [(.t 3), (.k (.i .i64 4)), (.k (.i .i64 5)), (.k (.i .i64 6))], none, 1⟩,
 ⟨some 2, .mv (.t 4), none, 2⟩] [] [] [2] [])
 .ret))
def rv16 : List RVar := [.t 2]
theorem chk16 : chk Tryz.prog Tryz.f16.ntmps ir16 (Tryz.f16.body.getD .skip) = true := by decide +kernel
theorem res16 : chkRes Tryz.prog Tryz.f16.results.toList rv16 = true := by decide +kernel
theorem fnr16 : FT Tryz.prog 16 5 ir16 rv16 := fnT Tryz.func16 rfl rfl chk16 res16 (by decide +kernel)
def ir78 : IR :=
  (.seq
 (.reg [⟨some 2, .box (.t 0), none, 0⟩,
 ⟨some 3, .box (.t 1), none, 1⟩,
 ⟨some 4, .mv (.k (.b false)), none, 2⟩] [] [] [2, 3] [2, 3])
 (.seq
 (.reg [⟨some 5, .fld 4 (.t 2), none, 0⟩,
 ⟨some 6, .load 8 true (.t 5), none, 1⟩,
 ⟨some 7, .fld 4 (.t 3), none, 2⟩,
 ⟨some 8, .load 8 true (.t 7), none, 3⟩,
 ⟨some 9, .eqa false 8 (.t 6) (.t 8), none, 4⟩,
 ⟨some 10, .mv (.t 9), none, 5⟩,
 ⟨some 11, .fld 0 (.t 2), some (10, true), 6⟩,
 ⟨some 12, .load 4 true (.t 11), some (10, true), 7⟩,
 ⟨some 13, .fld 0 (.t 3), some (10, true), 8⟩,
 ⟨some 14, .load 4 true (.t 13), some (10, true), 9⟩,
 ⟨some 15, .call 29 [(.t 12), (.t 14)], some (10, true), 10⟩,
 ⟨some 16, .pick (.t 10) (.t 15) (.k (.b false)), none, 11⟩,
 ⟨some 4, .mv (.t 16), none, 12⟩] [] [] [4] [])
 .ret))
def rv78 : List RVar := [.t 4]
theorem chk78 : chk Tryz.prog Tryz.f78.ntmps ir78 (Tryz.f78.body.getD .skip) = true := by decide +kernel
theorem res78 : chkRes Tryz.prog Tryz.f78.results.toList rv78 = true := by decide +kernel
theorem fnr78 : FT Tryz.prog 78 17 ir78 rv78 := fnT Tryz.func78 rfl rfl chk78 res78 (by decide +kernel)
def ir133 : IR :=
  (.seq
 (.reg [⟨some 5, .mv (.t 0), none, 0⟩,
 ⟨some 6, .len (.t 5), none, 1⟩,
 ⟨some 4, .mv (.t 6), none, 2⟩] [] [] [0, 1, 4] [])
 (.reg [⟨some 7, .mv (.t 0), none, 0⟩,
 ⟨some 8, .mv (.t 4), none, 1⟩,
 ⟨some 9, .mv (.t 4), none, 2⟩,
 ⟨some 10, .conv .u64 (.t 9), none, 3⟩,
 ⟨some 11, .call 162 [(.t 10)], none, 4⟩,
 ⟨some 12, .mv (.t 1), none, 5⟩,
 ⟨some 13, .callR 161 [(.t 7), (.k (.i .i64 0)), (.t 8), (.t 11), (.t 12)], none, 6⟩] [] [] [] []))
def rv133 : List RVar := []
theorem chk133 : chk Tryz.prog Tryz.f133.ntmps ir133 (Tryz.f133.body.getD .skip) = true := by decide +kernel
theorem res133 : chkRes Tryz.prog Tryz.f133.results.toList rv133 = true := by decide +kernel
theorem fnr133 : FT Tryz.prog 133 14 ir133 rv133 := fnT Tryz.func133 rfl rfl chk133 res133 (by decide +kernel)
def ir162 : IR :=
  (.seq
 (.reg [⟨some 2, .mv (.k (.i .i64 0)), none, 0⟩] [] [] [0] [])
 (.seq
 (.cond (.k (.b false))
 (.seq
 (.reg [⟨some 3, .mv (.t 0), none, 0⟩,
 ⟨some 4, .conv .u32 (.t 3), none, 1⟩,
 ⟨some 5, .call 189 [(.t 4)], none, 2⟩,
 ⟨some 2, .mv (.t 5), none, 3⟩] [] [] [2] [])
 .ret)
 .skip)
 (.seq
 (.reg [⟨some 6, .mv (.t 0), none, 0⟩,
 ⟨some 7, .call 190 [(.t 6)], none, 1⟩,
 ⟨some 2, .mv (.t 7), none, 2⟩] [] [] [2] [])
 .ret)))
def rv162 : List RVar := [.t 2]
theorem chk162 : chk Tryz.prog Tryz.f162.ntmps ir162 (Tryz.f162.body.getD .skip) = true := by decide +kernel
theorem res162 : chkRes Tryz.prog Tryz.f162.results.toList rv162 = true := by decide +kernel
theorem fnr162 : FT Tryz.prog 162 8 ir162 rv162 := fnT Tryz.func162 rfl rfl chk162 res162 (by decide +kernel)
def b181_0 : IR :=
  (.seq
 (.seq
 (.reg [⟨some 18, .mv (.t 9), none, 0⟩,
 ⟨some 19, .mv (.t 1), none, 1⟩,
 ⟨some 20, .bin .gtr (.t 18) (.t 19), none, 2⟩,
 ⟨some 21, .mv (.t 20), none, 3⟩,
 ⟨some 22, .mv (.t 3), some (21, true), 4⟩,
 ⟨some 23, .mv (.t 0), some (21, true), 5⟩,
 ⟨some 24, .mv (.t 9), some (21, true), 6⟩,
 ⟨some 25, .ixs 12 (.t 23) (.t 24), some (21, true), 7⟩,
 ⟨some 26, .load 12 true (.t 25), some (21, true), 8⟩,
 ⟨some 27, .mv (.t 0), some (21, true), 9⟩,
 ⟨some 28, .mv (.t 9), some (21, true), 10⟩,
 ⟨some 29, .bin .sub (.t 28) (.k (.i .i64 1)), some (21, true), 11⟩,
 ⟨some 30, .ixs 12 (.t 27) (.t 29), some (21, true), 12⟩,
 ⟨some 31, .load 12 true (.t 30), some (21, true), 13⟩,
 ⟨some 32, .callv (.t 22) [(.t 26), (.t 31)], some (21, true), 14⟩,
 ⟨some 33, .bin .lss (.t 32) (.k (.i .i64 0)), some (21, true), 15⟩,
 ⟨some 34, .pick (.t 21) (.t 33) (.k (.b false)), none, 16⟩] [] [0, 0, 3, 7, 15, 15, 15, 111, 239, 15, 15, 1039, 3599, 7695, 16383, 32767, 65535] [0, 1, 2, 3, 8, 9, 34] [])
 (.cond (.t 34)
 .skip
 (.exit 2)))
 (.seq
 (.block 3
 (.reg [⟨some 37, .mv (.t 0), none, 0⟩,
 ⟨some 38, .mv (.t 9), none, 1⟩,
 ⟨some 39, .mv (.t 0), none, 2⟩,
 ⟨some 40, .mv (.t 9), none, 3⟩,
 ⟨some 41, .bin .sub (.t 40) (.k (.i .i64 1)), none, 4⟩,
 ⟨some 42, .mv (.t 0), none, 5⟩,
 ⟨some 43, .mv (.t 9), none, 6⟩,
 ⟨some 44, .bin .sub (.t 43) (.k (.i .i64 1)), none, 7⟩,
 ⟨some 45, .ixs 12 (.t 42) (.t 44), none, 8⟩,
 ⟨some 46, .load 12 true (.t 45), none, 9⟩,
 ⟨some 47, .mv (.t 0), none, 10⟩,
 ⟨some 48, .mv (.t 9), none, 11⟩,
 ⟨some 49, .ixs 12 (.t 47) (.t 48), none, 12⟩,
 ⟨some 50, .load 12 true (.t 49), none, 13⟩,
 ⟨some 51, .ixs 12 (.t 37) (.t 38), none, 14⟩,
 ⟨none, .store 12 (.t 51) (.t 46), none, 15⟩,
 ⟨some 52, .ixs 12 (.t 39) (.t 41), none, 16⟩,
 ⟨none, .store 12 (.t 52) (.t 50), none, 17⟩] [] [0, 0, 0, 0, 8, 0, 0, 64, 224, 480, 0, 0, 3072, 7168, 16355, 32739, 65535, 131071] [0, 1, 2, 3, 8, 9] []))
 (.reg [⟨some 35, .mv (.t 9), none, 0⟩,
 ⟨some 36, .bin .sub (.t 35) (.k (.i .i64 1)), none, 1⟩,
 ⟨some 9, .mv (.t 36), none, 2⟩] [] [] [0, 1, 2, 3, 8, 9] [])))
def b181_1 : IR :=
  (.seq
 (.seq
 (.reg [⟨some 12, .mv (.t 8), none, 0⟩,
 ⟨some 13, .mv (.t 2), none, 1⟩,
 ⟨some 14, .bin .lss (.t 12) (.t 13), none, 2⟩] [] [] [0, 1, 2, 3, 8, 14] [])
 (.cond (.t 14)
 .skip
 (.exit 0)))
 (.seq
 (.block 1
 (.seq
 (.reg [⟨some 17, .mv (.t 8), none, 0⟩,
 ⟨some 9, .mv (.t 17), none, 1⟩] [] [] [0, 1, 2, 3, 8, 9] [])
 (.block 2
 (.loop [0, 1, 2, 3, 8, 9] [] b181_0))))
 (.reg [⟨some 15, .mv (.t 8), none, 0⟩,
 ⟨some 16, .bin .add (.t 15) (.k (.i .i64 1)), none, 1⟩,
 ⟨some 8, .mv (.t 16), none, 2⟩] [] [] [0, 1, 2, 3, 8] [])))
theorem wb181_1 : type_of% (@wbEq _ _ b181_1.eq_1 P F st Q) := wbEq b181_1.eq_1
def ir181 : IR :=
  (.seq
 (.reg [⟨some 10, .mv (.t 1), none, 0⟩,
 ⟨some 11, .bin .add (.t 10) (.k (.i .i64 1)), none, 1⟩,
 ⟨some 8, .mv (.t 11), none, 2⟩] [] [] [0, 1, 2, 3, 8] [])
 (.block 0
 (.loop [0, 1, 2, 3, 8] [] b181_1)))
def rv181 : List RVar := []
theorem chk181 : chk Tryz.prog Tryz.f181.ntmps ir181 (Tryz.f181.body.getD .skip) = true := by decide +kernel
theorem res181 : chkRes Tryz.prog Tryz.f181.results.toList rv181 = true := by decide +kernel
theorem fnr181 : FT Tryz.prog 181 53 ir181 rv181 := fnT Tryz.func181 rfl rfl chk181 res181 (by decide +kernel)
def tb190 : List Nat := [0, 1, 2, 2, 3, 3, 3, 3, 4, 4, 4, 4, 4, 4, 4, 4, 5, 5, 5, 5, 5, 5, 5, 5, 5, 5, 5, 5, 5, 5, 5, 5, 6, 6, 6, 6, 6, 6, 6, 6, 6, 6, 6, 6, 6, 6, 6, 6, 6, 6, 6, 6, 6, 6, 6, 6, 6, 6, 6, 6, 6, 6, 6, 6, 7, 7, 7, 7, 7, 7, 7, 7, 7, 7, 7, 7, 7, 7, 7, 7, 7, 7, 7, 7, 7, 7, 7, 7, 7, 7, 7, 7, 7, 7, 7, 7, 7, 7, 7, 7, 7, 7, 7, 7, 7, 7, 7, 7, 7, 7, 7, 7, 7, 7, 7, 7, 7, 7, 7, 7, 7, 7, 7, 7, 7, 7, 7, 7, 8, 8, 8, 8, 8, 8, 8, 8, 8, 8, 8, 8, 8, 8, 8, 8, 8, 8, 8, 8, 8, 8, 8, 8, 8, 8, 8, 8, 8, 8, 8, 8, 8, 8, 8, 8, 8, 8, 8, 8, 8, 8, 8, 8, 8, 8, 8, 8, 8, 8, 8, 8, 8, 8, 8, 8, 8, 8, 8, 8, 8, 8, 8, 8, 8, 8, 8, 8, 8, 8, 8, 8, 8, 8, 8, 8, 8, 8, 8, 8, 8, 8, 8, 8, 8, 8, 8, 8, 8, 8, 8, 8, 8, 8, 8, 8, 8, 8, 8, 8, 8, 8, 8, 8, 8, 8, 8, 8, 8, 8, 8, 8, 8, 8, 8, 8, 8, 8, 8, 8, 8, 8, 8, 8, 8, 8, 8, 8]
def ir190 : IR :=
  (.seq
 (.reg [⟨some 2, .mv (.k (.i .i64 0)), none, 0⟩] [] [] [0, 2] [])
 (.seq
 (.seq
 (.reg [⟨some 3, .mv (.t 0), none, 0⟩,
 ⟨some 4, .bin .geq (.t 3) (.k (.i .u64 4294967296)), none, 1⟩] [] [] [0, 2, 4] [])
 (.cond (.t 4)
 (.seq
 (.reg [⟨some 5, .mv (.t 0), none, 0⟩,
 ⟨some 6, .bin .shr (.t 5) (.k (.i .u64 32)), none, 1⟩,
 ⟨some 0, .mv (.t 6), none, 2⟩] [] [] [0] [])
 (.reg [⟨some 2, .mv (.k (.i .i64 32)), none, 0⟩] [] [] [0, 2] []))
 .skip))
 (.seq
 (.seq
 (.reg [⟨some 7, .mv (.t 0), none, 0⟩,
 ⟨some 8, .bin .geq (.t 7) (.k (.i .u64 65536)), none, 1⟩] [] [] [0, 2, 8] [])
 (.cond (.t 8)
 (.seq
 (.reg [⟨some 9, .mv (.t 0), none, 0⟩,
 ⟨some 10, .bin .shr (.t 9) (.k (.i .u64 16)), none, 1⟩,
 ⟨some 0, .mv (.t 10), none, 2⟩] [] [] [0, 2] [])
 (.reg [⟨some 11, .mv (.t 2), none, 0⟩,
 ⟨some 12, .bin .add (.t 11) (.k (.i .i64 16)), none, 1⟩,
 ⟨some 2, .mv (.t 12), none, 2⟩] [] [] [0, 2] []))
 .skip))
 (.seq
 (.seq
 (.reg [⟨some 13, .mv (.t 0), none, 0⟩,
 ⟨some 14, .bin .geq (.t 13) (.k (.i .u64 256)), none, 1⟩] [] [] [0, 2, 14] [])
 (.cond (.t 14)
 (.seq
 (.reg [⟨some 15, .mv (.t 0), none, 0⟩,
 ⟨some 16, .bin .shr (.t 15) (.k (.i .u64 8)), none, 1⟩,
 ⟨some 0, .mv (.t 16), none, 2⟩] [] [] [0, 2] [])
 (.reg [⟨some 17, .mv (.t 2), none, 0⟩,
 ⟨some 18, .bin .add (.t 17) (.k (.i .i64 8)), none, 1⟩,
 ⟨some 2, .mv (.t 18), none, 2⟩] [] [] [0, 2] []))
 .skip))
 (.seq
 (.reg [⟨some 19, .mv (.t 2), none, 0⟩,
 ⟨some 20, .mv (.t 0), none, 1⟩,
 ⟨some 21, .conv .u8 (.t 20), none, 2⟩,
 ⟨some 22, .tab tb190 (.t 21), none, 3⟩,
 ⟨some 23, .conv .i64 (.t 22), none, 4⟩,
 ⟨some 24, .bin .add (.t 19) (.t 23), none, 5⟩,
 ⟨some 2, .mv (.t 24), none, 6⟩] [] [] [2] [])
 .ret)))))
def rv190 : List RVar := [.t 2]
theorem chk190 : chk Tryz.prog Tryz.f190.ntmps ir190 (Tryz.f190.body.getD .skip) = true := by decide +kernel
theorem res190 : chkRes Tryz.prog Tryz.f190.results.toList rv190 = true := by decide +kernel
theorem fnr190 : FT Tryz.prog 190 25 ir190 rv190 := fnT Tryz.func190 rfl rfl chk190 res190 (by decide +kernel)
def b161_0 : IR :=
  (.block 1
 (.seq
 (.reg [⟨some 21, .mv (.t 2), none, 0⟩,
 ⟨some 22, .mv (.t 1), none, 1⟩,
 ⟨some 23, .bin .sub (.t 21) (.t 22), none, 2⟩,
 ⟨some 12, .mv (.t 23), none, 3⟩] [] [] [0, 1, 2, 3, 4, 10, 11, 12] [])
 (.seq
 (.seq
 (.reg [⟨some 24, .mv (.t 12), none, 0⟩,
 ⟨some 25, .bin .leq (.t 24) (.k (.i .i64 12)), none, 1⟩] [] [] [0, 1, 2, 3, 4, 10, 11, 12, 25] [])
 (.cond (.t 25)
 (.seq
 (.reg [⟨some 26, .mv (.t 0), none, 0⟩,
 ⟨some 27, .mv (.t 1), none, 1⟩,
 ⟨some 28, .mv (.t 2), none, 2⟩,
 ⟨some 29, .mv (.t 4), none, 3⟩,
 ⟨some 30, .callR 181 [(.t 26), (.t 27), (.t 28), (.t 29)], none, 4⟩] [] [] [] [])
 .ret)
 .skip))
 (.seq
 (.seq
 (.reg [⟨some 31, .mv (.t 3), none, 0⟩,
 ⟨some 32, .bin .eql (.t 31) (.k (.i .i64 0)), none, 1⟩] [] [] [0, 1, 2, 3, 4, 10, 11, 12, 32] [])
 (.cond (.t 32)
 (.seq
 (.reg [⟨some 33, .mv (.t 0), none, 0⟩,
 ⟨some 34, .mv (.t 1), none, 1⟩,
 ⟨some 35, .mv (.t 2), none, 2⟩,
 ⟨some 36, .mv (.t 4), none, 3⟩,
 ⟨some 37, .callR 182 [(.t 33), (.t 34), (.t 35), (.t 36)], none, 4⟩] [] [] [] [])
 .ret)
 .skip))
 (.seq
 (.seq
 (.reg [⟨some 38, .mv (.t 10), none, 0⟩,
 ⟨some 39, .un .not (.t 38), none, 1⟩] [] [] [0, 1, 2, 3, 4, 10, 11, 12, 39] [])
 (.cond (.t 39)
 (.seq
 (.reg [⟨some 40, .mv (.t 0), none, 0⟩,
 ⟨some 41, .mv (.t 1), none, 1⟩,
 ⟨some 42, .mv (.t 2), none, 2⟩,
 ⟨some 43, .mv (.t 4), none, 3⟩,
 ⟨some 44, .callR 183 [(.t 40), (.t 41), (.t 42), (.t 43)], none, 4⟩] [] [] [0, 1, 2, 3, 4, 10, 11, 12] [])
 (.reg [⟨some 45, .mv (.t 3), none, 0⟩,
 ⟨some 46, .bin .sub (.t 45) (.k (.i .i64 1)), none, 1⟩,
 ⟨some 3, .mv (.t 46), none, 2⟩] [] [] [0, 1, 2, 3, 4, 10, 11, 12] []))
 .skip))
 (.seq
 (.reg [⟨some 48, .mv (.t 0), none, 0⟩,
 ⟨some 49, .mv (.t 1), none, 1⟩,
 ⟨some 50, .mv (.t 2), none, 2⟩,
 ⟨some 51, .mv (.t 4), none, 3⟩,
 ⟨some 52, .callR 184 [(.t 48), (.t 49), (.t 50), (.t 51)], none, 4⟩,
 ⟨some 47, .mv (.t 52), none, 5⟩,
 ⟨some 53, .ext 0 (.t 47), none, 6⟩,
 ⟨some 54, .ext 1 (.t 47), none, 7⟩,
 ⟨some 13, .mv (.t 53), none, 8⟩,
 ⟨some 14, .mv (.t 54), none, 9⟩] [] [] [0, 1, 2, 3, 4, 10, 11, 12, 13, 14] [])
 (.seq
 (.seq
 (.reg [⟨some 55, .mv (.t 14), none, 0⟩,
 ⟨some 56, .bin .eql (.t 55) (.k (.i .i64 2)), none, 1⟩] [] [] [0, 1, 2, 3, 4, 10, 11, 12, 13, 14, 56] [])
 (.cond (.t 56)
 (.seq
 (.reg [⟨some 57, .mv (.t 0), none, 0⟩,
 ⟨some 58, .mv (.t 1), none, 1⟩,
 ⟨some 59, .mv (.t 2), none, 2⟩,
 ⟨some 60, .mv (.t 4), none, 3⟩,
 ⟨some 61, .callR 185 [(.t 57), (.t 58), (.t 59), (.t 60)], none, 4⟩] [] [] [0, 1, 2, 3, 4, 10, 11, 12, 13] [])
 (.seq
 (.reg [⟨some 62, .mv (.t 2), none, 0⟩,
 ⟨some 63, .bin .sub (.t 62) (.k (.i .i64 1)), none, 1⟩,
 ⟨some 64, .mv (.t 13), none, 2⟩,
 ⟨some 65, .mv (.t 1), none, 3⟩,
 ⟨some 66, .bin .sub (.t 64) (.t 65), none, 4⟩,
 ⟨some 67, .bin .sub (.t 63) (.t 66), none, 5⟩,
 ⟨some 13, .mv (.t 67), none, 6⟩] [] [] [0, 1, 2, 3, 4, 10, 11, 12, 13] [])
 (.reg [⟨some 14, .mv (.k (.i .i64 1)), none, 0⟩] [] [] [0, 1, 2, 3, 4, 10, 11, 12, 13, 14] [])))
 .skip))
 (.seq
 (.seq
 (.reg [⟨some 68, .mv (.t 10), none, 0⟩,
 ⟨some 69, .mv (.t 68), none, 1⟩,
 ⟨some 70, .mv (.t 11), some (69, true), 2⟩,
 ⟨some 71, .pick (.t 69) (.t 70) (.k (.b false)), none, 3⟩,
 ⟨some 72, .mv (.t 71), none, 4⟩,
 ⟨some 73, .mv (.t 14), some (72, true), 5⟩,
 ⟨some 74, .bin .eql (.t 73) (.k (.i .i64 1)), some (72, true), 6⟩,
 ⟨some 75, .pick (.t 72) (.t 74) (.k (.b false)), none, 7⟩] [] [] [0, 1, 2, 3, 4, 10, 11, 12, 13, 75] [])
 (.cond (.t 75)
 (.seq
 (.reg [⟨some 76, .mv (.t 0), none, 0⟩,
 ⟨some 77, .mv (.t 1), none, 1⟩,
 ⟨some 78, .mv (.t 2), none, 2⟩,
 ⟨some 79, .mv (.t 4), none, 3⟩,
 ⟨some 80, .callR 186 [(.t 76), (.t 77), (.t 78), (.t 79)], none, 4⟩] [] [] [0, 1, 2, 3, 4, 10, 11, 12, 13, 80] [])
 (.cond (.t 80)
 .ret
 .skip))
 .skip))
 (.seq
 (.seq
 (.reg [⟨some 81, .mv (.t 1), none, 0⟩,
 ⟨some 82, .bin .gtr (.t 81) (.k (.i .i64 0)), none, 1⟩,
 ⟨some 83, .mv (.t 82), none, 2⟩,
 ⟨some 84, .mv (.t 4), some (83, true), 3⟩,
 ⟨some 85, .mv (.t 0), some (83, true), 4⟩,
 ⟨some 86, .mv (.t 1), some (83, true), 5⟩,
 ⟨some 87, .bin .sub (.t 86) (.k (.i .i64 1)), some (83, true), 6⟩,
 ⟨some 88, .ixs 12 (.t 85) (.t 87), some (83, true), 7⟩,
 ⟨some 89, .load 12 true (.t 88), some (83, true), 8⟩,
 ⟨some 90, .mv (.t 0), some (83, true), 9⟩,
 ⟨some 91, .mv (.t 13), some (83, true), 10⟩,
 ⟨some 92, .ixs 12 (.t 90) (.t 91), some (83, true), 11⟩,
 ⟨some 93, .load 12 true (.t 92), some (83, true), 12⟩,
 ⟨some 94, .callv (.t 84) [(.t 89), (.t 93)], some (83, true), 13⟩,
 ⟨some 95, .bin .lss (.t 94) (.k (.i .i64 0)), some (83, true), 14⟩,
 ⟨some 96, .un .not (.t 95), some (83, true), 15⟩,
 ⟨some 97, .pick (.t 83) (.t 96) (.k (.b false)), none, 16⟩] [] [0, 1, 3, 7, 7, 7, 39, 119, 247, 7, 7, 1543, 3591, 8191, 16383, 32767, 65535] [0, 1, 2, 3, 4, 10, 11, 12, 13, 97] [])
 (.cond (.t 97)
 (.seq
 (.reg [⟨some 98, .mv (.t 0), none, 0⟩,
 ⟨some 99, .mv (.t 1), none, 1⟩,
 ⟨some 100, .mv (.t 2), none, 2⟩,
 ⟨some 101, .mv (.t 13), none, 3⟩,
 ⟨some 102, .mv (.t 4), none, 4⟩,
 ⟨some 103, .callR 187 [(.t 98), (.t 99), (.t 100), (.t 101), (.t 102)], none, 5⟩,
 ⟨some 15, .mv (.t 103), none, 6⟩] [] [] [0, 2, 3, 4, 10, 11, 15] [])
 (.seq
 (.reg [⟨some 104, .mv (.t 15), none, 0⟩,
 ⟨some 1, .mv (.t 104), none, 1⟩] [] [] [0, 1, 2, 3, 4, 10, 11] [])
 (.exit 1)))
 .skip))
 (.seq
 (.reg [⟨some 106, .mv (.t 0), none, 0⟩,
 ⟨some 107, .mv (.t 1), none, 1⟩,
 ⟨some 108, .mv (.t 2), none, 2⟩,
 ⟨some 109, .mv (.t 13), none, 3⟩,
 ⟨some 110, .mv (.t 4), none, 4⟩,
 ⟨some 111, .callR 188 [(.t 106), (.t 107), (.t 108), (.t 109), (.t 110)], none, 5⟩,
 ⟨some 105, .mv (.t 111), none, 6⟩,
 ⟨some 112, .ext 0 (.t 105), none, 7⟩,
 ⟨some 113, .ext 1 (.t 105), none, 8⟩,
 ⟨some 16, .mv (.t 112), none, 9⟩,
 ⟨some 17, .mv (.t 113), none, 10⟩] [] [] [0, 1, 2, 3, 4, 12, 16, 17] [])
 (.seq
 (.reg [⟨some 114, .mv (.t 17), none, 0⟩,
 ⟨some 11, .mv (.t 114), none, 1⟩] [] [] [0, 1, 2, 3, 4, 11, 12, 16] [])
 (.seq
 (.reg [⟨some 115, .mv (.t 16), none, 0⟩,
 ⟨some 116, .mv (.t 1), none, 1⟩,
 ⟨some 117, .bin .sub (.t 115) (.t 116), none, 2⟩,
 ⟨some 118, .mv (.t 2), none, 3⟩,
 ⟨some 119, .mv (.t 16), none, 4⟩,
 ⟨some 120, .bin .sub (.t 118) (.t 119), none, 5⟩,
 ⟨some 18, .mv (.t 117), none, 6⟩,
 ⟨some 19, .mv (.t 120), none, 7⟩] [] [] [0, 1, 2, 3, 4, 11, 12, 16, 18, 19] [])
 (.seq
 (.reg [⟨some 121, .mv (.t 12), none, 0⟩,
 ⟨some 122, .bin .quo (.t 121) (.k (.i .i64 8)), none, 1⟩,
 ⟨some 20, .mv (.t 122), none, 2⟩] [] [] [0, 1, 2, 3, 4, 11, 16, 18, 19, 20] [])
 (.seq
 (.reg [⟨some 123, .mv (.t 18), none, 0⟩,
 ⟨some 124, .mv (.t 19), none, 1⟩,
 ⟨some 125, .bin .lss (.t 123) (.t 124), none, 2⟩] [] [] [0, 1, 2, 3, 4, 11, 16, 18, 19, 20, 125] [])
 (.cond (.t 125)
 (.seq
 (.reg [⟨some 126, .mv (.t 18), none, 0⟩,
 ⟨some 127, .mv (.t 20), none, 1⟩,
 ⟨some 128, .bin .geq (.t 126) (.t 127), none, 2⟩,
 ⟨some 10, .mv (.t 128), none, 3⟩] [] [] [0, 1, 2, 3, 4, 10, 11, 16] [])
 (.seq
 (.reg [⟨some 129, .mv (.t 0), none, 0⟩,
 ⟨some 130, .mv (.t 1), none, 1⟩,
 ⟨some 131, .mv (.t 16), none, 2⟩,
 ⟨some 132, .mv (.t 3), none, 3⟩,
 ⟨some 133, .mv (.t 4), none, 4⟩,
 ⟨some 134, .callR 161 [(.t 129), (.t 130), (.t 131), (.t 132), (.t 133)], none, 5⟩] [] [] [0, 2, 3, 4, 10, 11, 16] [])
 (.reg [⟨some 135, .mv (.t 16), none, 0⟩,
 ⟨some 136, .bin .add (.t 135) (.k (.i .i64 1)), none, 1⟩,
 ⟨some 1, .mv (.t 136), none, 2⟩] [] [] [0, 1, 2, 3, 4, 10, 11] [])))
 (.seq
 (.reg [⟨some 137, .mv (.t 19), none, 0⟩,
 ⟨some 138, .mv (.t 20), none, 1⟩,
 ⟨some 139, .bin .geq (.t 137) (.t 138), none, 2⟩,
 ⟨some 10, .mv (.t 139), none, 3⟩] [] [] [0, 1, 2, 3, 4, 10, 11, 16] [])
 (.seq
 (.reg [⟨some 140, .mv (.t 0), none, 0⟩,
 ⟨some 141, .mv (.t 16), none, 1⟩,
 ⟨some 142, .bin .add (.t 141) (.k (.i .i64 1)), none, 2⟩,
 ⟨some 143, .mv (.t 2), none, 3⟩,
 ⟨some 144, .mv (.t 3), none, 4⟩,
 ⟨some 145, .mv (.t 4), none, 5⟩,
 ⟨some 146, .callR 161 [(.t 140), (.t 142), (.t 143), (.t 144), (.t 145)], none, 6⟩] [] [] [0, 1, 3, 4, 10, 11, 16] [])
 (.reg [⟨some 147, .mv (.t 16), none, 0⟩,
 ⟨some 2, .mv (.t 147), none, 1⟩] [] [] [0, 1, 2, 3, 4, 10, 11] []))))))))))))))))))
theorem wb161_0 : type_of% (@wbEq _ _ b161_0.eq_1 P F st Q) := wbEq b161_0.eq_1
def ir161 : IR :=
  (.seq
 (.reg [⟨some 10, .mv (.k (.b true)), none, 0⟩] [] [] [0, 1, 2, 3, 4, 10] [])
 (.seq
 (.reg [⟨some 11, .mv (.k (.b true)), none, 0⟩] [] [] [0, 1, 2, 3, 4, 10, 11] [])
 (.block 0
 (.loop [0, 1, 2, 3, 4, 10, 11] [] b161_0))))
def rv161 : List RVar := []
theorem chk161 : chk Tryz.prog Tryz.f161.ntmps ir161 (Tryz.f161.body.getD .skip) = true := by decide +kernel
theorem res161 : chkRes Tryz.prog Tryz.f161.results.toList rv161 = true := by decide +kernel
theorem fnr161 : FT Tryz.prog 161 148 ir161 rv161 := fnT Tryz.func161 rfl rfl chk161 res161 (by decide +kernel)
end Go.Vm.G
