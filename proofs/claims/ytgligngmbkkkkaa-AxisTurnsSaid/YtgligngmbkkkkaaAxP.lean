import Derived.Test.YtgligngmbkkkkaaAxO
import Derived.Test.YtgligngmbkkkkaaMxT
/-
  The code of AxisTurns with other hints, and the table with it.
-/
namespace Go.Mx
set_option linter.unusedVariables false
set_option linter.unusedSimpArgs false
set_option linter.unusedSectionVars false
open Go

/-- coinage/coinagelaw10.AxisTurns -/
def qhints11 : List (List Bool) := [[true, true, true, true, true, true, true, true, true, true, true, true, true, true, true, true, true, true, true, true, true, true, true, true, true, true, true, true, true, true, true, true, true, true, true, true, true, true, true, true, true, true, true, true, true, true, true, true, true, true, true, true, true, true, true, true, true, true, true, true, true, true, true, true, true, true, true, true, true, true, true, true, true, true, true, true, true, true, true, true, true, true, true, true, true, true, true, true, true, true, true, true, true, true, true, true, true, true, true, true, true, true, true, true, true, true, true, true, true, true, true, true, true, true, true, true, true, true, true, true, true, true, true, true, true, true, true, true, true, true, true, true, true, true, true, true, true, true, true, true, true, true, true, true, true, true, true, true, true, true, true, true, true, true, true, true, true, true, true, true, true, true, true, true, true, true, true, true, true, true, true, true, true, true, true, true, true, true, true, true, true, true, true], [true, true, true, true, true, true, true, true, true, true, true, true, true, true, true, true, true, true, true, true, true, true, true, true, true, true, true, true, true, true, true, true, true, true, true, true, true, true, true, true, true, true, true, true, true, true, true, true, true, true, true, true, true, true, true, true, true, true, true, true, true, true, true, true, true, true, true, true, true, true, true, true, true, true, true, true, true, true, true, true, true, true, true, true, true, true, true, true, true, true, true, true, true, true, true, true, true, true, true, true, true, true, true, true, true, true, true, true, true, true, true, true, true, true, true, true, true, true, true, true, true, true, true, true, true, true, true, true, true, true, true, true, true, true, true, true, true, true, true, true, true, true, true, true, true, true, true, true, true, true, true, true, true, true, true, true, true, true, true, true, true, true, true, true, true, true, true, true, true, true, true, true, true, true, true, true, true, true, true, true, true, true, true], [true, true, true, true, true, true, true, true, true, true, true, true, true, true, true, true, true, true, true, true, true, true, true, true, true, true, true, true, true, true, true, true, true, true, true, true, true, true, true, true, true, true, true, true, true, true, true, true, true, true, true, true, true, true, true, true, true, true, true, true, true, true, true, true, true, true, true, true, true, true, true, true, true, true, true, true, true, true, true, true, true, true, true, true, true, true, true, true, true, true, true, true, true, true, true, true, true, true, true, true, true, true, true, true, true, true, true, true, true, true, true, true, true, true, true, true, true, true, true, true, true, true, true, true, true, true, true, true, true, true, true, true, true, true, true, true, true, true, true, true, true, true, true, true, true, true, true, true, true, true, true, true, true, true, true, true, true, true, true, true, true, true, true, true, true, true, true, true, true, true, true, true, true, true, true, true, true, true, true, true, true, true, true], [true, true, true, true, true, true, true, true, true, true, true, true, true, true, true, true, true, true, true, true, true, true, true, true, true, true, true, true, true, true, true, true, true, true, true, true, true, true, true, true, true, true, true, true, true, true, true, true, true, true, true, true, true, true, true, true, true, true, true, true, true, true, true, true, true, true, true, true, true, true, true, true, true, true, true, true, true, true, true, true, true, true, true, true, true, true, true, true, true, true, true, true, true, true, true, true, true, true, true, true, true, true, true, true, true, true, true, true, true, true, true, true, true, true, true, true, true, true, true, true, true, true, true, true, true, true, true, true, true, true, true, true, true, true, true, true, true, true, true, true, true, true, true, true, true, true, true, true, true, true, true, true, true, true, true, true, true, true, true, true, true, true, true, true, true, true, true, true, true, true, true, true, true, true, true, true, true, true, true, true, true, true, true], [true, true, false, false, false, false, false, true, false, false, false, false, false, false, false, false, false, false, false, false, false, false, false, false, false, false, false, true, false, true, false, false, false, false, false, false, false, false, false, false, false, false, true, false, false, true, true, false, false, false, false, false, false, false, false, false, false, false, false, false, false, false, false, false, false, false, false, false, false, false, false, false, false, false, false, false, false, false, false, false, false, false, false, false, false, false, false, false, false, false, false, false, false, false, false, false, false, false, false, false, false, false, false, false, false, false, false, false, false, false, false, false, false, false, false, false, false, false, false, false, false, false, false, false, false, false, false, false, false, false, false, false, false, true, false, true, true, false, true, false, true, true, false, false, false, false, false, false, false, false, false, false, false, false, false, false, false, false, false, false, false, false, false, false, false, false, false, false, false, false, false, false, false, false, false, false, false, false, false, false, false, false, false], [true, true, false, false, false, false, false, true, false, false, false, false, false, false, false, false, false, false, false, false, false, false, false, false, false, false, false, true, false, true, false, true, false, false, false, false, false, false, false, false, false, false, true, false, false, true, true, false, false, false, false, false, false, false, false, false, false, false, false, false, false, false, false, false, false, false, false, false, false, false, false, false, false, false, false, false, false, false, false, false, false, false, false, false, false, false, false, false, false, false, false, false, false, false, false, false, false, false, false, false, false, false, false, false, false, false, false, false, false, false, false, false, false, false, false, false, false, false, false, false, false, false, false, false, false, false, false, false, false, false, false, false, false, true, false, true, true, false, true, false, true, true, false, false, false, false, false, false, false, false, false, false, false, false, false, false, false, false, false, false, false, false, false, false, false, false, false, false, false, false, false, false, false, false, false, false, false, false, false, false, false, false, false], [true, true, false, false, false, false, false, true, false, false, false, false, false, false, false, false, false, false, false, false, false, false, false, false, false, false, false, true, false, true, false, false, false, false, false, false, false, false, false, false, false, false, true, false, false, true, true, false, false, false, false, false, false, false, false, false, false, false, false, false, false, false, false, false, false, false, false, false, false, false, false, false, false, false, false, false, false, false, false, false, false, false, false, false, false, false, false, false, false, false, false, false, false, false, false, false, false, false, false, false, false, false, false, false, false, false, false, false, false, false, false, false, false, false, false, false, false, false, false, false, false, false, false, false, false, false, false, false, false, false, false, false, false, true, false, true, true, false, true, false, true, true, false, false, false, false, false, false, false, false, false, false, false, false, false, false, false, false, false, false, false, false, false, false, false, false, false, false, false, false, false, false, false, false, false, false, false, false, false, false, false, false, false], [true, true, false, false, false, false, false, true, false, false, false, false, false, false, false, false, false, false, false, false, false, false, false, false, false, false, false, true, false, true, false, true, false, false, false, false, false, false, false, false, false, false, true, false, false, true, true, false, false, false, false, false, false, false, false, false, false, false, false, false, false, false, false, false, false, false, false, false, false, false, false, false, false, false, false, false, false, false, false, false, false, false, false, false, false, false, false, false, false, false, false, false, false, false, false, false, false, false, false, false, false, false, false, false, false, false, false, false, false, false, false, false, false, false, false, false, false, false, false, false, false, false, false, false, false, false, false, false, false, false, false, false, false, true, false, true, true, false, true, false, true, true, false, false, false, false, false, false, false, false, false, false, false, false, false, false, false, false, false, false, false, false, false, false, false, false, false, false, false, false, false, false, false, false, false, false, false, false, false, false, false, false, false], [true, true, true, true, true, true, true, true, true, true, true, true, true, true, true, true, true, true, true, true, true, true, true, true, true, true, true, true, true, true, true, true, true, true, true, true, true, true, true, true, true, true, true, true, true, true, true, true, true, true, true, true, true, true, true, true, true, true, true, true, true, true, true, true, true, true, true, true, true, true, true, true, true, true, true, true, true, true, true, true, true, true, true, true, true, true, true, true, true, true, true, true, true, true, true, true, true, true, true, true, true, true, true, true, true, true, true, true, true, true, true, true, true, true, true, true, true, true, true, true, true, true, true, true, true, true, true, true, true, true, true, true, true, true, true, true, true, true, true, true, true, true, true, true, true, true, true, true, true, true, true, true, true, true, true, true, true, true, true, true, true, true, true, true, true, true, true, true, true, true, true, true, true, true, true, true, true, true, true, true, true, true, true], [true, true, true, true, true, true, true, true, true, true, true, true, true, true, true, true, true, true, true, true, true, true, true, true, true, true, true, true, true, true, true, true, true, true, true, true, true, true, true, true, true, true, true, true, true, true, true, true, true, true, true, true, true, true, true, true, true, true, true, true, true, true, true, true, true, true, true, true, true, true, true, true, true, true, true, true, true, true, true, true, true, true, true, true, true, true, true, true, true, true, true, true, true, true, true, true, true, true, true, true, true, true, true, true, true, true, true, true, true, true, true, true, true, true, true, true, true, true, true, true, true, true, true, true, true, true, true, true, true, true, true, true, true, true, true, true, true, true, true, true, true, true, true, true, true, true, true, true, true, true, true, true, true, true, true, true, true, true, true, true, true, true, true, true, true, true, true, true, true, true, true, true, true, true, true, true, true, true, true, true, true, true, true]]
@[simp] def qr11 : List Bool := [true, true, true, true, true, true, true, true, true, true, true, true, true, true, true, true, true, true, true, true, true, true, true, true, true, true, true, true, true, true, true, true, true, true, true, true, true, true, true, true, true, true, true, true, true, true, true, true, true, true, true, true, true, true, true, true, true, true, true, true, true, true, true, true, true, true, true, true, true, true, true, true, true, true, true, true, true, true, true, true, true, true, true, true, true, true, true, true, true, true, true, true, true, true, true, true, true, true, true, true, true, true, true, true, true, true, true, true, true, true, true, true, true, true, true, true, true, true, true, true, true, true, true, true, true, true, true, true, true, true, true, true, true, true, true, true, true, true, true, true, true, true, true, true, true, true, true, true, true, true, true, true, true, true, true, true, true, true, true, true, true, true, true, true, true, true, true, true, true, true, true, true, true, true, true, true, true, true, true, true, true, true, true]
@[simp] def qR11 (s0 s1 s2 s3 s4 s5 s6 s7 s8 s9 s10 s11 s12 s13 s14 s15 s16 s17 s18 s19 s20 s21 s22 s23 s24 s25 s26 s27 s28 s29 s30 s31 s32 s33 s34 s35 s36 s37 s38 s39 s40 s41 s42 s43 s44 s45 s46 s47 s48 s49 s50 s51 s52 s53 s54 s55 s56 s57 s58 s59 s60 s61 s62 s63 s64 s65 s66 s67 s68 s69 s70 s71 s72 s73 s74 s75 s76 s77 s78 s79 s80 s81 s82 s83 s84 s85 s86 s87 s88 s89 s90 s91 s92 s93 s94 s95 s96 s97 s98 s99 s100 s101 s102 s103 s104 s105 s106 s107 s108 s109 s110 s111 s112 s113 s114 s115 s116 s117 s118 s119 s120 s121 s122 s123 s124 s125 s126 s127 s128 s129 s130 s131 s132 s133 s134 s135 s136 s137 s138 s139 s140 s141 s142 s143 s144 s145 s146 s147 s148 s149 s150 s151 s152 s153 s154 s155 s156 s157 s158 s159 s160 s161 s162 s163 s164 s165 s166 s167 s168 s169 s170 s171 s172 s173 s174 s175 s176 s177 s178 s179 s180 s181 s182 : V) : St := [s0, s1, s2, s3, s4, s5, s6, s7, s8, s9, s10, s11, s12, s13, s14, s15, s16, s17, s18, s19, s20, s21, s22, s23, s24, s25, s26, s27, s28, s29, s30, s31, s32, s33, s34, s35, s36, s37, s38, s39, s40, s41, s42, s43, s44, s45, s46, s47, s48, s49, s50, s51, s52, s53, s54, s55, s56, s57, s58, s59, s60, s61, s62, s63, s64, s65, s66, s67, s68, s69, s70, s71, s72, s73, s74, s75, s76, s77, s78, s79, s80, s81, s82, s83, s84, s85, s86, s87, s88, s89, s90, s91, s92, s93, s94, s95, s96, s97, s98, s99, s100, s101, s102, s103, s104, s105, s106, s107, s108, s109, s110, s111, s112, s113, s114, s115, s116, s117, s118, s119, s120, s121, s122, s123, s124, s125, s126, s127, s128, s129, s130, s131, s132, s133, s134, s135, s136, s137, s138, s139, s140, s141, s142, s143, s144, s145, s146, s147, s148, s149, s150, s151, s152, s153, s154, s155, s156, s157, s158, s159, s160, s161, s162, s163, s164, s165, s166, s167, s168, s169, s170, s171, s172, s173, s174, s175, s176, s177, s178, s179, s180, s181, s182]
@[simp] def qx11_0 : List Bool := [true, true, false, false, false, false, false, true, false, false, false, false, false, false, false, false, false, false, false, false, false, false, false, false, false, false, false, true, false, true, false, false, false, false, false, false, false, false, false, false, false, false, true, false, false, true, true, false, false, false, false, false, false, false, false, false, false, false, false, false, false, false, false, false, false, false, false, false, false, false, false, false, false, false, false, false, false, false, false, false, false, false, false, false, false, false, false, false, false, false, false, false, false, false, false, false, false, false, false, false, false, false, false, false, false, false, false, false, false, false, false, false, false, false, false, false, false, false, false, false, false, false, false, false, false, false, false, false, false, false, false, false, false, true, false, true, true, false, true, false, true, true, false, false, false, false, false, false, false, false, false, false, false, false, false, false, false, false, false, false, false, false, false, false, false, false, false, false, false, false, false, false, false, false, false, false, false, false, false, false, false, false, false]
@[simp] def qX11_0 (s0 s1 s7 s27 s29 s42 s45 s46 s133 s135 s136 s138 s140 s141 : V) : St := [s0, s1, .dead, .dead, .dead, .dead, .dead, s7, .dead, .dead, .dead, .dead, .dead, .dead, .dead, .dead, .dead, .dead, .dead, .dead, .dead, .dead, .dead, .dead, .dead, .dead, .dead, s27, .dead, s29, .dead, .dead, .dead, .dead, .dead, .dead, .dead, .dead, .dead, .dead, .dead, .dead, s42, .dead, .dead, s45, s46, .dead, .dead, .dead, .dead, .dead, .dead, .dead, .dead, .dead, .dead, .dead, .dead, .dead, .dead, .dead, .dead, .dead, .dead, .dead, .dead, .dead, .dead, .dead, .dead, .dead, .dead, .dead, .dead, .dead, .dead, .dead, .dead, .dead, .dead, .dead, .dead, .dead, .dead, .dead, .dead, .dead, .dead, .dead, .dead, .dead, .dead, .dead, .dead, .dead, .dead, .dead, .dead, .dead, .dead, .dead, .dead, .dead, .dead, .dead, .dead, .dead, .dead, .dead, .dead, .dead, .dead, .dead, .dead, .dead, .dead, .dead, .dead, .dead, .dead, .dead, .dead, .dead, .dead, .dead, .dead, .dead, .dead, .dead, .dead, .dead, .dead, s133, .dead, s135, s136, .dead, s138, .dead, s140, s141, .dead, .dead, .dead, .dead, .dead, .dead, .dead, .dead, .dead, .dead, .dead, .dead, .dead, .dead, .dead, .dead, .dead, .dead, .dead, .dead, .dead, .dead, .dead, .dead, .dead, .dead, .dead, .dead, .dead, .dead, .dead, .dead, .dead, .dead, .dead, .dead, .dead, .dead, .dead, .dead, .dead]
@[simp] def qh11_0 : List Bool := [true, true, false, false, false, false, false, true, false, false, false, false, false, false, false, false, false, false, false, false, false, false, false, false, false, false, false, true, false, true, false, true, false, false, false, false, false, false, false, false, false, false, true, false, false, true, true, false, false, false, false, false, false, false, false, false, false, false, false, false, false, false, false, false, false, false, false, false, false, false, false, false, false, false, false, false, false, false, false, false, false, false, false, false, false, false, false, false, false, false, false, false, false, false, false, false, false, false, false, false, false, false, false, false, false, false, false, false, false, false, false, false, false, false, false, false, false, false, false, false, false, false, false, false, false, false, false, false, false, false, false, false, false, true, false, true, true, false, true, false, true, true, false, false, false, false, false, false, false, false, false, false, false, false, false, false, false, false, false, false, false, false, false, false, false, false, false, false, false, false, false, false, false, false, false, false, false, false, false, false, false, false, false]
@[simp] def qL11_0 (s0 s1 s7 s27 s29 s31 s42 s45 s46 s133 s135 s136 s138 s140 s141 : V) : St := [s0, s1, .dead, .dead, .dead, .dead, .dead, s7, .dead, .dead, .dead, .dead, .dead, .dead, .dead, .dead, .dead, .dead, .dead, .dead, .dead, .dead, .dead, .dead, .dead, .dead, .dead, s27, .dead, s29, .dead, s31, .dead, .dead, .dead, .dead, .dead, .dead, .dead, .dead, .dead, .dead, s42, .dead, .dead, s45, s46, .dead, .dead, .dead, .dead, .dead, .dead, .dead, .dead, .dead, .dead, .dead, .dead, .dead, .dead, .dead, .dead, .dead, .dead, .dead, .dead, .dead, .dead, .dead, .dead, .dead, .dead, .dead, .dead, .dead, .dead, .dead, .dead, .dead, .dead, .dead, .dead, .dead, .dead, .dead, .dead, .dead, .dead, .dead, .dead, .dead, .dead, .dead, .dead, .dead, .dead, .dead, .dead, .dead, .dead, .dead, .dead, .dead, .dead, .dead, .dead, .dead, .dead, .dead, .dead, .dead, .dead, .dead, .dead, .dead, .dead, .dead, .dead, .dead, .dead, .dead, .dead, .dead, .dead, .dead, .dead, .dead, .dead, .dead, .dead, .dead, .dead, s133, .dead, s135, s136, .dead, s138, .dead, s140, s141, .dead, .dead, .dead, .dead, .dead, .dead, .dead, .dead, .dead, .dead, .dead, .dead, .dead, .dead, .dead, .dead, .dead, .dead, .dead, .dead, .dead, .dead, .dead, .dead, .dead, .dead, .dead, .dead, .dead, .dead, .dead, .dead, .dead, .dead, .dead, .dead, .dead, .dead, .dead, .dead, .dead]
@[simp] def qx11_1 : List Bool := [true, true, false, false, false, false, false, true, false, false, false, false, false, false, false, false, false, false, false, false, false, false, false, false, false, false, false, true, false, true, false, true, false, false, false, false, false, false, false, false, false, false, true, false, false, true, true, false, false, false, false, false, false, false, false, false, false, false, false, false, false, false, false, false, false, false, false, false, false, false, false, false, false, false, false, false, false, false, false, false, false, false, false, false, false, false, false, false, false, false, false, false, false, false, false, false, false, false, false, false, false, false, false, false, false, false, false, false, false, false, false, false, false, false, false, false, false, false, false, false, false, false, false, false, false, false, false, false, false, false, false, false, false, true, false, true, true, false, true, false, true, true, false, false, false, false, false, false, false, false, false, false, false, false, false, false, false, false, false, false, false, false, false, false, false, false, false, false, false, false, false, false, false, false, false, false, false, false, false, false, false, false, false]
@[simp] def qX11_1 (s0 s1 s7 s27 s29 s31 s42 s45 s46 s133 s135 s136 s138 s140 s141 : V) : St := [s0, s1, .dead, .dead, .dead, .dead, .dead, s7, .dead, .dead, .dead, .dead, .dead, .dead, .dead, .dead, .dead, .dead, .dead, .dead, .dead, .dead, .dead, .dead, .dead, .dead, .dead, s27, .dead, s29, .dead, s31, .dead, .dead, .dead, .dead, .dead, .dead, .dead, .dead, .dead, .dead, s42, .dead, .dead, s45, s46, .dead, .dead, .dead, .dead, .dead, .dead, .dead, .dead, .dead, .dead, .dead, .dead, .dead, .dead, .dead, .dead, .dead, .dead, .dead, .dead, .dead, .dead, .dead, .dead, .dead, .dead, .dead, .dead, .dead, .dead, .dead, .dead, .dead, .dead, .dead, .dead, .dead, .dead, .dead, .dead, .dead, .dead, .dead, .dead, .dead, .dead, .dead, .dead, .dead, .dead, .dead, .dead, .dead, .dead, .dead, .dead, .dead, .dead, .dead, .dead, .dead, .dead, .dead, .dead, .dead, .dead, .dead, .dead, .dead, .dead, .dead, .dead, .dead, .dead, .dead, .dead, .dead, .dead, .dead, .dead, .dead, .dead, .dead, .dead, .dead, .dead, s133, .dead, s135, s136, .dead, s138, .dead, s140, s141, .dead, .dead, .dead, .dead, .dead, .dead, .dead, .dead, .dead, .dead, .dead, .dead, .dead, .dead, .dead, .dead, .dead, .dead, .dead, .dead, .dead, .dead, .dead, .dead, .dead, .dead, .dead, .dead, .dead, .dead, .dead, .dead, .dead, .dead, .dead, .dead, .dead, .dead, .dead, .dead, .dead]
def qb11_0 : MC := .seq (.scr qh11_0)
 (.seq (.seq (.ops [⟨none, .mv 151 (.t 31)⟩,
    ⟨none, .bin 152 .lss .num (.t 151) (.c (.v (.int .i64 12)))⟩])
  (.cnd (.t 152)
   .skip
   (.seq (.scr qx11_0) (.ex 0))))
 (.seq (.seq (.blk 1 (.seq (.drw [⟨none, .mv 155 (.t 27)⟩,
     ⟨none, .mv 156 (.t 31)⟩,
     ⟨none, .ixs 157 1 (.t 155) (.t 156)⟩,
     ⟨none, .ld1 158 (.t 157)⟩,
     ⟨none, .mv 159 (.t 29)⟩,
     ⟨none, .mv 160 (.t 31)⟩,
     ⟨none, .mv 161 (.t 1)⟩,
     ⟨none, .call (some 162) 15 [(.t 161), (.c (.v (.int .i64 12)))]⟩,
     ⟨none, .bin 163 .add .num (.t 160) (.t 162)⟩,
     ⟨none, .call (some 164) 15 [(.t 163), (.c (.v (.int .i64 12)))]⟩,
     ⟨none, .ixs 165 1 (.t 159) (.t 164)⟩,
     ⟨none, .ld1 166 (.t 165)⟩] [⟨none, .bin 167 .neq .num (.t 158) (.t 166)⟩])
   (.cnd (.t 167)
    (.seq (.ops [⟨none, .asg 6 (.c (.v (.bool false)))⟩])
    (.seq (.scr qr11) .ret))
    .skip))) (.scr qx11_1))
 (.ops [⟨none, .mv 153 (.t 31)⟩,
  ⟨none, .bin 154 .add .num (.t 153) (.c (.v (.int .i64 1)))⟩,
  ⟨none, .asg 31 (.t 154)⟩])))
def qc11 : MF := ⟨(.seq (.ops [⟨none, .asg 6 (.c (.v (.bool false)))⟩])
 (.seq (.seq (.ops [⟨none, .call (some 34) 12 []⟩,
    ⟨none, .un 35 .not (.t 34)⟩,
    ⟨none, .mv 36 (.t 35)⟩,
    ⟨some (36, false), .mv 37 (.t 0)⟩,
    ⟨some (36, false), .call (some 38) 16 [(.t 37)]⟩,
    ⟨some (36, false), .un 39 .not (.t 38)⟩,
    ⟨none, .pick 40 (.t 36) (.c (.v (.bool true))) (.t 39)⟩])
  (.cnd (.t 40)
   (.seq (.ops [⟨none, .call (some 41) 12 []⟩,
     ⟨none, .asg 6 (.t 41)⟩])
   (.seq (.scr qr11) .ret))
   .skip))
 (.seq (.ops [⟨none, .mv 43 (.t 0)⟩,
   ⟨none, .mv 44 (.t 1)⟩,
   ⟨none, .call (some 45) 28 [(.t 43), (.t 44)]⟩,
   ⟨none, .mv 42 (.t 45)⟩,
   ⟨none, .ext 46 (.t 42) 0⟩,
   ⟨none, .ext 47 (.t 42) 1⟩,
   ⟨none, .asg 7 (.t 46)⟩,
   ⟨none, .asg 8 (.t 47)⟩])
 (.seq (.seq (.ops [⟨none, .mv 48 (.t 8)⟩,
    ⟨none, .bin 49 .neq .num (.t 48) (.c (.v (.int .i64 0)))⟩])
  (.cnd (.t 49)
   (.seq (.ops [⟨none, .mv 50 (.t 7)⟩,
     ⟨none, .len 51 false (.t 50)⟩,
     ⟨none, .bin 52 .eql .num (.t 51) (.c (.v (.int .i64 0)))⟩,
     ⟨none, .asg 6 (.t 52)⟩])
   (.seq (.scr qr11) .ret))
   .skip))
 (.seq (.ops [⟨none, .mv 53 (.t 2)⟩,
   ⟨none, .call (some 54) 15 [(.t 53), (.c (.v (.int .i64 12)))]⟩,
   ⟨none, .bin 55 .add .num (.c (.v (.int .i64 1))) (.t 54)⟩,
   ⟨none, .asg 2 (.t 55)⟩])
 (.seq (.ops [⟨none, .mv 57 (.t 0)⟩,
   ⟨none, .call (some 58) 17 [(.t 57)]⟩,
   ⟨none, .mv 56 (.t 58)⟩,
   ⟨none, .ext 59 (.t 56) 0⟩,
   ⟨none, .ext 60 (.t 56) 1⟩,
   ⟨none, .ext 61 (.t 56) 2⟩,
   ⟨none, .asg 9 (.t 59)⟩,
   ⟨none, .asg 10 (.t 60)⟩,
   ⟨none, .asg 11 (.t 61)⟩])
 (.seq (.ops [⟨none, .mv 63 (.t 7)⟩,
   ⟨none, .call (some 64) 17 [(.t 63)]⟩,
   ⟨none, .mv 62 (.t 64)⟩,
   ⟨none, .ext 65 (.t 62) 0⟩,
   ⟨none, .ext 66 (.t 62) 1⟩,
   ⟨none, .ext 67 (.t 62) 2⟩,
   ⟨none, .asg 12 (.t 65)⟩,
   ⟨none, .asg 13 (.t 66)⟩,
   ⟨none, .asg 14 (.t 67)⟩])
 (.seq (.ops [⟨none, .mv 69 (.t 0)⟩,
   ⟨none, .call (some 70) 19 [(.t 69)]⟩,
   ⟨none, .mv 68 (.t 70)⟩,
   ⟨none, .ext 71 (.t 68) 0⟩,
   ⟨none, .ext 72 (.t 68) 1⟩,
   ⟨none, .ext 73 (.t 68) 2⟩,
   ⟨none, .asg 15 (.t 71)⟩,
   ⟨none, .asg 16 (.t 72)⟩,
   ⟨none, .asg 17 (.t 73)⟩])
 (.seq (.ops [⟨none, .mv 75 (.t 7)⟩,
   ⟨none, .call (some 76) 19 [(.t 75)]⟩,
   ⟨none, .mv 74 (.t 76)⟩,
   ⟨none, .ext 77 (.t 74) 0⟩,
   ⟨none, .ext 78 (.t 74) 1⟩,
   ⟨none, .ext 79 (.t 74) 2⟩,
   ⟨none, .asg 18 (.t 77)⟩,
   ⟨none, .asg 19 (.t 78)⟩,
   ⟨none, .asg 20 (.t 79)⟩])
 (.seq (.ops [⟨none, .mv 81 (.t 0)⟩,
   ⟨none, .mv 82 (.t 2)⟩,
   ⟨none, .call (some 83) 23 [(.t 81), (.t 82)]⟩,
   ⟨none, .mv 80 (.t 83)⟩,
   ⟨none, .ext 84 (.t 80) 0⟩,
   ⟨none, .ext 85 (.t 80) 1⟩,
   ⟨none, .ext 86 (.t 80) 2⟩,
   ⟨none, .asg 21 (.t 84)⟩,
   ⟨none, .asg 22 (.t 85)⟩,
   ⟨none, .asg 23 (.t 86)⟩])
 (.seq (.ops [⟨none, .mv 88 (.t 7)⟩,
   ⟨none, .mv 89 (.t 2)⟩,
   ⟨none, .call (some 90) 23 [(.t 88), (.t 89)]⟩,
   ⟨none, .mv 87 (.t 90)⟩,
   ⟨none, .ext 91 (.t 87) 0⟩,
   ⟨none, .ext 92 (.t 87) 1⟩,
   ⟨none, .ext 93 (.t 87) 2⟩,
   ⟨none, .asg 24 (.t 91)⟩,
   ⟨none, .asg 25 (.t 92)⟩,
   ⟨none, .asg 26 (.t 93)⟩])
 (.seq (.seq (.ops [⟨none, .mv 94 (.t 10)⟩,
    ⟨none, .mv 95 (.t 13)⟩,
    ⟨none, .bin 96 .neq .num (.t 94) (.t 95)⟩,
    ⟨none, .mv 97 (.t 96)⟩,
    ⟨some (97, false), .mv 98 (.t 11)⟩,
    ⟨some (97, false), .mv 99 (.t 14)⟩,
    ⟨some (97, false), .bin 100 .neq .num (.t 98) (.t 99)⟩,
    ⟨none, .pick 101 (.t 97) (.c (.v (.bool true))) (.t 100)⟩,
    ⟨none, .mv 102 (.t 101)⟩,
    ⟨some (102, false), .mv 103 (.t 16)⟩,
    ⟨some (102, false), .mv 104 (.t 19)⟩,
    ⟨some (102, false), .bin 105 .neq .num (.t 103) (.t 104)⟩,
    ⟨none, .pick 106 (.t 102) (.c (.v (.bool true))) (.t 105)⟩,
    ⟨none, .mv 107 (.t 106)⟩,
    ⟨some (107, false), .mv 108 (.t 17)⟩,
    ⟨some (107, false), .mv 109 (.t 20)⟩,
    ⟨some (107, false), .bin 110 .neq .num (.t 108) (.t 109)⟩,
    ⟨none, .pick 111 (.t 107) (.c (.v (.bool true))) (.t 110)⟩,
    ⟨none, .mv 112 (.t 111)⟩,
    ⟨some (112, false), .mv 113 (.t 22)⟩,
    ⟨some (112, false), .mv 114 (.t 25)⟩,
    ⟨some (112, false), .bin 115 .neq .num (.t 113) (.t 114)⟩,
    ⟨none, .pick 116 (.t 112) (.c (.v (.bool true))) (.t 115)⟩,
    ⟨none, .mv 117 (.t 116)⟩,
    ⟨some (117, false), .mv 118 (.t 23)⟩,
    ⟨some (117, false), .mv 119 (.t 26)⟩,
    ⟨some (117, false), .bin 120 .neq .num (.t 118) (.t 119)⟩,
    ⟨none, .pick 121 (.t 117) (.c (.v (.bool true))) (.t 120)⟩,
    ⟨none, .mv 122 (.t 121)⟩,
    ⟨some (122, false), .mv 123 (.t 0)⟩,
    ⟨some (122, false), .mv 124 (.t 2)⟩,
    ⟨some (122, false), .bin 125 .quo .num (.t 124) (.c (.v (.int .i64 2)))⟩,
    ⟨some (122, false), .call (some 126) 22 [(.t 123), (.t 125)]⟩,
    ⟨some (122, false), .mv 127 (.t 7)⟩,
    ⟨some (122, false), .mv 128 (.t 2)⟩,
    ⟨some (122, false), .bin 129 .quo .num (.t 128) (.c (.v (.int .i64 2)))⟩,
    ⟨some (122, false), .call (some 130) 22 [(.t 127), (.t 129)]⟩,
    ⟨some (122, false), .bin 131 .neq .bool (.t 126) (.t 130)⟩,
    ⟨none, .pick 132 (.t 122) (.c (.v (.bool true))) (.t 131)⟩])
  (.cnd (.t 132)
   (.seq (.ops [⟨none, .asg 6 (.c (.v (.bool false)))⟩])
   (.seq (.scr qr11) .ret))
   .skip))
 (.seq (.ops [⟨none, .mv 134 (.t 0)⟩,
   ⟨none, .call (some 135) 26 [(.t 134)]⟩,
   ⟨none, .mv 133 (.t 135)⟩,
   ⟨none, .ext 136 (.t 133) 0⟩,
   ⟨none, .ext 137 (.t 133) 1⟩,
   ⟨none, .asg 27 (.t 136)⟩,
   ⟨none, .asg 28 (.t 137)⟩])
 (.seq (.ops [⟨none, .mv 139 (.t 7)⟩,
   ⟨none, .call (some 140) 26 [(.t 139)]⟩,
   ⟨none, .mv 138 (.t 140)⟩,
   ⟨none, .ext 141 (.t 138) 0⟩,
   ⟨none, .ext 142 (.t 138) 1⟩,
   ⟨none, .asg 29 (.t 141)⟩,
   ⟨none, .asg 30 (.t 142)⟩])
 (.seq (.seq (.ops [⟨none, .mv 143 (.t 27)⟩,
    ⟨none, .len 144 false (.t 143)⟩,
    ⟨none, .bin 145 .neq .num (.t 144) (.c (.v (.int .i64 12)))⟩,
    ⟨none, .mv 146 (.t 145)⟩,
    ⟨some (146, false), .mv 147 (.t 29)⟩,
    ⟨some (146, false), .len 148 false (.t 147)⟩,
    ⟨some (146, false), .bin 149 .neq .num (.t 148) (.c (.v (.int .i64 12)))⟩,
    ⟨none, .pick 150 (.t 146) (.c (.v (.bool true))) (.t 149)⟩])
  (.cnd (.t 150)
   (.seq (.ops [⟨none, .asg 6 (.c (.v (.bool false)))⟩])
   (.seq (.scr qr11) .ret))
   .skip))
 (.seq (.seq (.ops [⟨none, .asg 31 (.c (.v (.int .i64 0)))⟩])
  (.seq (.blk 0 (.lop qb11_0)) (.scr qx11_0)))
 (.seq (.ops [⟨none, .mv 169 (.t 7)⟩,
   ⟨none, .mv 170 (.t 1)⟩,
   ⟨none, .call (some 171) 15 [(.t 170), (.c (.v (.int .i64 12)))]⟩,
   ⟨none, .un 172 .neg (.t 171)⟩,
   ⟨none, .call (some 173) 28 [(.t 169), (.t 172)]⟩,
   ⟨none, .mv 168 (.t 173)⟩,
   ⟨none, .ext 174 (.t 168) 0⟩,
   ⟨none, .ext 175 (.t 168) 1⟩,
   ⟨none, .asg 32 (.t 174)⟩,
   ⟨none, .asg 33 (.t 175)⟩])
 (.seq (.ops [⟨none, .mv 176 (.t 33)⟩,
   ⟨none, .bin 177 .eql .num (.t 176) (.c (.v (.int .i64 0)))⟩,
   ⟨none, .mv 178 (.t 177)⟩,
   ⟨some (178, true), .mv 179 (.t 32)⟩,
   ⟨some (178, true), .mv 180 (.t 0)⟩,
   ⟨some (178, true), .call (some 181) 30 [(.t 179), (.t 180)]⟩,
   ⟨none, .pick 182 (.t 178) (.t 181) (.c (.v (.bool false)))⟩,
   ⟨none, .asg 6 (.t 182)⟩])
 (.seq (.scr qr11) .ret))))))))))))))))))),
  183, [6]⟩


theorem qcomp11 : compF Go.Proofs.Try.prog qhints11 11 = some qc11 := by kernel_rfl

def tbl2 (f : FuncId) : Option MF := if f = 11 then some qc11 else tbl f

theorem tbl2_ok (f : FuncId) (mf : MF) (h : tbl2 f = some mf) : ∃ hints, compF Go.Proofs.Try.prog hints f = some mf := by
  unfold tbl2 at h
  split at h
  · rename_i hf; subst hf; cases h; exact ⟨_, qcomp11⟩
  · exact tbl_ok f mf h

end Go.Mx
