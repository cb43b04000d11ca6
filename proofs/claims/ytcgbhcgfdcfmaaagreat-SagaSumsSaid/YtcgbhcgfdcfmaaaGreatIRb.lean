import Derived.Test.YtcgbhcgfdcfmaaaGreatK06
import Derived.Test.YtcgbhcgfdcfmaaaGreatProg
import Derived.KernelRfl
namespace Go.Proofs.YtcgbhcgfdcfmaaaGreat.MX
open Go Go.Proofs
set_option maxRecDepth 100000
set_option maxHeartbeats 0
noncomputable def i4 := j5 Tryz.prog 4
noncomputable def i8 := j5 Tryz.prog 8
noncomputable def i12 := j5 Tryz.prog 12
noncomputable def i16 := j5 Tryz.prog 16
noncomputable def i24 := j5 Tryz.prog 24
noncomputable def i28 := j5 Tryz.prog 28
noncomputable def i32 := j5 Tryz.prog 32
noncomputable def i36 := j5 Tryz.prog 36
noncomputable def i40 := j5 Tryz.prog 40
noncomputable def i44 := j5 Tryz.prog 44
noncomputable def i48 := j5 Tryz.prog 48
noncomputable def i52 := j5 Tryz.prog 52
noncomputable def i56 := j5 Tryz.prog 56
noncomputable def i60 := j5 Tryz.prog 60
noncomputable def i64 := j5 Tryz.prog 64
noncomputable def i68 := j5 Tryz.prog 68
theorem a3C : a2r Tryz.prog 68 = true := by kernel_rfl
noncomputable def i72 := j5 Tryz.prog 72
noncomputable def i76 := j5 Tryz.prog 76
noncomputable def i80 := j5 Tryz.prog 80
noncomputable def i84 := j5 Tryz.prog 84
noncomputable def i88 := j5 Tryz.prog 88
noncomputable def i92 := j5 Tryz.prog 92
noncomputable def i96 := j5 Tryz.prog 96
noncomputable def i100 := j5 Tryz.prog 100
noncomputable def i104 := j5 Tryz.prog 104
theorem a3N : a2r Tryz.prog 104 = true := by kernel_rfl
noncomputable def i108 := j5 Tryz.prog 108
noncomputable def i112 := j5 Tryz.prog 112
noncomputable def i116 := j5 Tryz.prog 116
noncomputable def i120 := j5 Tryz.prog 120
noncomputable def i124 := j5 Tryz.prog 124
noncomputable def i128 := j5 Tryz.prog 128
noncomputable def i132 := j5 Tryz.prog 132
noncomputable def i136 := j5 Tryz.prog 136
noncomputable def i140 := j5 Tryz.prog 140
noncomputable def i144 := j5 Tryz.prog 144
theorem X9 : a2r Tryz.prog 144 = true := by kernel_rfl
noncomputable def i148 := j5 Tryz.prog 148
noncomputable def i152 := j5 Tryz.prog 152
noncomputable def i156 := j5 Tryz.prog 156
noncomputable def i161 := j5 Tryz.prog 161
noncomputable def i165 := j5 Tryz.prog 165
noncomputable def i169 := j5 Tryz.prog 169
noncomputable def i173 := j5 Tryz.prog 173
noncomputable def i177 := j5 Tryz.prog 177
end Go.Proofs.YtcgbhcgfdcfmaaaGreat.MX
