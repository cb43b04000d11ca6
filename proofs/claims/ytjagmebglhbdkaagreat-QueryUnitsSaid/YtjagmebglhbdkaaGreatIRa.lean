import Derived.Test.YtjagmebglhbdkaaGreatK06
import Derived.Test.YtjagmebglhbdkaaGreatProg
import Derived.KernelRfl
namespace Go.Proofs.YtjagmebglhbdkaaGreat.MX
open Go Go.Proofs
set_option maxRecDepth 100000
set_option maxHeartbeats 0
noncomputable def i3 := j1 Tryz.prog 3
noncomputable def i7 := j1 Tryz.prog 7
noncomputable def i11 := j1 Tryz.prog 11
noncomputable def i15 := j1 Tryz.prog 15
noncomputable def i19 := j1 Tryz.prog 19
noncomputable def i23 := j1 Tryz.prog 23
noncomputable def i27 := j1 Tryz.prog 27
noncomputable def i39 := j1 Tryz.prog 39
noncomputable def i47 := j1 Tryz.prog 47
noncomputable def i55 := j1 Tryz.prog 55
noncomputable def i63 := j1 Tryz.prog 63
noncomputable def i67 := j1 Tryz.prog 67
noncomputable def i71 := j1 Tryz.prog 71
noncomputable def i79 := j1 Tryz.prog 79
noncomputable def i83 := j1 Tryz.prog 83
noncomputable def i87 := j1 Tryz.prog 87
noncomputable def i91 := j1 Tryz.prog 91
noncomputable def i95 := j1 Tryz.prog 95
noncomputable def i99 := j1 Tryz.prog 99
noncomputable def i103 := j1 Tryz.prog 103
noncomputable def i111 := j1 Tryz.prog 111
noncomputable def i115 := j1 Tryz.prog 115
noncomputable def i119 := j1 Tryz.prog 119
noncomputable def i123 := j1 Tryz.prog 123
noncomputable def i127 := j1 Tryz.prog 127
noncomputable def i131 := j1 Tryz.prog 131
noncomputable def i135 := j1 Tryz.prog 135
noncomputable def i139 := j1 Tryz.prog 139
noncomputable def i143 := j1 Tryz.prog 143
noncomputable def i147 := j1 Tryz.prog 147
noncomputable def i151 := j1 Tryz.prog 151
noncomputable def i155 := j1 Tryz.prog 155
noncomputable def i159 := j1 Tryz.prog 159
noncomputable def i163 := j1 Tryz.prog 163
noncomputable def i167 := j1 Tryz.prog 167
noncomputable def i171 := j1 Tryz.prog 171
noncomputable def i175 := j1 Tryz.prog 175
noncomputable def i179 := j1 Tryz.prog 179
noncomputable def i183 := j1 Tryz.prog 183
noncomputable def i187 := j1 Tryz.prog 187
noncomputable def i191 := j1 Tryz.prog 191
noncomputable def i195 := j1 Tryz.prog 195
theorem a7m : a3D Tryz.prog 195 = true := by kernel_rfl
noncomputable def i199 := j1 Tryz.prog 199
noncomputable def i203 := j1 Tryz.prog 203
noncomputable def i207 := j1 Tryz.prog 207
noncomputable def i211 := j1 Tryz.prog 211
noncomputable def i215 := j1 Tryz.prog 215
noncomputable def i219 := j1 Tryz.prog 219
noncomputable def i223 := j1 Tryz.prog 223
noncomputable def i228 := j1 Tryz.prog 228
noncomputable def i232 := j1 Tryz.prog 232
noncomputable def i236 := j1 Tryz.prog 236
noncomputable def i240 := j1 Tryz.prog 240
end Go.Proofs.YtjagmebglhbdkaaGreat.MX
