import Derived.Test.YtjagmebglhbdkaaGreatK06
import Derived.Test.YtjagmebglhbdkaaGreatProg
import Derived.KernelRfl
namespace Go.Proofs.YtjagmebglhbdkaaGreat.MX
open Go Go.Proofs
set_option maxRecDepth 100000
set_option maxHeartbeats 0
noncomputable def i3 := j4 Tryz.prog 3
noncomputable def i11 := j4 Tryz.prog 11
noncomputable def i15 := j4 Tryz.prog 15
noncomputable def i19 := j4 Tryz.prog 19
noncomputable def i27 := j4 Tryz.prog 27
noncomputable def i31 := j4 Tryz.prog 31
noncomputable def i39 := j4 Tryz.prog 39
noncomputable def i47 := j4 Tryz.prog 47
noncomputable def i55 := j4 Tryz.prog 55
noncomputable def i59 := j4 Tryz.prog 59
noncomputable def i67 := j4 Tryz.prog 67
noncomputable def i75 := j4 Tryz.prog 75
noncomputable def i79 := j4 Tryz.prog 79
noncomputable def i83 := j4 Tryz.prog 83
noncomputable def i87 := j4 Tryz.prog 87
noncomputable def i91 := j4 Tryz.prog 91
noncomputable def i95 := j4 Tryz.prog 95
noncomputable def i99 := j4 Tryz.prog 99
noncomputable def i103 := j4 Tryz.prog 103
noncomputable def i111 := j4 Tryz.prog 111
noncomputable def i115 := j4 Tryz.prog 115
noncomputable def i119 := j4 Tryz.prog 119
noncomputable def i123 := j4 Tryz.prog 123
noncomputable def i127 := j4 Tryz.prog 127
noncomputable def i131 := j4 Tryz.prog 131
noncomputable def i135 := j4 Tryz.prog 135
noncomputable def i139 := j4 Tryz.prog 139
noncomputable def i143 := j4 Tryz.prog 143
noncomputable def i147 := j4 Tryz.prog 147
noncomputable def i151 := j4 Tryz.prog 151
noncomputable def i155 := j4 Tryz.prog 155
noncomputable def i159 := j4 Tryz.prog 159
noncomputable def i163 := j4 Tryz.prog 163
noncomputable def i167 := j4 Tryz.prog 167
noncomputable def i171 := j4 Tryz.prog 171
noncomputable def i175 := j4 Tryz.prog 175
noncomputable def i179 := j4 Tryz.prog 179
noncomputable def i183 := j4 Tryz.prog 183
noncomputable def i187 := j4 Tryz.prog 187
noncomputable def i191 := j4 Tryz.prog 191
noncomputable def i195 := j4 Tryz.prog 195
theorem a7G : a3T Tryz.prog 195 = true := by kernel_rfl
noncomputable def i199 := j4 Tryz.prog 199
noncomputable def i203 := j4 Tryz.prog 203
noncomputable def i207 := j4 Tryz.prog 207
noncomputable def i211 := j4 Tryz.prog 211
noncomputable def i215 := j4 Tryz.prog 215
noncomputable def i219 := j4 Tryz.prog 219
noncomputable def i223 := j4 Tryz.prog 223
noncomputable def i228 := j4 Tryz.prog 228
noncomputable def i232 := j4 Tryz.prog 232
noncomputable def i236 := j4 Tryz.prog 236
noncomputable def i240 := j4 Tryz.prog 240
end Go.Proofs.YtjagmebglhbdkaaGreat.MX
