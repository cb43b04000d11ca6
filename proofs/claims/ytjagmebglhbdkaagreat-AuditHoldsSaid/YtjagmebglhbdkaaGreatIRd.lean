import Derived.Test.YtjagmebglhbdkaaGreatK06
import Derived.Test.YtjagmebglhbdkaaGreatProg
import Derived.KernelRfl
namespace Go.Proofs.YtjagmebglhbdkaaGreat.MX
open Go Go.Proofs
set_option maxRecDepth 100000
set_option maxHeartbeats 0
noncomputable def i10 := j4 Tryz.prog 10
noncomputable def i14 := j4 Tryz.prog 14
noncomputable def i30 := j4 Tryz.prog 30
noncomputable def i34 := j4 Tryz.prog 34
noncomputable def i38 := j4 Tryz.prog 38
noncomputable def i46 := j4 Tryz.prog 46
noncomputable def i54 := j4 Tryz.prog 54
noncomputable def i62 := j4 Tryz.prog 62
noncomputable def i66 := j4 Tryz.prog 66
noncomputable def i74 := j4 Tryz.prog 74
noncomputable def i78 := j4 Tryz.prog 78
noncomputable def i82 := j4 Tryz.prog 82
noncomputable def i86 := j4 Tryz.prog 86
noncomputable def i90 := j4 Tryz.prog 90
noncomputable def i94 := j4 Tryz.prog 94
noncomputable def i98 := j4 Tryz.prog 98
noncomputable def i102 := j4 Tryz.prog 102
noncomputable def i110 := j4 Tryz.prog 110
noncomputable def i114 := j4 Tryz.prog 114
noncomputable def i118 := j4 Tryz.prog 118
noncomputable def i122 := j4 Tryz.prog 122
noncomputable def i126 := j4 Tryz.prog 126
noncomputable def i130 := j4 Tryz.prog 130
noncomputable def i134 := j4 Tryz.prog 134
noncomputable def i138 := j4 Tryz.prog 138
noncomputable def i142 := j4 Tryz.prog 142
noncomputable def i146 := j4 Tryz.prog 146
noncomputable def i150 := j4 Tryz.prog 150
noncomputable def i154 := j4 Tryz.prog 154
noncomputable def i158 := j4 Tryz.prog 158
noncomputable def i162 := j4 Tryz.prog 162
noncomputable def i166 := j4 Tryz.prog 166
noncomputable def i170 := j4 Tryz.prog 170
noncomputable def i174 := j4 Tryz.prog 174
noncomputable def i178 := j4 Tryz.prog 178
noncomputable def i182 := j4 Tryz.prog 182
noncomputable def i186 := j4 Tryz.prog 186
theorem a4I : a3T Tryz.prog 186 = true := by kernel_rfl
noncomputable def i190 := j4 Tryz.prog 190
noncomputable def i194 := j4 Tryz.prog 194
noncomputable def i198 := j4 Tryz.prog 198
noncomputable def i202 := j4 Tryz.prog 202
noncomputable def i206 := j4 Tryz.prog 206
noncomputable def i210 := j4 Tryz.prog 210
noncomputable def i214 := j4 Tryz.prog 214
noncomputable def i218 := j4 Tryz.prog 218
noncomputable def i222 := j4 Tryz.prog 222
noncomputable def i227 := j4 Tryz.prog 227
theorem a2J : a3T Tryz.prog 227 = true := by kernel_rfl
noncomputable def i231 := j4 Tryz.prog 231
noncomputable def i235 := j4 Tryz.prog 235
end Go.Proofs.YtjagmebglhbdkaaGreat.MX
