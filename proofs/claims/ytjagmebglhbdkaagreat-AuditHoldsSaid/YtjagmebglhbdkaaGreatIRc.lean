import Derived.Test.YtjagmebglhbdkaaGreatK06
import Derived.Test.YtjagmebglhbdkaaGreatProg
import Derived.KernelRfl
namespace Go.Proofs.YtjagmebglhbdkaaGreat.MX
open Go Go.Proofs
set_option maxRecDepth 100000
set_option maxHeartbeats 0
noncomputable def i13 := j4 Tryz.prog 13
noncomputable def i25 := j4 Tryz.prog 25
noncomputable def i33 := j4 Tryz.prog 33
noncomputable def i37 := j4 Tryz.prog 37
noncomputable def i41 := j4 Tryz.prog 41
noncomputable def i45 := j4 Tryz.prog 45
noncomputable def i49 := j4 Tryz.prog 49
noncomputable def i57 := j4 Tryz.prog 57
noncomputable def i61 := j4 Tryz.prog 61
noncomputable def i65 := j4 Tryz.prog 65
noncomputable def i69 := j4 Tryz.prog 69
noncomputable def i73 := j4 Tryz.prog 73
noncomputable def i77 := j4 Tryz.prog 77
noncomputable def i81 := j4 Tryz.prog 81
noncomputable def i85 := j4 Tryz.prog 85
noncomputable def i89 := j4 Tryz.prog 89
noncomputable def i93 := j4 Tryz.prog 93
noncomputable def i97 := j4 Tryz.prog 97
noncomputable def i101 := j4 Tryz.prog 101
noncomputable def i109 := j4 Tryz.prog 109
noncomputable def i113 := j4 Tryz.prog 113
noncomputable def i117 := j4 Tryz.prog 117
noncomputable def i121 := j4 Tryz.prog 121
noncomputable def i125 := j4 Tryz.prog 125
theorem a5A : a3T Tryz.prog 125 = true := by kernel_rfl
noncomputable def i129 := j4 Tryz.prog 129
noncomputable def i133 := j4 Tryz.prog 133
noncomputable def i137 := j4 Tryz.prog 137
noncomputable def i141 := j4 Tryz.prog 141
noncomputable def i145 := j4 Tryz.prog 145
noncomputable def i149 := j4 Tryz.prog 149
noncomputable def i153 := j4 Tryz.prog 153
noncomputable def i157 := j4 Tryz.prog 157
noncomputable def i161 := j4 Tryz.prog 161
noncomputable def i165 := j4 Tryz.prog 165
noncomputable def i169 := j4 Tryz.prog 169
noncomputable def i173 := j4 Tryz.prog 173
noncomputable def i177 := j4 Tryz.prog 177
theorem a5B : a3T Tryz.prog 177 = true := by kernel_rfl
noncomputable def i181 := j4 Tryz.prog 181
noncomputable def i185 := j4 Tryz.prog 185
noncomputable def i189 := j4 Tryz.prog 189
noncomputable def i193 := j4 Tryz.prog 193
noncomputable def i197 := j4 Tryz.prog 197
noncomputable def i201 := j4 Tryz.prog 201
theorem a1r : a3T Tryz.prog 201 = true := by kernel_rfl
noncomputable def i205 := j4 Tryz.prog 205
noncomputable def i209 := j4 Tryz.prog 209
theorem a1a : a3T Tryz.prog 209 = true := by kernel_rfl
noncomputable def i213 := j4 Tryz.prog 213
noncomputable def i217 := j4 Tryz.prog 217
noncomputable def i221 := j4 Tryz.prog 221
noncomputable def i226 := j4 Tryz.prog 226
noncomputable def i230 := j4 Tryz.prog 230
noncomputable def i238 := j4 Tryz.prog 238
noncomputable def i242 := j4 Tryz.prog 242
end Go.Proofs.YtjagmebglhbdkaaGreat.MX
