import Derived.Test.YtjagmebglhbdkaaGreatK06
import Derived.Test.YtjagmebglhbdkaaGreatProg
import Derived.KernelRfl
namespace Go.Proofs.YtjagmebglhbdkaaGreat.MX
open Go Go.Proofs
set_option maxRecDepth 100000
set_option maxHeartbeats 0
noncomputable def i8 := j4 Tryz.prog 8
noncomputable def i16 := j4 Tryz.prog 16
noncomputable def i28 := j4 Tryz.prog 28
noncomputable def i32 := j4 Tryz.prog 32
noncomputable def i36 := j4 Tryz.prog 36
noncomputable def i40 := j4 Tryz.prog 40
noncomputable def i44 := j4 Tryz.prog 44
noncomputable def i48 := j4 Tryz.prog 48
noncomputable def i56 := j4 Tryz.prog 56
noncomputable def i60 := j4 Tryz.prog 60
noncomputable def i64 := j4 Tryz.prog 64
noncomputable def i68 := j4 Tryz.prog 68
noncomputable def i72 := j4 Tryz.prog 72
noncomputable def i76 := j4 Tryz.prog 76
noncomputable def i80 := j4 Tryz.prog 80
noncomputable def i84 := j4 Tryz.prog 84
noncomputable def i88 := j4 Tryz.prog 88
noncomputable def i92 := j4 Tryz.prog 92
noncomputable def i96 := j4 Tryz.prog 96
noncomputable def i100 := j4 Tryz.prog 100
noncomputable def i104 := j4 Tryz.prog 104
noncomputable def i108 := j4 Tryz.prog 108
noncomputable def i112 := j4 Tryz.prog 112
noncomputable def i116 := j4 Tryz.prog 116
noncomputable def i120 := j4 Tryz.prog 120
noncomputable def i124 := j4 Tryz.prog 124
noncomputable def i128 := j4 Tryz.prog 128
noncomputable def i132 := j4 Tryz.prog 132
noncomputable def i136 := j4 Tryz.prog 136
noncomputable def i140 := j4 Tryz.prog 140
noncomputable def i144 := j4 Tryz.prog 144
noncomputable def i148 := j4 Tryz.prog 148
noncomputable def i152 := j4 Tryz.prog 152
noncomputable def i156 := j4 Tryz.prog 156
noncomputable def i160 := j4 Tryz.prog 160
noncomputable def i164 := j4 Tryz.prog 164
noncomputable def i168 := j4 Tryz.prog 168
noncomputable def i172 := j4 Tryz.prog 172
noncomputable def i176 := j4 Tryz.prog 176
noncomputable def i180 := j4 Tryz.prog 180
noncomputable def i184 := j4 Tryz.prog 184
noncomputable def i188 := j4 Tryz.prog 188
noncomputable def i192 := j4 Tryz.prog 192
noncomputable def i196 := j4 Tryz.prog 196
noncomputable def i200 := j4 Tryz.prog 200
noncomputable def i204 := j4 Tryz.prog 204
noncomputable def i208 := j4 Tryz.prog 208
noncomputable def i212 := j4 Tryz.prog 212
noncomputable def i216 := j4 Tryz.prog 216
noncomputable def i220 := j4 Tryz.prog 220
noncomputable def i229 := j4 Tryz.prog 229
noncomputable def i233 := j4 Tryz.prog 233
noncomputable def i237 := j4 Tryz.prog 237
noncomputable def i241 := j4 Tryz.prog 241
end Go.Proofs.YtjagmebglhbdkaaGreat.MX
