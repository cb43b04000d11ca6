import Derived.Test.YtcgbhcgfdcfmaaaGreatK06
import Derived.Test.YtcgbhcgfdcfmaaaGreatProg
import Derived.KernelRfl
namespace Go.Proofs.YtcgbhcgfdcfmaaaGreat.MX
open Go Go.Proofs
set_option maxRecDepth 100000
set_option maxHeartbeats 0
noncomputable def i6 := j5 Tryz.prog 6
noncomputable def i10 := j5 Tryz.prog 10
noncomputable def i14 := j5 Tryz.prog 14
noncomputable def i22 := j5 Tryz.prog 22
noncomputable def i26 := j5 Tryz.prog 26
noncomputable def i30 := j5 Tryz.prog 30
noncomputable def i34 := j5 Tryz.prog 34
noncomputable def i38 := j5 Tryz.prog 38
noncomputable def i42 := j5 Tryz.prog 42
noncomputable def i46 := j5 Tryz.prog 46
noncomputable def i50 := j5 Tryz.prog 50
noncomputable def i54 := j5 Tryz.prog 54
noncomputable def i58 := j5 Tryz.prog 58
noncomputable def i62 := j5 Tryz.prog 62
noncomputable def i66 := j5 Tryz.prog 66
noncomputable def i70 := j5 Tryz.prog 70
noncomputable def i74 := j5 Tryz.prog 74
noncomputable def i78 := j5 Tryz.prog 78
noncomputable def i82 := j5 Tryz.prog 82
noncomputable def i86 := j5 Tryz.prog 86
noncomputable def i90 := j5 Tryz.prog 90
noncomputable def i94 := j5 Tryz.prog 94
noncomputable def i98 := j5 Tryz.prog 98
noncomputable def i102 := j5 Tryz.prog 102
noncomputable def i106 := j5 Tryz.prog 106
noncomputable def i110 := j5 Tryz.prog 110
noncomputable def i114 := j5 Tryz.prog 114
noncomputable def i118 := j5 Tryz.prog 118
noncomputable def i122 := j5 Tryz.prog 122
noncomputable def i126 := j5 Tryz.prog 126
noncomputable def i130 := j5 Tryz.prog 130
noncomputable def i134 := j5 Tryz.prog 134
noncomputable def i138 := j5 Tryz.prog 138
noncomputable def i142 := j5 Tryz.prog 142
noncomputable def i146 := j5 Tryz.prog 146
noncomputable def i150 := j5 Tryz.prog 150
noncomputable def i154 := j5 Tryz.prog 154
noncomputable def i159 := j5 Tryz.prog 159
noncomputable def i163 := j5 Tryz.prog 163
noncomputable def i167 := j5 Tryz.prog 167
noncomputable def i175 := j5 Tryz.prog 175
noncomputable def i179 := j5 Tryz.prog 179
end Go.Proofs.YtcgbhcgfdcfmaaaGreat.MX
