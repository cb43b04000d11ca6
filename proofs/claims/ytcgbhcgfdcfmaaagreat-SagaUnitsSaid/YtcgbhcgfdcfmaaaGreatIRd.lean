import Derived.Test.YtcgbhcgfdcfmaaaGreatK06
import Derived.Test.YtcgbhcgfdcfmaaaGreatProg
import Derived.KernelRfl
namespace Go.Proofs.YtcgbhcgfdcfmaaaGreat.MX
open Go Go.Proofs
set_option maxRecDepth 100000
set_option maxHeartbeats 0
noncomputable def i6 := mkIR Tryz.prog 6
noncomputable def i10 := mkIR Tryz.prog 10
noncomputable def i18 := mkIR Tryz.prog 18
noncomputable def i22 := mkIR Tryz.prog 22
noncomputable def i26 := mkIR Tryz.prog 26
noncomputable def i30 := mkIR Tryz.prog 30
noncomputable def i34 := mkIR Tryz.prog 34
noncomputable def i38 := mkIR Tryz.prog 38
noncomputable def i42 := mkIR Tryz.prog 42
noncomputable def i46 := mkIR Tryz.prog 46
noncomputable def i50 := mkIR Tryz.prog 50
noncomputable def i54 := mkIR Tryz.prog 54
noncomputable def i58 := mkIR Tryz.prog 58
noncomputable def i62 := mkIR Tryz.prog 62
noncomputable def i66 := mkIR Tryz.prog 66
noncomputable def i70 := mkIR Tryz.prog 70
noncomputable def i74 := mkIR Tryz.prog 74
noncomputable def i78 := mkIR Tryz.prog 78
noncomputable def i82 := mkIR Tryz.prog 82
noncomputable def i86 := mkIR Tryz.prog 86
noncomputable def i90 := mkIR Tryz.prog 90
noncomputable def i94 := mkIR Tryz.prog 94
noncomputable def i98 := mkIR Tryz.prog 98
noncomputable def i102 := mkIR Tryz.prog 102
noncomputable def i106 := mkIR Tryz.prog 106
noncomputable def i110 := mkIR Tryz.prog 110
noncomputable def i114 := mkIR Tryz.prog 114
noncomputable def i118 := mkIR Tryz.prog 118
noncomputable def i122 := mkIR Tryz.prog 122
noncomputable def i126 := mkIR Tryz.prog 126
noncomputable def i130 := mkIR Tryz.prog 130
noncomputable def i134 := mkIR Tryz.prog 134
noncomputable def i138 := mkIR Tryz.prog 138
noncomputable def i142 := mkIR Tryz.prog 142
noncomputable def i146 := mkIR Tryz.prog 146
noncomputable def i150 := mkIR Tryz.prog 150
noncomputable def i154 := mkIR Tryz.prog 154
noncomputable def i159 := mkIR Tryz.prog 159
noncomputable def i163 := mkIR Tryz.prog 163
noncomputable def i167 := mkIR Tryz.prog 167
noncomputable def i175 := mkIR Tryz.prog 175
noncomputable def i179 := mkIR Tryz.prog 179
end Go.Proofs.YtcgbhcgfdcfmaaaGreat.MX
