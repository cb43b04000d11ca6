import Derived.Test.YtcgbhcgfdcfmaaaGreatK06
import Derived.Test.YtcgbhcgfdcfmaaaGreatProg
import Derived.KernelRfl
namespace Go.Proofs.YtcgbhcgfdcfmaaaGreat.MX
open Go Go.Proofs
set_option maxRecDepth 100000
set_option maxHeartbeats 0
noncomputable def i9 := j5 Tryz.prog 9
noncomputable def i13 := j5 Tryz.prog 13
noncomputable def i21 := j5 Tryz.prog 21
noncomputable def i25 := j5 Tryz.prog 25
noncomputable def i29 := j5 Tryz.prog 29
noncomputable def i33 := j5 Tryz.prog 33
noncomputable def i37 := j5 Tryz.prog 37
noncomputable def i41 := j5 Tryz.prog 41
noncomputable def i45 := j5 Tryz.prog 45
noncomputable def i49 := j5 Tryz.prog 49
noncomputable def i53 := j5 Tryz.prog 53
noncomputable def i57 := j5 Tryz.prog 57
noncomputable def i61 := j5 Tryz.prog 61
noncomputable def i65 := j5 Tryz.prog 65
noncomputable def i69 := j5 Tryz.prog 69
noncomputable def i73 := j5 Tryz.prog 73
noncomputable def i77 := j5 Tryz.prog 77
noncomputable def i81 := j5 Tryz.prog 81
noncomputable def i85 := j5 Tryz.prog 85
noncomputable def i89 := j5 Tryz.prog 89
noncomputable def i93 := j5 Tryz.prog 93
noncomputable def i97 := j5 Tryz.prog 97
noncomputable def i101 := j5 Tryz.prog 101
noncomputable def i105 := j5 Tryz.prog 105
noncomputable def i109 := j5 Tryz.prog 109
noncomputable def i113 := j5 Tryz.prog 113
theorem a3h : a2r Tryz.prog 113 = true := by kernel_rfl
noncomputable def i117 := j5 Tryz.prog 117
noncomputable def i121 := j5 Tryz.prog 121
noncomputable def i125 := j5 Tryz.prog 125
noncomputable def i129 := j5 Tryz.prog 129
theorem Z6 : a2r Tryz.prog 129 = true := by kernel_rfl
noncomputable def i133 := j5 Tryz.prog 133
noncomputable def i137 := j5 Tryz.prog 137
noncomputable def i141 := j5 Tryz.prog 141
noncomputable def i145 := j5 Tryz.prog 145
noncomputable def i149 := j5 Tryz.prog 149
noncomputable def i153 := j5 Tryz.prog 153
noncomputable def i162 := j5 Tryz.prog 162
noncomputable def i166 := j5 Tryz.prog 166
noncomputable def i170 := j5 Tryz.prog 170
noncomputable def i174 := j5 Tryz.prog 174
noncomputable def i178 := j5 Tryz.prog 178
end Go.Proofs.YtcgbhcgfdcfmaaaGreat.MX
