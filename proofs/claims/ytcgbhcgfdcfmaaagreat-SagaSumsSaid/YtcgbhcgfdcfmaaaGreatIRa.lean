import Derived.Test.YtcgbhcgfdcfmaaaGreatK06
import Derived.Test.YtcgbhcgfdcfmaaaGreatProg
import Derived.KernelRfl
namespace Go.Proofs.YtcgbhcgfdcfmaaaGreat.MX
open Go Go.Proofs
set_option maxRecDepth 100000
set_option maxHeartbeats 0
noncomputable def i3 := j5 Tryz.prog 3
noncomputable def i7 := j5 Tryz.prog 7
noncomputable def i11 := j5 Tryz.prog 11
noncomputable def i15 := j5 Tryz.prog 15
noncomputable def i23 := j5 Tryz.prog 23
noncomputable def i27 := j5 Tryz.prog 27
noncomputable def i31 := j5 Tryz.prog 31
noncomputable def i35 := j5 Tryz.prog 35
noncomputable def i39 := j5 Tryz.prog 39
noncomputable def i43 := j5 Tryz.prog 43
noncomputable def i47 := j5 Tryz.prog 47
noncomputable def i51 := j5 Tryz.prog 51
noncomputable def i55 := j5 Tryz.prog 55
noncomputable def i59 := j5 Tryz.prog 59
noncomputable def i63 := j5 Tryz.prog 63
noncomputable def i67 := j5 Tryz.prog 67
noncomputable def i71 := j5 Tryz.prog 71
noncomputable def i75 := j5 Tryz.prog 75
noncomputable def i79 := j5 Tryz.prog 79
noncomputable def i83 := j5 Tryz.prog 83
noncomputable def i87 := j5 Tryz.prog 87
noncomputable def i91 := j5 Tryz.prog 91
noncomputable def i95 := j5 Tryz.prog 95
noncomputable def i99 := j5 Tryz.prog 99
noncomputable def i103 := j5 Tryz.prog 103
noncomputable def i107 := j5 Tryz.prog 107
noncomputable def i111 := j5 Tryz.prog 111
noncomputable def i115 := j5 Tryz.prog 115
noncomputable def i119 := j5 Tryz.prog 119
noncomputable def i123 := j5 Tryz.prog 123
theorem a5h : a2r Tryz.prog 123 = true := by kernel_rfl
noncomputable def i127 := j5 Tryz.prog 127
noncomputable def i131 := j5 Tryz.prog 131
noncomputable def i135 := j5 Tryz.prog 135
noncomputable def i139 := j5 Tryz.prog 139
noncomputable def i143 := j5 Tryz.prog 143
noncomputable def i147 := j5 Tryz.prog 147
noncomputable def i151 := j5 Tryz.prog 151
noncomputable def i155 := j5 Tryz.prog 155
noncomputable def i160 := j5 Tryz.prog 160
theorem a0Z : a2r Tryz.prog 160 = true := by kernel_rfl
noncomputable def i164 := j5 Tryz.prog 164
noncomputable def i168 := j5 Tryz.prog 168
noncomputable def i172 := j5 Tryz.prog 172
end Go.Proofs.YtcgbhcgfdcfmaaaGreat.MX
