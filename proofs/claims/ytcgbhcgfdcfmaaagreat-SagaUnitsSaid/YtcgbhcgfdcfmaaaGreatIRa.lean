import Derived.Test.YtcgbhcgfdcfmaaaGreatK06
import Derived.Test.YtcgbhcgfdcfmaaaGreatProg
import Derived.KernelRfl
namespace Go.Proofs.YtcgbhcgfdcfmaaaGreat.MX
open Go Go.Proofs
set_option maxRecDepth 100000
set_option maxHeartbeats 0
noncomputable def i3 := mkIR Tryz.prog 3
noncomputable def i7 := mkIR Tryz.prog 7
noncomputable def i11 := mkIR Tryz.prog 11
noncomputable def i15 := mkIR Tryz.prog 15
noncomputable def i19 := mkIR Tryz.prog 19
noncomputable def i23 := mkIR Tryz.prog 23
noncomputable def i27 := mkIR Tryz.prog 27
noncomputable def i31 := mkIR Tryz.prog 31
noncomputable def i35 := mkIR Tryz.prog 35
noncomputable def i43 := mkIR Tryz.prog 43
noncomputable def i47 := mkIR Tryz.prog 47
noncomputable def i51 := mkIR Tryz.prog 51
noncomputable def i55 := mkIR Tryz.prog 55
noncomputable def i59 := mkIR Tryz.prog 59
noncomputable def i67 := mkIR Tryz.prog 67
noncomputable def i71 := mkIR Tryz.prog 71
noncomputable def i75 := mkIR Tryz.prog 75
noncomputable def i79 := mkIR Tryz.prog 79
noncomputable def i83 := mkIR Tryz.prog 83
noncomputable def i87 := mkIR Tryz.prog 87
noncomputable def i91 := mkIR Tryz.prog 91
noncomputable def i95 := mkIR Tryz.prog 95
noncomputable def i99 := mkIR Tryz.prog 99
noncomputable def i103 := mkIR Tryz.prog 103
noncomputable def i107 := mkIR Tryz.prog 107
noncomputable def i111 := mkIR Tryz.prog 111
noncomputable def i115 := mkIR Tryz.prog 115
noncomputable def i119 := mkIR Tryz.prog 119
noncomputable def i123 := mkIR Tryz.prog 123
theorem ok_timer_order : okFn Tryz.prog 123 = true := by kernel_rfl
noncomputable def i127 := mkIR Tryz.prog 127
noncomputable def i131 := mkIR Tryz.prog 131
noncomputable def i135 := mkIR Tryz.prog 135
noncomputable def i139 := mkIR Tryz.prog 139
noncomputable def i143 := mkIR Tryz.prog 143
noncomputable def i147 := mkIR Tryz.prog 147
noncomputable def i151 := mkIR Tryz.prog 151
noncomputable def i155 := mkIR Tryz.prog 155
noncomputable def i160 := mkIR Tryz.prog 160
theorem ok_timer_Timers_at_1 : okFn Tryz.prog 160 = true := by kernel_rfl
noncomputable def i164 := mkIR Tryz.prog 164
noncomputable def i168 := mkIR Tryz.prog 168
noncomputable def i172 := mkIR Tryz.prog 172
end Go.Proofs.YtcgbhcgfdcfmaaaGreat.MX
