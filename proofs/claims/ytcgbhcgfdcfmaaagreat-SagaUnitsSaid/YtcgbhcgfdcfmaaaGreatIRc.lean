import Derived.Test.YtcgbhcgfdcfmaaaGreatK06
import Derived.Test.YtcgbhcgfdcfmaaaGreatProg
import Derived.KernelRfl
namespace Go.Proofs.YtcgbhcgfdcfmaaaGreat.MX
open Go Go.Proofs
set_option maxRecDepth 100000
set_option maxHeartbeats 0
noncomputable def i5 := mkIR Tryz.prog 5
noncomputable def i9 := mkIR Tryz.prog 9
noncomputable def i13 := mkIR Tryz.prog 13
noncomputable def i17 := mkIR Tryz.prog 17
noncomputable def i21 := mkIR Tryz.prog 21
noncomputable def i25 := mkIR Tryz.prog 25
noncomputable def i29 := mkIR Tryz.prog 29
noncomputable def i33 := mkIR Tryz.prog 33
noncomputable def i37 := mkIR Tryz.prog 37
noncomputable def i41 := mkIR Tryz.prog 41
noncomputable def i45 := mkIR Tryz.prog 45
noncomputable def i49 := mkIR Tryz.prog 49
noncomputable def i53 := mkIR Tryz.prog 53
noncomputable def i57 := mkIR Tryz.prog 57
noncomputable def i61 := mkIR Tryz.prog 61
noncomputable def i65 := mkIR Tryz.prog 65
noncomputable def i69 := mkIR Tryz.prog 69
noncomputable def i73 := mkIR Tryz.prog 73
noncomputable def i77 := mkIR Tryz.prog 77
noncomputable def i81 := mkIR Tryz.prog 81
noncomputable def i85 := mkIR Tryz.prog 85
noncomputable def i89 := mkIR Tryz.prog 89
noncomputable def i93 := mkIR Tryz.prog 93
noncomputable def i97 := mkIR Tryz.prog 97
noncomputable def i101 := mkIR Tryz.prog 101
noncomputable def i105 := mkIR Tryz.prog 105
noncomputable def i109 := mkIR Tryz.prog 109
noncomputable def i113 := mkIR Tryz.prog 113
theorem ok_split_Shares_1 : okFn Tryz.prog 113 = true := by kernel_rfl
noncomputable def i117 := mkIR Tryz.prog 117
noncomputable def i121 := mkIR Tryz.prog 121
noncomputable def i125 := mkIR Tryz.prog 125
noncomputable def i129 := mkIR Tryz.prog 129
theorem ok_outbox_Outbox_Drop_1 : okFn Tryz.prog 129 = true := by kernel_rfl
noncomputable def i133 := mkIR Tryz.prog 133
noncomputable def i137 := mkIR Tryz.prog 137
noncomputable def i141 := mkIR Tryz.prog 141
noncomputable def i145 := mkIR Tryz.prog 145
noncomputable def i149 := mkIR Tryz.prog 149
noncomputable def i153 := mkIR Tryz.prog 153
noncomputable def i162 := mkIR Tryz.prog 162
noncomputable def i166 := mkIR Tryz.prog 166
noncomputable def i170 := mkIR Tryz.prog 170
noncomputable def i174 := mkIR Tryz.prog 174
noncomputable def i178 := mkIR Tryz.prog 178
end Go.Proofs.YtcgbhcgfdcfmaaaGreat.MX
