import Derived.Test.YtcgbhcgfdcfmaaaGreatK06
import Derived.Test.YtcgbhcgfdcfmaaaGreatProg
import Derived.KernelRfl
namespace Go.Proofs.YtcgbhcgfdcfmaaaGreat.MX
open Go Go.Proofs
set_option maxRecDepth 100000
set_option maxHeartbeats 0
noncomputable def i8 := mkIR Tryz.prog 8
noncomputable def i12 := mkIR Tryz.prog 12
noncomputable def i20 := mkIR Tryz.prog 20
noncomputable def i24 := mkIR Tryz.prog 24
noncomputable def i28 := mkIR Tryz.prog 28
noncomputable def i32 := mkIR Tryz.prog 32
noncomputable def i36 := mkIR Tryz.prog 36
noncomputable def i40 := mkIR Tryz.prog 40
noncomputable def i44 := mkIR Tryz.prog 44
noncomputable def i48 := mkIR Tryz.prog 48
noncomputable def i52 := mkIR Tryz.prog 52
noncomputable def i56 := mkIR Tryz.prog 56
noncomputable def i60 := mkIR Tryz.prog 60
noncomputable def i64 := mkIR Tryz.prog 64
noncomputable def i68 := mkIR Tryz.prog 68
theorem ok_order_Right_1 : okFn Tryz.prog 68 = true := by kernel_rfl
noncomputable def i72 := mkIR Tryz.prog 72
noncomputable def i76 := mkIR Tryz.prog 76
noncomputable def i80 := mkIR Tryz.prog 80
noncomputable def i84 := mkIR Tryz.prog 84
noncomputable def i88 := mkIR Tryz.prog 88
noncomputable def i92 := mkIR Tryz.prog 92
noncomputable def i96 := mkIR Tryz.prog 96
noncomputable def i100 := mkIR Tryz.prog 100
noncomputable def i104 := mkIR Tryz.prog 104
theorem ok_table_Right_1 : okFn Tryz.prog 104 = true := by kernel_rfl
noncomputable def i108 := mkIR Tryz.prog 108
noncomputable def i112 := mkIR Tryz.prog 112
noncomputable def i116 := mkIR Tryz.prog 116
noncomputable def i120 := mkIR Tryz.prog 120
noncomputable def i124 := mkIR Tryz.prog 124
noncomputable def i128 := mkIR Tryz.prog 128
noncomputable def i132 := mkIR Tryz.prog 132
noncomputable def i136 := mkIR Tryz.prog 136
noncomputable def i140 := mkIR Tryz.prog 140
noncomputable def i144 := mkIR Tryz.prog 144
theorem ok_outbox_Outbox_Heard_1 : okFn Tryz.prog 144 = true := by kernel_rfl
noncomputable def i148 := mkIR Tryz.prog 148
noncomputable def i152 := mkIR Tryz.prog 152
noncomputable def i156 := mkIR Tryz.prog 156
noncomputable def i161 := mkIR Tryz.prog 161
noncomputable def i165 := mkIR Tryz.prog 165
noncomputable def i169 := mkIR Tryz.prog 169
noncomputable def i173 := mkIR Tryz.prog 173
noncomputable def i177 := mkIR Tryz.prog 177
end Go.Proofs.YtcgbhcgfdcfmaaaGreat.MX
