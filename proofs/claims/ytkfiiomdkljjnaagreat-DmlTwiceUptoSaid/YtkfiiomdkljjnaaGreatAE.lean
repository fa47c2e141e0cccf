/- What stands for nothing, by type. -/
import Derived.Test.YtkfiiomdkljjnaaGreatAD
set_option linter.unusedSimpArgs false
set_option linter.unusedVariables false
namespace Go.Proofs.YtkfiiomdkljjnaaGreat
open Go.VL Go.RowKit
@[simp] theorem ft_dfl_0 : dflC Tryz.prog 0 = .v (.int .i64 0) := by kernel_rfl
@[simp] theorem ft_dfl_1 : dflC Tryz.prog 1 = .v (.int .i64 0) := by kernel_rfl
@[simp] theorem ft_dfl_2 : dflC Tryz.prog 2 = .v (.int .i64 0) := by kernel_rfl
@[simp] theorem ft_dfl_3 : dflC Tryz.prog 3 = .v (.int .i64 0) := by kernel_rfl
@[simp] theorem ft_dfl_4 : dflC Tryz.prog 4 = .v (.int .i64 0) := by kernel_rfl
@[simp] theorem ft_dfl_5 : dflC Tryz.prog 5 = .v (.int .i64 0) := by kernel_rfl
@[simp] theorem ft_dfl_6 : dflC Tryz.prog 6 = .v (.int .i64 0) := by kernel_rfl
@[simp] theorem ft_dfl_7 : dflC Tryz.prog 7 = .v (.int .i64 0) := by kernel_rfl
@[simp] theorem ft_dfl_8 : dflC Tryz.prog 8 = .v (.int .i64 0) := by kernel_rfl
@[simp] theorem ft_dfl_9 : dflC Tryz.prog 9 = .v (.int .i64 0) := by kernel_rfl
@[simp] theorem ft_dfl_10 : dflC Tryz.prog 10 = .v (.int .i64 0) := by kernel_rfl
@[simp] theorem ft_dfl_11 : dflC Tryz.prog 11 = .v (.int .i64 0) := by kernel_rfl
@[simp] theorem ft_dfl_12 : dflC Tryz.prog 12 = .v (.int .i64 0) := by kernel_rfl
@[simp] theorem ft_dfl_13 : dflC Tryz.prog 13 = .v (.int .i64 0) := by kernel_rfl
@[simp] theorem ft_dfl_14 : dflC Tryz.prog 14 = .v (.int .i64 0) := by kernel_rfl
@[simp] theorem ft_dfl_15 : dflC Tryz.prog 15 = .v (.int .i64 0) := by kernel_rfl
@[simp] theorem ft_dfl_16 : dflC Tryz.prog 16 = .v (.int .i64 0) := by kernel_rfl
@[simp] theorem ft_dfl_17 : dflC Tryz.prog 17 = .v (.int .i64 0) := by kernel_rfl
@[simp] theorem ft_dfl_18 : dflC Tryz.prog 18 = .v (.int .i64 0) := by kernel_rfl
@[simp] theorem ft_dfl_19 : dflC Tryz.prog 19 = .v (.int .i64 0) := by kernel_rfl
@[simp] theorem ft_dfl_20 : dflC Tryz.prog 20 = .v (.int .i64 0) := by kernel_rfl
@[simp] theorem ft_dfl_21 : dflC Tryz.prog 21 = .v (.int .i64 0) := by kernel_rfl
@[simp] theorem ft_dfl_22 : dflC Tryz.prog 22 = .sl true [] := by kernel_rfl
@[simp] theorem ft_dfl_23 : dflC Tryz.prog 23 = .v (.int .i64 0) := by kernel_rfl
@[simp] theorem ft_dfl_24 : dflC Tryz.prog 24 = .v (.int .i64 0) := by kernel_rfl
@[simp] theorem ft_dfl_25 : dflC Tryz.prog 25 = .sl true [] := by kernel_rfl
@[simp] theorem ft_dfl_26 : dflC Tryz.prog 26 = .sl true [] := by kernel_rfl
@[simp] theorem ft_dfl_27 : dflC Tryz.prog 27 = .v (.int .i64 0) := by kernel_rfl
@[simp] theorem ft_dfl_28 : dflC Tryz.prog 28 = .v (.int .i64 0) := by kernel_rfl
@[simp] theorem ft_dfl_29 : dflC Tryz.prog 29 = .v (.int .i64 0) := by kernel_rfl
@[simp] theorem ft_dfl_30 : dflC Tryz.prog 30 = .v (.int .i64 0) := by kernel_rfl
@[simp] theorem ft_dfl_31 : dflC Tryz.prog 31 = .sl true [] := by kernel_rfl
@[simp] theorem ft_dfl_32 : dflC Tryz.prog 32 = .sl true [] := by kernel_rfl
@[simp] theorem ft_dfl_33 : dflC Tryz.prog 33 = .sl true [] := by kernel_rfl
@[simp] theorem ft_dfl_34 : dflC Tryz.prog 34 = .v (.int .i64 0) := by kernel_rfl
@[simp] theorem ft_dfl_35 : dflC Tryz.prog 35 = .v (.int .i64 0) := by kernel_rfl
@[simp] theorem ft_dfl_36 : dflC Tryz.prog 36 = .v (.int .i64 0) := by kernel_rfl
@[simp] theorem ft_dfl_37 : dflC Tryz.prog 37 = .v (.int .i64 0) := by kernel_rfl
@[simp] theorem ft_dfl_38 : dflC Tryz.prog 38 = .v (.int .i64 0) := by kernel_rfl
@[simp] theorem ft_dfl_39 : dflC Tryz.prog 39 = .v (.int .i64 0) := by kernel_rfl
@[simp] theorem ft_dfl_40 : dflC Tryz.prog 40 = .v (.int .i64 0) := by kernel_rfl
@[simp] theorem ft_dfl_41 : dflC Tryz.prog 41 = .v (.int .i64 0) := by kernel_rfl
@[simp] theorem ft_dfl_42 : dflC Tryz.prog 42 = .v (.int .i64 0) := by kernel_rfl
@[simp] theorem ft_dfl_43 : dflC Tryz.prog 43 = .v (.int .i64 0) := by kernel_rfl
@[simp] theorem ft_dfl_44 : dflC Tryz.prog 44 = .v (.int .i64 0) := by kernel_rfl
@[simp] theorem ft_dfl_45 : dflC Tryz.prog 45 = .sl true [] := by kernel_rfl
@[simp] theorem ft_dfl_46 : dflC Tryz.prog 46 = .v (.int .i64 0) := by kernel_rfl
@[simp] theorem ft_dfl_47 : dflC Tryz.prog 47 = .v (.int .i64 0) := by kernel_rfl
@[simp] theorem ft_dfl_48 : dflC Tryz.prog 48 = .v (.int .i64 0) := by kernel_rfl
@[simp] theorem ft_dfl_49 : dflC Tryz.prog 49 = .v (.int .i64 0) := by kernel_rfl
@[simp] theorem ft_dfl_50 : dflC Tryz.prog 50 = .v (.int .i64 0) := by kernel_rfl
@[simp] theorem ft_dfl_51 : dflC Tryz.prog 51 = .v (.int .i64 0) := by kernel_rfl
@[simp] theorem ft_dfl_52 : dflC Tryz.prog 52 = .v (.int .i64 0) := by kernel_rfl
@[simp] theorem ft_dfl_53 : dflC Tryz.prog 53 = .v (.int .i64 0) := by kernel_rfl
@[simp] theorem ft_dfl_54 : dflC Tryz.prog 54 = .sl true [] := by kernel_rfl
@[simp] theorem ft_dfl_55 : dflC Tryz.prog 55 = .sl true [] := by kernel_rfl
@[simp] theorem ft_dfl_56 : dflC Tryz.prog 56 = .v (.int .i64 0) := by kernel_rfl
@[simp] theorem ft_dfl_57 : dflC Tryz.prog 57 = .v (.int .i64 0) := by kernel_rfl
@[simp] theorem ft_dfl_58 : dflC Tryz.prog 58 = .v (.int .i64 0) := by kernel_rfl
@[simp] theorem ft_dfl_59 : dflC Tryz.prog 59 = .sl true [] := by kernel_rfl
@[simp] theorem ft_dfl_60 : dflC Tryz.prog 60 = .v (.int .i64 0) := by kernel_rfl
@[simp] theorem ft_dfl_61 : dflC Tryz.prog 61 = .v (.int .i64 0) := by kernel_rfl
@[simp] theorem ft_dfl_62 : dflC Tryz.prog 62 = .v (.int .i64 0) := by kernel_rfl
@[simp] theorem ft_dfl_63 : dflC Tryz.prog 63 = .v (.int .i64 0) := by kernel_rfl
@[simp] theorem ft_dfl_64 : dflC Tryz.prog 64 = .v (.int .i64 0) := by kernel_rfl
@[simp] theorem ft_dfl_65 : dflC Tryz.prog 65 = .v (.int .i64 0) := by kernel_rfl
@[simp] theorem ft_dfl_66 : dflC Tryz.prog 66 = .v (.int .i64 0) := by kernel_rfl
@[simp] theorem ft_dfl_67 : dflC Tryz.prog 67 = .v (.int .i64 0) := by kernel_rfl
@[simp] theorem ft_dfl_68 : dflC Tryz.prog 68 = .v (.int .i64 0) := by kernel_rfl
@[simp] theorem ft_dfl_69 : dflC Tryz.prog 69 = .v (.int .i64 0) := by kernel_rfl
@[simp] theorem ft_dfl_70 : dflC Tryz.prog 70 = .v (.int .i64 0) := by kernel_rfl
@[simp] theorem ft_dfl_71 : dflC Tryz.prog 71 = .v (.int .i64 0) := by kernel_rfl
@[simp] theorem ft_dfl_72 : dflC Tryz.prog 72 = .v (.int .i64 0) := by kernel_rfl
@[simp] theorem ft_dfl_73 : dflC Tryz.prog 73 = .sl true [] := by kernel_rfl
@[simp] theorem ft_dfl_74 : dflC Tryz.prog 74 = .v (.int .i64 0) := by kernel_rfl
@[simp] theorem ft_dfl_75 : dflC Tryz.prog 75 = .sl true [] := by kernel_rfl
@[simp] theorem ft_dfl_76 : dflC Tryz.prog 76 = .v (.int .i64 0) := by kernel_rfl
@[simp] theorem ft_dfl_77 : dflC Tryz.prog 77 = .v (.int .i64 0) := by kernel_rfl
@[simp] theorem ft_dfl_78 : dflC Tryz.prog 78 = .v (.int .i64 0) := by kernel_rfl
@[simp] theorem ft_dfl_79 : dflC Tryz.prog 79 = .v (.int .i64 0) := by kernel_rfl
@[simp] theorem ft_dfl_80 : dflC Tryz.prog 80 = .sl true [] := by kernel_rfl
@[simp] theorem ft_dfl_81 : dflC Tryz.prog 81 = .v (.int .i64 0) := by kernel_rfl
@[simp] theorem ft_dfl_82 : dflC Tryz.prog 82 = .v (.int .i64 0) := by kernel_rfl
@[simp] theorem ft_dfl_83 : dflC Tryz.prog 83 = .sl true [] := by kernel_rfl
@[simp] theorem ft_dfl_84 : dflC Tryz.prog 84 = .v (.int .i64 0) := by kernel_rfl
@[simp] theorem ft_dfl_85 : dflC Tryz.prog 85 = .sl true [] := by kernel_rfl
@[simp] theorem ft_dfl_86 : dflC Tryz.prog 86 = .v (.int .i64 0) := by kernel_rfl
@[simp] theorem ft_dfl_87 : dflC Tryz.prog 87 = .v (.int .i64 0) := by kernel_rfl
@[simp] theorem ft_dfl_88 : dflC Tryz.prog 88 = .v (.int .i64 0) := by kernel_rfl
@[simp] theorem ft_dfl_89 : dflC Tryz.prog 89 = .v (.int .i64 0) := by kernel_rfl
@[simp] theorem ft_dfl_90 : dflC Tryz.prog 90 = .v (.int .i64 0) := by kernel_rfl
@[simp] theorem ft_dfl_91 : dflC Tryz.prog 91 = .v (.int .i64 0) := by kernel_rfl
@[simp] theorem ft_dfl_92 : dflC Tryz.prog 92 = .v (.int .i64 0) := by kernel_rfl
@[simp] theorem ft_dfl_93 : dflC Tryz.prog 93 = .v (.int .i64 0) := by kernel_rfl
@[simp] theorem ft_dfl_94 : dflC Tryz.prog 94 = .v (.int .i64 0) := by kernel_rfl
@[simp] theorem ft_dfl_95 : dflC Tryz.prog 95 = .v (.int .i64 0) := by kernel_rfl
@[simp] theorem ft_dfl_96 : dflC Tryz.prog 96 = .v (.int .i64 0) := by kernel_rfl
@[simp] theorem ft_dfl_97 : dflC Tryz.prog 97 = .sl true [] := by kernel_rfl
@[simp] theorem ft_dfl_98 : dflC Tryz.prog 98 = .v (.int .i64 0) := by kernel_rfl
@[simp] theorem ft_dfl_99 : dflC Tryz.prog 99 = .v (.int .i64 0) := by kernel_rfl
@[simp] theorem ft_dfl_100 : dflC Tryz.prog 100 = .v (.int .i64 0) := by kernel_rfl
@[simp] theorem ft_dfl_101 : dflC Tryz.prog 101 = .v (.int .i64 0) := by kernel_rfl
@[simp] theorem ft_dfl_102 : dflC Tryz.prog 102 = .v (.int .i64 0) := by kernel_rfl
@[simp] theorem ft_dfl_103 : dflC Tryz.prog 103 = .v (.int .i64 0) := by kernel_rfl
@[simp] theorem ft_dfl_104 : dflC Tryz.prog 104 = .v (.int .i64 0) := by kernel_rfl
@[simp] theorem ft_dfl_105 : dflC Tryz.prog 105 = .v (.int .i64 0) := by kernel_rfl
@[simp] theorem ft_dfl_106 : dflC Tryz.prog 106 = .v (.int .i64 0) := by kernel_rfl
@[simp] theorem ft_dfl_107 : dflC Tryz.prog 107 = .v (.int .i64 0) := by kernel_rfl
@[simp] theorem ft_dfl_108 : dflC Tryz.prog 108 = .v (.int .i64 0) := by kernel_rfl
@[simp] theorem ft_dfl_109 : dflC Tryz.prog 109 = .v (.int .i64 0) := by kernel_rfl
@[simp] theorem ft_dfl_110 : dflC Tryz.prog 110 = .v (.int .i64 0) := by kernel_rfl
@[simp] theorem ft_dfl_111 : dflC Tryz.prog 111 = .sl true [] := by kernel_rfl
@[simp] theorem ft_dfl_112 : dflC Tryz.prog 112 = .v (.int .i64 0) := by kernel_rfl
@[simp] theorem ft_dfl_113 : dflC Tryz.prog 113 = .v (.int .i64 0) := by kernel_rfl
@[simp] theorem ft_dfl_114 : dflC Tryz.prog 114 = .v (.int .i64 0) := by kernel_rfl
@[simp] theorem ft_dfl_115 : dflC Tryz.prog 115 = .v (.int .i64 0) := by kernel_rfl
@[simp] theorem ft_dfl_116 : dflC Tryz.prog 116 = .v (.int .i64 0) := by kernel_rfl
@[simp] theorem ft_dfl_117 : dflC Tryz.prog 117 = .v (.int .i64 0) := by kernel_rfl
@[simp] theorem ft_dfl_118 : dflC Tryz.prog 118 = .v (.int .i64 0) := by kernel_rfl
@[simp] theorem ft_dfl_119 : dflC Tryz.prog 119 = .v (.int .i64 0) := by kernel_rfl
@[simp] theorem ft_dfl_120 : dflC Tryz.prog 120 = .sl true [] := by kernel_rfl
@[simp] theorem ft_dfl_121 : dflC Tryz.prog 121 = .v (.int .i64 0) := by kernel_rfl
@[simp] theorem ft_dfl_122 : dflC Tryz.prog 122 = .v (.int .i64 0) := by kernel_rfl
@[simp] theorem ft_dfl_123 : dflC Tryz.prog 123 = .v (.int .i64 0) := by kernel_rfl
@[simp] theorem ft_dfl_124 : dflC Tryz.prog 124 = .v (.int .i64 0) := by kernel_rfl
@[simp] theorem ft_dfl_125 : dflC Tryz.prog 125 = .v (.int .i64 0) := by kernel_rfl
@[simp] theorem ft_dfl_126 : dflC Tryz.prog 126 = .v (.int .i64 0) := by kernel_rfl
@[simp] theorem ft_dfl_127 : dflC Tryz.prog 127 = .v (.int .i64 0) := by kernel_rfl
@[simp] theorem ft_dfl_128 : dflC Tryz.prog 128 = .v (.int .i64 0) := by kernel_rfl
@[simp] theorem ft_dfl_129 : dflC Tryz.prog 129 = .v (.int .i64 0) := by kernel_rfl
@[simp] theorem ft_dfl_130 : dflC Tryz.prog 130 = .v (.int .i64 0) := by kernel_rfl
@[simp] theorem ft_dfl_131 : dflC Tryz.prog 131 = .v (.int .i64 0) := by kernel_rfl
@[simp] theorem ft_dfl_132 : dflC Tryz.prog 132 = .v (.int .i64 0) := by kernel_rfl
@[simp] theorem ft_dfl_133 : dflC Tryz.prog 133 = .v (.int .i64 0) := by kernel_rfl
@[simp] theorem ft_dfl_134 : dflC Tryz.prog 134 = .v (.int .i64 0) := by kernel_rfl
@[simp] theorem ft_dfl_135 : dflC Tryz.prog 135 = .v (.int .i64 0) := by kernel_rfl
@[simp] theorem ft_dfl_136 : dflC Tryz.prog 136 = .v (.int .i64 0) := by kernel_rfl
@[simp] theorem ft_dfl_137 : dflC Tryz.prog 137 = .v (.int .i64 0) := by kernel_rfl
@[simp] theorem ft_dfl_138 : dflC Tryz.prog 138 = .v (.int .i64 0) := by kernel_rfl
@[simp] theorem ft_dfl_139 : dflC Tryz.prog 139 = .v (.int .i64 0) := by kernel_rfl
@[simp] theorem ft_dfl_140 : dflC Tryz.prog 140 = .v (.int .i64 0) := by kernel_rfl
@[simp] theorem ft_dfl_141 : dflC Tryz.prog 141 = .v (.int .i64 0) := by kernel_rfl
@[simp] theorem ft_dfl_142 : dflC Tryz.prog 142 = .v (.int .i64 0) := by kernel_rfl
@[simp] theorem ft_dfl_143 : dflC Tryz.prog 143 = .v (.int .i64 0) := by kernel_rfl
@[simp] theorem ft_dfl_144 : dflC Tryz.prog 144 = .v (.int .i64 0) := by kernel_rfl
@[simp] theorem ft_dfl_145 : dflC Tryz.prog 145 = .v (.int .i64 0) := by kernel_rfl
@[simp] theorem ft_dfl_146 : dflC Tryz.prog 146 = .v (.int .i64 0) := by kernel_rfl
@[simp] theorem ft_dfl_147 : dflC Tryz.prog 147 = .v (.int .i64 0) := by kernel_rfl
@[simp] theorem ft_dfl_148 : dflC Tryz.prog 148 = .v (.int .i64 0) := by kernel_rfl
@[simp] theorem ft_dfl_149 : dflC Tryz.prog 149 = .v (.int .i64 0) := by kernel_rfl
@[simp] theorem ft_dfl_150 : dflC Tryz.prog 150 = .v (.int .i64 0) := by kernel_rfl
@[simp] theorem ft_dfl_151 : dflC Tryz.prog 151 = .v (.int .i64 0) := by kernel_rfl
@[simp] theorem ft_dfl_152 : dflC Tryz.prog 152 = .v (.int .i64 0) := by kernel_rfl
@[simp] theorem ft_dfl_153 : dflC Tryz.prog 153 = .v (.int .i64 0) := by kernel_rfl
@[simp] theorem ft_dfl_154 : dflC Tryz.prog 154 = .v (.int .i64 0) := by kernel_rfl
@[simp] theorem ft_dfl_155 : dflC Tryz.prog 155 = .v (.int .i64 0) := by kernel_rfl
@[simp] theorem ft_dfl_156 : dflC Tryz.prog 156 = .v (.int .i64 0) := by kernel_rfl
@[simp] theorem ft_dfl_157 : dflC Tryz.prog 157 = .v (.int .i64 0) := by kernel_rfl
@[simp] theorem ft_dfl_158 : dflC Tryz.prog 158 = .v (.int .i64 0) := by kernel_rfl
@[simp] theorem ft_dfl_159 : dflC Tryz.prog 159 = .v (.int .i64 0) := by kernel_rfl
@[simp] theorem ft_dfl_160 : dflC Tryz.prog 160 = .v (.int .i64 0) := by kernel_rfl
@[simp] theorem ft_dfl_161 : dflC Tryz.prog 161 = .v (.int .i64 0) := by kernel_rfl
@[simp] theorem ft_dfl_162 : dflC Tryz.prog 162 = .v (.int .i64 0) := by kernel_rfl
@[simp] theorem ft_dfl_163 : dflC Tryz.prog 163 = .v (.int .i64 0) := by kernel_rfl
@[simp] theorem ft_dfl_164 : dflC Tryz.prog 164 = .v (.int .i64 0) := by kernel_rfl
@[simp] theorem ft_dfl_165 : dflC Tryz.prog 165 = .v (.int .i64 0) := by kernel_rfl
@[simp] theorem ft_dfl_166 : dflC Tryz.prog 166 = .v (.int .i64 0) := by kernel_rfl
@[simp] theorem ft_dfl_167 : dflC Tryz.prog 167 = .v (.int .i64 0) := by kernel_rfl
@[simp] theorem ft_dfl_168 : dflC Tryz.prog 168 = .v (.int .i64 0) := by kernel_rfl
@[simp] theorem ft_dfl_169 : dflC Tryz.prog 169 = .v (.int .i64 0) := by kernel_rfl
@[simp] theorem ft_dfl_170 : dflC Tryz.prog 170 = .v (.int .i64 0) := by kernel_rfl
@[simp] theorem ft_dfl_171 : dflC Tryz.prog 171 = .v (.int .i64 0) := by kernel_rfl
@[simp] theorem ft_dfl_172 : dflC Tryz.prog 172 = .v (.int .i64 0) := by kernel_rfl
@[simp] theorem ft_dfl_173 : dflC Tryz.prog 173 = .v (.int .i64 0) := by kernel_rfl
@[simp] theorem ft_dfl_174 : dflC Tryz.prog 174 = .v (.int .i64 0) := by kernel_rfl
@[simp] theorem ft_dfl_175 : dflC Tryz.prog 175 = .v (.int .i64 0) := by kernel_rfl
@[simp] theorem ft_dfl_176 : dflC Tryz.prog 176 = .v (.int .i64 0) := by kernel_rfl
@[simp] theorem ft_dfl_177 : dflC Tryz.prog 177 = .v (.int .i64 0) := by kernel_rfl
@[simp] theorem ft_dfl_178 : dflC Tryz.prog 178 = .v (.int .i64 0) := by kernel_rfl
@[simp] theorem ft_dfl_179 : dflC Tryz.prog 179 = .v (.int .i64 0) := by kernel_rfl
@[simp] theorem ft_dfl_180 : dflC Tryz.prog 180 = .v (.int .i64 0) := by kernel_rfl
@[simp] theorem ft_dfl_181 : dflC Tryz.prog 181 = .v (.int .i64 0) := by kernel_rfl
@[simp] theorem ft_dfl_182 : dflC Tryz.prog 182 = .v (.int .i64 0) := by kernel_rfl
@[simp] theorem ft_dfl_183 : dflC Tryz.prog 183 = .v (.int .i64 0) := by kernel_rfl
@[simp] theorem ft_dfl_184 : dflC Tryz.prog 184 = .v (.int .i64 0) := by kernel_rfl
@[simp] theorem ft_dfl_185 : dflC Tryz.prog 185 = .v (.int .i64 0) := by kernel_rfl
@[simp] theorem ft_dfl_186 : dflC Tryz.prog 186 = .v (.int .i64 0) := by kernel_rfl
@[simp] theorem ft_dfl_187 : dflC Tryz.prog 187 = .v (.int .i64 0) := by kernel_rfl
@[simp] theorem ft_dfl_188 : dflC Tryz.prog 188 = .v (.int .i64 0) := by kernel_rfl
@[simp] theorem ft_dfl_189 : dflC Tryz.prog 189 = .v (.int .i64 0) := by kernel_rfl
@[simp] theorem ft_dfl_190 : dflC Tryz.prog 190 = .v (.int .i64 0) := by kernel_rfl
@[simp] theorem ft_dfl_191 : dflC Tryz.prog 191 = .v (.int .i64 0) := by kernel_rfl
@[simp] theorem ft_dfl_192 : dflC Tryz.prog 192 = .v (.int .i64 0) := by kernel_rfl
@[simp] theorem ft_dfl_193 : dflC Tryz.prog 193 = .v (.int .i64 0) := by kernel_rfl
@[simp] theorem ft_dfl_194 : dflC Tryz.prog 194 = .v (.int .i64 0) := by kernel_rfl
@[simp] theorem ft_dfl_195 : dflC Tryz.prog 195 = .v (.int .i64 0) := by kernel_rfl
@[simp] theorem ft_dfl_196 : dflC Tryz.prog 196 = .v (.int .i64 0) := by kernel_rfl
@[simp] theorem ft_dfl_197 : dflC Tryz.prog 197 = .v (.int .i64 0) := by kernel_rfl
@[simp] theorem ft_dfl_198 : dflC Tryz.prog 198 = .v (.int .i64 0) := by kernel_rfl
@[simp] theorem ft_dfl_199 : dflC Tryz.prog 199 = .v (.int .i64 0) := by kernel_rfl
@[simp] theorem ft_dfl_200 : dflC Tryz.prog 200 = .v (.int .i64 0) := by kernel_rfl
@[simp] theorem ft_dfl_201 : dflC Tryz.prog 201 = .v (.int .i64 0) := by kernel_rfl
@[simp] theorem ft_dfl_202 : dflC Tryz.prog 202 = .v (.int .i64 0) := by kernel_rfl
@[simp] theorem ft_dfl_203 : dflC Tryz.prog 203 = .v (.int .i64 0) := by kernel_rfl
end Go.Proofs.YtkfiiomdkljjnaaGreat
