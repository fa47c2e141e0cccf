/- What stands for nothing, by type. -/
import Derived.Test.YtkfiiomdkljjnaaAD
set_option linter.unusedSimpArgs false
set_option linter.unusedVariables false
namespace Go.Proofs.Ytkfiiomdkljjnaa
open Go.VL Go.RowKit
@[simp] theorem ft_dfl_0 : dflC Try.prog 0 = .v (.int .i64 0) := by kernel_rfl
@[simp] theorem ft_dfl_1 : dflC Try.prog 1 = .v (.int .i64 0) := by kernel_rfl
@[simp] theorem ft_dfl_2 : dflC Try.prog 2 = .v (.int .i64 0) := by kernel_rfl
@[simp] theorem ft_dfl_3 : dflC Try.prog 3 = .v (.int .i64 0) := by kernel_rfl
@[simp] theorem ft_dfl_4 : dflC Try.prog 4 = .v (.int .i64 0) := by kernel_rfl
@[simp] theorem ft_dfl_5 : dflC Try.prog 5 = .v (.int .i64 0) := by kernel_rfl
@[simp] theorem ft_dfl_6 : dflC Try.prog 6 = .v (.int .i64 0) := by kernel_rfl
@[simp] theorem ft_dfl_7 : dflC Try.prog 7 = .v (.int .i64 0) := by kernel_rfl
@[simp] theorem ft_dfl_8 : dflC Try.prog 8 = .v (.int .i64 0) := by kernel_rfl
@[simp] theorem ft_dfl_9 : dflC Try.prog 9 = .v (.int .i64 0) := by kernel_rfl
@[simp] theorem ft_dfl_10 : dflC Try.prog 10 = .v (.int .i64 0) := by kernel_rfl
@[simp] theorem ft_dfl_11 : dflC Try.prog 11 = .v (.int .i64 0) := by kernel_rfl
@[simp] theorem ft_dfl_12 : dflC Try.prog 12 = .v (.int .i64 0) := by kernel_rfl
@[simp] theorem ft_dfl_13 : dflC Try.prog 13 = .v (.int .i64 0) := by kernel_rfl
@[simp] theorem ft_dfl_14 : dflC Try.prog 14 = .v (.int .i64 0) := by kernel_rfl
@[simp] theorem ft_dfl_15 : dflC Try.prog 15 = .v (.int .i64 0) := by kernel_rfl
@[simp] theorem ft_dfl_16 : dflC Try.prog 16 = .v (.int .i64 0) := by kernel_rfl
@[simp] theorem ft_dfl_17 : dflC Try.prog 17 = .v (.int .i64 0) := by kernel_rfl
@[simp] theorem ft_dfl_18 : dflC Try.prog 18 = .v (.int .i64 0) := by kernel_rfl
@[simp] theorem ft_dfl_19 : dflC Try.prog 19 = .v (.int .i64 0) := by kernel_rfl
@[simp] theorem ft_dfl_20 : dflC Try.prog 20 = .v (.int .i64 0) := by kernel_rfl
@[simp] theorem ft_dfl_21 : dflC Try.prog 21 = .v (.int .i64 0) := by kernel_rfl
@[simp] theorem ft_dfl_22 : dflC Try.prog 22 = .sl true [] := by kernel_rfl
@[simp] theorem ft_dfl_23 : dflC Try.prog 23 = .sl true [] := by kernel_rfl
@[simp] theorem ft_dfl_24 : dflC Try.prog 24 = .v (.int .i64 0) := by kernel_rfl
@[simp] theorem ft_dfl_25 : dflC Try.prog 25 = .v (.int .i64 0) := by kernel_rfl
@[simp] theorem ft_dfl_26 : dflC Try.prog 26 = .sl true [] := by kernel_rfl
@[simp] theorem ft_dfl_27 : dflC Try.prog 27 = .sl true [] := by kernel_rfl
@[simp] theorem ft_dfl_28 : dflC Try.prog 28 = .v (.int .i64 0) := by kernel_rfl
@[simp] theorem ft_dfl_29 : dflC Try.prog 29 = .v (.int .i64 0) := by kernel_rfl
@[simp] theorem ft_dfl_30 : dflC Try.prog 30 = .sl true [] := by kernel_rfl
@[simp] theorem ft_dfl_31 : dflC Try.prog 31 = .v (.int .i64 0) := by kernel_rfl
@[simp] theorem ft_dfl_32 : dflC Try.prog 32 = .v (.int .i64 0) := by kernel_rfl
@[simp] theorem ft_dfl_33 : dflC Try.prog 33 = .v (.int .i64 0) := by kernel_rfl
@[simp] theorem ft_dfl_34 : dflC Try.prog 34 = .v (.int .i64 0) := by kernel_rfl
@[simp] theorem ft_dfl_35 : dflC Try.prog 35 = .v (.int .i64 0) := by kernel_rfl
@[simp] theorem ft_dfl_36 : dflC Try.prog 36 = .v (.int .i64 0) := by kernel_rfl
@[simp] theorem ft_dfl_37 : dflC Try.prog 37 = .v (.int .i64 0) := by kernel_rfl
@[simp] theorem ft_dfl_38 : dflC Try.prog 38 = .v (.int .i64 0) := by kernel_rfl
@[simp] theorem ft_dfl_39 : dflC Try.prog 39 = .v (.int .i64 0) := by kernel_rfl
@[simp] theorem ft_dfl_40 : dflC Try.prog 40 = .v (.int .i64 0) := by kernel_rfl
@[simp] theorem ft_dfl_41 : dflC Try.prog 41 = .v (.int .i64 0) := by kernel_rfl
@[simp] theorem ft_dfl_42 : dflC Try.prog 42 = .v (.int .i64 0) := by kernel_rfl
@[simp] theorem ft_dfl_43 : dflC Try.prog 43 = .v (.int .i64 0) := by kernel_rfl
@[simp] theorem ft_dfl_44 : dflC Try.prog 44 = .v (.int .i64 0) := by kernel_rfl
@[simp] theorem ft_dfl_45 : dflC Try.prog 45 = .v (.int .i64 0) := by kernel_rfl
@[simp] theorem ft_dfl_46 : dflC Try.prog 46 = .v (.int .i64 0) := by kernel_rfl
@[simp] theorem ft_dfl_47 : dflC Try.prog 47 = .v (.int .i64 0) := by kernel_rfl
@[simp] theorem ft_dfl_48 : dflC Try.prog 48 = .v (.int .i64 0) := by kernel_rfl
@[simp] theorem ft_dfl_49 : dflC Try.prog 49 = .v (.int .i64 0) := by kernel_rfl
@[simp] theorem ft_dfl_50 : dflC Try.prog 50 = .v (.int .i64 0) := by kernel_rfl
@[simp] theorem ft_dfl_51 : dflC Try.prog 51 = .v (.int .i64 0) := by kernel_rfl
@[simp] theorem ft_dfl_52 : dflC Try.prog 52 = .sl true [] := by kernel_rfl
@[simp] theorem ft_dfl_53 : dflC Try.prog 53 = .v (.int .i64 0) := by kernel_rfl
@[simp] theorem ft_dfl_54 : dflC Try.prog 54 = .sl true [] := by kernel_rfl
@[simp] theorem ft_dfl_55 : dflC Try.prog 55 = .v (.int .i64 0) := by kernel_rfl
@[simp] theorem ft_dfl_56 : dflC Try.prog 56 = .v (.int .i64 0) := by kernel_rfl
@[simp] theorem ft_dfl_57 : dflC Try.prog 57 = .v (.int .i64 0) := by kernel_rfl
@[simp] theorem ft_dfl_58 : dflC Try.prog 58 = .v (.int .i64 0) := by kernel_rfl
@[simp] theorem ft_dfl_59 : dflC Try.prog 59 = .v (.int .i64 0) := by kernel_rfl
@[simp] theorem ft_dfl_60 : dflC Try.prog 60 = .v (.int .i64 0) := by kernel_rfl
@[simp] theorem ft_dfl_61 : dflC Try.prog 61 = .sl true [] := by kernel_rfl
@[simp] theorem ft_dfl_62 : dflC Try.prog 62 = .v (.int .i64 0) := by kernel_rfl
@[simp] theorem ft_dfl_63 : dflC Try.prog 63 = .v (.int .i64 0) := by kernel_rfl
@[simp] theorem ft_dfl_64 : dflC Try.prog 64 = .sl true [] := by kernel_rfl
@[simp] theorem ft_dfl_65 : dflC Try.prog 65 = .sl true [] := by kernel_rfl
@[simp] theorem ft_dfl_66 : dflC Try.prog 66 = .sl true [] := by kernel_rfl
@[simp] theorem ft_dfl_67 : dflC Try.prog 67 = .v (.int .i64 0) := by kernel_rfl
@[simp] theorem ft_dfl_68 : dflC Try.prog 68 = .v (.int .i64 0) := by kernel_rfl
@[simp] theorem ft_dfl_69 : dflC Try.prog 69 = .v (.int .i64 0) := by kernel_rfl
@[simp] theorem ft_dfl_70 : dflC Try.prog 70 = .v (.int .i64 0) := by kernel_rfl
@[simp] theorem ft_dfl_71 : dflC Try.prog 71 = .v (.int .i64 0) := by kernel_rfl
@[simp] theorem ft_dfl_72 : dflC Try.prog 72 = .v (.int .i64 0) := by kernel_rfl
@[simp] theorem ft_dfl_73 : dflC Try.prog 73 = .v (.int .i64 0) := by kernel_rfl
@[simp] theorem ft_dfl_74 : dflC Try.prog 74 = .sl true [] := by kernel_rfl
@[simp] theorem ft_dfl_75 : dflC Try.prog 75 = .v (.int .i64 0) := by kernel_rfl
@[simp] theorem ft_dfl_76 : dflC Try.prog 76 = .v (.int .i64 0) := by kernel_rfl
@[simp] theorem ft_dfl_77 : dflC Try.prog 77 = .v (.int .i64 0) := by kernel_rfl
@[simp] theorem ft_dfl_78 : dflC Try.prog 78 = .v (.int .i64 0) := by kernel_rfl
@[simp] theorem ft_dfl_79 : dflC Try.prog 79 = .v (.int .i64 0) := by kernel_rfl
@[simp] theorem ft_dfl_80 : dflC Try.prog 80 = .v (.int .i64 0) := by kernel_rfl
@[simp] theorem ft_dfl_81 : dflC Try.prog 81 = .v (.int .i64 0) := by kernel_rfl
@[simp] theorem ft_dfl_82 : dflC Try.prog 82 = .v (.int .i64 0) := by kernel_rfl
@[simp] theorem ft_dfl_83 : dflC Try.prog 83 = .v (.int .i64 0) := by kernel_rfl
@[simp] theorem ft_dfl_84 : dflC Try.prog 84 = .v (.int .i64 0) := by kernel_rfl
@[simp] theorem ft_dfl_85 : dflC Try.prog 85 = .v (.int .i64 0) := by kernel_rfl
@[simp] theorem ft_dfl_86 : dflC Try.prog 86 = .v (.int .i64 0) := by kernel_rfl
@[simp] theorem ft_dfl_87 : dflC Try.prog 87 = .sl true [] := by kernel_rfl
@[simp] theorem ft_dfl_88 : dflC Try.prog 88 = .v (.int .i64 0) := by kernel_rfl
@[simp] theorem ft_dfl_89 : dflC Try.prog 89 = .v (.int .i64 0) := by kernel_rfl
@[simp] theorem ft_dfl_90 : dflC Try.prog 90 = .v (.int .i64 0) := by kernel_rfl
@[simp] theorem ft_dfl_91 : dflC Try.prog 91 = .v (.int .i64 0) := by kernel_rfl
@[simp] theorem ft_dfl_92 : dflC Try.prog 92 = .v (.int .i64 0) := by kernel_rfl
@[simp] theorem ft_dfl_93 : dflC Try.prog 93 = .v (.int .i64 0) := by kernel_rfl
@[simp] theorem ft_dfl_94 : dflC Try.prog 94 = .v (.int .i64 0) := by kernel_rfl
@[simp] theorem ft_dfl_95 : dflC Try.prog 95 = .v (.int .i64 0) := by kernel_rfl
@[simp] theorem ft_dfl_96 : dflC Try.prog 96 = .v (.int .i64 0) := by kernel_rfl
@[simp] theorem ft_dfl_97 : dflC Try.prog 97 = .v (.int .i64 0) := by kernel_rfl
@[simp] theorem ft_dfl_98 : dflC Try.prog 98 = .sl true [] := by kernel_rfl
@[simp] theorem ft_dfl_99 : dflC Try.prog 99 = .v (.int .i64 0) := by kernel_rfl
@[simp] theorem ft_dfl_100 : dflC Try.prog 100 = .sl true [] := by kernel_rfl
@[simp] theorem ft_dfl_101 : dflC Try.prog 101 = .v (.int .i64 0) := by kernel_rfl
@[simp] theorem ft_dfl_102 : dflC Try.prog 102 = .v (.int .i64 0) := by kernel_rfl
@[simp] theorem ft_dfl_103 : dflC Try.prog 103 = .v (.int .i64 0) := by kernel_rfl
@[simp] theorem ft_dfl_104 : dflC Try.prog 104 = .sl true [] := by kernel_rfl
@[simp] theorem ft_dfl_105 : dflC Try.prog 105 = .v (.int .i64 0) := by kernel_rfl
@[simp] theorem ft_dfl_106 : dflC Try.prog 106 = .v (.int .i64 0) := by kernel_rfl
@[simp] theorem ft_dfl_107 : dflC Try.prog 107 = .v (.int .i64 0) := by kernel_rfl
@[simp] theorem ft_dfl_108 : dflC Try.prog 108 = .v (.int .i64 0) := by kernel_rfl
@[simp] theorem ft_dfl_109 : dflC Try.prog 109 = .v (.int .i64 0) := by kernel_rfl
@[simp] theorem ft_dfl_110 : dflC Try.prog 110 = .v (.int .i64 0) := by kernel_rfl
@[simp] theorem ft_dfl_111 : dflC Try.prog 111 = .v (.int .i64 0) := by kernel_rfl
@[simp] theorem ft_dfl_112 : dflC Try.prog 112 = .v (.int .i64 0) := by kernel_rfl
@[simp] theorem ft_dfl_113 : dflC Try.prog 113 = .v (.int .i64 0) := by kernel_rfl
@[simp] theorem ft_dfl_114 : dflC Try.prog 114 = .v (.int .i64 0) := by kernel_rfl
@[simp] theorem ft_dfl_115 : dflC Try.prog 115 = .v (.int .i64 0) := by kernel_rfl
@[simp] theorem ft_dfl_116 : dflC Try.prog 116 = .v (.int .i64 0) := by kernel_rfl
@[simp] theorem ft_dfl_117 : dflC Try.prog 117 = .v (.int .i64 0) := by kernel_rfl
@[simp] theorem ft_dfl_118 : dflC Try.prog 118 = .v (.int .i64 0) := by kernel_rfl
@[simp] theorem ft_dfl_119 : dflC Try.prog 119 = .v (.int .i64 0) := by kernel_rfl
@[simp] theorem ft_dfl_120 : dflC Try.prog 120 = .v (.int .i64 0) := by kernel_rfl
@[simp] theorem ft_dfl_121 : dflC Try.prog 121 = .v (.int .i64 0) := by kernel_rfl
@[simp] theorem ft_dfl_122 : dflC Try.prog 122 = .v (.int .i64 0) := by kernel_rfl
@[simp] theorem ft_dfl_123 : dflC Try.prog 123 = .v (.int .i64 0) := by kernel_rfl
@[simp] theorem ft_dfl_124 : dflC Try.prog 124 = .sl true [] := by kernel_rfl
@[simp] theorem ft_dfl_125 : dflC Try.prog 125 = .v (.int .i64 0) := by kernel_rfl
@[simp] theorem ft_dfl_126 : dflC Try.prog 126 = .sl true [] := by kernel_rfl
@[simp] theorem ft_dfl_127 : dflC Try.prog 127 = .v (.int .i64 0) := by kernel_rfl
@[simp] theorem ft_dfl_128 : dflC Try.prog 128 = .v (.int .i64 0) := by kernel_rfl
@[simp] theorem ft_dfl_129 : dflC Try.prog 129 = .v (.int .i64 0) := by kernel_rfl
@[simp] theorem ft_dfl_130 : dflC Try.prog 130 = .sl true [] := by kernel_rfl
@[simp] theorem ft_dfl_131 : dflC Try.prog 131 = .v (.int .i64 0) := by kernel_rfl
@[simp] theorem ft_dfl_132 : dflC Try.prog 132 = .v (.int .i64 0) := by kernel_rfl
@[simp] theorem ft_dfl_133 : dflC Try.prog 133 = .v (.int .i64 0) := by kernel_rfl
@[simp] theorem ft_dfl_134 : dflC Try.prog 134 = .v (.int .i64 0) := by kernel_rfl
@[simp] theorem ft_dfl_135 : dflC Try.prog 135 = .v (.int .i64 0) := by kernel_rfl
@[simp] theorem ft_dfl_136 : dflC Try.prog 136 = .v (.int .i64 0) := by kernel_rfl
@[simp] theorem ft_dfl_137 : dflC Try.prog 137 = .v (.int .i64 0) := by kernel_rfl
@[simp] theorem ft_dfl_138 : dflC Try.prog 138 = .v (.int .i64 0) := by kernel_rfl
@[simp] theorem ft_dfl_139 : dflC Try.prog 139 = .v (.int .i64 0) := by kernel_rfl
@[simp] theorem ft_dfl_140 : dflC Try.prog 140 = .v (.int .i64 0) := by kernel_rfl
@[simp] theorem ft_dfl_141 : dflC Try.prog 141 = .v (.int .i64 0) := by kernel_rfl
@[simp] theorem ft_dfl_142 : dflC Try.prog 142 = .v (.int .i64 0) := by kernel_rfl
@[simp] theorem ft_dfl_143 : dflC Try.prog 143 = .v (.int .i64 0) := by kernel_rfl
@[simp] theorem ft_dfl_144 : dflC Try.prog 144 = .v (.int .i64 0) := by kernel_rfl
@[simp] theorem ft_dfl_145 : dflC Try.prog 145 = .v (.int .i64 0) := by kernel_rfl
@[simp] theorem ft_dfl_146 : dflC Try.prog 146 = .v (.int .i64 0) := by kernel_rfl
@[simp] theorem ft_dfl_147 : dflC Try.prog 147 = .v (.int .i64 0) := by kernel_rfl
@[simp] theorem ft_dfl_148 : dflC Try.prog 148 = .v (.int .i64 0) := by kernel_rfl
@[simp] theorem ft_dfl_149 : dflC Try.prog 149 = .v (.int .i64 0) := by kernel_rfl
@[simp] theorem ft_dfl_150 : dflC Try.prog 150 = .v (.int .i64 0) := by kernel_rfl
@[simp] theorem ft_dfl_151 : dflC Try.prog 151 = .v (.int .i64 0) := by kernel_rfl
@[simp] theorem ft_dfl_152 : dflC Try.prog 152 = .v (.int .i64 0) := by kernel_rfl
@[simp] theorem ft_dfl_153 : dflC Try.prog 153 = .v (.int .i64 0) := by kernel_rfl
@[simp] theorem ft_dfl_154 : dflC Try.prog 154 = .v (.int .i64 0) := by kernel_rfl
@[simp] theorem ft_dfl_155 : dflC Try.prog 155 = .v (.int .i64 0) := by kernel_rfl
@[simp] theorem ft_dfl_156 : dflC Try.prog 156 = .v (.int .i64 0) := by kernel_rfl
@[simp] theorem ft_dfl_157 : dflC Try.prog 157 = .v (.int .i64 0) := by kernel_rfl
@[simp] theorem ft_dfl_158 : dflC Try.prog 158 = .v (.int .i64 0) := by kernel_rfl
@[simp] theorem ft_dfl_159 : dflC Try.prog 159 = .v (.int .i64 0) := by kernel_rfl
@[simp] theorem ft_dfl_160 : dflC Try.prog 160 = .v (.int .i64 0) := by kernel_rfl
@[simp] theorem ft_dfl_161 : dflC Try.prog 161 = .v (.int .i64 0) := by kernel_rfl
@[simp] theorem ft_dfl_162 : dflC Try.prog 162 = .v (.int .i64 0) := by kernel_rfl
@[simp] theorem ft_dfl_163 : dflC Try.prog 163 = .v (.int .i64 0) := by kernel_rfl
@[simp] theorem ft_dfl_164 : dflC Try.prog 164 = .v (.int .i64 0) := by kernel_rfl
@[simp] theorem ft_dfl_165 : dflC Try.prog 165 = .v (.int .i64 0) := by kernel_rfl
@[simp] theorem ft_dfl_166 : dflC Try.prog 166 = .v (.int .i64 0) := by kernel_rfl
@[simp] theorem ft_dfl_167 : dflC Try.prog 167 = .v (.int .i64 0) := by kernel_rfl
@[simp] theorem ft_dfl_168 : dflC Try.prog 168 = .v (.int .i64 0) := by kernel_rfl
@[simp] theorem ft_dfl_169 : dflC Try.prog 169 = .v (.int .i64 0) := by kernel_rfl
@[simp] theorem ft_dfl_170 : dflC Try.prog 170 = .v (.int .i64 0) := by kernel_rfl
@[simp] theorem ft_dfl_171 : dflC Try.prog 171 = .v (.int .i64 0) := by kernel_rfl
@[simp] theorem ft_dfl_172 : dflC Try.prog 172 = .v (.int .i64 0) := by kernel_rfl
@[simp] theorem ft_dfl_173 : dflC Try.prog 173 = .v (.int .i64 0) := by kernel_rfl
@[simp] theorem ft_dfl_174 : dflC Try.prog 174 = .v (.int .i64 0) := by kernel_rfl
@[simp] theorem ft_dfl_175 : dflC Try.prog 175 = .v (.int .i64 0) := by kernel_rfl
@[simp] theorem ft_dfl_176 : dflC Try.prog 176 = .v (.int .i64 0) := by kernel_rfl
@[simp] theorem ft_dfl_177 : dflC Try.prog 177 = .v (.int .i64 0) := by kernel_rfl
@[simp] theorem ft_dfl_178 : dflC Try.prog 178 = .v (.int .i64 0) := by kernel_rfl
@[simp] theorem ft_dfl_179 : dflC Try.prog 179 = .v (.int .i64 0) := by kernel_rfl
@[simp] theorem ft_dfl_180 : dflC Try.prog 180 = .v (.int .i64 0) := by kernel_rfl
@[simp] theorem ft_dfl_181 : dflC Try.prog 181 = .v (.int .i64 0) := by kernel_rfl
@[simp] theorem ft_dfl_182 : dflC Try.prog 182 = .v (.int .i64 0) := by kernel_rfl
@[simp] theorem ft_dfl_183 : dflC Try.prog 183 = .v (.int .i64 0) := by kernel_rfl
@[simp] theorem ft_dfl_184 : dflC Try.prog 184 = .v (.int .i64 0) := by kernel_rfl
@[simp] theorem ft_dfl_185 : dflC Try.prog 185 = .v (.int .i64 0) := by kernel_rfl
@[simp] theorem ft_dfl_186 : dflC Try.prog 186 = .v (.int .i64 0) := by kernel_rfl
@[simp] theorem ft_dfl_187 : dflC Try.prog 187 = .v (.int .i64 0) := by kernel_rfl
@[simp] theorem ft_dfl_188 : dflC Try.prog 188 = .v (.int .i64 0) := by kernel_rfl
@[simp] theorem ft_dfl_189 : dflC Try.prog 189 = .v (.int .i64 0) := by kernel_rfl
@[simp] theorem ft_dfl_190 : dflC Try.prog 190 = .v (.int .i64 0) := by kernel_rfl
@[simp] theorem ft_dfl_191 : dflC Try.prog 191 = .v (.int .i64 0) := by kernel_rfl
@[simp] theorem ft_dfl_192 : dflC Try.prog 192 = .v (.int .i64 0) := by kernel_rfl
@[simp] theorem ft_dfl_193 : dflC Try.prog 193 = .v (.int .i64 0) := by kernel_rfl
@[simp] theorem ft_dfl_194 : dflC Try.prog 194 = .v (.int .i64 0) := by kernel_rfl
@[simp] theorem ft_dfl_195 : dflC Try.prog 195 = .v (.int .i64 0) := by kernel_rfl
@[simp] theorem ft_dfl_196 : dflC Try.prog 196 = .v (.int .i64 0) := by kernel_rfl
@[simp] theorem ft_dfl_197 : dflC Try.prog 197 = .v (.int .i64 0) := by kernel_rfl
@[simp] theorem ft_dfl_198 : dflC Try.prog 198 = .v (.int .i64 0) := by kernel_rfl
@[simp] theorem ft_dfl_199 : dflC Try.prog 199 = .v (.int .i64 0) := by kernel_rfl
@[simp] theorem ft_dfl_200 : dflC Try.prog 200 = .v (.int .i64 0) := by kernel_rfl
@[simp] theorem ft_dfl_201 : dflC Try.prog 201 = .v (.int .i64 0) := by kernel_rfl
@[simp] theorem ft_dfl_202 : dflC Try.prog 202 = .v (.int .i64 0) := by kernel_rfl
@[simp] theorem ft_dfl_203 : dflC Try.prog 203 = .v (.int .i64 0) := by kernel_rfl
@[simp] theorem ft_dfl_204 : dflC Try.prog 204 = .v (.int .i64 0) := by kernel_rfl
@[simp] theorem ft_dfl_205 : dflC Try.prog 205 = .v (.int .i64 0) := by kernel_rfl
@[simp] theorem ft_dfl_206 : dflC Try.prog 206 = .v (.int .i64 0) := by kernel_rfl
@[simp] theorem ft_dfl_207 : dflC Try.prog 207 = .v (.int .i64 0) := by kernel_rfl
@[simp] theorem ft_dfl_208 : dflC Try.prog 208 = .v (.int .i64 0) := by kernel_rfl
@[simp] theorem ft_dfl_209 : dflC Try.prog 209 = .v (.int .i64 0) := by kernel_rfl
@[simp] theorem ft_dfl_210 : dflC Try.prog 210 = .v (.int .i64 0) := by kernel_rfl
@[simp] theorem ft_dfl_211 : dflC Try.prog 211 = .v (.int .i64 0) := by kernel_rfl
@[simp] theorem ft_dfl_212 : dflC Try.prog 212 = .v (.int .i64 0) := by kernel_rfl
@[simp] theorem ft_dfl_213 : dflC Try.prog 213 = .v (.int .i64 0) := by kernel_rfl
@[simp] theorem ft_dfl_214 : dflC Try.prog 214 = .v (.int .i64 0) := by kernel_rfl
@[simp] theorem ft_dfl_215 : dflC Try.prog 215 = .v (.int .i64 0) := by kernel_rfl
@[simp] theorem ft_dfl_216 : dflC Try.prog 216 = .v (.int .i64 0) := by kernel_rfl
@[simp] theorem ft_dfl_217 : dflC Try.prog 217 = .v (.int .i64 0) := by kernel_rfl
@[simp] theorem ft_dfl_218 : dflC Try.prog 218 = .v (.int .i64 0) := by kernel_rfl
@[simp] theorem ft_dfl_219 : dflC Try.prog 219 = .v (.int .i64 0) := by kernel_rfl
@[simp] theorem ft_dfl_220 : dflC Try.prog 220 = .v (.int .i64 0) := by kernel_rfl
@[simp] theorem ft_dfl_221 : dflC Try.prog 221 = .v (.int .i64 0) := by kernel_rfl
@[simp] theorem ft_dfl_222 : dflC Try.prog 222 = .v (.int .i64 0) := by kernel_rfl
@[simp] theorem ft_dfl_223 : dflC Try.prog 223 = .v (.int .i64 0) := by kernel_rfl
end Go.Proofs.Ytkfiiomdkljjnaa
