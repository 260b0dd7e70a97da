/- Texts of the proof of one statement, part 8: each as it stood by itself. -/
import Derived.Test.YtblhcbmcbhoeiaaGreatDoorChecked
import Derived.KernelRfl
import Derived.Test.YtblhcbmcbhoeiaaGreatDoorPkG

section
/- The program's functions as the evaluator takes them, printed by a program of this repository (PrintTab.lean, mktab.py); that they are the program's is proved at the end. -/
namespace Go.Proofs.YtblhcbmcbhoeiaaGreatDoor.Ev
open Go


def tabL : List (Nat × AFunc) :=
  [(4, F4),
   (5, F5),
   (8, F8),
   (10, F10),
   (11, F11),
   (12, F12),
   (13, F13),
   (14, F14),
   (16, F16),
   (20, F20),
   (21, F21),
   (22, F22),
   (23, F23),
   (27, F27),
   (28, F28),
   (29, F29),
   (31, F31),
   (35, F35),
   (36, F36),
   (37, F37),
   (38, F38),
   (39, F39),
   (40, F40),
   (45, F45),
   (46, F46),
   (47, F47),
   (48, F48),
   (49, F49),
   (50, F50),
   (51, F51),
   (52, F52),
   (53, F53),
   (54, F54),
   (55, F55),
   (56, F56),
   (57, F57),
   (58, F58),
   (59, F59),
   (60, F60),
   (61, F61),
   (64, F64),
   (65, F65),
   (66, F66),
   (68, F68),
   (69, F69),
   (70, F70),
   (71, F71),
   (72, F72),
   (73, F73),
   (74, F74),
   (75, F75),
   (76, F76),
   (80, F80),
   (81, F81),
   (82, F82),
   (83, F83),
   (84, F84),
   (85, F85),
   (87, F87),
   (90, F90),
   (91, F91),
   (92, F92),
   (93, F93),
   (94, F94),
   (95, F95),
   (96, F96),
   (97, F97),
   (98, F98),
   (99, F99),
   (100, F100),
   (103, F103),
   (104, F104),
   (105, F105),
   (106, F106),
   (107, F107),
   (108, F108),
   (109, F109),
   (110, F110),
   (111, F111),
   (112, F112),
   (113, F113),
   (114, F114),
   (115, F115),
   (116, F116),
   (117, F117),
   (118, F118),
   (122, F122),
   (126, F126),
   (127, F127),
   (128, F128),
   (129, F129),
   (130, F130),
   (131, F131),
   (132, F132),
   (134, F134),
   (135, F135),
   (136, F136),
   (137, F137),
   (138, F138),
   (139, F139),
   (140, F140),
   (141, F141),
   (142, F142),
   (143, F143),
   (144, F144),
   (145, F145),
   (146, F146),
   (147, F147),
   (149, F149),
   (150, F150),
   (151, F151),
   (153, F153),
   (155, F155),
   (156, F156),
   (157, F157),
   (161, F161),
   (162, F162),
   (163, F163),
   (164, F164),
   (166, F166),
   (167, F167),
   (168, F168),
   (169, F169),
   (170, F170),
   (171, F171),
   (172, F172),
   (173, F173),
   (174, F174),
   (175, F175),
   (176, F176),
   (177, F177),
   (180, F180),
   (181, F181),
   (184, F184),
   (189, F189),
   (193, F193),
   (201, F201)]
def T : ATable := fun f => (tabL.find? fun p => Nat.beq p.1 f).map (·.2)
theorem tab_mem {f : Nat} {F : AFunc} (h : T f = some F) : (f, F) ∈ tabL := by
  unfold T at h
  rw [Option.map_eq_some_iff] at h
  obtain ⟨p, hp, rfl⟩ := h
  have h1 := List.find?_some hp
  have h2 := List.mem_of_find?_eq_some hp
  have h3 : p.1 = f := Nat.eq_of_beq_eq_true h1
  rw [← h3]
  exact h2
theorem tab_nil {P : Nat × AFunc → Prop} : ∀ p ∈ ([] : List (Nat × AFunc)), P p := fun p hp => by cases hp
theorem tab_cons {P : Nat × AFunc → Prop} {a : Nat × AFunc} {l : List (Nat × AFunc)} (h : P a) (t : ∀ p ∈ l, P p) : ∀ p ∈ a :: l, P p := fun p hp => by
  rcases List.mem_cons.1 hp with rfl | hp
  · exact h
  · exact t p hp

theorem T_4 : T 4 = some F4 := by kernel_rfl
theorem T_5 : T 5 = some F5 := by kernel_rfl
theorem T_8 : T 8 = some F8 := by kernel_rfl
theorem T_10 : T 10 = some F10 := by kernel_rfl
theorem T_11 : T 11 = some F11 := by kernel_rfl
theorem T_12 : T 12 = some F12 := by kernel_rfl
theorem T_13 : T 13 = some F13 := by kernel_rfl
theorem T_14 : T 14 = some F14 := by kernel_rfl
theorem T_16 : T 16 = some F16 := by kernel_rfl
theorem T_20 : T 20 = some F20 := by kernel_rfl
theorem T_21 : T 21 = some F21 := by kernel_rfl
theorem T_22 : T 22 = some F22 := by kernel_rfl
theorem T_23 : T 23 = some F23 := by kernel_rfl
theorem T_27 : T 27 = some F27 := by kernel_rfl
theorem T_28 : T 28 = some F28 := by kernel_rfl
theorem T_29 : T 29 = some F29 := by kernel_rfl
theorem T_31 : T 31 = some F31 := by kernel_rfl
theorem T_35 : T 35 = some F35 := by kernel_rfl
theorem T_36 : T 36 = some F36 := by kernel_rfl
theorem T_37 : T 37 = some F37 := by kernel_rfl
theorem T_38 : T 38 = some F38 := by kernel_rfl
theorem T_39 : T 39 = some F39 := by kernel_rfl
theorem T_40 : T 40 = some F40 := by kernel_rfl
theorem T_45 : T 45 = some F45 := by kernel_rfl
theorem T_46 : T 46 = some F46 := by kernel_rfl
theorem T_47 : T 47 = some F47 := by kernel_rfl
theorem T_48 : T 48 = some F48 := by kernel_rfl
theorem T_49 : T 49 = some F49 := by kernel_rfl
theorem T_50 : T 50 = some F50 := by kernel_rfl
theorem T_51 : T 51 = some F51 := by kernel_rfl
theorem T_52 : T 52 = some F52 := by kernel_rfl
theorem T_53 : T 53 = some F53 := by kernel_rfl
theorem T_54 : T 54 = some F54 := by kernel_rfl
theorem T_55 : T 55 = some F55 := by kernel_rfl
theorem T_56 : T 56 = some F56 := by kernel_rfl
theorem T_57 : T 57 = some F57 := by kernel_rfl
theorem T_58 : T 58 = some F58 := by kernel_rfl
theorem T_59 : T 59 = some F59 := by kernel_rfl
theorem T_60 : T 60 = some F60 := by kernel_rfl
theorem T_61 : T 61 = some F61 := by kernel_rfl
theorem T_64 : T 64 = some F64 := by kernel_rfl
theorem T_65 : T 65 = some F65 := by kernel_rfl
theorem T_66 : T 66 = some F66 := by kernel_rfl
theorem T_68 : T 68 = some F68 := by kernel_rfl
theorem T_69 : T 69 = some F69 := by kernel_rfl
theorem T_70 : T 70 = some F70 := by kernel_rfl
theorem T_71 : T 71 = some F71 := by kernel_rfl
theorem T_72 : T 72 = some F72 := by kernel_rfl
theorem T_73 : T 73 = some F73 := by kernel_rfl
theorem T_74 : T 74 = some F74 := by kernel_rfl
theorem T_75 : T 75 = some F75 := by kernel_rfl
theorem T_76 : T 76 = some F76 := by kernel_rfl
theorem T_80 : T 80 = some F80 := by kernel_rfl
theorem T_81 : T 81 = some F81 := by kernel_rfl
theorem T_82 : T 82 = some F82 := by kernel_rfl
theorem T_83 : T 83 = some F83 := by kernel_rfl
theorem T_84 : T 84 = some F84 := by kernel_rfl
theorem T_85 : T 85 = some F85 := by kernel_rfl
theorem T_87 : T 87 = some F87 := by kernel_rfl
theorem T_90 : T 90 = some F90 := by kernel_rfl
theorem T_91 : T 91 = some F91 := by kernel_rfl
theorem T_92 : T 92 = some F92 := by kernel_rfl
theorem T_93 : T 93 = some F93 := by kernel_rfl
theorem T_94 : T 94 = some F94 := by kernel_rfl
theorem T_95 : T 95 = some F95 := by kernel_rfl
theorem T_96 : T 96 = some F96 := by kernel_rfl
theorem T_97 : T 97 = some F97 := by kernel_rfl
theorem T_98 : T 98 = some F98 := by kernel_rfl
theorem T_99 : T 99 = some F99 := by kernel_rfl
theorem T_100 : T 100 = some F100 := by kernel_rfl
theorem T_103 : T 103 = some F103 := by kernel_rfl
theorem T_104 : T 104 = some F104 := by kernel_rfl
theorem T_105 : T 105 = some F105 := by kernel_rfl
theorem T_106 : T 106 = some F106 := by kernel_rfl
theorem T_107 : T 107 = some F107 := by kernel_rfl
theorem T_108 : T 108 = some F108 := by kernel_rfl
theorem T_109 : T 109 = some F109 := by kernel_rfl
theorem T_110 : T 110 = some F110 := by kernel_rfl
theorem T_111 : T 111 = some F111 := by kernel_rfl
theorem T_112 : T 112 = some F112 := by kernel_rfl
theorem T_113 : T 113 = some F113 := by kernel_rfl
theorem T_114 : T 114 = some F114 := by kernel_rfl
theorem T_115 : T 115 = some F115 := by kernel_rfl
theorem T_116 : T 116 = some F116 := by kernel_rfl
theorem T_117 : T 117 = some F117 := by kernel_rfl
theorem T_118 : T 118 = some F118 := by kernel_rfl
theorem T_122 : T 122 = some F122 := by kernel_rfl
theorem T_126 : T 126 = some F126 := by kernel_rfl
theorem T_127 : T 127 = some F127 := by kernel_rfl
theorem T_128 : T 128 = some F128 := by kernel_rfl
theorem T_129 : T 129 = some F129 := by kernel_rfl
theorem T_130 : T 130 = some F130 := by kernel_rfl
theorem T_131 : T 131 = some F131 := by kernel_rfl
theorem T_132 : T 132 = some F132 := by kernel_rfl
theorem T_134 : T 134 = some F134 := by kernel_rfl
theorem T_135 : T 135 = some F135 := by kernel_rfl
theorem T_136 : T 136 = some F136 := by kernel_rfl
theorem T_137 : T 137 = some F137 := by kernel_rfl
theorem T_138 : T 138 = some F138 := by kernel_rfl
theorem T_139 : T 139 = some F139 := by kernel_rfl
theorem T_140 : T 140 = some F140 := by kernel_rfl
theorem T_141 : T 141 = some F141 := by kernel_rfl
theorem T_142 : T 142 = some F142 := by kernel_rfl
theorem T_143 : T 143 = some F143 := by kernel_rfl
theorem T_144 : T 144 = some F144 := by kernel_rfl
theorem T_145 : T 145 = some F145 := by kernel_rfl
theorem T_146 : T 146 = some F146 := by kernel_rfl
theorem T_147 : T 147 = some F147 := by kernel_rfl
theorem T_149 : T 149 = some F149 := by kernel_rfl
theorem T_150 : T 150 = some F150 := by kernel_rfl
theorem T_151 : T 151 = some F151 := by kernel_rfl
theorem T_153 : T 153 = some F153 := by kernel_rfl
theorem T_155 : T 155 = some F155 := by kernel_rfl
theorem T_156 : T 156 = some F156 := by kernel_rfl
theorem T_157 : T 157 = some F157 := by kernel_rfl
theorem T_161 : T 161 = some F161 := by kernel_rfl
theorem T_162 : T 162 = some F162 := by kernel_rfl
theorem T_163 : T 163 = some F163 := by kernel_rfl
theorem T_164 : T 164 = some F164 := by kernel_rfl
theorem T_166 : T 166 = some F166 := by kernel_rfl
theorem T_167 : T 167 = some F167 := by kernel_rfl
theorem T_168 : T 168 = some F168 := by kernel_rfl
theorem T_169 : T 169 = some F169 := by kernel_rfl
theorem T_170 : T 170 = some F170 := by kernel_rfl
theorem T_171 : T 171 = some F171 := by kernel_rfl
theorem T_172 : T 172 = some F172 := by kernel_rfl
theorem T_173 : T 173 = some F173 := by kernel_rfl
theorem T_174 : T 174 = some F174 := by kernel_rfl
theorem T_175 : T 175 = some F175 := by kernel_rfl
theorem T_176 : T 176 = some F176 := by kernel_rfl
theorem T_177 : T 177 = some F177 := by kernel_rfl
theorem T_180 : T 180 = some F180 := by kernel_rfl
theorem T_181 : T 181 = some F181 := by kernel_rfl
theorem T_184 : T 184 = some F184 := by kernel_rfl
theorem T_189 : T 189 = some F189 := by kernel_rfl
theorem T_193 : T 193 = some F193 := by kernel_rfl
theorem T_201 : T 201 = some F201 := by kernel_rfl


set_option maxRecDepth 100000 in
theorem table_in : TableIn T := fun f F h => (show ∀ p ∈ tabL, p.2.body.within p.2.ntmps = true from
  (tab_cons in_4 (tab_cons in_5 (tab_cons in_8 (tab_cons in_10 (tab_cons in_11 (tab_cons in_12 (tab_cons in_13 (tab_cons in_14 (tab_cons in_16 (tab_cons in_20 (tab_cons in_21 (tab_cons in_22 (tab_cons in_23 (tab_cons in_27 (tab_cons in_28 (tab_cons in_29 (tab_cons in_31 (tab_cons in_35 (tab_cons in_36 (tab_cons in_37 (tab_cons in_38 (tab_cons in_39 (tab_cons in_40 (tab_cons in_45 (tab_cons in_46 (tab_cons in_47 (tab_cons in_48 (tab_cons in_49 (tab_cons in_50 (tab_cons in_51 (tab_cons in_52 (tab_cons in_53 (tab_cons in_54 (tab_cons in_55 (tab_cons in_56 (tab_cons in_57 (tab_cons in_58 (tab_cons in_59 (tab_cons in_60 (tab_cons in_61 (tab_cons in_64 (tab_cons in_65 (tab_cons in_66 (tab_cons in_68 (tab_cons in_69 (tab_cons in_70 (tab_cons in_71 (tab_cons in_72 (tab_cons in_73 (tab_cons in_74 (tab_cons in_75 (tab_cons in_76 (tab_cons in_80 (tab_cons in_81 (tab_cons in_82 (tab_cons in_83 (tab_cons in_84 (tab_cons in_85 (tab_cons in_87 (tab_cons in_90 (tab_cons in_91 (tab_cons in_92 (tab_cons in_93 (tab_cons in_94 (tab_cons in_95 (tab_cons in_96 (tab_cons in_97 (tab_cons in_98 (tab_cons in_99 (tab_cons in_100 (tab_cons in_103 (tab_cons in_104 (tab_cons in_105 (tab_cons in_106 (tab_cons in_107 (tab_cons in_108 (tab_cons in_109 (tab_cons in_110 (tab_cons in_111 (tab_cons in_112 (tab_cons in_113 (tab_cons in_114 (tab_cons in_115 (tab_cons in_116 (tab_cons in_117 (tab_cons in_118 (tab_cons in_122 (tab_cons in_126 (tab_cons in_127 (tab_cons in_128 (tab_cons in_129 (tab_cons in_130 (tab_cons in_131 (tab_cons in_132 (tab_cons in_134 (tab_cons in_135 (tab_cons in_136 (tab_cons in_137 (tab_cons in_138 (tab_cons in_139 (tab_cons in_140 (tab_cons in_141 (tab_cons in_142 (tab_cons in_143 (tab_cons in_144 (tab_cons in_145 (tab_cons in_146 (tab_cons in_147 (tab_cons in_149 (tab_cons in_150 (tab_cons in_151 (tab_cons in_153 (tab_cons in_155 (tab_cons in_156 (tab_cons in_157 (tab_cons in_161 (tab_cons in_162 (tab_cons in_163 (tab_cons in_164 (tab_cons in_166 (tab_cons in_167 (tab_cons in_168 (tab_cons in_169 (tab_cons in_170 (tab_cons in_171 (tab_cons in_172 (tab_cons in_173 (tab_cons in_174 (tab_cons in_175 (tab_cons in_176 (tab_cons in_177 (tab_cons in_180 (tab_cons in_181 (tab_cons in_184 (tab_cons in_189 (tab_cons in_193 (tab_cons in_201 tab_nil)))))))))))))))))))))))))))))))))))))))))))))))))))))))))))))))))))))))))))))))))))))))))))))))))))))))))))))))))))))))))))))))))))))))))) (f, F) (tab_mem h)

set_option maxRecDepth 100000 in
/-- The program's functions, but for those that are shown by hand. -/
theorem table_all : ∀ p ∈ tabL, (∃ fn, Tryz.prog.funcs[p.1]? = some fn ∧ compFunc Tryz.prog 4 fn = some p.2) ∨ (p.1 = 132 ∧ p.2 = F132) :=
  (tab_cons (.inl ⟨Tryz.f4, Tryz.func4, comp_4⟩) (tab_cons (.inl ⟨Tryz.f5, Tryz.func5, comp_5⟩) (tab_cons (.inl ⟨Tryz.f8, Tryz.func8, comp_8⟩) (tab_cons (.inl ⟨Tryz.f10, Tryz.func10, comp_10⟩) (tab_cons (.inl ⟨Tryz.f11, Tryz.func11, comp_11⟩) (tab_cons (.inl ⟨Tryz.f12, Tryz.func12, comp_12⟩) (tab_cons (.inl ⟨Tryz.f13, Tryz.func13, comp_13⟩) (tab_cons (.inl ⟨Tryz.f14, Tryz.func14, comp_14⟩) (tab_cons (.inl ⟨Tryz.f16, Tryz.func16, comp_16⟩) (tab_cons (.inl ⟨Tryz.f20, Tryz.func20, comp_20⟩) (tab_cons (.inl ⟨Tryz.f21, Tryz.func21, comp_21⟩) (tab_cons (.inl ⟨Tryz.f22, Tryz.func22, comp_22⟩) (tab_cons (.inl ⟨Tryz.f23, Tryz.func23, comp_23⟩) (tab_cons (.inl ⟨Tryz.f27, Tryz.func27, comp_27⟩) (tab_cons (.inl ⟨Tryz.f28, Tryz.func28, comp_28⟩) (tab_cons (.inl ⟨Tryz.f29, Tryz.func29, comp_29⟩) (tab_cons (.inl ⟨Tryz.f31, Tryz.func31, comp_31⟩) (tab_cons (.inl ⟨Tryz.f35, Tryz.func35, comp_35⟩) (tab_cons (.inl ⟨Tryz.f36, Tryz.func36, comp_36⟩) (tab_cons (.inl ⟨Tryz.f37, Tryz.func37, comp_37⟩) (tab_cons (.inl ⟨Tryz.f38, Tryz.func38, comp_38⟩) (tab_cons (.inl ⟨Tryz.f39, Tryz.func39, comp_39⟩) (tab_cons (.inl ⟨Tryz.f40, Tryz.func40, comp_40⟩) (tab_cons (.inl ⟨Tryz.f45, Tryz.func45, comp_45⟩) (tab_cons (.inl ⟨Tryz.f46, Tryz.func46, comp_46⟩) (tab_cons (.inl ⟨Tryz.f47, Tryz.func47, comp_47⟩) (tab_cons (.inl ⟨Tryz.f48, Tryz.func48, comp_48⟩) (tab_cons (.inl ⟨Tryz.f49, Tryz.func49, comp_49⟩) (tab_cons (.inl ⟨Tryz.f50, Tryz.func50, comp_50⟩) (tab_cons (.inl ⟨Tryz.f51, Tryz.func51, comp_51⟩) (tab_cons (.inl ⟨Tryz.f52, Tryz.func52, comp_52⟩) (tab_cons (.inl ⟨Tryz.f53, Tryz.func53, comp_53⟩) (tab_cons (.inl ⟨Tryz.f54, Tryz.func54, comp_54⟩) (tab_cons (.inl ⟨Tryz.f55, Tryz.func55, comp_55⟩) (tab_cons (.inl ⟨Tryz.f56, Tryz.func56, comp_56⟩) (tab_cons (.inl ⟨Tryz.f57, Tryz.func57, comp_57⟩) (tab_cons (.inl ⟨Tryz.f58, Tryz.func58, comp_58⟩) (tab_cons (.inl ⟨Tryz.f59, Tryz.func59, comp_59⟩) (tab_cons (.inl ⟨Tryz.f60, Tryz.func60, comp_60⟩) (tab_cons (.inl ⟨Tryz.f61, Tryz.func61, comp_61⟩) (tab_cons (.inl ⟨Tryz.f64, Tryz.func64, comp_64⟩) (tab_cons (.inl ⟨Tryz.f65, Tryz.func65, comp_65⟩) (tab_cons (.inl ⟨Tryz.f66, Tryz.func66, comp_66⟩) (tab_cons (.inl ⟨Tryz.f68, Tryz.func68, comp_68⟩) (tab_cons (.inl ⟨Tryz.f69, Tryz.func69, comp_69⟩) (tab_cons (.inl ⟨Tryz.f70, Tryz.func70, comp_70⟩) (tab_cons (.inl ⟨Tryz.f71, Tryz.func71, comp_71⟩) (tab_cons (.inl ⟨Tryz.f72, Tryz.func72, comp_72⟩) (tab_cons (.inl ⟨Tryz.f73, Tryz.func73, comp_73⟩) (tab_cons (.inl ⟨Tryz.f74, Tryz.func74, comp_74⟩) (tab_cons (.inl ⟨Tryz.f75, Tryz.func75, comp_75⟩) (tab_cons (.inl ⟨Tryz.f76, Tryz.func76, comp_76⟩) (tab_cons (.inl ⟨Tryz.f80, Tryz.func80, comp_80⟩) (tab_cons (.inl ⟨Tryz.f81, Tryz.func81, comp_81⟩) (tab_cons (.inl ⟨Tryz.f82, Tryz.func82, comp_82⟩) (tab_cons (.inl ⟨Tryz.f83, Tryz.func83, comp_83⟩) (tab_cons (.inl ⟨Tryz.f84, Tryz.func84, comp_84⟩) (tab_cons (.inl ⟨Tryz.f85, Tryz.func85, comp_85⟩) (tab_cons (.inl ⟨Tryz.f87, Tryz.func87, comp_87⟩) (tab_cons (.inl ⟨Tryz.f90, Tryz.func90, comp_90⟩) (tab_cons (.inl ⟨Tryz.f91, Tryz.func91, comp_91⟩) (tab_cons (.inl ⟨Tryz.f92, Tryz.func92, comp_92⟩) (tab_cons (.inl ⟨Tryz.f93, Tryz.func93, comp_93⟩) (tab_cons (.inl ⟨Tryz.f94, Tryz.func94, comp_94⟩) (tab_cons (.inl ⟨Tryz.f95, Tryz.func95, comp_95⟩) (tab_cons (.inl ⟨Tryz.f96, Tryz.func96, comp_96⟩) (tab_cons (.inl ⟨Tryz.f97, Tryz.func97, comp_97⟩) (tab_cons (.inl ⟨Tryz.f98, Tryz.func98, comp_98⟩) (tab_cons (.inl ⟨Tryz.f99, Tryz.func99, comp_99⟩) (tab_cons (.inl ⟨Tryz.f100, Tryz.func100, comp_100⟩) (tab_cons (.inl ⟨Tryz.f103, Tryz.func103, comp_103⟩) (tab_cons (.inl ⟨Tryz.f104, Tryz.func104, comp_104⟩) (tab_cons (.inl ⟨Tryz.f105, Tryz.func105, comp_105⟩) (tab_cons (.inl ⟨Tryz.f106, Tryz.func106, comp_106⟩) (tab_cons (.inl ⟨Tryz.f107, Tryz.func107, comp_107⟩) (tab_cons (.inl ⟨Tryz.f108, Tryz.func108, comp_108⟩) (tab_cons (.inl ⟨Tryz.f109, Tryz.func109, comp_109⟩) (tab_cons (.inl ⟨Tryz.f110, Tryz.func110, comp_110⟩) (tab_cons (.inl ⟨Tryz.f111, Tryz.func111, comp_111⟩) (tab_cons (.inl ⟨Tryz.f112, Tryz.func112, comp_112⟩) (tab_cons (.inl ⟨Tryz.f113, Tryz.func113, comp_113⟩) (tab_cons (.inl ⟨Tryz.f114, Tryz.func114, comp_114⟩) (tab_cons (.inl ⟨Tryz.f115, Tryz.func115, comp_115⟩) (tab_cons (.inl ⟨Tryz.f116, Tryz.func116, comp_116⟩) (tab_cons (.inl ⟨Tryz.f117, Tryz.func117, comp_117⟩) (tab_cons (.inl ⟨Tryz.f118, Tryz.func118, comp_118⟩) (tab_cons (.inl ⟨Tryz.f122, Tryz.func122, comp_122⟩) (tab_cons (.inl ⟨Tryz.f126, Tryz.func126, comp_126⟩) (tab_cons (.inl ⟨Tryz.f127, Tryz.func127, comp_127⟩) (tab_cons (.inl ⟨Tryz.f128, Tryz.func128, comp_128⟩) (tab_cons (.inl ⟨Tryz.f129, Tryz.func129, comp_129⟩) (tab_cons (.inl ⟨Tryz.f130, Tryz.func130, comp_130⟩) (tab_cons (.inl ⟨Tryz.f131, Tryz.func131, comp_131⟩) (tab_cons (.inr ⟨rfl, rfl⟩) (tab_cons (.inl ⟨Tryz.f134, Tryz.func134, comp_134⟩) (tab_cons (.inl ⟨Tryz.f135, Tryz.func135, comp_135⟩) (tab_cons (.inl ⟨Tryz.f136, Tryz.func136, comp_136⟩) (tab_cons (.inl ⟨Tryz.f137, Tryz.func137, comp_137⟩) (tab_cons (.inl ⟨Tryz.f138, Tryz.func138, comp_138⟩) (tab_cons (.inl ⟨Tryz.f139, Tryz.func139, comp_139⟩) (tab_cons (.inl ⟨Tryz.f140, Tryz.func140, comp_140⟩) (tab_cons (.inl ⟨Tryz.f141, Tryz.func141, comp_141⟩) (tab_cons (.inl ⟨Tryz.f142, Tryz.func142, comp_142⟩) (tab_cons (.inl ⟨Tryz.f143, Tryz.func143, comp_143⟩) (tab_cons (.inl ⟨Tryz.f144, Tryz.func144, comp_144⟩) (tab_cons (.inl ⟨Tryz.f145, Tryz.func145, comp_145⟩) (tab_cons (.inl ⟨Tryz.f146, Tryz.func146, comp_146⟩) (tab_cons (.inl ⟨Tryz.f147, Tryz.func147, comp_147⟩) (tab_cons (.inl ⟨Tryz.f149, Tryz.func149, comp_149⟩) (tab_cons (.inl ⟨Tryz.f150, Tryz.func150, comp_150⟩) (tab_cons (.inl ⟨Tryz.f151, Tryz.func151, comp_151⟩) (tab_cons (.inl ⟨Tryz.f153, Tryz.func153, comp_153⟩) (tab_cons (.inl ⟨Tryz.f155, Tryz.func155, comp_155⟩) (tab_cons (.inl ⟨Tryz.f156, Tryz.func156, comp_156⟩) (tab_cons (.inl ⟨Tryz.f157, Tryz.func157, comp_157⟩) (tab_cons (.inl ⟨Tryz.f161, Tryz.func161, comp_161⟩) (tab_cons (.inl ⟨Tryz.f162, Tryz.func162, comp_162⟩) (tab_cons (.inl ⟨Tryz.f163, Tryz.func163, comp_163⟩) (tab_cons (.inl ⟨Tryz.f164, Tryz.func164, comp_164⟩) (tab_cons (.inl ⟨Tryz.f166, Tryz.func166, comp_166⟩) (tab_cons (.inl ⟨Tryz.f167, Tryz.func167, comp_167⟩) (tab_cons (.inl ⟨Tryz.f168, Tryz.func168, comp_168⟩) (tab_cons (.inl ⟨Tryz.f169, Tryz.func169, comp_169⟩) (tab_cons (.inl ⟨Tryz.f170, Tryz.func170, comp_170⟩) (tab_cons (.inl ⟨Tryz.f171, Tryz.func171, comp_171⟩) (tab_cons (.inl ⟨Tryz.f172, Tryz.func172, comp_172⟩) (tab_cons (.inl ⟨Tryz.f173, Tryz.func173, comp_173⟩) (tab_cons (.inl ⟨Tryz.f174, Tryz.func174, comp_174⟩) (tab_cons (.inl ⟨Tryz.f175, Tryz.func175, comp_175⟩) (tab_cons (.inl ⟨Tryz.f176, Tryz.func176, comp_176⟩) (tab_cons (.inl ⟨Tryz.f177, Tryz.func177, comp_177⟩) (tab_cons (.inl ⟨Tryz.f180, Tryz.func180, comp_180⟩) (tab_cons (.inl ⟨Tryz.f181, Tryz.func181, comp_181⟩) (tab_cons (.inl ⟨Tryz.f184, Tryz.func184, comp_184⟩) (tab_cons (.inl ⟨Tryz.f189, Tryz.func189, comp_189⟩) (tab_cons (.inl ⟨Tryz.f193, Tryz.func193, comp_193⟩) (tab_cons (.inl ⟨Tryz.f201, Tryz.func201, comp_201⟩) tab_nil)))))))))))))))))))))))))))))))))))))))))))))))))))))))))))))))))))))))))))))))))))))))))))))))))))))))))))))))))))))))))))))))))))))))))
theorem table_but : ∀ f F, T f = some F → (∃ fn, Tryz.prog.funcs[f]? = some fn ∧ compFunc Tryz.prog 4 fn = some F) ∨ (f = 132 ∧ F = F132) := fun f F h => table_all (f, F) (tab_mem h)

end Go.Proofs.YtblhcbmcbhoeiaaGreatDoor.Ev
end

section
/- What the functions of a memory (words, and how often they were asked) come to. -/
namespace Go.Proofs.YtblhcbmcbhoeiaaGreatDoor.Ev
set_option linter.unusedSimpArgs false
set_option linter.unusedVariables false
open Go
set_option maxRecDepth 100000

def wordsA (ws : List Int) : List AV := ws.map (.int .u64 ·)
@[simp] theorem wordsA_len {ws : List Int} : (wordsA ws).length = ws.length := by simp [wordsA]
/-- A word. -/
def wd (ws : List Int) (k : Nat) : Int := ws.getD k 0
theorem words_get {ws : List Int} {k : Nat} (hk : k < ws.length) : (wordsA ws)[k]? = some (.int .u64 (wd ws k)) := by simp [wordsA, wd, hk]
theorem words_set {ws : List Int} {k : Nat} {x : Int} (hk : k < ws.length) : splice (wordsA ws) k [.int .u64 x] = wordsA (ws.set k x) := by
  rw [splice_one (by simpa using hk)]
  simp [wordsA, List.map_set]
theorem wd_set {ws : List Int} {k j : Nat} {x : Int} (hk : k < ws.length) : wd (ws.set k x) j = if j = k then x else wd ws j := by
  simp only [wd, List.getD_eq_getElem?_getD]
  by_cases h : j = k
  · subst h
    simp [hk]
  · rw [if_neg h, List.getElem?_set_ne (Ne.symm h)]

/-- A memory that lies at object i, its words at object j. -/
def MemAt (h : AHeap) (i j : Nat) (ws : List Int) (cnt : Int) : Prop :=
  i ≠ j ∧ ∃ c ri rj, h.get i = some (.cells false [.slice j 0 ws.length c, .int .i64 cnt] ri) ∧ h.get j = some (.cells false (wordsA ws) rj) ∧ h.within ws.length c = true

theorem MemAt.keep {h h' : AHeap} {i j : Nat} {ws : List Int} {cnt : Int} {G : List Nat} (m : MemAt h i j ws cnt) (k : Keep G h h') (hi : i ∉ G) (hj : j ∉ G) : MemAt h' i j ws cnt := by
  obtain ⟨ne, c, ri, rj, h1, h2, h3⟩ := m
  exact ⟨ne, c, ri, rj, k.obj h1 hi, k.obj h2 hj, within_keep h3 k⟩
theorem MemAt.lt {h : AHeap} {i j : Nat} {ws : List Int} {cnt : Int} (m : MemAt h i j ws cnt) : i < h.size ∧ j < h.size := by
  obtain ⟨ne, c, ri, rj, h1, h2, h3⟩ := m
  exact ⟨get_lt h1, get_lt h2⟩

abbrev up (cnt : Int) : Int := IntKind.wrap .i64 (cnt + 1)

section
variable {h : AHeap} {i j : Nat} {ws : List Int} {cnt k : Int}

theorem mem_len_nil (h : AHeap) : run T 122 [.nilptr] h = some (.int .i64 0, h) := by
  refine run_eq T_122 ?_
  simp [F122]

theorem mem_len (m : MemAt h i j ws cnt) : run T 122 [.ptr i 0] h = some (.int .i64 ws.length, h) := by
  obtain ⟨ne, c, ri, rj, h1, h2, h3⟩ := m
  refine run_eq T_122 ?_
  simp [F122, h1]

theorem mem_at (m : MemAt h i j ws cnt) (h0 : 0 ≤ k) (hk : k < ws.length) : ∃ h', run T 81 [.ptr i 0, .int .i64 k] h = some (.ptr j k.toNat, h') ∧ MemAt h' i j ws (up cnt) ∧ Keep [i] h h' := by
  have el := mem_len m
  obtain ⟨ne, c, ri, rj, h1, h2, h3⟩ := m
  refine ⟨h.put i (.cells false [.slice j 0 ws.length c, .int .i64 (up cnt)] ri), run_eq T_81 ?_, ⟨ne, c, ri, rj, by rw [get_put_same, h1]; rfl, by rw [get_put_ne (Ne.symm ne), h2], h3⟩, Keep.put (by simp)⟩
  simp [F81, el, h1, Int.not_le.2 hk, hk, Int.not_lt.2 h0, h0, idxAddrV, up]

/-- There is no such word. -/
def NoAt (p : AV) (k : Int) (h : AHeap) : Prop := run T 81 [p, .int .i64 k] h = some (.nilptr, h)
theorem noAt_nil (h : AHeap) (k : Int) : NoAt .nilptr k h := by
  have el := mem_len_nil h
  refine run_eq T_81 ?_
  by_cases h0 : k < 0
  · simp [F81, h0]
  · simp [F81, h0, el, show 0 ≤ k by omega]
theorem noAt_out (m : MemAt h i j ws cnt) (hk : k < 0 ∨ ws.length ≤ k) : NoAt (.ptr i 0) k h := by
  have el := mem_len m
  refine run_eq T_81 ?_
  by_cases h0 : k < 0
  · simp [F81, h0]
  · simp [F81, h0, el, show (ws.length : Int) ≤ k by omega]

theorem mem_put {h1 : AHeap} (m : MemAt h1 i j ws cnt) {n : Nat} (hn : n < ws.length) (x : Int) : h1.write j n [.int .u64 x] = some (h1.put j (.cells false (wordsA (ws.set n x)) (match h1.get j with | some (.cells _ _ r) => r | _ => none))) ∧ MemAt (h1.put j (.cells false (wordsA (ws.set n x)) (match h1.get j with | some (.cells _ _ r) => r | _ => none))) i j (ws.set n x) cnt := by
  obtain ⟨ne, c, ri, rj, h1', h2, h3⟩ := m
  simp only [h2]
  refine ⟨?_, ne, c, ri, rj, by rw [get_put_ne ne, h1', List.length_set], by rw [get_put_same, h2]; rfl, by rw [List.length_set]; exact h3⟩
  simp only [write_eq, h2, writeOf_some]
  rw [if_pos ⟨by simp; omega, rfl⟩, words_set hn]

theorem load_mem (m : MemAt h i j ws cnt) (h0 : 0 ≤ k) (hk : k < ws.length) : ∃ h', run T 37 [.ptr i 0, .int .i64 k] h = some (.int .u64 (wd ws k.toNat), h') ∧ MemAt h' i j ws (up cnt) ∧ Keep [i, j] h h' := by
  obtain ⟨h1, e1, m1, k1⟩ := mem_at m h0 hk
  refine ⟨h1, run_eq T_37 ?_, m1, k1.mono (by simp)⟩
  obtain ⟨ne, c, ri, rj, g1, g2, g3⟩ := m1
  have hw := words_get (ws := ws) (k := k.toNat) (by omega)
  simp [-getElem?_pos, F37, e1, g2, hw]

theorem store_mem (m : MemAt h i j ws cnt) (h0 : 0 ≤ k) (hk : k < ws.length) (x : Int) : ∃ h', run T 157 [.ptr i 0, .int .i64 k, .int .u64 x] h = some (.bool true, h') ∧ MemAt h' i j (ws.set k.toNat x) (up cnt) ∧ Keep [i, j] h h' := by
  obtain ⟨h1, e1, m1, k1⟩ := mem_at m h0 hk
  obtain ⟨e2, m2⟩ := mem_put m1 (n := k.toNat) (by omega) x
  refine ⟨_, run_eq T_157 ?_, m2, (k1.mono (by simp)).trans' (Keep.put (by simp))⟩
  simp only [write_eq] at e2
  simp [F157, e1, e2]

theorem swap_mem (m : MemAt h i j ws cnt) (h0 : 0 ≤ k) (hk : k < ws.length) (x y : Int) : ∃ h', run T 97 [.ptr i 0, .int .i64 k, .int .u64 x, .int .u64 y] h = some (.bool (decide (wd ws k.toNat = x)), h') ∧ MemAt h' i j (if wd ws k.toNat = x then ws.set k.toNat y else ws) (up cnt) ∧ Keep [i, j] h h' := by
  obtain ⟨h1, e1, m1, k1⟩ := mem_at m h0 hk
  have m1' := m1
  obtain ⟨ne, c, ri, rj, g1, g2, g3⟩ := m1'
  have hw := words_get (ws := ws) (k := k.toNat) (by omega)
  by_cases hx : wd ws k.toNat = x
  · rw [if_pos hx]
    obtain ⟨e2, m2⟩ := mem_put m1 (n := k.toNat) (by omega) y
    refine ⟨_, run_eq T_97 ?_, m2, (k1.mono (by simp)).trans' (Keep.put (by simp))⟩
    simp only [write_eq, g2] at e2
    simp [-getElem?_pos, F97, e1, g2, hw, hx, e2]
  · rw [if_neg hx]
    refine ⟨h1, run_eq T_97 ?_, m1, k1.mono (by simp)⟩
    simp [-getElem?_pos, F97, e1, g2, hw, hx]

theorem add_mem (m : MemAt h i j ws cnt) (h0 : 0 ≤ k) (hk : k < ws.length) (d : Int) : ∃ h', run T 115 [.ptr i 0, .int .i64 k, .int .i64 d] h = some (.int .u64 ((wd ws k.toNat + d) % 18446744073709551616), h') ∧ MemAt h' i j (ws.set k.toNat ((wd ws k.toNat + d) % 18446744073709551616)) (up cnt) ∧ Keep [i, j] h h' := by
  obtain ⟨h1, e1, m1, k1⟩ := mem_at m h0 hk
  have m1' := m1
  obtain ⟨ne, c, ri, rj, g1, g2, g3⟩ := m1'
  have hw := words_get (ws := ws) (k := k.toNat) (by omega)
  obtain ⟨e2, m2⟩ := mem_put m1 (n := k.toNat) (by omega) ((wd ws k.toNat + d) % 18446744073709551616)
  refine ⟨_, run_eq T_115 ?_, m2, (k1.mono (by simp)).trans' (Keep.put (by simp))⟩
  obtain ⟨_, c2, ri2, rj2, q1, q2, q3⟩ := m2
  have hw2 := words_get (ws := ws.set k.toNat ((wd ws k.toNat + d) % 18446744073709551616)) (k := k.toNat) (by simp; omega)
  rw [wd_set (by omega), if_pos rfl] at hw2
  have hx : IntKind.wrap .u64 (wd ws k.toNat + IntKind.wrap .u64 d) = (wd ws k.toNat + d) % 18446744073709551616 := by rw [wrap_u64, wrap_u64]; omega
  simp only [write_eq, g2] at e2
  simp [-getElem?_pos, F115, e1, g2, hw, hx, e2, hw2]

theorem new_mem (h : AHeap) (n : Int) : ∃ h' i j, run T 49 [.int .i64 n] h = some (.ptr i 0, h') ∧ MemAt h' i j (List.replicate (min (max 0 n) 65536).toNat 0) 0 ∧ Keep [] h h' ∧ h.size ≤ i ∧ h.size ≤ j := by
  obtain ⟨m, hm⟩ : ∃ m : Nat, min (max 0 n) 65536 = (m : Int) := ⟨(min (max 0 n) 65536).toNat, by omega⟩
  rw [hm, Int.toNat_natCast]
  have hb : (m : Int) * 8 ≤ bigA ∧ m ≤ bigA := by simp only [bigA]; omega
  refine ⟨(h.push (.cells false (wordsA (List.replicate m 0)) none)).push (.cells false [.slice h.size 0 m (.exact m), .int .i64 0] none), h.size + 1, h.size, run_eq T_49 ?_, ⟨by omega, .exact m, none, none, ?_, ?_, by simp [AHeap.within]⟩, Keep.push.trans' Keep.push, by omega, by omega⟩
  · simp [F49, hm, hb, rep_one, wordsA]
  · rw [List.length_replicate, ← size_push (h := h) (x := .cells false (wordsA (List.replicate m 0)) none), get_push_new]
  · exact get_push_old get_push_new

section
variable {p : AV} {k : Int} {h : AHeap} (n : NoAt p k h)
include n
theorem load_no : run T 37 [p, .int .i64 k] h = some (.int .u64 0, h) := by
  have e : run T 81 [p, .int .i64 k] h = some (.nilptr, h) := n
  refine run_eq T_37 ?_
  simp [F37, e]
theorem store_no (x : Int) : run T 157 [p, .int .i64 k, .int .u64 x] h = some (.bool false, h) := by
  have e : run T 81 [p, .int .i64 k] h = some (.nilptr, h) := n
  refine run_eq T_157 ?_
  simp [F157, e]
theorem swap_no (x y : Int) : run T 97 [p, .int .i64 k, .int .u64 x, .int .u64 y] h = some (.bool false, h) := by
  have e : run T 81 [p, .int .i64 k] h = some (.nilptr, h) := n
  refine run_eq T_97 ?_
  simp [F97, e]
theorem add_no (d : Int) : run T 115 [p, .int .i64 k, .int .i64 d] h = some (.int .u64 0, h) := by
  have e : run T 81 [p, .int .i64 k] h = some (.nilptr, h) := n
  refine run_eq T_115 ?_
  simp [F115, e]
end
end

end Go.Proofs.YtblhcbmcbhoeiaaGreatDoor.Ev
end

section
/- What the functions of statuses come to. -/
namespace Go.Proofs.YtblhcbmcbhoeiaaGreatDoor.Ev
set_option linter.unusedSimpArgs false
set_option linter.unusedVariables false
open Go
set_option maxRecDepth 100000

structure NextAt (h : AHeap) : Prop where
  g : h.get 0 = some globN
  r : ∀ (k : Nat) vs, nextRows[k]? = some vs → h.get (4 + k) = some (rowO .u64 vs)

theorem NextAt.keep {h h' : AHeap} {G : List Nat} (n : NextAt h) (k : Keep G h h') (hG : ∀ t ∈ G, 11 ≤ t) : NextAt h' := by
  refine ⟨k.obj n.g (fun hm => by have := hG 0 hm; omega), fun j vs hj => k.obj (n.r j vs hj) (fun hm => ?_)⟩
  have := hG _ hm
  have := (List.getElem?_eq_some_iff.1 hj).1
  simp [nextRows] at this
  omega

theorem nextAt_start {x1 x2 : AObj} {args : List AObj} : NextAt (heapA globN x1 x2 args) := by
  refine ⟨rfl, fun k vs hk => ?_⟩
  match k with
  | 0 => cases hk; rfl
  | 1 => cases hk; rfl
  | 2 => cases hk; rfl
  | 3 => cases hk; rfl
  | 4 => cases hk; rfl
  | 5 => cases hk; rfl
  | 6 => cases hk; rfl
  | k + 7 => simp [nextRows] at hk

section
variable {h : AHeap} {xs : List Int} {F : List Nat} {s : AV}

def IndexS (h : AHeap) (xs : List Int) (s : AV) (x : Int) (n : Nat) (fr : FF) (g : AHeap) : Prop := ∃ c : Nat, c + n = xs.length ∧ g = h ∧ (∀ t < c, xs[t]? ≠ some x) ∧ fr.get 0 = s ∧ fr.get 1 = .int .u64 x ∧ fr.get 7 = .int .i64 xs.length ∧ fr.get 8 = .int .i64 c

theorem indexS_ok (v : View h 1 (wordsA xs) F s) (hb : xs.length ≤ 1000000) (x : Int) : ∃ r, run T 162 [s, .int .u64 x] h = some (.int .i64 r, h) ∧ (0 ≤ r ↔ x ∈ xs) := by
  have hl := v.len1
  simp at hl
  suffices hw : ∃ v' h', run T 162 [s, .int .u64 x] h = some (v', h') ∧ ((0 ≤ (match v' with | .int _ r => r | _ => 0) ↔ x ∈ xs) ∧ (∃ r, v' = .int .i64 r) ∧ h' = h) by
    obtain ⟨v', h', e, h1, ⟨r, rfl⟩, rfl⟩ := hw
    exact ⟨r, e, h1⟩
  refine run_wp T_162 ?_
  simp [F162, hl]
  refine Wp.loop (IndexS h xs s x) xs.length (lt_rounds (by omega)) ?_ ?_
  · exact ⟨0, by simp, rfl, by simp, by simp⟩
  rintro n fr g ⟨c, hc, rfl, hne, s0, s1, s7, s8⟩
  by_cases hcl : c < xs.length
  · have hg : (wordsA xs)[c]? = some (.int .u64 xs[c]) := by simp [wordsA, hcl]
    obtain ⟨j, o, h1, h2, h3⟩ := v.idx1 hg
    by_cases hx : x = xs[c]
    · simp [s0, s1, s7, s8, hcl, h1, h3, ← hx]
      rw [hx]
      exact List.getElem_mem hcl
    · simp [s0, s1, s7, s8, hcl, h1, h3, hx]
      refine ⟨n - 1, by omega, c + 1, by omega, rfl, fun t ht => ?_, by simp [s0, s1, s7, s8, wrap_nat (c := c) (by omega)]⟩
      rcases Nat.lt_succ_iff_lt_or_eq.1 ht with ht | rfl
      · exact hne t ht
      · rw [List.getElem?_eq_getElem hcl]
        simpa using Ne.symm hx
  · have hcx : c = xs.length := by omega
    simp [s0, s1, s7, s8, hcl]
    intro hm
    obtain ⟨t, ht, he⟩ := List.getElem_of_mem hm
    exact hne t (by omega) (by rw [List.getElem?_eq_getElem ht, he])

theorem containsS_ok (v : View h 1 (wordsA xs) F s) (hb : xs.length ≤ 1000000) (x : Int) : run T 128 [s, .int .u64 x] h = some (.bool (decide (x ∈ xs)), h) := by
  obtain ⟨r, e, hr⟩ := indexS_ok v hb x
  refine run_eq T_128 ?_
  simp [F128, e, hr]
end

theorem rowO_view {h : AHeap} {i : Nat} {vs : List Int} (hi : h.get i = some (rowO .u64 vs)) : ∃ F, View h 1 (wordsA vs) F (.slice i 0 vs.length (.exact vs.length)) := by
  cases vs with
  | nil => exact ⟨[], .zero rfl (by simp [AHeap.within])⟩
  | cons v vs => exact ⟨[i], .mk (ro := true) (body := (v :: vs).map (.int .u64 ·)) (room := none) hi (by simp) (by simp [wordsA]; rw [List.take_of_length_le (by simp)]) (by simp [AHeap.within])⟩

/-- Is a step legal? -/
def legalB (a b : Int) : Bool := decide (a < 7) && decide (b ∈ nextRows.getD a.toNat [])

theorem legal_ok {h : AHeap} (n : NextAt h) {a b : Int} (ha : 0 ≤ a) : run T 96 [.int .u64 a, .int .u64 b] h = some (.bool (legalB a b), h) := by
  refine run_eq T_96 ?_
  by_cases h7 : a < 7
  · obtain ⟨k, rfl⟩ : ∃ k : Nat, a = k := ⟨a.toNat, by omega⟩
    have hk : k < 7 := by omega
    obtain ⟨vs, hvs⟩ : ∃ vs, nextRows[k]? = some vs := ⟨_, List.getElem?_eq_getElem (show k < nextRows.length from hk)⟩
    obtain ⟨F, v⟩ := rowO_view (n.r k vs hvs)
    have hlen : vs.length ≤ 5 := by
      match k, hk, hvs with
      | 0, _, hvs => cases hvs; decide
      | 1, _, hvs => cases hvs; decide
      | 2, _, hvs => cases hvs; decide
      | 3, _, hvs => cases hvs; decide
      | 4, _, hvs => cases hvs; decide
      | 5, _, hvs => cases hvs; decide
      | 6, _, hvs => cases hvs; decide
      | k + 7, h, _ => omega
    have ec := containsS_ok v (by omega) b
    have hcell : cellOf (h.get 0) k = some (.slice (4 + k) 0 vs.length (.exact vs.length)) := by
      rw [n.g]
      match k, hk, hvs with
      | 0, _, hvs => cases hvs; rfl
      | 1, _, hvs => cases hvs; rfl
      | 2, _, hvs => cases hvs; rfl
      | 3, _, hvs => cases hvs; rfl
      | 4, _, hvs => cases hvs; rfl
      | 5, _, hvs => cases hvs; rfl
      | 6, _, hvs => cases hvs; rfl
      | k + 7, h, _ => omega
    have hlg : legalB (k : Int) b = decide (b ∈ vs) := by
      have hgd : nextRows.getD k [] = vs := by rw [List.getD_eq_getElem?_getD, hvs]; rfl
      simp [legalB, h7, hvs]
    have hidx : idxAddrV 1 (some 7) (.ptr 0 0) (.int .u64 (k : Int)) = some (.ptr 0 k) := by
      simp only [idxAddrV]
      rw [if_pos (by omega)]
      simp
    rw [hlg]
    simp [F96, h7, hidx, hcell, ec]
  · have : legalB a b = false := by simp [legalB, h7]
    rw [this]
    simp [F96, h7]

theorem legal_facts {a b : Int} (ha : 0 ≤ a) (h : legalB a b = true) : a < 6 ∧ 1 ≤ b ∧ b ≤ 6 ∧ a ≠ b := by
  simp only [legalB, Bool.and_eq_true, decide_eq_true_eq] at h
  obtain ⟨h7, hm⟩ := h
  obtain ⟨k, rfl⟩ : ∃ k : Nat, a = k := ⟨a.toNat, by omega⟩
  have hk : k < 7 := by omega
  simp only [Int.toNat_natCast] at hm
  match k, hk, hm with
  | 0, _, hm => simp [nextRows] at hm; omega
  | 1, _, hm => simp [nextRows] at hm; omega
  | 2, _, hm => simp [nextRows] at hm; omega
  | 3, _, hm => simp [nextRows] at hm; omega
  | 4, _, hm => simp [nextRows] at hm; omega
  | 5, _, hm => simp [nextRows] at hm; omega
  | 6, _, hm => simp [nextRows] at hm
  | k + 7, h, _ => omega

abbrev tblA (F N : Nat) : AV := .agg [.int .i64 (F : Int), .int .i64 (N : Int)]

section
variable {h : AHeap} {i j F N : Nat} {ws : List Int} {cnt g a b : Int}

theorem in_ok' (h : AHeap) (F N : Nat) (g : Int) : ∃ h', run T 95 [tblA F N, .int .i64 g] h = some (.bool (decide (0 ≤ g ∧ g < N)), h') ∧ Keep [] h h' := by
  refine ⟨h.push (.cells false [.int .i64 (F : Int), .int .i64 (N : Int)] none), run_eq T_95 ?_, Keep.push⟩
  by_cases h0 : 0 ≤ g
  · by_cases h1 : g < N
    · simp [F95, h0, h1]
    · simp [F95, h0, h1]
  · simp [F95, h0]

theorem of_out (h : AHeap) (p : AV) (hg : ¬ (0 ≤ g ∧ g < N)) : ∃ h', run T 61 [tblA F N, p, .int .i64 g] h = some (.int .u64 0, h') ∧ Keep [] h h' := by
  have kp : Keep [] h (h.push (.cells false [.int .i64 (F : Int), .int .i64 (N : Int)] none)) := Keep.push
  obtain ⟨h1, e1, k1⟩ := in_ok' (h.push (.cells false [.int .i64 (F : Int), .int .i64 (N : Int)] none)) F N g
  rw [decide_eq_false hg] at e1
  refine ⟨h1, run_eq T_61 ?_, kp.trans' k1⟩
  simp [F61, e1]

theorem of_in (m : MemAt h i j ws cnt) (hg : 0 ≤ g ∧ g < N) (hN : F + N ≤ ws.length) (hw : ws.length ≤ 100000) : ∃ h', run T 61 [tblA F N, .ptr i 0, .int .i64 g] h = some (.int .u64 (wd ws (F + g.toNat)), h') ∧ MemAt h' i j ws (up cnt) ∧ Keep [i, j] h h' := by
  have kp : Keep [] h (h.push (.cells false [.int .i64 (F : Int), .int .i64 (N : Int)] none)) := Keep.push
  obtain ⟨h1, e1, k1⟩ := in_ok' (h.push (.cells false [.int .i64 (F : Int), .int .i64 (N : Int)] none)) F N g
  rw [decide_eq_true hg] at e1
  have hb : h1.get h.size = some (.cells false [.int .i64 (F : Int), .int .i64 (N : Int)] none) := k1.obj get_push_new (by simp)
  obtain ⟨h2, e2, m2, k2⟩ := load_mem ((m.keep kp (by simp) (by simp)).keep k1 (by simp) (by simp)) (k := (F : Int) + g) (by omega) (by omega)
  rw [show ((F : Int) + g).toNat = F + g.toNat by omega] at e2
  have hwr : IntKind.wrap .i64 ((F : Int) + g) = (F : Int) + g := wrap_i64 (by omega) (by omega)
  refine ⟨h2, run_eq T_61 ?_, m2, ((kp.trans' k1).mono (by simp)).trans' k2⟩
  simp [F61, e1, hb, hwr, e2]

theorem move_no (n : NextAt h) (p : AV) (ha : 0 ≤ a) (hg : ¬ ((0 ≤ g ∧ g < N) ∧ legalB a b = true)) : ∃ h', run T 54 [tblA F N, p, .int .i64 g, .int .u64 a, .int .u64 b] h = some (.bool false, h') ∧ Keep [] h h' := by
  have kp : Keep [] h (h.push (.cells false [.int .i64 (F : Int), .int .i64 (N : Int)] none)) := Keep.push
  obtain ⟨h1, e1, k1⟩ := in_ok' (h.push (.cells false [.int .i64 (F : Int), .int .i64 (N : Int)] none)) F N g
  have el := legal_ok ((n.keep kp (by simp)).keep k1 (by simp)) (a := a) (b := b) ha
  refine ⟨h1, run_eq T_54 ?_, kp.trans' k1⟩
  by_cases hin : 0 ≤ g ∧ g < N
  · rw [decide_eq_true hin] at e1
    have hlg : legalB a b = false := by
      cases hx : legalB a b with
      | false => rfl
      | true => exact absurd ⟨hin, hx⟩ hg
    rw [hlg] at el
    simp [F54, e1, el]
  · rw [decide_eq_false hin] at e1
    simp [F54, e1]

theorem move_yes (n : NextAt h) (m : MemAt h i j ws cnt) (ha : 0 ≤ a) (hb : 0 ≤ b) (hg : 0 ≤ g ∧ g < N) (hl : legalB a b = true) (hN : F + N ≤ ws.length) (hw : ws.length ≤ 100000) : ∃ h', run T 54 [tblA F N, .ptr i 0, .int .i64 g, .int .u64 a, .int .u64 b] h = some (.bool (decide (wd ws (F + g.toNat) = a)), h') ∧ MemAt h' i j (if wd ws (F + g.toNat) = a then ws.set (F + g.toNat) b else ws) (up cnt) ∧ Keep [i, j] h h' := by
  have kp : Keep [] h (h.push (.cells false [.int .i64 (F : Int), .int .i64 (N : Int)] none)) := Keep.push
  obtain ⟨h1, e1, k1⟩ := in_ok' (h.push (.cells false [.int .i64 (F : Int), .int .i64 (N : Int)] none)) F N g
  rw [decide_eq_true hg] at e1
  have el := legal_ok ((n.keep kp (by simp)).keep k1 (by simp)) (a := a) (b := b) ha
  rw [hl] at el
  have hlf := legal_facts ha hl
  have hbx : h1.get h.size = some (.cells false [.int .i64 (F : Int), .int .i64 (N : Int)] none) := k1.obj get_push_new (by simp)
  obtain ⟨h2, e2, m2, k2⟩ := swap_mem ((m.keep kp (by simp) (by simp)).keep k1 (by simp) (by simp)) (k := (F : Int) + g) (by omega) (by omega) a b
  rw [show ((F : Int) + g).toNat = F + g.toNat by omega] at e2 m2
  have hwr : IntKind.wrap .i64 ((F : Int) + g) = (F : Int) + g := wrap_i64 (by omega) (by omega)
  refine ⟨h2, run_eq T_54 ?_, m2, ((kp.trans' k1).mono (by simp)).trans' k2⟩
  simp [F54, e1, el, hbx, hwr, e2]
end

/-- How many of the first words from one on are so. -/
def cntW (ws : List Int) (F : Nat) (s : Int) : Nat → Nat
  | 0 => 0
  | c + 1 => cntW ws F s c + if wd ws (F + c) = s then 1 else 0

theorem cntW_le {ws : List Int} {F : Nat} {s : Int} : ∀ c, cntW ws F s c ≤ c
  | 0 => Nat.le_refl _
  | c + 1 => by
    have := cntW_le (ws := ws) (F := F) (s := s) c
    simp only [cntW]
    split <;> omega

def CountI (g0 : AHeap) (i j L F N : Nat) (ws : List Int) (s : Int) (n : Nat) (fr : FF) (g : AHeap) : Prop := ∃ c : Nat, c + n = N ∧ (∃ cnt, MemAt g i j ws cnt) ∧ Keep [i, j] g0 g ∧ g.get L = some (.cells false [.int .i64 (F : Int), .int .i64 (N : Int)] none) ∧ fr.get 1 = .ptr i 0 ∧ fr.get 2 = .int .u64 s ∧ fr.get 3 = .ptr L 0 ∧ fr.get 7 = .int .i64 (cntW ws F s c : Int) ∧ fr.get 11 = .int .i64 (N : Int) ∧ fr.get 12 = .int .i64 c

end Go.Proofs.YtblhcbmcbhoeiaaGreatDoor.Ev
end

section
/- What the functions of events come to. -/
namespace Go.Proofs.YtblhcbmcbhoeiaaGreatDoor.Ev
set_option linter.unusedSimpArgs false
set_option linter.unusedVariables false
open Go
set_option maxRecDepth 100000

abbrev AllAt (h : AHeap) : Prop := h.get 2 = some (.cells true glob2 none)
def kindsL : List (List UInt8 × Int × Int) := [([115, 112, 97, 119, 110], 0, 1), ([114, 101, 97, 100, 121], 0, 1), ([100, 105, 115, 112, 97, 116, 99, 104], 1, 2), ([121, 105, 101, 108, 100], 2, 1), ([98, 108, 111, 99, 107], 2, 3), ([115, 108, 101, 101, 112], 2, 4), ([119, 97, 105, 116], 2, 5), ([101, 120, 105, 116], 2, 6)]

section
variable {h : AHeap}

theorem eof_no (k : Int) (hk : ¬ (0 ≤ k ∧ k < 8)) : run T 129 [.int .i64 k] h = some (.tuple [.agg [.str ⟨#[]⟩, .int .u64 0, .int .u64 0], .bool false], h.push (.cells false [.str ⟨#[]⟩, .int .u64 0, .int .u64 0] none)) := by
  refine run_eq T_129 ?_
  have hg : (h.push (.cells false [.str ⟨#[]⟩, .int .u64 0, .int .u64 0] none)).get h.size = some (.cells false [.str ⟨#[]⟩, .int .u64 0, .int .u64 0] none) := get_push_new
  by_cases h0 : k < 0
  · simp [F129, h0, hg]
  · have h8 : 8 ≤ k := by omega
    simp [F129, h0, h8, hg]

theorem eof_yes (n : Nat) {nm : List UInt8} {a b : Int} (hk : kindsL[n]? = some (nm, a, b)) (hg : AllAt h) : run T 129 [.int .i64 n] h = some (.tuple [.agg [str nm, .int .u64 a, .int .u64 b], .bool true], h.push (.cells false [str nm, .int .u64 a, .int .u64 b] none)) := by
  have hp : (h.push (.cells false [.str ⟨#[]⟩, .int .u64 0, .int .u64 0] none)).get 2 = some (.cells true glob2 none) := get_push_old hg
  refine run_eq T_129 ?_
  match n, hk with
  | 0, hk => cases hk; simp [F129, idxAddrV, hp, glob2, str]
  | 1, hk => cases hk; simp [F129, idxAddrV, hp, glob2, str]
  | 2, hk => cases hk; simp [F129, idxAddrV, hp, glob2, str]
  | 3, hk => cases hk; simp [F129, idxAddrV, hp, glob2, str]
  | 4, hk => cases hk; simp [F129, idxAddrV, hp, glob2, str]
  | 5, hk => cases hk; simp [F129, idxAddrV, hp, glob2, str]
  | 6, hk => cases hk; simp [F129, idxAddrV, hp, glob2, str]
  | 7, hk => cases hk; simp [F129, idxAddrV, hp, glob2, str]
  | n + 8, hk => simp [kindsL] at hk

/-- What an event's kind comes to. -/
def EofAt (k : Int) (nm : List UInt8) (a b : Int) (is : Bool) : Prop := (¬ (0 ≤ k ∧ k < 8) ∧ nm = [] ∧ a = 0 ∧ b = 0 ∧ is = false) ∨ ∃ n : Nat, k = n ∧ kindsL[n]? = some (nm, a, b) ∧ is = true

theorem eof_ok (k : Int) : ∃ nm a b is, EofAt k nm a b is ∧ ∀ h, AllAt h → run T 129 [.int .i64 k] h = some (.tuple [.agg [str nm, .int .u64 a, .int .u64 b], .bool is], h.push (.cells false [str nm, .int .u64 a, .int .u64 b] none)) := by
  by_cases hk : 0 ≤ k ∧ k < 8
  · obtain ⟨n, rfl⟩ : ∃ n : Nat, k = n := ⟨k.toNat, by omega⟩
    have hn : n < kindsL.length := by show n < 8; omega
    obtain ⟨⟨nm, a, b⟩, hx⟩ : ∃ x, kindsL[n]? = some x := ⟨_, List.getElem?_eq_getElem hn⟩
    exact ⟨nm, a, b, true, Or.inr ⟨n, rfl, hx, rfl⟩, fun h hg => eof_yes n hx hg⟩
  · exact ⟨[], 0, 0, false, Or.inl ⟨hk, rfl, rfl, rfl, rfl⟩, fun h hg => eof_no k hk⟩

end

end Go.Proofs.YtblhcbmcbhoeiaaGreatDoor.Ev
end

section
/- Lists of objects and their places, one behind the other. -/
namespace Go.Proofs.YtblhcbmcbhoeiaaGreatDoor.Ev
open Go
theorem zip_nil {α β : Type} {P : α × β → Prop} : ∀ p ∈ ([] : List α).zip ([] : List β), P p := fun p hp => by simp at hp
theorem zip_cons {α β : Type} {P : α × β → Prop} {a : α} {b : β} {xs : List α} {ys : List β} (h : P (a, b)) (t : ∀ p ∈ xs.zip ys, P p) : ∀ p ∈ (a :: xs).zip (b :: ys), P p := fun p hp => by
  rcases List.mem_cons.1 hp with rfl | hp
  · exact h
  · exact t p hp
theorem all_nil {P : AObj → Prop} : ∀ o ∈ ([] : List AObj), P o := fun o h => by simp at h
theorem all_cons {P : AObj → Prop} {a : AObj} {l : List AObj} (h : P a) (t : ∀ o ∈ l, P o) : ∀ o ∈ a :: l, P o := fun o ho => by
  rcases List.mem_cons.1 ho with rfl | ho
  · exact h
  · exact t o ho
end Go.Proofs.YtblhcbmcbhoeiaaGreatDoor.Ev
end

section
/- Rows of whole numbers: the library's functions on them, and the document's. -/
namespace Go.Proofs.YtblhcbmcbhoeiaaGreatDoor.Ev
set_option linter.unusedSimpArgs false
set_option linter.unusedVariables false
open Go
set_option maxRecDepth 100000

section
variable {h : AHeap} {xs ys : List Int} {F G : List Nat} {s u : AV}

theorem clone_ok (v : View h 1 (intsA xs) F s) (hb : xs.length ≤ 1000000) : ∃ s' h' F', run T 83 [s] h = some (s', h') ∧ Vec h' 1 (intsA xs) F' s' ∧ Keep [] h h' ∧ ∀ t ∈ F', h.size ≤ t := by
  have hnil : s = .nilslice ∨ ∃ j o n c, s = .slice j o n c := by cases v <;> simp
  rcases hnil with rfl | ⟨j, o, n, c, rfl⟩
  · cases v with
    | nil e =>
      refine ⟨.nilslice, h, [], run_eq T_83 ?_, .nil e, Keep.refl, by simp⟩
      simp [F83]
  · have vn : Vec (h.push (.cells false [] none)) 1 [] [h.size] (.slice h.size 0 0 (.exact 0)) := Vec.new (m := 0) get_push_new (by simp)
    obtain ⟨s', h', F', e, v', k', f'⟩ := vn.append1 (bytes := 8) (v.keep (Keep.push (F := [])) (by simp)) intsA_one (by simp [bigA]; omega) (by simp [bigA]; omega)
    refine ⟨s', h', F', run_eq T_83 ?_, by simpa using v', (Keep.push (F := [])).trans k' (by simp), fun t ht => ?_⟩
    · simp [F83, e]
    · have := f' t ht
      simp at this
      omega

def IndexI (h : AHeap) (xs : List Int) (s : AV) (x : Int) (n : Nat) (fr : FF) (g : AHeap) : Prop := ∃ c : Nat, c + n = xs.length ∧ g = h ∧ (∀ t < c, xs[t]? ≠ some x) ∧ fr.get 0 = s ∧ fr.get 1 = .int .i64 x ∧ fr.get 7 = .int .i64 xs.length ∧ fr.get 8 = .int .i64 c

theorem index_ok (v : View h 1 (intsA xs) F s) (hb : xs.length ≤ 1000000) (x : Int) : ∃ r, run T 126 [s, .int .i64 x] h = some (.int .i64 r, h) ∧ (0 ≤ r ↔ x ∈ xs) := by
  have hl := v.len1
  suffices hw : ∃ v' h', run T 126 [s, .int .i64 x] h = some (v', h') ∧ ((0 ≤ (match v' with | .int _ r => r | _ => 0) ↔ x ∈ xs) ∧ (∃ r, v' = .int .i64 r) ∧ h' = h) by
    obtain ⟨v', h', e, h1, ⟨r, rfl⟩, rfl⟩ := hw
    exact ⟨r, e, h1⟩
  refine run_wp T_126 ?_
  simp [F126, hl]
  refine Wp.loop (IndexI h xs s x) xs.length (lt_rounds (by omega)) ?_ ?_
  · exact ⟨0, by simp, rfl, by simp, by simp⟩
  rintro n fr g ⟨c, hc, rfl, hne, s0, s1, s7, s8⟩
  by_cases hcl : c < xs.length
  · obtain ⟨j, o, h1, h2, h3⟩ := v.idx1 (intsA_get hcl)
    by_cases hx : x = xs[c]
    · simp [s0, s1, s7, s8, hcl, h1, h3, ← hx]
      rw [hx]
      exact List.getElem_mem hcl
    · simp [s0, s1, s7, s8, hcl, h1, h3, hx]
      refine ⟨n - 1, by omega, c + 1, by omega, rfl, fun t ht => ?_, by simp [s0, s1, s7, s8, wrap_nat (c := c) (by omega)]⟩
      rcases Nat.lt_succ_iff_lt_or_eq.1 ht with ht | rfl
      · exact hne t ht
      · rw [List.getElem?_eq_getElem hcl]
        simpa using Ne.symm hx
  · have hcx : c = xs.length := by omega
    simp [s0, s1, s7, s8, hcl]
    intro hm
    obtain ⟨t, ht, he⟩ := List.getElem_of_mem hm
    exact hne t (by omega) (by rw [List.getElem?_eq_getElem ht, he])

theorem contains_ok (v : View h 1 (intsA xs) F s) (hb : xs.length ≤ 1000000) (x : Int) : run T 93 [s, .int .i64 x] h = some (.bool (decide (x ∈ xs)), h) := by
  obtain ⟨r, e, hr⟩ := index_ok v hb x
  refine run_eq T_93 ?_
  simp [F93, e, hr]


/-! ## The document's rows -/

def SameI (h : AHeap) (xs ys : List Int) (s u : AV) (n : Nat) (fr : FF) (g : AHeap) : Prop := ∃ c : Nat, c + n = xs.length ∧ g = h ∧ (∀ t < c, xs[t]? = ys[t]?) ∧ fr.get 0 = s ∧ fr.get 1 = u ∧ fr.get 12 = .int .i64 xs.length ∧ fr.get 13 = .int .i64 c

def TakeI (h : AHeap) (xs : List Int) (m : Int) (F : List Nat) (n : Nat) (fr : FF) (g : AHeap) : Prop := ∃ (c : Nat) (s o : AV) (G : List Nat), c + n = xs.length ∧ Keep [] h g ∧ Fresh h G ∧ (c : Int) ≤ max 0 m ∧ View g 1 (intsA (xs.drop c)) F s ∧ Vec g 1 (intsA (xs.take c)) G o ∧ fr.get 0 = s ∧ fr.get 1 = .int .i64 m ∧ fr.get 6 = o

def JoinI (h : AHeap) (pre zs : List Int) (a b i : Nat) (s u : AV) (n : Nat) (fr : FF) (g : AHeap) : Prop := ∃ (c : Nat) (o : AV) (G : List Nat), c + n = zs.length ∧ Keep [] h g ∧ Fresh h G ∧ Vec g 1 (intsA (pre ++ zs.take c)) G o ∧ fr.get a = s ∧ fr.get b = .int .i64 zs.length ∧ fr.get i = .int .i64 c ∧ fr.get 5 = o ∧ fr.get 1 = u

theorem delete_zero (v : Vec h 1 (intsA xs) F s) : run T 175 [s, .int .i64 0, .int .i64 0] h = some (s, h) := by
  have hl := v.view.len1
  have hs : ∃ s', slcV h 1 none s (some (.int .i64 0)) (some (.int .i64 0)) (some (.int .i64 xs.length)) = some s' := by
    cases v with
    | nil e =>
      have : xs = [] := by simpa [intsA] using e
      subst this
      exact ⟨.nilslice, by simp [slcV]⟩
    | @mk j o n c body room get le at_ cap =>
      have hw := cap.within
      simp at hl
      rw [← hl]
      exact ⟨_, by simp [slcV, hw]; rfl⟩
  obtain ⟨s', e⟩ := hs
  refine run_eq T_175 ?_
  simp [F175, hl, e]

theorem delete_ok (v : Vec h 1 (intsA xs) F s) (hb : xs.length ≤ 1000000) {n : Nat} (hn : n ≤ xs.length) : ∃ s' h', run T 175 [s, .int .i64 0, .int .i64 n] h = some (s', h') ∧ Vec h' 1 (intsA (xs.drop n)) F s' ∧ Keep F h h' := by
  rcases Nat.eq_zero_or_pos n with h0 | h0
  · subst h0
    exact ⟨s, h, delete_zero v, by simpa using v, Keep.refl⟩
  have hl := v.view.len1
  cases v with
  | nil e =>
    have : xs = [] := by simpa [intsA] using e
    subst this
    simp at hn
    omega
  | @mk j o N c body room get le at_ cap =>
    have hN : N = xs.length := by simpa using hl
    subst hN
    rw [Nat.mul_one] at le at_
    have hw : h.within xs.length c = true := cap.within
    obtain ⟨s2, e3, v2⟩ := (View.mk (o := o) (n := xs.length) (c := c) get (by omega) (by rw [Nat.mul_one]; exact at_) hw : View h 1 (intsA xs) [j] _).slice (by omega) (n := xs.length) (lo := some (.int .i64 n)) (hi := none) (a := n) (b := xs.length) (by simp) (by simp) (by simp) hn (Nat.le_refl _)
    rw [Nat.mul_one, Nat.mul_one, intsA_drop, intsA_take, List.take_of_length_le (by simp)] at v2
    have e1 : ∃ s', slcV h 1 none (.slice j o xs.length c) (some (.int .i64 0)) (some (.int .i64 n)) (some (.int .i64 xs.length)) = some s' := ⟨_, by simp [slcV, hw, hn]; rfl⟩
    obtain ⟨s1, e1⟩ := e1
    have e2 : slcV h 1 none (.slice j o xs.length c) none (some (.int .i64 0)) none = some (.slice j o 0 c) := by
      have := within_le hw (Nat.zero_le _)
      cases c with
      | exact m => simp [slcV, this]
      | loose k d => simp [slcV, this, Cap.less]
    have hl2 : s2.lenA = some (xs.length - n) := by rw [v2.len1]; simp
    have hf : firstCellsA h 1 (xs.length - n) s2 = some (intsA (xs.drop n)) := by rw [v2.first (by simp) (by omega), List.take_of_length_le (by simp)]
    have ha : ∃ h1 body1, appendV h 1 8 (.slice j o 0 c) s2 = some (.slice j o (xs.length - n) c, h1) ∧ h1.get j = some (.cells false body1 room) ∧ body1.length = body.length ∧ (body1.drop o).take (xs.length - n) = intsA (xs.drop n) ∧ Keep [j] h h1 := by
      have hlen2 : 0 + (xs.length - n) = xs.length - n := by omega
      have happ : appendV h 1 8 (.slice j o 0 c) s2 = if xs.length - n = 0 then some (.slice j o 0 c, h) else (h.write j (o + 0 * 1) (intsA (xs.drop n))).map fun h' => (.slice j o (0 + (xs.length - n)) c, h') := by
        simp only [appendV, lenA_slice, hl2, hf]
        rw [if_pos ⟨by simp only [bigA]; omega, by simp only [bigA]; omega, intsA_one⟩, if_pos (by rw [hlen2]; exact within_le hw (by omega))]
      rw [happ]
      by_cases hz : xs.length - n = 0
      · rw [if_pos hz, hz]
        exact ⟨h, body, rfl, get, rfl, by simp [List.drop_of_length_le (show xs.length ≤ n by omega)], Keep.refl⟩
      · rw [if_neg hz, hlen2]
        refine ⟨h.put j (.cells false (splice body o (intsA (xs.drop n))) room), _, ?_, by rw [get_put_same, get]; rfl, by simp [splice]; omega, ?_, Keep.put (by simp)⟩
        · simp [get]
          omega
        · apply List.ext_getElem?
          intro t
          by_cases ht : t < xs.length - n
          · rw [List.getElem?_take_of_lt ht, List.getElem?_drop]
            simp only [splice]
            rw [List.getElem?_append_right (by simp; omega), List.getElem?_append_left (by simp; omega)]
            congr 1
            simp
            omega
          · rw [List.getElem?_take, if_neg ht, List.getElem?_eq_none (by simp; omega)]
    obtain ⟨h1, body1, ea, get1, hlb, hb1, k1⟩ := ha
    have e4 : ∃ c3, slcV h1 1 none (.slice j o (xs.length - n) c) (some (.int .i64 ((xs.length - n : Nat) : Int))) (some (.int .i64 xs.length)) none = some (.slice j (o + (xs.length - n)) n c3) := by
      have hw1 := within_keep hw k1
      have hsub : xs.length - (xs.length - n) = n := by omega
      cases c with
      | exact m =>
        have hm : xs.length ≤ m := by simpa [AHeap.within] using hw
        have hne : ¬ m = xs.length - n := by omega
        exact ⟨.exact (m - (xs.length - n)), by simp [slcV, hw1, hsub, hne]⟩
      | loose k d => exact ⟨.loose k (d + (xs.length - n)), by simp [slcV, hw1, hsub, Cap.less]⟩
    obtain ⟨c3, e4⟩ := e4
    have e5 : clearV h1 1 [.int .i64 0] (.slice j (o + (xs.length - n)) n c3) = some (.tuple [], h1.put j (.cells false (splice body1 (o + (xs.length - n)) (List.replicate n (.int .i64 0))) room)) := by
      simp only [clearV]
      rw [if_neg (by omega), if_pos (show [AV.int .i64 0].length = 1 from rfl), rep_one]
      simp [get1]
      omega
    refine ⟨.slice j o (xs.length - n) c, h1.put j (.cells false (splice body1 (o + (xs.length - n)) (List.replicate n (.int .i64 0))) room), run_eq T_175 ?_, ?_, k1.trans' (Keep.put (by simp))⟩
    · have hne : ¬ (0 : Int) = n := by omega
      simp [F175, e1, e2, e3, ea, e4, e5, hne]
    · have hlb2 : (splice body1 (o + (xs.length - n)) (List.replicate n (.int .i64 0))).length = body.length := by simp [splice]; omega
      refine .mk (by rw [get_put_same, get1]; rfl) (by omega) ?_ ?_
      · rw [Nat.mul_one, ← hb1]
        apply List.ext_getElem?
        intro t
        by_cases ht : t < xs.length - n
        · rw [List.getElem?_take_of_lt ht, List.getElem?_take_of_lt ht, List.getElem?_drop, List.getElem?_drop]
          simp only [splice]
          rw [List.getElem?_append_left (by simp; omega), List.getElem?_take_of_lt (by omega)]
        · rw [List.getElem?_take, if_neg ht, List.getElem?_take, if_neg ht]
      · cases c with
        | exact m => exact ⟨by have := cap.1; omega, by rw [hlb2]; exact cap.2⟩
        | loose k d =>
          obtain ⟨h1', h2, lb, h3, h4, h5⟩ := cap
          exact ⟨h1', h2, lb, k1.caps _ _ h3, by rw [hlb2]; exact h4, by omega⟩

end

end Go.Proofs.YtblhcbmcbhoeiaaGreatDoor.Ev
end

section
/- What the functions of machines come to. -/
namespace Go.Proofs.YtblhcbmcbhoeiaaGreatDoor.Ev
set_option linter.unusedSimpArgs false
set_option linter.unusedVariables false
open Go
set_option maxRecDepth 100000

structure Mc where
  pl : Int
  p : Int
  g : Int
  nx : Int
  got : Int
  tg : Int
  ii : Int
  sp : Bool
  inn : Bool
  rest : List Int
  bk : Int
  af : Int
  ar : Int
  ln : Int
  ls : Int
  st : Int
  tk : Int
  tm : Int
  deriving DecidableEq

/-- A machine's cells; its rest's slice. -/
def mcA (m : Mc) (rs : AV) : List AV := [.int .i64 m.pl, .int .i64 m.p, .int .i64 m.g, .int .i64 m.nx, .int .i64 m.got, .int .i64 m.tg, .int .i64 m.ii, .bool m.sp, .bool m.inn, rs, .int .i64 m.bk, .int .i64 m.af, .int .i64 m.ar, .int .i64 m.ln, .int .i64 m.ls, .int .i64 m.st, .int .u64 m.tk, .int .i64 m.tm]

abbrev PlacesAt (h : AHeap) : Prop := h.get 1 = some (.cells true glob1 none)

/-- Whose lock each place takes. -/
def whoseL : List Int := [0, 0, 1, 2, 1, 0, 3, 1, 0, 4, 1, 1, 0, 1, 5, 1, 0, 2, 1, 0, 0, 0, 0, 1, 0, 5, 0, 1, 2, 5, 5]

theorem glob1_at : ∀ n < 31, ∃ nm : ByteArray, (glob1.drop (n * 2)).take 2 = [.str nm, .int .i64 (whoseL.getD n 0)] := by
  intro n hn
  match n, hn with
  | 0, _ | 1, _ | 2, _ | 3, _ | 4, _ | 5, _ | 6, _ | 7, _ | 8, _ | 9, _ | 10, _ | 11, _ | 12, _ | 13, _ | 14, _ | 15, _ | 16, _ | 17, _ | 18, _ | 19, _ | 20, _ | 21, _ | 22, _ | 23, _ | 24, _ | 25, _ | 26, _ | 27, _ | 28, _ | 29, _ | 30, _ => exact ⟨_, rfl⟩
  | n + 31, hn => omega

section
variable {h : AHeap}

abbrev freshM : Mc := ⟨16, -1, -1, -1, -1, -1, 0, false, false, [], 0, 0, 0, 0, 0, 0, 0, 0⟩
theorem fresh_ok (h : AHeap) : ∃ h', run T 52 [] h = some (.agg (mcA freshM .nilslice), h') ∧ Keep [] h h' := by
  refine run_val T_52 ?_
  simp [F52, mcA, splice]
  exact Keep.push

theorem place_of (hp : PlacesAt h) {n : Nat} (hn : n < 31) : ∃ (nm : ByteArray) (h' : AHeap), run T 108 [.int .i64 (n : Int)] h = some (.tuple [.agg [.str nm, .int .i64 (whoseL.getD n 0)], .bool true], h') ∧ Keep [] h h' := by
  obtain ⟨nm, hnm⟩ := glob1_at n hn
  have k1 : Keep [] h (h.push (.cells false [.str ⟨#[]⟩, .int .i64 0] none)) := Keep.push
  have g1 := k1.obj hp (by simp)
  have e1 : idxAddrV 2 (some 31) (.ptr 1 0) (.int .i64 (n : Int)) = some (.ptr 1 (n * 2)) := by simp [idxAddrV]; omega
  have hl : glob1.length = 62 := rfl
  have e2 : cellsOf ((h.push (.cells false [.str ⟨#[]⟩, .int .i64 0] none)).get 1) (n * 2) 2 = some [.str nm, .int .i64 (whoseL.getD n 0)] := by
    rw [g1, cellsOf_some, if_pos (by omega), hnm]
  have n1 : ¬ ((n : Int) < 0) := by omega
  have n2 : ¬ (31 ≤ (n : Int)) := by omega
  have n3 : ¬ 31 ≤ n := by omega
  have hz := get_push_new (h := h) (x := .cells false [.str ⟨#[]⟩, .int .i64 0] none)
  refine ⟨nm, h.push (.cells false [.str nm, .int .i64 (whoseL.getD n 0)] none), run_eq T_108 ?_, Keep.push⟩
  simp [F108, n1, n2, n3, e1, e2, -List.getD_eq_getElem?_getD]

/-- The lock of a processor's ring. -/
def ringLock (p : Int) (P : Nat) : Int := if p < 0 ∨ (P : Int) ≤ p then -1 else p + 1

theorem mring_ok (h : AHeap) (p : Int) {P : Nat} (hP : P ≤ 1000) : run T 109 [.int .i64 p, .int .i64 (P : Int)] h = some (.int .i64 (ringLock p P), h) := by
  refine run_eq T_109 ?_
  unfold ringLock
  by_cases h0 : p < 0
  · simp [F109, h0]
  · by_cases h1 : (P : Int) ≤ p
    · simp [F109, h0, h1]
    · have : IntKind.wrap .i64 (p + 1) = p + 1 := wrap_i64 (by omega) (by omega)
      simp [F109, h0, h1, this]

/-- Which lock a machine takes, by its place's kind. -/
def lockW (w : Int) (m : Mc) (P : Nat) : Int :=
  if w = 1 then 0 else if w = 5 then (P : Int) + 1 else if w = 2 then ringLock m.p P else if w = 4 then ringLock m.ii P
  else if w = 3 then (if 0 ≤ m.ii ∧ 0 < ringLock m.p P then (m.p + m.ii) % P + 1 else -1) else -1
def lockOf (m : Mc) (P : Nat) : Int := lockW (whoseL.getD m.pl.toNat 0) m P

theorem mlock_ok (hp : PlacesAt h) (m : Mc) (rs : AV) {n P : Nat} (hn : n < 31) (hm : m.pl = n) (hP : 1 ≤ P ∧ P ≤ 1000) (hi : m.ii ≤ 1000) : ∃ h', run T 72 [.agg (mcA m rs), .int .i64 (P : Int)] h = some (.int .i64 (lockOf m P), h') ∧ Keep [] h h' := by
  have k0 : Keep [] h (h.push (.cells false (mcA m rs) none)) := Keep.push
  have b0 : (h.push (.cells false (mcA m rs) none)).get h.size = some (.cells false (mcA m rs) none) := get_push_new
  obtain ⟨nm, h1, e1, k1⟩ := place_of (k0.obj hp (by simp)) hn
  rw [← hm] at e1
  have b1 := k1.obj b0 (by simp)
  have k2 := k0.trans' k1
  obtain ⟨w, hw⟩ : ∃ w, w = whoseL.getD n 0 := ⟨_, rfl⟩
  have hwr : w = 0 ∨ w = 1 ∨ w = 2 ∨ w = 3 ∨ w = 4 ∨ w = 5 := by
    rw [hw]
    match n, hn with
    | 0, _ | 1, _ | 2, _ | 3, _ | 4, _ | 5, _ | 6, _ | 7, _ | 8, _ | 9, _ | 10, _ | 11, _ | 12, _ | 13, _ | 14, _ | 15, _ | 16, _ | 17, _ | 18, _ | 19, _ | 20, _ | 21, _ | 22, _ | 23, _ | 24, _ | 25, _ | 26, _ | 27, _ | 28, _ | 29, _ | 30, _ => decide
    | n + 31, hn => omega
  have hlk : lockOf m P = lockW w m P := by
    unfold lockOf; rw [hm, hw]; rfl
  rw [← hw] at e1
  have a0 : ¬ ((P : Int) < 1) := by omega
  have a1 : ¬ P < 1 := by omega
  have a2 : ¬ P = 0 := by omega
  have e1' : run T 108 [.int .i64 m.pl] (h.push (.cells false [.int .i64 m.pl, .int .i64 m.p, .int .i64 m.g, .int .i64 m.nx, .int .i64 m.got, .int .i64 m.tg, .int .i64 m.ii, .bool m.sp, .bool m.inn, rs, .int .i64 m.bk, .int .i64 m.af, .int .i64 m.ar, .int .i64 m.ln, .int .i64 m.ls, .int .i64 m.st, .int .u64 m.tk, .int .i64 m.tm] none)) = some (.tuple [.agg [.str nm, .int .i64 w], .bool true], h1) := e1
  have b1' : h1.get h.size = some (.cells false [.int .i64 m.pl, .int .i64 m.p, .int .i64 m.g, .int .i64 m.nx, .int .i64 m.got, .int .i64 m.tg, .int .i64 m.ii, .bool m.sp, .bool m.inn, rs, .int .i64 m.bk, .int .i64 m.af, .int .i64 m.ar, .int .i64 m.ln, .int .i64 m.ls, .int .i64 m.st, .int .u64 m.tk, .int .i64 m.tm] none) := b1
  have hsz := k1.size
  simp only [size_push] at hsz
  have b2 : ∀ x, (h1.push x).get h.size = some (.cells false [.int .i64 m.pl, .int .i64 m.p, .int .i64 m.g, .int .i64 m.nx, .int .i64 m.got, .int .i64 m.tg, .int .i64 m.ii, .bool m.sp, .bool m.inn, rs, .int .i64 m.bk, .int .i64 m.af, .int .i64 m.ar, .int .i64 m.ln, .int .i64 m.ls, .int .i64 m.st, .int .u64 m.tk, .int .i64 m.tm] none) := fun x => get_push_old b1'
  rw [hlk]
  clear hlk hw hm e1
  refine run_val T_72 ?_
  have r1 := fun (g : AHeap) => mring_ok g m.p hP.2
  have r2 := fun (g : AHeap) => mring_ok g m.ii hP.2
  have kk : ∀ x, Keep [] h (h1.push x) := fun x => k2.trans' Keep.push
  rcases hwr with rfl | rfl | rfl | rfl | rfl | rfl
  · simp [F72, mcA, e1', b1', a0, a1, a2, kk, lockW]
  · simp [F72, mcA, e1', b1', a0, a1, a2, kk, lockW]
  · simp [F72, mcA, e1', b1', b2, a0, a1, a2, kk, r1, lockW]
  · by_cases c1 : 0 ≤ m.ii
    · by_cases c2 : 0 < ringLock m.p P
      · obtain ⟨i, hi'⟩ : ∃ i : Nat, m.ii = i := ⟨m.ii.toNat, by omega⟩
        have hp0 : 0 ≤ m.p ∧ m.p < P := by unfold ringLock at c2; split at c2 <;> omega
        obtain ⟨q, hq⟩ : ∃ q : Nat, m.p = q := ⟨m.p.toNat, by omega⟩
        have t1 : Int.tmod m.ii (P : Int) = m.ii % P := Int.tmod_eq_emod_of_nonneg c1
        have l1 : 0 ≤ m.ii % (P : Int) ∧ m.ii % (P : Int) < P := ⟨Int.emod_nonneg _ (by omega), Int.emod_lt_of_pos _ (by omega)⟩
        have t2 : IntKind.wrap .i64 (m.p + m.ii % P) = m.p + m.ii % P := wrap_i64 (by omega) (by omega)
        have t3 : Int.tmod (m.p + m.ii % P) (P : Int) = (m.p + m.ii % P) % P := Int.tmod_eq_emod_of_nonneg (by omega)
        have l2 : 0 ≤ (m.p + m.ii) % (P : Int) ∧ (m.p + m.ii) % (P : Int) < P := ⟨Int.emod_nonneg _ (by omega), Int.emod_lt_of_pos _ (by omega)⟩
        have t4 : IntKind.wrap .i64 ((m.p + m.ii) % P + 1) = (m.p + m.ii) % P + 1 := wrap_i64 (by omega) (by omega)
        have u1 : binV .rem (.int .i64 m.ii) (.int .i64 (P : Int)) = some (.int .i64 (m.ii % P)) := by
          rw [← t1]; simp only [binV]; rw [if_pos (by simp; omega)]
        have u2 : binV .rem (.int .i64 (m.p + m.ii % P)) (.int .i64 (P : Int)) = some (.int .i64 ((m.p + m.ii % P) % P)) := by
          rw [← t3]; simp only [binV]; rw [if_pos (by simp; omega)]
        simp [F72, mcA, e1', b1', b2, a0, a1, a2, kk, r1, c1, c2, u1, u2, t2, t4, lockW]
      · simp [F72, mcA, e1', b1', b2, a0, a1, a2, kk, r1, c1, c2, lockW]
    · simp [F72, mcA, e1', b1', b2, a0, a1, a2, kk, c1, lockW]
  · simp [F72, mcA, e1', b1', b2, a0, a1, a2, kk, r2, lockW]
  · have : IntKind.wrap .i64 ((P : Int) + 1) = (P : Int) + 1 := wrap_nat (by omega)
    simp [F72, mcA, e1', b1', b2, a0, a1, a2, kk, this, lockW]

/-- A copy, apart. -/
theorem mcopy_ok {F : List Nat} {rs : AV} (m : Mc) (v : View h 1 (intsA m.rest) F rs) (hb : m.rest.length ≤ 1000) : ∃ u h', run T 60 [.agg (mcA m rs)] h = some (u, h') ∧ (∃ rs' F', u = .agg (mcA m rs') ∧ View h' 1 (intsA m.rest) F' rs' ∧ ∀ t ∈ F', h.size ≤ t) ∧ Keep [] h h' := by
  obtain ⟨h0, e0⟩ : ∃ h0, h0 = (h.push (.cells false (mcA m rs) none)).push (.cells false [.int .i64 0, .int .i64 0, .int .i64 0, .int .i64 0, .int .i64 0, .int .i64 0, .int .i64 0, .bool false, .bool false, .nilslice, .int .i64 0, .int .i64 0, .int .i64 0, .int .i64 0, .int .i64 0, .int .i64 0, .int .u64 0, .int .i64 0] none) := ⟨_, rfl⟩
  have k0 : Keep [] h h0 := by rw [e0]; exact Keep.push.trans' Keep.push
  have v0 := v.keep k0 (by simp)
  have b0 : h0.get h.size = some (.cells false (mcA m rs) none) := by rw [e0]; exact get_push_old get_push_new
  have c0 : ∃ cs, cs.length = 18 ∧ h0.get (h.size + 1) = some (.cells false cs none) := by
    refine ⟨[.int .i64 0, .int .i64 0, .int .i64 0, .int .i64 0, .int .i64 0, .int .i64 0, .int .i64 0, .bool false, .bool false, .nilslice, .int .i64 0, .int .i64 0, .int .i64 0, .int .i64 0, .int .i64 0, .int .i64 0, .int .u64 0, .int .i64 0], rfl, ?_⟩
    rw [e0, ← size_push (h := h) (x := .cells false (mcA m rs) none), get_push_new]
  obtain ⟨cs, cl, c0⟩ := c0
  obtain ⟨rs', h1, F', e1, v1, k1, f1⟩ := clone_ok v0 (by omega)
  have b1 := k1.obj b0 (by simp)
  have c1 := k1.obj c0 (by simp)
  have hsz : h.size + 2 ≤ h0.size := by rw [e0]; simp
  refine run_wp T_60 ?_
  have b0' : h0.get h.size = some (.cells false [.int .i64 m.pl, .int .i64 m.p, .int .i64 m.g, .int .i64 m.nx, .int .i64 m.got, .int .i64 m.tg, .int .i64 m.ii, .bool m.sp, .bool m.inn, rs, .int .i64 m.bk, .int .i64 m.af, .int .i64 m.ar, .int .i64 m.ln, .int .i64 m.ls, .int .i64 m.st, .int .u64 m.tk, .int .i64 m.tm] none) := b0
  have b1' : h1.get h.size = some (.cells false [.int .i64 m.pl, .int .i64 m.p, .int .i64 m.g, .int .i64 m.nx, .int .i64 m.got, .int .i64 m.tg, .int .i64 m.ii, .bool m.sp, .bool m.inn, rs, .int .i64 m.bk, .int .i64 m.af, .int .i64 m.ar, .int .i64 m.ln, .int .i64 m.ls, .int .i64 m.st, .int .u64 m.tk, .int .i64 m.tm] none) := b1
  have hone : rs'.one = true := by cases v1 <;> rfl
  obtain ⟨h2, e2⟩ : ∃ h2, h2 = h1.put h.size (.cells false (mcA m rs') none) := ⟨_, rfl⟩
  have d1 : h2.get h.size = some (.cells false (mcA m rs') none) := by rw [e2, get_put_same, b1]; rfl
  have d2 : h2.get (h.size + 1) = some (.cells false cs none) := by rw [e2, get_put_ne (by omega), c1]
  have w2 : writeOf h2 (h.size + 1) (some (.cells false cs none)) 0 (mcA m rs') = some (h2.put (h.size + 1) (.cells false (mcA m rs') none)) := by
    rw [writeOf_some, if_pos ⟨by simp [mcA, cl], by simp [mcA, hone]⟩]
    congr 4
    simp [splice, mcA, cl]
  have d3 : (h2.put (h.size + 1) (.cells false (mcA m rs') none)).get (h.size + 1) = some (.cells false (mcA m rs') none) := by rw [get_put_same, d2]; rfl
  simp only [mcA] at e2 d1 w2 d3 e0
  have hcells : rs'.cells = [rs'] := by cases v1 <;> rfl
  have k2 : Keep [h.size] h1 h2 := by rw [e2]; exact Keep.put (by simp)
  have k3 : Keep [h.size + 1] h2 (h2.put (h.size + 1) (.cells false (mcA m rs') none)) := Keep.put (by simp)
  have f1' : ∀ t ∈ F', h.size ≤ t := fun t ht => by have := f1 t ht; omega
  have nf : ∀ t ∈ F', t ≠ h.size ∧ t ≠ h.size + 1 := fun t ht => by have := f1 t ht; omega
  have v3 := (v1.view.keep k2 (fun t ht => by have := nf t ht; simp; omega)).keep k3 (fun t ht => by have := nf t ht; simp; omega)
  have kk : Keep [] h (h2.put (h.size + 1) (.cells false (mcA m rs') none)) := ((k0.trans' k1).trans k2 (by simp)).trans k3 (by simp)
  simp only [mcA] at v3 kk
  simp [F60, mcA, ← e0, b0', e1, b1', hone, hcells, ← e2, d1, d2, w2, d3]
  exact ⟨⟨F', v3, f1'⟩, kk⟩

end
end Go.Proofs.YtblhcbmcbhoeiaaGreatDoor.Ev
end

section
/- Arguments that are slices, as the evaluator sees them: views of objects that are only read. -/
namespace Go.Proofs.YtblhcbmcbhoeiaaGreatDoor.Ev
set_option linter.unusedSimpArgs false
set_option linter.unusedVariables false
open Go

theorem wf_i64 {x : Int} (h : (Lit.int .i64 x).wf = true) : -9223372036854775808 ≤ x ∧ x ≤ 9223372036854775807 := by
  simp [Lit.wf, IntKind.min, IntKind.max, IntKind.signed, IntKind.bits] at h
  omega
theorem wf_u64 {x : Int} (h : (Lit.int .u64 x).wf = true) : 0 ≤ x ∧ x ≤ 18446744073709551615 := by
  simp [Lit.wf, IntKind.min, IntKind.max, IntKind.signed, IntKind.bits] at h
  omega
theorem wf_u8 {x : Int} (h : (Lit.int .u8 x).wf = true) : 0 ≤ x ∧ x ≤ 255 := by
  simp [Lit.wf, IntKind.min, IntKind.max, IntKind.signed, IntKind.bits] at h
  omega
theorem wf_u16 {x : Int} (h : (Lit.int .u16 x).wf = true) : 0 ≤ x ∧ x ≤ 65535 := by
  simp [Lit.wf, IntKind.min, IntKind.max, IntKind.signed, IntKind.bits] at h
  omega


theorem arg_view {h : AHeap} {i s : Nat} {c : Option Nat} {l : List (List AV)} (hs : 0 < s) (hl : ∀ r ∈ l, r.length = s) (hc : SlOk c l.length) (ho : h.get i = some (rowA l.flatten)) : ∃ F, View h s l.flatten F (slA c i l.length) ∧ ∀ t ∈ F, t = i := by
  have hfl := flatten_len hl
  cases l with
  | nil =>
    cases c with
    | none => exact ⟨[], .nil rfl, by simp⟩
    | some c => exact ⟨[], .zero rfl (by simp [AHeap.within]), by simp⟩
  | cons r l =>
    cases c with
    | none => simp [SlOk] at hc
    | some c =>
      have hpos : 0 < (r :: l).flatten.length := by
        rw [hfl]
        exact Nat.mul_pos (by simp) hs
      have hrow : rowA (r :: l).flatten = .cells true (r :: l).flatten none := by
        cases hx : (r :: l).flatten with
        | nil => rw [hx] at hpos; simp at hpos
        | cons u us => rfl
      rw [hrow] at ho
      refine ⟨[i], .mk (c := .exact c) ho (by omega) ?_ (by simp [AHeap.within]; exact hc.1), by simp⟩
      rw [List.drop_zero, List.take_of_length_le (by omega)]

theorem arg_ints {h : AHeap} {i : Nat} {c : Option Nat} {l : List (List AV)} (hf : ∀ r ∈ l, fits [.int .i64] r) (hc : SlOk c l.length) (ho : h.get i = some (rowA l.flatten)) :
    ∃ (ds : List Int) (F : List Nat), View h 1 (intsA ds) F (slA c i l.length) ∧ l.length = ds.length ∧ (∀ t ∈ F, t = i) ∧ ∀ d ∈ ds, -9223372036854775808 ≤ d ∧ d ≤ 9223372036854775807 := by
  obtain ⟨ds, h1, h2, h3⟩ := int_rows l hf
  obtain ⟨F, v, hF⟩ := arg_view (s := 1) (by omega) (fun r hr => fits_length (hf r hr)) hc ho
  rw [h1] at v
  exact ⟨ds, F, v, h2, hF, fun d hd => wf_i64 (h3 d hd)⟩

end Go.Proofs.YtblhcbmcbhoeiaaGreatDoor.Ev
end

section
/- The statement EventRight, for the evaluator. -/
namespace Go.Proofs.YtblhcbmcbhoeiaaGreatDoor.Ev
set_option linter.unusedSimpArgs false
set_option linter.unusedVariables false
open Go Go.RowKit Go.ChangeShapes Go.WideShapes
set_option maxRecDepth 100000

/-- An argument that is a flat struct. -/
theorem open_flat {H : Type} {enc : TypeId × Value → H} {P : Program} {w : World} {base b0 n : Nat} {spare : Nat → Bool} {held : Bool} {r : Reach} {t : TypeId} {v : Value} {d : DataW H} {ps : List MemPlace} {fs : Array Field} {ks : List SK}
    (ht : P.underlying t = some (.struct fs)) (hk : flatK P n t = some ks) (hc : P.cellsOf t = ks.length) (hval : Value.okWide P w r b0 t v) (h : DataW.Trod enc P w base spare held t v d ps) : ∃ vs, fits ks vs ∧ ∀ ρ, (AV.agg vs).rel ρ v := by
  obtain ⟨cs, rfl, hs⟩ := okWide_struct ht hval
  obtain ⟨fuel, hf⟩ := h
  obtain ⟨vs, h1, h2⟩ := flat_open n fuel t cs.toList _ ks hk hc (by simpa [hc] using hs) hf
  exact ⟨vs, h2, fun ρ => by
    simp only [AV.rel]
    exact ⟨cs.toList, h1 ρ, by simp⟩⟩

def valB (k v : Int) : Bool := if k = 5 then true else if k = 6 then decide (0 ≤ v ∧ v < 65536) else decide (v = 0)
def rightB (k g m p v : Int) : Bool := decide ((0 ≤ k ∧ k < 8) ∧ 0 ≤ g ∧ g < 4096 ∧ -1 ≤ m ∧ m < 128 ∧ -1 ≤ p ∧ p < 64) && valB k v
abbrev evA (k g m p v : Int) : List AV := [.int .i64 k, .int .i64 g, .int .i64 m, .int .i64 p, .int .i64 v]

section
variable {h : AHeap} {k g m p v : Int}

theorem value_ok : ∃ h', run T 130 [.agg (evA k g m p v)] h = some (.bool (valB k v), h') ∧ Keep [] h h' := by
  refine ⟨h.push (.cells false (evA k g m p v) none), run_eq T_130 ?_, Keep.push⟩
  by_cases h5 : k = 5
  · simp [F130, h5, valB]
  · by_cases h6 : k = 6
    · by_cases h0 : 0 ≤ v
      · by_cases h1 : v < 65536
        · simp [F130, h5, h6, valB, h0, h1]
        · simp [F130, h5, h6, valB, h0, h1]
      · simp [F130, h5, h6, valB, h0]
    · simp [F130, h5, h6, valB]

theorem right_ok {nm : List UInt8} {a b : Int} {is : Bool} (hx : EofAt k nm a b is) (he : ∀ h, AllAt h → run T 129 [.int .i64 k] h = some (.tuple [.agg [str nm, .int .u64 a, .int .u64 b], .bool is], h.push (.cells false [str nm, .int .u64 a, .int .u64 b] none))) (hg : AllAt h) :
    ∃ h', run T 98 [.agg (evA k g m p v)] h = some (.bool (rightB k g m p v), h') ∧ Keep [] h h' := by
  have his : is = decide (0 ≤ k ∧ k < 8) := by
    rcases hx with ⟨hk, _, _, _, rfl⟩ | ⟨n, rfl, hn, rfl⟩
    · rw [decide_eq_false hk]
    · have : n < 8 := (List.getElem?_eq_some_iff.1 hn).1
      rw [decide_eq_true (by omega)]
  have e1 := he (h.push (.cells false (evA k g m p v) none)) (get_push_old hg)
  have h1 : (str nm).one = true := rfl
  have hc : (((h.push (.cells false (evA k g m p v) none)).push (.cells false [str nm, .int .u64 a, .int .u64 b] none)).push (.cells false [.str ⟨#[]⟩, .int .u64 0, .int .u64 0] none)).get (h.size + 1 + 1) = some (.cells false [.str ⟨#[]⟩, .int .u64 0, .int .u64 0] none) := by
    rw [show h.size + 1 + 1 = ((h.push (.cells false (evA k g m p v) none)).push (.cells false [str nm, .int .u64 a, .int .u64 b] none)).size by simp, get_push_new]
  have hc2 : (((h.push (.cells false (evA k g m p v) none)).push (.cells false [str nm, .int .u64 a, .int .u64 b] none)).push (.cells false [.str ⟨#[]⟩, .int .u64 0, .int .u64 0] none)).put (h.size + 1 + 1) (.cells false [str nm, .int .u64 a, .int .u64 b] none) = ((h.push (.cells false (evA k g m p v) none)).push (.cells false [str nm, .int .u64 a, .int .u64 b] none)).push (.cells false [str nm, .int .u64 a, .int .u64 b] none) := by
    rw [show h.size + 1 + 1 = ((h.push (.cells false (evA k g m p v) none)).push (.cells false [str nm, .int .u64 a, .int .u64 b] none)).size by simp, push_put]
  have hb0 : (h.push (.cells false (evA k g m p v) none)).get h.size = some (.cells false (evA k g m p v) none) := get_push_new
  have hb : (((h.push (.cells false (evA k g m p v) none)).push (.cells false [str nm, .int .u64 a, .int .u64 b] none)).push (.cells false [str nm, .int .u64 a, .int .u64 b] none)).get h.size = some (.cells false (evA k g m p v) none) := get_push_old (get_push_old hb0)
  have kp : Keep [] h (((h.push (.cells false (evA k g m p v) none)).push (.cells false [str nm, .int .u64 a, .int .u64 b] none)).push (.cells false [str nm, .int .u64 a, .int .u64 b] none)) := (Keep.push.trans' Keep.push).trans' Keep.push
  obtain ⟨h9, e9, k9⟩ := value_ok (h := ((h.push (.cells false (evA k g m p v) none)).push (.cells false [str nm, .int .u64 a, .int .u64 b] none)).push (.cells false [str nm, .int .u64 a, .int .u64 b] none)) (k := k) (g := g) (m := m) (p := p) (v := v)
  refine run_val T_98 ?_
  by_cases hk : 0 ≤ k ∧ k < 8
  case neg =>
    have hr : rightB k g m p v = false := by simp [rightB, hk]
    rw [decide_eq_false hk] at his
    subst his
    simp [F98, hr, e1, hc, hc2, h1, hb]
    exact kp
  rw [decide_eq_true hk] at his
  subst his
  by_cases c1 : 0 ≤ g
  case neg =>
    have hr : rightB k g m p v = false := by simp [rightB, c1]
    simp [F98, hr, e1, hc, hc2, h1, hb, c1]
    exact kp
  by_cases c2 : g < 4096
  case neg =>
    have hr : rightB k g m p v = false := by simp [rightB, c2]
    simp [F98, hr, e1, hc, hc2, h1, hb, c1, c2]
    exact kp
  by_cases c3 : -1 ≤ m
  case neg =>
    have hr : rightB k g m p v = false := by simp [rightB, c3]
    simp [F98, hr, e1, hc, hc2, h1, hb, c1, c2, c3]
    exact kp
  by_cases c4 : m < 128
  case neg =>
    have hr : rightB k g m p v = false := by simp [rightB, c4]
    simp [F98, hr, e1, hc, hc2, h1, hb, c1, c2, c3, c4]
    exact kp
  by_cases c5 : -1 ≤ p
  case neg =>
    have hr : rightB k g m p v = false := by simp [rightB, c5]
    simp [F98, hr, e1, hc, hc2, h1, hb, c1, c2, c3, c4, c5]
    exact kp
  by_cases c6 : p < 64
  case neg =>
    have hr : rightB k g m p v = false := by simp [rightB, c6]
    simp [F98, hr, e1, hc, hc2, h1, hb, c1, c2, c3, c4, c5, c6]
    exact kp
  have hr : rightB k g m p v = valB k v := by simp [rightB, hk, c1, c2, c3, c4, c5, c6]
  simp [F98, hr, e1, hc, hc2, h1, hb, c1, c2, c3, c4, c5, c6, e9]
  exact kp.trans' k9

end

end Go.Proofs.YtblhcbmcbhoeiaaGreatDoor.Ev
end

section
/- A log that lies inside of a larger object. -/
namespace Go.Proofs.YtblhcbmcbhoeiaaGreatDoor.Ev
set_option linter.unusedSimpArgs false
set_option linter.unusedVariables false
open Go
set_option maxRecDepth 100000

abbrev E5 := Int × Int × Int × Int × Int
def evsA (es : List E5) : List AV := es.flatMap fun e => evA e.1 e.2.1 e.2.2.1 e.2.2.2.1 e.2.2.2.2
theorem evsA_len (es : List E5) : (evsA es).length = es.length * 5 := by
  induction es with
  | nil => rfl
  | cons x l ih => simp [evsA] at *; omega
abbrev eA (e : E5) : List AV := evA e.1 e.2.1 e.2.2.1 e.2.2.2.1 e.2.2.2.2
def rB (e : E5) : Bool := rightB e.1 e.2.1 e.2.2.1 e.2.2.2.1 e.2.2.2.2
theorem evsA_append (a b : List E5) : evsA (a ++ b) = evsA a ++ evsA b := by simp [evsA]
theorem evsA_cons (e : E5) (l : List E5) : evsA (e :: l) = eA e ++ evsA l := rfl
theorem evsA_drop (l : List E5) : ∀ n, (evsA l).drop (n * 5) = evsA (l.drop n) := by
  induction l with
  | nil => intro n; simp [evsA]
  | cons e l ih =>
    intro n
    cases n with
    | zero => simp
    | succ n =>
      rw [evsA_cons, show (n + 1) * 5 = 5 + n * 5 by omega, ← List.drop_drop, List.drop_succ_cons]
      exact ih n
theorem wrL {h : AHeap} {i o : Nat} {cs : List AV} {room : Option (Nat × Nat)} {v : AV} (ho : o < cs.length) (hv : v.one = true) : writeOf h i (some (.cells false cs room)) o [v] = some (h.put i (.cells false (cs.set o v) room)) := by
  rw [writeOf_some, if_pos ⟨by simp; omega, by simp [hv]⟩, splice_one ho]
theorem vec_one {h : AHeap} {size : Nat} {cs : List AV} {F : List Nat} {s : AV} (v : Vec h size cs F s) : s.cells = [s] ∧ s.one = true := by
  cases v <;> exact ⟨rfl, rfl⟩

section
variable {h : AHeap} {hs : List E5} {u : AV}
theorem right_all (ha : AllAt h) (e : E5) : ∃ h', run T 98 [.agg (eA e)] h = some (.bool (rB e), h') ∧ Keep [] h h' := by
  obtain ⟨nm, a, b, is, hx, he⟩ := eof_ok e.1
  exact right_ok hx he ha

/-- An event is put behind a row of one's own. -/
theorem app_ev {G : List Nat} (w : Vec h 5 (evsA hs) G u) (hb : hs.length ≤ 100000) (e : E5) : ∃ s' h' G', appendV (h.push (.cells false (evA e.1 e.2.1 e.2.2.1 e.2.2.2.1 e.2.2.2.2) none)) 5 40 u (.slice h.size 0 1 (.exact 1)) = some (s', h') ∧ Vec h' 5 (evsA (hs ++ [e])) G' s' ∧ Keep G h h' ∧ ∀ t ∈ G', t ∈ G ∨ h.size ≤ t := by
  have hv : View (h.push (.cells false (evA e.1 e.2.1 e.2.2.1 e.2.2.2.1 e.2.2.2.2) none)) 5 (evA e.1 e.2.1 e.2.2.1 e.2.2.2.1 e.2.2.2.2) [h.size] (.slice h.size 0 1 (.exact 1)) := (Vec.new (m := 1) get_push_new (by simp)).view
  have hf := hv.first (n := 1) (by simp) (by omega)
  obtain ⟨s', h', G', e', v', k', f'⟩ := (w.keep (Keep.push (F := [])) (by simp)).append (by omega) (bytes := 40) (evsA_len hs) (x := .slice h.size 0 1 (.exact 1)) (m := 1) rfl hf (by simp) (by simp) (by simp [bigA]; omega) (by simp [bigA]; omega)
  refine ⟨s', h', G', e', ?_, (Keep.push (F := G)).trans' k', fun t ht => ?_⟩
  · have : evsA (hs ++ [e]) = evsA hs ++ (evA e.1 e.2.1 e.2.2.1 e.2.2.2.1 e.2.2.2.2).take (1 * 5) := by simp [evsA]
    rw [this]
    exact v'
  rcases f' t ht with h1 | h1
  · exact Or.inl h1
  · simp at h1
    exact Or.inr (by omega)

theorem log_add {q o : Nat} {cs : List AV} {room : Option (Nat × Nat)} {G : List Nat} (ha : AllAt h) (hq : h.get q = some (.cells false cs room)) (ho : cs[o]? = some u) (v : Vec h 5 (evsA hs) G u) (nq : q ∉ G) (hb : hs.length ≤ 100000) (e : E5) (hr : rB e = true) :
    ∃ h', run T 55 [.ptr q o, .agg (eA e)] h = some (.bool true, h') ∧ ∃ u' G', h'.get q = some (.cells false (cs.set o u') room) ∧ Vec h' 5 (evsA (hs ++ [e])) G' u' ∧ q ∉ G' ∧ Keep (q :: G) h h' ∧ ∀ t ∈ G', t ∈ G ∨ h.size ≤ t := by
  have k0 : Keep [] h (h.push (.cells false (eA e) none)) := Keep.push
  have b0 : (h.push (.cells false (eA e) none)).get h.size = some (.cells false (eA e) none) := get_push_new
  obtain ⟨h1, e1, k1⟩ := right_all (k0.obj ha (by simp)) e
  have b1 := k1.obj b0 (by simp)
  have v1 := (v.keep k0 (by simp)).keep k1 (by simp)
  have q1 := k1.obj (k0.obj hq (by simp)) (by simp)
  have hql := get_lt hq
  have hol := (List.getElem?_eq_some_iff.1 ho).1
  refine run_val T_55 ?_
  rw [hr] at e1
  obtain ⟨s', h2, G', ea, v2, k2, f2⟩ := app_ev v1 hb e
  have q2 := k2.obj q1 nq
  have hs1 := (k0.trans' k1).size
  have f3 : ∀ t ∈ G', t ∈ G ∨ h.size ≤ t := fun t ht => (f2 t ht).imp_right (by omega)
  have nq' : q ∉ G' := fun hm => (f3 q hm).elim nq (by omega)
  have y2 : (h1.push (.cells false (eA e) none)).get q = some (.cells false cs room) := get_push_old q1
  have y3 : (h1.push (.cells false (eA e) none)).get h.size = some (.cells false (eA e) none) := get_push_old b1
  obtain ⟨o1, o2⟩ := vec_one v2
  have w1 := wrL (h := h2) (i := q) (room := room) (v := s') hol o2
  simp [F55, b0, b1, e1, q1, q2, ea, y2, y3, o1, o2, ho, w1, -getElem?_pos]
  exact ⟨s', rfl, G', v2.keep (Keep.put (F := [q]) (by simp)) (fun t ht => by simp; rintro rfl; exact nq' ht), nq', ((((k0.trans' k1).mono (G := q :: G) (by simp)).trans' (k2.mono (by simp; intro t ht; exact Or.inr ht))).trans' (Keep.put (by simp))), f3⟩

theorem evclone_ok {xs : List E5} {F : List Nat} {s : AV} (v : View h 5 (evsA xs) F s) (hb : xs.length ≤ 100000) : ∃ s' h' F', run T 134 [s] h = some (s', h') ∧ Vec h' 5 (evsA xs) F' s' ∧ Keep [] h h' := by
  have hnil : s = .nilslice ∨ ∃ j o n c, s = .slice j o n c := by cases v <;> simp
  rcases hnil with rfl | ⟨j, o, n, c, rfl⟩
  · cases v with
    | nil e =>
      refine ⟨.nilslice, h, [], run_eq T_134 ?_, .nil e, Keep.refl⟩
      simp [F134]
  · have vn : Vec (h.push (.cells false [] none)) 5 [] [h.size] (.slice h.size 0 0 (.exact 0)) := Vec.new (m := 0) get_push_new (by simp)
    have v1 := v.keep (Keep.push (F := []) (x := .cells false [] none)) (by simp)
    have hf := v1.first (n := xs.length) (by rw [evsA_len]; omega) (by omega)
    rw [List.take_of_length_le (by rw [evsA_len]; omega)] at hf
    have hl : (AV.slice j o n c).lenA = some xs.length := by rw [v.len (by omega), evsA_len]; simp
    obtain ⟨s', h', F', e, v', k', f'⟩ := vn.append (by omega) (bytes := 40) (n := 0) (by simp) hl hf (by simp [evsA, evA, AV.one]) (evsA_len xs) (by simp [bigA]; omega) (by simp [bigA]; omega)
    refine ⟨s', h', F', run_eq T_134 ?_, by simpa using v', (Keep.push (F := [])).trans k' (by simp)⟩
    simp [F134, e]

/-- A cut from a place on. -/
theorem ev_cut {xs : List E5} {F : List Nat} {s : AV} (v : View h 5 (evsA xs) F s) (a : Int) : ∃ s', slcV h 5 none s (some (.int .i64 (min (max 0 a) xs.length))) none none = some s' ∧ View h 5 (evsA (xs.drop (min (max 0 a) (xs.length : Int)).toNat)) F s' := by
  obtain ⟨c, hc⟩ : ∃ c : Nat, min (max 0 a) (xs.length : Int) = c := ⟨(min (max 0 a) (xs.length : Int)).toNat, by omega⟩
  have hcl : c ≤ xs.length := by omega
  obtain ⟨s', e, v'⟩ := v.slice (by omega) (n := xs.length) (a := c) (b := xs.length) (lo := some (.int .i64 c)) (hi := none) (evsA_len xs) (by simp) (by simp) hcl (Nat.le_refl _)
  rw [hc]
  refine ⟨s', e, ?_⟩
  rw [evsA_drop, List.take_of_length_le (by rw [evsA_len, List.length_drop]; omega)] at v'
  simpa using v'

theorem slc_keep {h' : AHeap} {G : List Nat} {s s' : AV} {lo hi : Option AV} (k : Keep G h h') (e : slcV h 5 none s lo hi none = some s') : slcV h' 5 none s lo hi none = some s' := by
  cases s with
  | slice i o n c =>
    simp only [slcV] at e ⊢
    cases hlo : endV 0 lo with
    | none => simp only [hlo] at e; cases e
    | some l =>
      simp only [hlo] at e ⊢
      cases hhi : endV n hi with
      | none => simp only [hhi] at e; cases e
      | some hh =>
        simp only [hhi] at e ⊢
        split at e
        · rename_i hc
          rw [if_pos ⟨hc.1, within_keep hc.2 k⟩]
          exact e
        · cases e
  | nilslice => simpa [slcV] using e
  | _ => simpa [slcV] using e


theorem log_all {q o : Nat} {cs : List AV} {room : Option (Nat × Nat)} {G : List Nat} (hq : h.get q = some (.cells false cs room)) (ho : cs[o]? = some u) (v : Vec h 5 (evsA hs) G u) (hb : hs.length ≤ 100000) :
    ∃ s' h', run T 103 [.ptr q o, .int .i64 0] h = some (s', h') ∧ s'.lenA = some hs.length ∧ Keep [] h h' := by
  have hl : u.lenA = some hs.length := by rw [v.view.len (by omega), evsA_len]; simp
  obtain ⟨s1, c1, v1⟩ := ev_cut v.view 0
  rw [show max (0 : Int) 0 = 0 from rfl] at c1
  obtain ⟨s', h', F', e2, v2, k2⟩ := evclone_ok v1 (by simp; omega)
  have q2 := k2.obj hq (by simp)
  have hz : (min (max (0 : Int) 0) (hs.length : Int)).toNat = 0 := by omega
  rw [hz] at v2
  have c2 := slc_keep k2 c1
  have hl2 : s'.lenA = some hs.length := by rw [v2.view.len (by omega), evsA_len]; simp
  refine run_wp T_103 ?_
  simp [F103, hq, ho, hl, c1, c2, e2, q2, k2, hl2, -getElem?_pos]
end

end Go.Proofs.YtblhcbmcbhoeiaaGreatDoor.Ev
end

section
/- What the functions of rings come to. -/
namespace Go.Proofs.YtblhcbmcbhoeiaaGreatDoor.Ev
set_option linter.unusedSimpArgs false
set_option linter.unusedVariables false
open Go
set_option maxRecDepth 100000

structure Rg where
  row : List Int
  is : Bool
  next : Int
  streak : Int
  deriving DecidableEq

structure RingC (cs : List AV) (hd : Nat) (r : Rg) : Prop where
  len : cs.length = 261
  c0 : cs[256]? = some (.int .i64 (hd : Int))
  c1 : cs[257]? = some (.int .i64 (r.row.length : Int))
  c2 : cs[258]? = some (.bool r.is)
  c3 : cs[259]? = some (.int .i64 r.next)
  c4 : cs[260]? = some (.int .i64 r.streak)
  hl : hd < 256
  le : r.row.length ≤ 256
  at_ : ∀ k x, r.row[k]? = some x → cs[(hd + k) % 256]? = some (.int .i64 x)

def RingAt (h : AHeap) (i : Nat) (r : Rg) : Prop := ∃ cs hd room, h.get i = some (.cells false cs room) ∧ RingC cs hd r

theorem snoc_cases {α : Type} {l : List α} {i : Nat} {x y : α} (h : (l ++ [y])[i]? = some x) : l[i]? = some x ∨ (i = l.length ∧ x = y) := by
  rcases Nat.lt_or_ge i l.length with hl | hl
  · left; rwa [List.getElem?_append_left hl] at h
  · right
    rw [List.getElem?_append_right hl] at h
    have : i - l.length = 0 := by
      rcases Nat.eq_zero_or_pos (i - l.length) with h0 | h0
      · exact h0
      · rw [List.getElem?_eq_none (by simp; omega)] at h; simp at h
    rw [this] at h
    simp at h
    exact ⟨by omega, h.symm⟩

theorem wr1 {h : AHeap} {i o : Nat} {cs : List AV} {room : Option (Nat × Nat)} {v : AV} (ho : o < cs.length) (hv : v.one = true) : writeOf h i (some (.cells false cs room)) o [v] = some (h.put i (.cells false (cs.set o v) room)) := by
  rw [writeOf_some, if_pos ⟨by simp; omega, by simp [hv]⟩, splice_one ho]
theorem got {h : AHeap} {i : Nat} {x y : AObj} (hi : h.get i = some x) : (h.put i y).get i = some y := by rw [get_put_same, hi]; rfl

section
variable {h h' : AHeap} {i : Nat} {r : Rg}

theorem RingAt.keep {G : List Nat} (x : RingAt h i r) (k : Keep G h h') (hi : i ∉ G) : RingAt h' i r := by
  obtain ⟨cs, hd, room, hc, y⟩ := x
  exact ⟨cs, hd, room, k.obj hc hi, y⟩
theorem RingAt.lt (x : RingAt h i r) : i < h.size := by obtain ⟨cs, hd, room, hc, y⟩ := x; exact get_lt hc

theorem ring_len (x : RingAt h i r) : run T 145 [.ptr i 0] h = some (.int .i64 ((r.row.length : Int) + (if r.is = true then 1 else 0)), h) := by
  obtain ⟨cs, hd, room, hc, y⟩ := x
  have c1 := y.c1
  have c2 := y.c2
  have le := y.le
  refine run_eq T_145 ?_
  cases hi : r.is <;> rw [hi] at c2
  · simp [F145, hc, c1, c2]
  · simp [F145, hc, c1, c2, wrap_nat (c := r.row.length) (by omega)]

theorem ring_next (x : RingAt h i r) : run T 176 [.ptr i 0] h = some (.tuple [.int .i64 (if r.is = true then r.next else 0), .bool r.is], h) := by
  obtain ⟨cs, hd, room, hc, y⟩ := x
  have c2 := y.c2
  have c3 := y.c3
  refine run_eq T_176 ?_
  cases hi : r.is <;> rw [hi] at c2 <;> simp [F176, hc, c2, c3]

theorem ring_take (x : RingAt h i r) : ∃ h', run T 168 [.ptr i 0] h = some (.int .i64 r.next, h') ∧ RingAt h' i { r with is := false } ∧ Keep [i] h h' := by
  obtain ⟨cs, hd, room, hc, y⟩ := x
  have hw := wr1 (h := h) (i := i) (room := room) (v := .bool false) (show 258 < cs.length by rw [y.len]; omega) rfl
  have g1 := got (y := .cells false (cs.set 258 (.bool false)) room) hc
  have d3 : (cs.set 258 (.bool false))[259]? = some (.int .i64 r.next) := by rw [List.getElem?_set_ne (by omega)]; exact y.c3
  refine ⟨h.put i (.cells false (cs.set 258 (.bool false)) room), run_eq T_168 ?_, ⟨_, hd, room, g1, ?_⟩, Keep.put (by simp)⟩
  · simp [F168, hc, hw, g1, d3]
  · refine ⟨by simp [y.len], ?_, ?_, ?_, d3, ?_, y.hl, y.le, fun k x hk => ?_⟩
    · rw [List.getElem?_set_ne (by omega)]; exact y.c0
    · rw [List.getElem?_set_ne (by omega)]; exact y.c1
    · rw [List.getElem?_set_self (by rw [y.len]; omega)]
    · rw [List.getElem?_set_ne (by omega)]; exact y.c4
    · rw [List.getElem?_set_ne (by omega)]; exact y.at_ k x hk

theorem ring_push (x : RingAt h i r) (hl : r.row.length < 256) (g : Int) : ∃ h', run T 169 [.ptr i 0, .int .i64 g] h = some (.tuple [], h') ∧ RingAt h' i { r with row := r.row ++ [g] } ∧ Keep [i] h h' := by
  obtain ⟨cs, hd, room, hc, y⟩ := x
  have hhl := y.hl
  have c0 := y.c0
  have c1 := y.c1
  obtain ⟨a, ha⟩ : ∃ a, a = hd + r.row.length := ⟨_, rfl⟩
  obtain ⟨b, hb⟩ : ∃ b, b = a % 256 := ⟨_, rfl⟩
  have hb2 : b < 256 := by omega
  have e1 : IntKind.wrap .i64 ((hd : Int) + (r.row.length : Int)) = (a : Int) := by rw [wrap_i64 (by omega) (by omega)]; omega
  have e2 : Int.tmod (a : Int) 256 = (b : Int) := by rw [hb]; exact (Int.ofNat_tmod a 256).symm
  have e3 : idxAddrV 1 (some 256) (.ptr i 0) (.int .i64 (b : Int)) = some (.ptr i b) := by simp [idxAddrV]; omega
  have hw := wr1 (h := h) (i := i) (room := room) (v := .int .i64 g) (show b < cs.length by rw [y.len]; omega) rfl
  have g1 := got (y := .cells false (cs.set b (.int .i64 g)) room) hc
  have d1 : (cs.set b (.int .i64 g))[257]? = some (.int .i64 (r.row.length : Int)) := by rw [List.getElem?_set_ne (by omega)]; exact c1
  have hw2 := wr1 (h := h.put i (.cells false (cs.set b (.int .i64 g)) room)) (i := i) (room := room) (v := .int .i64 ((r.row.length : Int) + 1)) (show 257 < (cs.set b (.int .i64 g)).length by rw [List.length_set, y.len]; omega) rfl
  have g2 := got (y := .cells false ((cs.set b (.int .i64 g)).set 257 (.int .i64 ((r.row.length : Int) + 1))) room) hc
  refine ⟨h.put i (.cells false ((cs.set b (.int .i64 g)).set 257 (.int .i64 ((r.row.length : Int) + 1))) room), run_eq T_169 ?_, ⟨_, hd, room, g2, ?_⟩, Keep.put (by simp)⟩
  · simp [F169, hc, c0, c1, e1, e2, e3, hw, g1, d1, hw2, wrap_nat (c := r.row.length) (by omega)]
  · refine ⟨by simp [y.len], ?_, ?_, ?_, ?_, ?_, y.hl, by simp; omega, fun k x hk => ?_⟩
    · rw [List.getElem?_set_ne (by omega), List.getElem?_set_ne (by omega)]; exact y.c0
    · rw [List.getElem?_set_self (by rw [List.length_set, y.len]; omega)]; simp
    · rw [List.getElem?_set_ne (by omega), List.getElem?_set_ne (by omega)]; exact y.c2
    · rw [List.getElem?_set_ne (by omega), List.getElem?_set_ne (by omega)]; exact y.c3
    · rw [List.getElem?_set_ne (by omega), List.getElem?_set_ne (by omega)]; exact y.c4
    · rw [List.getElem?_set_ne (by omega)]
      rcases snoc_cases hk with hk1 | ⟨hk2, rfl⟩
      · have := (List.getElem?_eq_some_iff.1 hk1).1
        rw [List.getElem?_set_ne (by omega)]
        exact y.at_ k x hk1
      · rw [hk2, ← ha, ← hb, List.getElem?_set_self (by rw [y.len]; omega)]

def PopI (h : AHeap) (i : Nat) (r : Rg) (N n : Nat) (fr : FF) (g : AHeap) : Prop := ∃ (c : Nat) (out : AV) (G : List Nat), c + n = N ∧ RingAt g i { r with row := r.row.drop c } ∧ Vec g 1 (intsA (r.row.take c)) G out ∧ Keep [i] h g ∧ Fresh h G ∧ fr.get 0 = .ptr i 0 ∧ fr.get 5 = out ∧ fr.get 8 = .int .i64 (N : Int) ∧ fr.get 9 = .int .i64 (c : Int)

theorem ring_pop (x : RingAt h i r) {N : Nat} (hN : N ≤ r.row.length) : ∃ o h', run T 87 [.ptr i 0, .int .i64 (N : Int)] h = some (o, h') ∧ ∃ G, RingAt h' i { r with row := r.row.drop N } ∧ Vec h' 1 (intsA (r.row.take N)) G o ∧ Keep [i] h h' ∧ Fresh h G := by
  have hle : r.row.length ≤ 256 := by obtain ⟨cs, hd, room, hc, y⟩ := x; exact y.le
  have hi := x.lt
  refine run_wp T_87 ?_
  have hb : (N : Int) * 8 ≤ bigA ∧ N ≤ bigA := by simp only [bigA]; omega
  simp [F87, hb]
  refine Wp.loop (PopI h i r N) N (lt_rounds (by omega)) ?_ ?_
  · refine ⟨0, _, [h.size], by simp, by simpa using x.keep (Keep.push (F := [])) (by simp), .mk (n := 0) (o := 0) (c := .exact N) (room := none) get_push_new (by simp) (by simp) ⟨by simp, by simp [rep_one]⟩, Keep.push, by simp [Fresh], by simp, rfl, by simp, by simp⟩
  rintro n fr g ⟨c, out, G, hc, x, vo, k, hG, s0, s5, s8, s9⟩
  obtain ⟨cs, hd, room, hcg, y⟩ := x
  by_cases hcl : c < N
  · have hcr : c < r.row.length := by omega
    have hx0 : (r.row.drop c)[0]? = some r.row[c] := by rw [List.getElem?_drop]; simp [hcr]
    have hhl := y.hl
    have hat := y.at_ 0 _ hx0
    rw [Nat.add_zero, Nat.mod_eq_of_lt hhl] at hat
    have c0 := y.c0
    have c1 := y.c1
    simp only [List.length_drop] at c1
    have e3 : idxAddrV 1 (some 256) (.ptr i 0) (.int .i64 (hd : Int)) = some (.ptr i hd) := by simp [idxAddrV]; omega
    obtain ⟨o', g', G', ea, w', k', f'⟩ := app_one vo (x := .int .i64 r.row[c]) rfl (by simp; omega)
    have niG : i ∉ G := fun hm => by have := hG i hm; omega
    have g1 := k'.obj hcg niG
    obtain ⟨b, hb⟩ : ∃ b, b = (hd + 1) % 256 := ⟨_, rfl⟩
    have e1 : IntKind.wrap .i64 ((hd : Int) + 1) = ((hd + 1 : Nat) : Int) := by rw [wrap_i64 (by omega) (by omega)]; rfl
    have e2 : Int.tmod ((hd : Int) + 1) 256 = (b : Int) := by rw [hb]; exact (Int.ofNat_tmod (hd + 1) 256).symm
    have e4 : IntKind.wrap .i64 ((hd : Int) + 1) = (hd : Int) + 1 := wrap_i64 (by omega) (by omega)
    have hw := wr1 (h := g') (i := i) (room := room) (v := .int .i64 (b : Int)) (show 256 < cs.length by rw [y.len]; omega) rfl
    have g2 := got (y := .cells false (cs.set 256 (.int .i64 (b : Int))) room) g1
    have d1 : (cs.set 256 (.int .i64 (b : Int)))[257]? = some (.int .i64 ((r.row.length - c : Nat) : Int)) := by rw [List.getElem?_set_ne (by omega)]; exact c1
    have e5 : IntKind.wrap .i64 (((r.row.length - c : Nat) : Int) - 1) = ((r.row.length - c : Nat) : Int) - 1 := wrap_i64 (by omega) (by omega)
    obtain ⟨lc, hlc⟩ : ∃ lc : Nat, lc = r.row.length - c := ⟨_, rfl⟩
    rw [← hlc] at c1 d1 e5
    have hw2 := wr1 (h := g'.put i (.cells false (cs.set 256 (.int .i64 (b : Int))) room)) (i := i) (room := room) (v := .int .i64 ((lc : Int) - 1)) (show 257 < (cs.set 256 (.int .i64 (b : Int))).length by rw [List.length_set, y.len]; omega) rfl
    have g3 := got (y := .cells false ((cs.set 256 (.int .i64 (b : Int))).set 257 (.int .i64 ((lc : Int) - 1))) room) g1
    simp [s0, s5, s8, s9, hcl, hcg, c0, c1, e3, hat, ea, g1, e4, e2, hw, g2, d1, e5, hw2]
    refine ⟨n - 1, by omega, c + 1, o', G', by omega, ⟨_, b, room, g3, ?_⟩, ?_, (k.trans k' (fun t ht => Or.inr (hG t ht))).trans' (Keep.put (F := [i]) (i := i) (by simp)), fun t ht => ?_, by simp [s0, s8, wrap_nat (c := c) (by omega)]⟩
    · refine ⟨by simp [y.len], ?_, ?_, ?_, ?_, ?_, by omega, by simp; omega, fun j z hj => ?_⟩
      · rw [List.getElem?_set_ne (by omega), List.getElem?_set_self (by rw [y.len]; omega)]
      · rw [List.getElem?_set_self (by rw [List.length_set, y.len]; omega)]
        simp only [List.length_drop]
        congr 2
        omega
      · rw [List.getElem?_set_ne (by omega), List.getElem?_set_ne (by omega)]; exact y.c2
      · rw [List.getElem?_set_ne (by omega), List.getElem?_set_ne (by omega)]; exact y.c3
      · rw [List.getElem?_set_ne (by omega), List.getElem?_set_ne (by omega)]; exact y.c4
      · rw [List.getElem?_set_ne (by omega), List.getElem?_set_ne (by omega)]
        have hj2 : (r.row.drop c)[j + 1]? = some z := by
          rw [List.getElem?_drop] at hj ⊢
          rw [← hj]
          congr 1
          omega
        have := y.at_ (j + 1) z hj2
        rw [← this]
        congr 1
        omega
    · have := w'.keep (Keep.put (F := [i]) (i := i) (x := .cells false ((cs.set 256 (.int .i64 (b : Int))).set 257 (.int .i64 ((lc : Int) - 1))) room) (by simp)) (fun t ht => by
        simp
        rintro rfl
        rcases f' t ht with h4 | h4
        · exact niG h4
        · have := k.size; omega)
      rw [List.take_succ_eq_append_getElem hcr, intsA_append]
      exact this
    · rcases f' t ht with h4 | h4
      · exact hG t h4
      · have := k.size
        omega
  · have hcx : c = N := by omega
    subst hcx
    simp [s0, s5, s8, s9]
    exact ⟨⟨cs, hd, room, hcg, y⟩, G, vo, k, hG⟩
end

end Go.Proofs.YtblhcbmcbhoeiaaGreatDoor.Ev
end

section
/- What the functions of rings come to: those that are made of others. -/
namespace Go.Proofs.YtblhcbmcbhoeiaaGreatDoor.Ev
set_option linter.unusedSimpArgs false
set_option linter.unusedVariables false
open Go
set_option maxRecDepth 100000

section
variable {h h' : AHeap} {i : Nat} {r : Rg}

/-- One field is written. -/
theorem RingAt.write (x : RingAt h i r) {o : Nat} {v : AV} {r' : Rg} (ho : 257 < o ∧ o < 261) (hv : v.one = true) (hr : r'.row = r.row) (h2 : ∀ cs hd, RingC cs hd r → (cs.set o v)[258]? = some (.bool r'.is) ∧ (cs.set o v)[259]? = some (.int .i64 r'.next) ∧ (cs.set o v)[260]? = some (.int .i64 r'.streak)) :
    ∃ g, writeOf h i (h.get i) o [v] = some g ∧ RingAt g i r' ∧ Keep [i] h g ∧ ∃ cs room, g.get i = some (.cells false (cs.set o v) room) ∧ ∃ hd, RingC cs hd r := by
  obtain ⟨cs, hd, room, hc, y⟩ := x
  obtain ⟨p1, p2, p3⟩ := h2 cs hd y
  refine ⟨_, by rw [hc]; exact wr1 (by rw [y.len]; omega) hv, ⟨_, hd, room, got hc, by simp [y.len], ?_, ?_, p1, p2, p3, y.hl, by rw [hr]; exact y.le, fun k z hk => ?_⟩, Keep.put (by simp), cs, room, got hc, hd, y⟩
  · rw [List.getElem?_set_ne (by omega)]; exact y.c0
  · rw [List.getElem?_set_ne (by omega), hr]; exact y.c1
  · rw [hr] at hk
    rw [List.getElem?_set_ne (by omega)]; exact y.at_ k z hk

theorem ring_put (x : RingAt h i r) (hl : r.row.length < 256) (g : Int) : ∃ h', run T 177 [.ptr i 0, .int .i64 g] h = some (.nilslice, h') ∧ RingAt h' i { r with row := r.row ++ [g] } ∧ Keep [i] h h' := by
  obtain ⟨h', e, x', k⟩ := ring_push x hl g
  obtain ⟨cs, hd, room, hc, y⟩ := x
  have c1 := y.c1
  have hne : ¬ (r.row.length : Int) = 256 := by omega
  have hne2 : ¬ r.row.length = 256 := by omega
  refine ⟨h', run_eq T_177 ?_, x', k⟩
  simp [F177, hc, c1, hne, hne2, e]

/-- It is next, and whoever was is in the row. -/
def Rg.ready (r : Rg) (g : Int) : Rg := { row := if r.is = true then r.row ++ [r.next] else r.row, is := true, next := g, streak := r.streak }

theorem ring_ready (x : RingAt h i r) (hl : r.row.length < 256) (g : Int) : ∃ h', run T 151 [.ptr i 0, .int .i64 g] h = some (.nilslice, h') ∧ RingAt h' i (r.ready g) ∧ Keep [i] h h' := by
  have e0 := ring_next x
  obtain ⟨g1, w1, x1, k1, cs1, room1, o1, hd1, y1⟩ := x.write (o := 259) (v := .int .i64 g) (r' := { r with next := g }) (by omega) rfl rfl (fun cs hd y => ⟨by rw [List.getElem?_set_ne (by omega)]; exact y.c2, by rw [List.getElem?_set_self (by rw [y.len]; omega)], by rw [List.getElem?_set_ne (by omega)]; exact y.c4⟩)
  obtain ⟨g2, w2, x2, k2, _⟩ := x1.write (o := 258) (v := .bool true) (r' := { r with next := g, is := true }) (by omega) rfl rfl (fun cs hd y => ⟨by rw [List.getElem?_set_self (by rw [y.len]; omega)], by rw [List.getElem?_set_ne (by omega)]; exact y.c3, by rw [List.getElem?_set_ne (by omega)]; exact y.c4⟩)
  refine run_val T_151 ?_
  cases hi : r.is with
  | false =>
    rw [hi] at e0
    simp [F151, e0, w1, w2]
    exact ⟨by simpa [Rg.ready, hi] using x2, k1.trans' k2⟩
  | true =>
    rw [hi] at e0
    obtain ⟨h', e3, x3, k3⟩ := ring_put x2 hl r.next
    simp [F151, e0, w1, w2, e3]
    exact ⟨by simpa [Rg.ready, hi] using x3, (k1.trans' k2).trans' k3⟩

def PutAllI (h : AHeap) (i : Nat) (r : Rg) (xs : List Int) (F : List Nat) (s u : AV) (N n : Nat) (fr : FF) (g : AHeap) : Prop := ∃ c : Nat, c + n = xs.length ∧ RingAt g i { r with row := r.row ++ xs.take c } ∧ Keep [i] h g ∧ fr.get 0 = .ptr i 0 ∧ fr.get 1 = s ∧ fr.get 5 = .int .i64 (xs.length : Int) ∧ fr.get 18 = u ∧ fr.get 19 = .int .i64 (xs.length : Int) ∧ fr.get 20 = .int .i64 (c : Int)

/-- All of a row for which there is room. -/
theorem ring_putAll {xs : List Int} {F : List Nat} {s : AV} (x : RingAt h i r) (v : View h 1 (intsA xs) F s) (hi : i ∉ F) (hl : r.row.length + xs.length ≤ 256) :
    ∃ u h', run T 150 [.ptr i 0, s] h = some (u, h') ∧ ∃ G, RingAt h' i { r with row := r.row ++ xs } ∧ View h' 1 [] G u ∧ Keep [i] h h' ∧ Fresh h G := by
  have hs := v.len1
  simp at hs
  obtain ⟨u, cu, vu⟩ := v.slice (by omega) (n := xs.length) (a := 0) (b := xs.length) (lo := none) (hi := some (.int .i64 (xs.length : Int))) (by simp) (by simp) (by simp) (by omega) (Nat.le_refl _)
  simp only [Nat.zero_mul, List.drop_zero, Nat.sub_zero, Nat.mul_one] at vu
  rw [List.take_of_length_le (by simp)] at vu
  have hu := vu.len1
  simp at hu
  refine run_wp T_150 ?_
  obtain ⟨cs, hd, room, hc, y⟩ := id x
  have c1 := y.c1
  have e1 : IntKind.wrap .i64 (256 - (r.row.length : Int)) = 256 - (r.row.length : Int) := wrap_i64 (by omega) (by omega)
  have e2 : minInt (.int .i64 (xs.length : Int)) (.int .i64 (256 - (r.row.length : Int))) = some (.int .i64 (xs.length : Int)) := by
    simp [minInt]; omega
  simp [F150, hs, hc, c1, e1, e2, cu, hu]
  refine Wp.loop (PutAllI h i r xs F s u xs.length) xs.length (lt_rounds (by omega)) ?_ ?_
  · exact ⟨0, by simp, by simpa using x, Keep.refl, by simp⟩
  rintro n fr g ⟨c, hc', xg, k, s0, s1, s5, s18, s19, s20⟩
  have vug := vu.keep k (fun t ht => by simp; rintro rfl; exact hi ht)
  by_cases hcl : c < xs.length
  · obtain ⟨j, o, h1, h2, h3⟩ := vug.idx1 (intsA_get hcl)
    obtain ⟨g', e, x', k'⟩ := ring_push xg (by simp; omega) xs[c]
    simp [s0, s1, s5, s18, s19, s20, hcl, h1, h3, e]
    exact ⟨n - 1, by omega, c + 1, by omega, by rw [List.take_succ_eq_append_getElem hcl, ← List.append_assoc]; exact x', k.trans' k', by simp [s0, s1, s5, s18, s19, wrap_nat (c := c) (by omega)]⟩
  · have hcx : c = xs.length := by omega
    subst hcx
    rw [List.take_length] at xg
    have vg := v.keep k (fun t ht => by simp; rintro rfl; exact hi ht)
    obtain ⟨z, cz, vz⟩ := vg.slice (by omega) (n := xs.length) (a := xs.length) (b := xs.length) (lo := some (.int .i64 (xs.length : Int))) (hi := none) (by simp) (by simp) (by simp) (Nat.le_refl _) (Nat.le_refl _)
    simp only [Nat.mul_one, Nat.sub_self, Nat.zero_mul, List.take_zero] at vz
    obtain ⟨z', g', F', e, v', k', f'⟩ := clone_ok (xs := []) (by simpa using vz) (by simp)
    simp [s0, s1, s5, s18, s19, s20, cz, e]
    exact ⟨xg.keep k' (by simp), F', v'.view, k.trans k' (by simp), fun t ht => by have := f' t ht; have := k.size; omega⟩

/-- One. -/
def Rg.get (r : Rg) : Rg × Int × Bool :=
  if r.is = true ∧ r.row = [] then ({ r with streak := 0, is := false }, r.next, true)
  else if r.is = true ∧ r.streak < 4 then ({ r with streak := r.streak + 1, is := false }, r.next, true)
  else match r.row with
    | [] => (r, 0, false)
    | x :: l => (if r.is = true then { row := l ++ [r.next], is := false, next := r.next, streak := 0 } else { r with row := l, streak := 0 }, x, true)

theorem ring_get (x : RingAt h i r) (hst : 0 ≤ r.streak ∧ r.streak ≤ 100) : ∃ h', run T 141 [.ptr i 0] h = some (.tuple [.int .i64 r.get.2.1, .bool r.get.2.2], h') ∧ RingAt h' i r.get.1 ∧ Keep [i] h h' := by
  obtain ⟨cs, hd, room, hc, y⟩ := id x
  have c1 := y.c1
  have c2 := y.c2
  have c4 := y.c4
  refine run_val T_141 ?_
  have wst : ∀ z, ∃ g, writeOf h i (h.get i) 260 [.int .i64 z] = some g ∧ RingAt g i { r with streak := z } ∧ Keep [i] h g ∧ ∃ cs room, g.get i = some (.cells false (cs.set 260 (.int .i64 z)) room) ∧ ∃ hd, RingC cs hd r := fun z =>
    x.write (o := 260) (v := .int .i64 z) (r' := { r with streak := z }) (by omega) rfl rfl (fun cs hd y => ⟨by rw [List.getElem?_set_ne (by omega)]; exact y.c2, by rw [List.getElem?_set_ne (by omega)]; exact y.c3, by rw [List.getElem?_set_self (by rw [y.len]; omega)]⟩)
  obtain ⟨g0, w0, x0, k0, csz, roomz, oz, hdz, yz⟩ := wst 0
  rw [hc] at w0
  cases hi : r.is with
  | true =>
    rw [hi] at c2
    by_cases hr : r.row = []
    · have hl : r.row.length = 0 := by rw [hr]; rfl
      obtain ⟨g1, e1, x1, k1⟩ := ring_take x0
      rw [hl] at c1
      have hg : r.get = ({ r with streak := 0, is := false }, r.next, true) := by unfold Rg.get; rw [if_pos ⟨hi, hr⟩]
      rw [hg]
      simp [F141, hc, c1, c2, w0, e1]
      exact ⟨x1, k0.trans' k1⟩
    · have hl : ¬ r.row.length = 0 := fun e => hr (List.eq_nil_of_length_eq_zero e)
      by_cases h4 : r.streak < 4
      · obtain ⟨g2, w2, x2, k2, _⟩ := wst (r.streak + 1)
        rw [hc] at w2
        obtain ⟨g1, e1, x1, k1⟩ := ring_take x2
        have hg : r.get = ({ r with streak := r.streak + 1, is := false }, r.next, true) := by unfold Rg.get; rw [if_neg (fun h => hr h.2), if_pos ⟨hi, h4⟩]
        rw [hg]
        have ew : IntKind.wrap .i64 (r.streak + 1) = r.streak + 1 := wrap_i64 (by omega) (by omega)
        simp [F141, hc, c1, c2, c4, hl, hr, h4, ew, w2, e1]
        exact ⟨x1, k2.trans' k1⟩
      · obtain ⟨z, l, hzl⟩ : ∃ z l, r.row = z :: l := by
          cases hrr : r.row with
          | nil => exact absurd hrr hr
          | cons z l => exact ⟨z, l, rfl⟩
        obtain ⟨o, g1, e1, G, x1, v1, k1, f1⟩ := ring_pop x0 (N := 1) (by simp [hzl])
        have e1 : run T 87 [.ptr i 0, .int .i64 1] g0 = some (o, g1) := e1
        simp only [hzl, List.drop_succ_cons, List.drop_zero, List.take_succ_cons, List.take_zero] at x1 v1
        obtain ⟨j, q, q1, q2, q3⟩ := v1.view.idx1 (k := 0) (x := .int .i64 z) rfl
        have q1 : idxAddrV 1 none o (.int .i64 0) = some (.ptr j q) := q1
        obtain ⟨cs1, hd1, room1, hc1, y1⟩ := id x1
        have d2 := y1.c2
        simp only [hi] at d2
        obtain ⟨g2, e2, x2, k2⟩ := ring_take x1
        have hlen : l.length < 256 := by have := y.le; rw [hzl] at this; simp at this; omega
        obtain ⟨g3, e3, x3, k3⟩ := ring_push x2 hlen r.next
        have hg : r.get = ({ row := l ++ [r.next], is := false, next := r.next, streak := 0 }, z, true) := by
          unfold Rg.get; rw [if_neg (fun h => hr h.2), if_neg (fun h => h4 h.2), hzl]; simp only [hi, if_true]
        rw [hg]
        simp [F141, hc, c1, c2, c4, hl, hr, h4, w0, e1, q1, q3, hc1, d2, e2, e3]
        exact ⟨x3, ((k0.trans' k1).trans' k2).trans' k3⟩
  | false =>
    rw [hi] at c2
    cases hrr : r.row with
    | nil =>
      have hl : r.row.length = 0 := by rw [hrr]; rfl
      rw [hl] at c1
      have hg : r.get = (r, 0, false) := by unfold Rg.get; rw [if_neg (by simp [hi]), if_neg (by simp [hi]), hrr]
      rw [hg]
      simp [F141, hc, c1, c2]
      exact ⟨x, Keep.refl⟩
    | cons z l =>
      have hl : ¬ r.row.length = 0 := by rw [hrr]; simp
      obtain ⟨o, g1, e1, G, x1, v1, k1, f1⟩ := ring_pop x0 (N := 1) (by simp [hrr])
      have e1 : run T 87 [.ptr i 0, .int .i64 1] g0 = some (o, g1) := e1
      simp only [hrr, List.drop_succ_cons, List.drop_zero, List.take_succ_cons, List.take_zero] at x1 v1
      obtain ⟨j, q, q1, q2, q3⟩ := v1.view.idx1 (k := 0) (x := .int .i64 z) rfl
      have q1 : idxAddrV 1 none o (.int .i64 0) = some (.ptr j q) := q1
      obtain ⟨cs1, hd1, room1, hc1, y1⟩ := id x1
      have d2 := y1.c2
      simp only [hi] at d2
      have hg : r.get = ({ r with row := l, streak := 0 }, z, true) := by
        unfold Rg.get; rw [if_neg (by simp [hi]), if_neg (by simp [hi]), hrr]; simp [hi]
      rw [hg]
      have hr : ¬ r.row = [] := by rw [hrr]; simp
      simp [F141, hc, c1, c2, hl, hr, w0, e1, q1, q3, hc1, d2]
      exact ⟨by simpa [hi] using x1, k0.trans' k1⟩

/-- Half of it. -/
def Rg.steal (r : Rg) : Rg × List Int :=
  if r.row = [] ∧ r.is = true then ({ r with streak := 0, is := false }, [r.next])
  else ({ r with row := r.row.drop ((r.row.length + 1) / 2) }, r.row.take ((r.row.length + 1) / 2))

theorem ring_steal (x : RingAt h i r) : ∃ o h', run T 144 [.ptr i 0] h = some (o, h') ∧ ∃ G, RingAt h' i r.steal.1 ∧ View h' 1 (intsA r.steal.2) G o ∧ Keep [i] h h' ∧ Fresh h G := by
  obtain ⟨cs, hd, room, hc, y⟩ := id x
  have c1 := y.c1
  have c2 := y.c2
  have hle := y.le
  have hil := x.lt
  refine run_wp T_144 ?_
  by_cases hr : r.row = [] ∧ r.is = true
  · obtain ⟨hr, hi⟩ := hr
    obtain ⟨g0, w0, x0, k0, _⟩ := x.write (o := 260) (v := .int .i64 0) (r' := { r with streak := 0 }) (by omega) rfl rfl (fun cs hd y => ⟨by rw [List.getElem?_set_ne (by omega)]; exact y.c2, by rw [List.getElem?_set_ne (by omega)]; exact y.c3, by rw [List.getElem?_set_self (by rw [y.len]; omega)]⟩)
    rw [hc] at w0
    obtain ⟨g1, e1, x1, k1⟩ := ring_take x0
    have hl : r.row.length = 0 := by rw [hr]; rfl
    rw [hl] at c1
    rw [hi] at c2
    have hg : r.steal = ({ r with streak := 0, is := false }, [r.next]) := by unfold Rg.steal; rw [if_pos ⟨hr, hi⟩]
    rw [hg]
    simp [F144, hc, c1, c2, w0, e1]
    have hsz := (k0.trans' k1).size
    exact ⟨x1.keep (Keep.push (F := [])) (by simp), [g1.size], one_new, (k0.trans' k1).trans' Keep.push, fun t ht => by simp at ht; omega⟩
  · obtain ⟨N, hN⟩ : ∃ N, N = (r.row.length + 1) / 2 := ⟨_, rfl⟩
    have hg : r.steal = ({ r with row := r.row.drop N }, r.row.take N) := by unfold Rg.steal; rw [if_neg hr, hN]
    rw [hg]
    obtain ⟨o, g1, e1, G, x1, v1, k1, f1⟩ := ring_pop x (N := N) (by omega)
    have ew : IntKind.wrap .i64 ((r.row.length : Int) + 1) = (r.row.length : Int) + 1 := wrap_nat (by omega)
    have eq : IntKind.wrap .i64 (Int.tdiv ((r.row.length : Int) + 1) 2) = (N : Int) := by
      have : Int.tdiv ((r.row.length : Int) + 1) 2 = (N : Int) := by
        rw [hN]
        exact (Int.ofNat_tdiv (r.row.length + 1) 2).symm
      rw [this]
      exact wrap_i64 (by omega) (by omega)
    by_cases hl : r.row = []
    · have hi : r.is = false := by
        cases hi : r.is with
        | false => rfl
        | true => exact absurd ⟨hl, hi⟩ hr
      have hl0 : r.row.length = 0 := by rw [hl]; rfl
      rw [hl0] at c1 ew eq
      rw [hi] at c2
      have hN0 : N = 0 := by rw [hN, hl0]
      subst hN0
      have e1 : run T 87 [.ptr i 0, .int .i64 0] h = some (o, g1) := e1
      have hz : IntKind.wrap .i64 ((IntKind.wrap .i64 1).tdiv 2) = 0 := by decide
      simp [F144, hc, c1, c2, hz, e1]
      simp at x1
      exact ⟨x1, G, by simpa using v1.view, k1, f1⟩
    · have hl0 : ¬ r.row.length = 0 := fun e => hl (List.eq_nil_of_length_eq_zero e)
      simp [F144, hc, c1, c2, hl, hl0, ew, eq, e1]
      exact ⟨x1, G, v1.view, k1, f1⟩
end

end Go.Proofs.YtblhcbmcbhoeiaaGreatDoor.Ev
end

section
/- What the functions of notes come to. -/
namespace Go.Proofs.YtblhcbmcbhoeiaaGreatDoor.Ev
set_option linter.unusedSimpArgs false
set_option linter.unusedVariables false
open Go
set_option maxRecDepth 100000

section
variable {h : AHeap} {i j : Nat} {ws : List Int} {cnt k : Int}

theorem note_wake (m : MemAt h i j ws cnt) (h0 : 0 ≤ k) (hk : k < ws.length) : ∃ h', run T 76 [.ptr i 0, .int .i64 k] h = some (.bool (decide (wd ws k.toNat = 0)), h') ∧ MemAt h' i j (if wd ws k.toNat = 0 then ws.set k.toNat 1 else ws) (up cnt) ∧ Keep [i, j] h h' := by
  obtain ⟨h', e, m', k'⟩ := swap_mem m h0 hk 0 1
  refine ⟨h', run_eq T_76 ?_, m', k'⟩
  simp [F76, e]

/-- A sleeper for ever. -/
theorem note_step (m : MemAt h i j ws cnt) (h0 : 0 ≤ k) (hk : k < ws.length) : ∃ h', run T 106 [.agg [.int .i64 k, .int .i64 9223372036854775807], .ptr i 0, .int .i64 0] h = some (.int .i64 (if wd ws k.toNat = 1 then 1 else 0), h') ∧ MemAt h' i j (if wd ws k.toNat = 1 then ws.set k.toNat 0 else ws) (up cnt) ∧ Keep [i, j] h h' := by
  have k0 : Keep [i, j] h (h.push (.cells false [.int .i64 k, .int .i64 9223372036854775807] none)) := Keep.push
  have b0 : (h.push (.cells false [.int .i64 k, .int .i64 9223372036854775807] none)).get h.size = some (.cells false [.int .i64 k, .int .i64 9223372036854775807] none) := get_push_new
  have hl := m.lt
  obtain ⟨h1, e1, m1, k1⟩ := swap_mem (m.keep (Keep.push (F := [])) (by simp) (by simp)) h0 hk 1 0
  have b1 := k1.obj b0 (by simp; omega)
  refine run_val T_106 ?_
  by_cases hw : wd ws k.toNat = 1
  · rw [decide_eq_true hw] at e1
    simp [F106, b0, e1, hw]
    rw [if_pos hw] at m1
    exact ⟨m1, k0.trans' k1⟩
  · rw [decide_eq_false hw] at e1
    have e2 : run T 135 [.agg [.int .i64 k, .int .i64 9223372036854775807], .int .i64 0] h1 = some (.bool false, h1.push (.cells false [.int .i64 k, .int .i64 9223372036854775807] none)) := by
      refine run_eq T_135 ?_
      simp [F135]
    simp [F106, b0, b1, e1, e2, hw]
    rw [if_neg hw] at m1
    exact ⟨m1.keep (Keep.push (F := [])) (by simp) (by simp), (k0.trans' k1).trans' Keep.push⟩
end

end Go.Proofs.YtblhcbmcbhoeiaaGreatDoor.Ev
end

section
/- What a batch's functions come to. -/
namespace Go.Proofs.YtblhcbmcbhoeiaaGreatDoor.Ev
set_option linter.unusedSimpArgs false
set_option linter.unusedVariables false
open Go
set_option maxRecDepth 100000

/-- A batch that lies at object i (other cells behind it: rest), its numbers in F. -/
def BatchAt (h : AHeap) (i : Nat) (F : List Nat) (xs : List Int) (rest : List AV) : Prop := ∃ s room, h.get i = some (.cells false (s :: rest) room) ∧ Vec h 1 (intsA xs) F s ∧ i ∉ F

theorem BatchAt.keep {h h' : AHeap} {i : Nat} {F G : List Nat} {xs : List Int} {rest : List AV} (b : BatchAt h i F xs rest) (k : Keep G h h') (hd : ∀ t ∈ i :: F, t ∉ G) : BatchAt h' i F xs rest := by
  obtain ⟨s, room, hi, v, ni⟩ := b
  exact ⟨s, room, k.obj hi (hd i (by simp)), v.keep k (fun t ht => hd t (by simp [ht])), ni⟩

theorem BatchAt.lt {h : AHeap} {i : Nat} {F : List Nat} {xs : List Int} {rest : List AV} (b : BatchAt h i F xs rest) : ∀ t ∈ i :: F, t < h.size := by
  obtain ⟨s, room, hi, v, ni⟩ := b
  intro t ht
  rcases List.mem_cons.1 ht with rfl | ht
  · exact get_lt hi
  · exact v.lt t ht

section
variable {h : AHeap} {i : Nat} {xs ys : List Int} {F G : List Nat} {s u : AV} {rest : List AV}

theorem batch_len (b : BatchAt h i F xs rest) : run T 172 [.ptr i 0] h = some (.int .i64 xs.length, h) := by
  obtain ⟨s, room, hi, v, ni⟩ := b
  have hl := v.view.len1
  refine run_eq T_172 ?_
  simp [F172, hi, hl]

theorem batch_list (b : BatchAt h i F xs rest) (hb : xs.length ≤ 1000000) : ∃ s' h' F', run T 85 [.ptr i 0] h = some (s', h') ∧ Vec h' 1 (intsA xs) F' s' ∧ Keep [] h h' ∧ Fresh h F' := by
  obtain ⟨s, room, hi, v, ni⟩ := b
  obtain ⟨s', h', F', e, v', k, o⟩ := clone_ok v.view hb
  refine ⟨s', h', F', run_eq T_85 ?_, v', k, o⟩
  simp [F85, hi, e]

/-- A new row of one's own is laid into a batch. -/
theorem batch_lay {F' : List Nat} {s' : AV} {s0 : AV} {room : Option (Nat × Nat)} (hi : h.get i = some (.cells false (s0 :: rest) room)) (v : Vec h 1 (intsA xs) F' s') (ni : i ∉ F') : h.write i 0 [s'] = some (h.put i (.cells false (s' :: rest) room)) ∧ BatchAt (h.put i (.cells false (s' :: rest) room)) i F' xs rest := by
  have hs : s'.one = true := by cases v <;> rfl
  refine ⟨by simp [hi, hs], s', room, by rw [get_put_same, hi]; rfl, v.keep (Keep.put (F := [i]) (by simp)) (fun t ht hm => ?_), ni⟩
  simp only [List.mem_singleton] at hm
  subst hm
  exact ni ht

theorem vec_cells {h : AHeap} {n : Nat} {cs : List AV} {F : List Nat} {s : AV} (v : Vec h n cs F s) : s.cells = [s] ∧ s.one = true := by cases v <;> exact ⟨rfl, rfl⟩

theorem batch_put (b : BatchAt h i F xs rest) (v : View h 1 (intsA ys) G u) (hb : xs.length + ys.length ≤ 1000000) : ∃ h' F', run T 99 [.ptr i 0, u] h = some (.tuple [], h') ∧ BatchAt h' i F' (xs ++ ys) rest ∧ Keep (i :: F) h h' ∧ ∀ t ∈ F', t ∈ F ∨ h.size ≤ t := by
  obtain ⟨s, room, hi, w, ni⟩ := b
  obtain ⟨s', h', F', e, w', k, f⟩ := w.append1 (bytes := 8) v intsA_one (by simp [bigA]; omega) (by simp [bigA]; omega)
  rw [← intsA_append] at w'
  have ni' : i ∉ F' := fun hm => by
    rcases f i hm with h1 | h1
    · exact ni h1
    · have := get_lt hi
      omega
  have hi' := k.obj hi ni
  obtain ⟨e2, b2⟩ := batch_lay hi' w' ni'
  have hc := vec_cells w'
  refine ⟨_, F', run_eq T_99 ?_, b2, (k.mono (by simp; exact fun t ht => Or.inr ht)).trans' (Keep.put (by simp)), f⟩
  simp [F99, hi, e, hc, hi']

theorem batch_takeMost (b : BatchAt h i F xs rest) (hb : xs.length ≤ 1000000) (n : Int) : ∃ s' h' G, run T 170 [.ptr i 0, .int .i64 n] h = some (s', h') ∧ Vec h' 1 (intsA (xs.take n.toNat)) G s' ∧ BatchAt h' i F (xs.drop n.toNat) rest ∧ Keep (i :: F) h h' ∧ Fresh h G := by
  obtain ⟨s, room, hi, w, ni⟩ := b
  have hl := w.view.len1
  simp at hl
  obtain ⟨k, hk⟩ : ∃ k : Nat, min (max 0 n) (xs.length : Int) = k := ⟨(min (max 0 n) (xs.length : Int)).toNat, by omega⟩
  have hkl : k ≤ xs.length := by omega
  have e1 : xs.take n.toNat = xs.take k := by
    rw [List.take_eq_take_iff]
    omega
  have e2 : xs.drop n.toNat = xs.drop k := by
    rcases Nat.lt_or_ge xs.length n.toNat with h1 | h1
    · rw [List.drop_of_length_le (by omega), List.drop_of_length_le (by omega)]
    · rw [show n.toNat = k by omega]
  rw [e1, e2]
  obtain ⟨s1, es, v1⟩ := w.view.slice (by omega) (n := xs.length) (lo := none) (hi := some (.int .i64 k)) (a := 0) (b := k) (by simp) (by simp) (by simp) (by omega) hkl
  simp at v1
  obtain ⟨s2, h1, G, ec, v2, k1, o1⟩ := clone_ok v1 (by simp; omega)
  have hi1 := k1.obj hi (by simp)
  obtain ⟨s3, h2, ed, v3, k2⟩ := delete_ok (w.keep k1 (by simp)) hb hkl
  have hi2 := k2.obj hi1 ni
  obtain ⟨e4, b4⟩ := batch_lay hi2 v3 ni
  have hc := vec_cells v3
  have hlt := w.lt
  have hi0 := get_lt hi
  have kk : Keep (i :: F) h h2 := (k1.mono (by simp)).trans (G := F) k2 (fun t ht => Or.inl (by simp [ht]))
  refine ⟨s2, _, G, run_eq T_170 ?_, ?_, b4, kk.trans' (Keep.put (by simp)), o1⟩
  · simp [F170, hi, hl, hk, es, ec, hi1, ed, hi2, hc]
  · have v5 := v2.keep k2 (fun t ht hm => by have := hlt t hm; have := o1 t ht; omega)
    exact v5.keep (Keep.put (F := [i]) (by simp)) (fun t ht hm => by simp only [List.mem_singleton] at hm; have := o1 t ht; omega)

theorem batch_take (b : BatchAt h i F xs rest) (hb : xs.length ≤ 1000000) : ∃ h', run T 167 [.ptr i 0] h = some (.tuple [.int .i64 (xs.headD 0), .bool (decide (xs ≠ []))], h') ∧ BatchAt h' i F (xs.drop 1) rest ∧ Keep (i :: F) h h' := by
  obtain ⟨s', h', G, e, v, b', k, o⟩ := batch_takeMost b hb 1
  refine ⟨h', run_eq T_167 ?_, b', k⟩
  have hl := v.view.len1
  cases xs with
  | nil =>
    simp at hl
    simp [F167, e, hl]
  | cons x xs =>
    simp at hl
    obtain ⟨j, o', h1, h2, h3⟩ := v.view.idx1 (k := 0) (x := .int .i64 x) (by simp [intsA])
    have h1 : idxAddrV 1 none s' (.int .i64 0) = _ := h1
    simp [F167, e, hl, h1, h3]

end

end Go.Proofs.YtblhcbmcbhoeiaaGreatDoor.Ev
end

section
/- What a global queue's functions come to. -/
namespace Go.Proofs.YtblhcbmcbhoeiaaGreatDoor.Ev
set_option linter.unusedSimpArgs false
set_option linter.unusedVariables false
open Go
set_option maxRecDepth 100000

/-- How many are taken at once. -/
def shareN (len p : Nat) : Nat := min (min (len / p + 1) len) 128

section
variable {h : AHeap} {i p : Nat} {xs ys : List Int} {F G : List Nat} {s u : AV}

theorem queue_new (h : AHeap) (n : Int) : ∃ (p : Nat) (h' : AHeap), (p : Int) = min (max 1 n) 64 ∧ run T 46 [.int .i64 n] h = some (.ptr h.size 0, h') ∧ BatchAt h' h.size [] [] [.int .i64 p] ∧ Keep [] h h' := by
  obtain ⟨p, hp⟩ : ∃ p : Nat, (p : Int) = min (max 1 n) 64 := ⟨(min (max 1 n) 64).toNat, by omega⟩
  refine ⟨p, h.push (.cells false [.nilslice, .int .i64 p] none), hp, run_eq T_46 ?_, ⟨.nilslice, none, get_push_new, .nil rfl, by simp⟩, Keep.push⟩
  simp [F46, ← hp]

theorem queue_len (b : BatchAt h i F xs [.int .i64 p]) : run T 146 [.ptr i 0] h = some (.int .i64 xs.length, h) := by
  have e := batch_len b
  refine run_eq T_146 ?_
  simp [F146, e]

theorem queue_put (b : BatchAt h i F xs [.int .i64 p]) (v : View h 1 (intsA ys) G u) (hb : xs.length + ys.length ≤ 1000000) : ∃ h' F', run T 56 [.ptr i 0, u] h = some (.tuple [], h') ∧ BatchAt h' i F' (xs ++ ys) [.int .i64 p] ∧ Keep (i :: F) h h' ∧ ∀ t ∈ F', t ∈ F ∨ h.size ≤ t := by
  obtain ⟨h', F', e, b', k, f⟩ := batch_put b v hb
  refine ⟨h', F', run_eq T_56 ?_, b', k, f⟩
  simp [F56, e]

theorem queue_share (b : BatchAt h i F xs [.int .i64 p]) (hp : 1 ≤ p) (hb : xs.length ≤ 1000000) : run T 171 [.ptr i 0] h = some (.int .i64 (shareN xs.length p), h) := by
  have e := queue_len b
  obtain ⟨s, room, hi, v, ni⟩ := b
  obtain ⟨q, hq⟩ : ∃ q : Nat, q = xs.length / p := ⟨_, rfl⟩
  have hql : q ≤ xs.length := by rw [hq]; exact Nat.div_le_self _ _
  have hp0 : (p : Int) ≠ 0 := by omega
  have hq1 : binV .quo (.int .i64 (xs.length : Int)) (.int .i64 (p : Int)) = some (.int .i64 q) := by
    rw [binV_quo' hp0, Int.tdiv_eq_ediv_of_nonneg (by omega), ← Int.natCast_ediv, ← hq, wrap_i64 (by omega) (by omega)]
  have hq2 : IntKind.wrap .i64 ((q : Int) + 1) = (q : Int) + 1 := wrap_nat (by omega)
  have hs : min (min ((q : Int) + 1) xs.length) 128 = (shareN xs.length p : Int) := by
    rw [shareN, ← hq]
    omega
  refine run_eq T_171 ?_
  simp [F171, e, hi, hq1, hq2, hs]

theorem shareN_le (len p : Nat) : shareN len p ≤ len := by simp only [shareN]; omega
theorem shareN_pos {len p : Nat} (h : 0 < len) : 0 < shareN len p := by simp only [shareN]; generalize len / p = q; omega

theorem queue_take (b : BatchAt h i F xs [.int .i64 p]) (hp : 1 ≤ p) (hb : xs.length ≤ 1000000) : ∃ s' h' G, run T 143 [.ptr i 0] h = some (s', h') ∧ Vec h' 1 (intsA (xs.take (shareN xs.length p))) G s' ∧ BatchAt h' i F (xs.drop (shareN xs.length p)) [.int .i64 p] ∧ Keep (i :: F) h h' ∧ Fresh h G := by
  have e := queue_share b hp hb
  obtain ⟨s', h', G, e2, v, b', k, o⟩ := batch_takeMost b hb (shareN xs.length p)
  refine ⟨s', h', G, run_eq T_143 ?_, v, b', k, o⟩
  simp [F143, e, e2]

theorem queue_one (b : BatchAt h i F xs [.int .i64 p]) (hb : xs.length ≤ 1000000) : ∃ h', run T 139 [.ptr i 0] h = some (.tuple [.int .i64 (xs.headD 0), .bool (decide (xs ≠ []))], h') ∧ BatchAt h' i F (xs.drop 1) [.int .i64 p] ∧ Keep (i :: F) h h' := by
  obtain ⟨h', e, b', k⟩ := batch_take b hb
  refine ⟨h', run_eq T_139 ?_, b', k⟩
  simp [F139, e]

theorem queue_list (b : BatchAt h i F xs [.int .i64 p]) (hb : xs.length ≤ 1000000) : ∃ s' h' F', run T 40 [.ptr i 0] h = some (s', h') ∧ Vec h' 1 (intsA xs) F' s' ∧ Keep [] h h' ∧ Fresh h F' := by
  obtain ⟨s', h', F', e, v, k, o⟩ := batch_list b hb
  refine ⟨s', h', F', run_eq T_40 ?_, v, k, o⟩
  simp [F40, e]

end

/-! ## Rows that rise -/

def rowL (a : Int) (n : Nat) : List Int := (List.range n).map fun (i : Nat) => a.tmod 4096 + (i : Int)
@[simp] theorem rowL_len {a : Int} {n : Nat} : (rowL a n).length = n := by simp [rowL]
theorem rowL_succ {a : Int} {n : Nat} : rowL a (n + 1) = rowL a n ++ [a.tmod 4096 + (n : Int)] := by simp [rowL, List.range_succ]

def RowI (h : AHeap) (a : Int) (m n : Nat) (fr : FF) (g : AHeap) : Prop := ∃ (c : Nat) (o : AV) (G : List Nat), c + n = m ∧ Keep [] h g ∧ Fresh h G ∧ Vec g 1 (intsA (rowL a c)) G o ∧ fr.get 0 = .int .i64 a ∧ fr.get 7 = .int .i64 m ∧ fr.get 8 = .int .i64 c ∧ fr.get 5 = o

theorem rowL_seg {a n : Nat} (h : a < 4096) : rowL a n = seg a (a + n) := by
  apply List.ext_getElem?
  intro i
  have ha : (a : Int).tmod 4096 = a := Int.tmod_eq_of_lt (by omega) (by omega)
  by_cases hi : i < n
  · rw [seg_get (by omega)]
    simp [rowL, hi, ha]
  · rw [List.getElem?_eq_none (by simp; omega), List.getElem?_eq_none (by simp; omega)]

end Go.Proofs.YtblhcbmcbhoeiaaGreatDoor.Ev
end
