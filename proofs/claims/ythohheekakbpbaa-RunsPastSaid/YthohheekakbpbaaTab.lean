/- The table of the functions' codes, written by program (tabgen.py). -/
import Derived.Test.YthohheekakbpbaaB0
import Derived.Test.YthohheekakbpbaaCode
set_option linter.unusedSectionVars false
set_option linter.unusedVariables false
set_option linter.unusedSimpArgs false
set_option linter.defProp false
set_option maxRecDepth 20000
namespace Go.Pd
open Go Go.Proofs
def Tb : Table := [(3, ⟨c3.1, c3.2.1, c3.2.2, []⟩), (4, ⟨c4.1, c4.2.1, c4.2.2, []⟩), (5, ⟨c5.1, c5.2.1, c5.2.2, []⟩), (6, ⟨c6.1, c6.2.1, c6.2.2, []⟩), (7, ⟨c7.1, c7.2.1, c7.2.2, []⟩), (8, ⟨c8.1, c8.2.1, c8.2.2, []⟩), (9, ⟨c9.1, c9.2.1, c9.2.2, []⟩), (10, ⟨c10.1, c10.2.1, c10.2.2, []⟩), (11, ⟨c11.1, c11.2.1, c11.2.2, []⟩), (12, ⟨c12.1, c12.2.1, c12.2.2, []⟩), (13, ⟨c13.1, c13.2.1, c13.2.2, []⟩), (14, ⟨c14.1, c14.2.1, c14.2.2, []⟩), (15, ⟨c15.1, c15.2.1, c15.2.2, []⟩), (16, ⟨c16.1, c16.2.1, c16.2.2, []⟩), (17, ⟨c17.1, c17.2.1, c17.2.2, []⟩), (18, ⟨c18.1, c18.2.1, c18.2.2, []⟩), (19, ⟨c19.1, c19.2.1, c19.2.2, []⟩), (20, ⟨c20.1, c20.2.1, c20.2.2, [60, 67, 1000059, 1000060]⟩), (21, ⟨c21.1, c21.2.1, c21.2.2, []⟩), (22, ⟨c22.1, c22.2.1, c22.2.2, []⟩), (23, ⟨c23.1, c23.2.1, c23.2.2, []⟩), (24, ⟨c24.1, c24.2.1, c24.2.2, []⟩), (25, ⟨c25.1, c25.2.1, c25.2.2, []⟩), (26, ⟨c26.1, c26.2.1, c26.2.2, [1000031]⟩), (27, ⟨c27.1, c27.2.1, c27.2.2, []⟩), (28, ⟨c28.1, c28.2.1, c28.2.2, []⟩), (29, ⟨c29.1, c29.2.1, c29.2.2, []⟩), (30, ⟨c30.1, c30.2.1, c30.2.2, []⟩), (31, ⟨c31.1, c31.2.1, c31.2.2, []⟩), (32, ⟨c32.1, c32.2.1, c32.2.2, [102]⟩), (33, ⟨c33.1, c33.2.1, c33.2.2, []⟩), (34, ⟨c34.1, c34.2.1, c34.2.2, [104]⟩), (35, ⟨c35.1, c35.2.1, c35.2.2, []⟩), (36, ⟨c36.1, c36.2.1, c36.2.2, [51, 58, 80, 1000050, 1000051, 1000110]⟩), (37, ⟨c37.1, c37.2.1, c37.2.2, []⟩), (38, ⟨c38.1, c38.2.1, c38.2.2, []⟩), (40, ⟨c40.1, c40.2.1, c40.2.2, []⟩), (41, ⟨c41.1, c41.2.1, c41.2.2, []⟩), (42, ⟨c42.1, c42.2.1, c42.2.2, [5]⟩), (43, ⟨c43.1, c43.2.1, c43.2.2, [5]⟩), (44, ⟨c44.1, c44.2.1, c44.2.2, [93, 99]⟩), (45, ⟨c45.1, c45.2.1, c45.2.2, []⟩), (46, ⟨c46.1, c46.2.1, c46.2.2, []⟩), (47, ⟨c47.1, c47.2.1, c47.2.2, []⟩), (48, ⟨c48.1, c48.2.1, c48.2.2, []⟩), (49, ⟨c49.1, c49.2.1, c49.2.2, []⟩), (50, ⟨c50.1, c50.2.1, c50.2.2, []⟩), (51, ⟨c51.1, c51.2.1, c51.2.2, []⟩), (52, ⟨c52.1, c52.2.1, c52.2.2, []⟩), (53, ⟨c53.1, c53.2.1, c53.2.2, []⟩), (54, ⟨c54.1, c54.2.1, c54.2.2, []⟩), (55, ⟨c55.1, c55.2.1, c55.2.2, []⟩), (56, ⟨c56.1, c56.2.1, c56.2.2, []⟩), (57, ⟨c57.1, c57.2.1, c57.2.2, []⟩), (58, ⟨c58.1, c58.2.1, c58.2.2, []⟩), (59, ⟨c59.1, c59.2.1, c59.2.2, []⟩), (60, ⟨c60.1, c60.2.1, c60.2.2, []⟩), (61, ⟨c61.1, c61.2.1, c61.2.2, [55]⟩), (62, ⟨c62.1, c62.2.1, c62.2.2, []⟩), (63, ⟨c63.1, c63.2.1, c63.2.2, []⟩), (64, ⟨c64.1, c64.2.1, c64.2.2, []⟩), (65, ⟨c65.1, c65.2.1, c65.2.2, []⟩), (66, ⟨c66.1, c66.2.1, c66.2.2, []⟩), (67, ⟨c67.1, c67.2.1, c67.2.2, []⟩), (68, ⟨c68.1, c68.2.1, c68.2.2, []⟩), (69, ⟨c69.1, c69.2.1, c69.2.2, []⟩), (70, ⟨c70.1, c70.2.1, c70.2.2, []⟩), (71, ⟨c71.1, c71.2.1, c71.2.2, []⟩), (72, ⟨c72.1, c72.2.1, c72.2.2, []⟩), (73, ⟨c73.1, c73.2.1, c73.2.2, []⟩), (74, ⟨c74.1, c74.2.1, c74.2.2, []⟩), (75, ⟨c75.1, c75.2.1, c75.2.2, []⟩), (76, ⟨c76.1, c76.2.1, c76.2.2, []⟩), (77, ⟨c77.1, c77.2.1, c77.2.2, []⟩), (78, ⟨c78.1, c78.2.1, c78.2.2, []⟩), (79, ⟨c79.1, c79.2.1, c79.2.2, []⟩), (80, ⟨c80.1, c80.2.1, c80.2.2, []⟩), (81, ⟨c81.1, c81.2.1, c81.2.2, []⟩), (84, ⟨c84.1, c84.2.1, c84.2.2, []⟩), (85, ⟨c85.1, c85.2.1, c85.2.2, []⟩), (86, ⟨c86.1, c86.2.1, c86.2.2, []⟩), (87, ⟨c87.1, c87.2.1, c87.2.2, []⟩), (88, ⟨c88.1, c88.2.1, c88.2.2, []⟩), (89, ⟨c89.1, c89.2.1, c89.2.2, []⟩), (90, ⟨c90.1, c90.2.1, c90.2.2, []⟩)]
theorem Tb_ok : TableOk Try.prog Tb :=
  .cons Try.func3 k3 <|
  .cons Try.func4 k4 <|
  .cons Try.func5 k5 <|
  .cons Try.func6 k6 <|
  .cons Try.func7 k7 <|
  .cons Try.func8 k8 <|
  .cons Try.func9 k9 <|
  .cons Try.func10 k10 <|
  .cons Try.func11 k11 <|
  .cons Try.func12 k12 <|
  .cons Try.func13 k13 <|
  .cons Try.func14 k14 <|
  .cons Try.func15 k15 <|
  .cons Try.func16 k16 <|
  .cons Try.func17 k17 <|
  .cons Try.func18 k18 <|
  .cons Try.func19 k19 <|
  .cons Try.func20 k20 <|
  .cons Try.func21 k21 <|
  .cons Try.func22 k22 <|
  .cons Try.func23 k23 <|
  .cons Try.func24 k24 <|
  .cons Try.func25 k25 <|
  .cons Try.func26 k26 <|
  .cons Try.func27 k27 <|
  .cons Try.func28 k28 <|
  .cons Try.func29 k29 <|
  .cons Try.func30 k30 <|
  .cons Try.func31 k31 <|
  .cons Try.func32 k32 <|
  .cons Try.func33 k33 <|
  .cons Try.func34 k34 <|
  .cons Try.func35 k35 <|
  .cons Try.func36 k36 <|
  .cons Try.func37 k37 <|
  .cons Try.func38 k38 <|
  .cons Try.func40 k40 <|
  .cons Try.func41 k41 <|
  .cons Try.func42 k42 <|
  .cons Try.func43 k43 <|
  .cons Try.func44 k44 <|
  .cons Try.func45 k45 <|
  .cons Try.func46 k46 <|
  .cons Try.func47 k47 <|
  .cons Try.func48 k48 <|
  .cons Try.func49 k49 <|
  .cons Try.func50 k50 <|
  .cons Try.func51 k51 <|
  .cons Try.func52 k52 <|
  .cons Try.func53 k53 <|
  .cons Try.func54 k54 <|
  .cons Try.func55 k55 <|
  .cons Try.func56 k56 <|
  .cons Try.func57 k57 <|
  .cons Try.func58 k58 <|
  .cons Try.func59 k59 <|
  .cons Try.func60 k60 <|
  .cons Try.func61 k61 <|
  .cons Try.func62 k62 <|
  .cons Try.func63 k63 <|
  .cons Try.func64 k64 <|
  .cons Try.func65 k65 <|
  .cons Try.func66 k66 <|
  .cons Try.func67 k67 <|
  .cons Try.func68 k68 <|
  .cons Try.func69 k69 <|
  .cons Try.func70 k70 <|
  .cons Try.func71 k71 <|
  .cons Try.func72 k72 <|
  .cons Try.func73 k73 <|
  .cons Try.func74 k74 <|
  .cons Try.func75 k75 <|
  .cons Try.func76 k76 <|
  .cons Try.func77 k77 <|
  .cons Try.func78 k78 <|
  .cons Try.func79 k79 <|
  .cons Try.func80 k80 <|
  .cons Try.func81 k81 <|
  .cons Try.func84 k84 <|
  .cons Try.func85 k85 <|
  .cons Try.func86 k86 <|
  .cons Try.func87 k87 <|
  .cons Try.func88 k88 <|
  .cons Try.func89 k89 <|
  .cons Try.func90 k90 <|
  .nil
end Go.Pd
