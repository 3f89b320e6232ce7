/- Texts of functions of the program, printed by program, each with its shallow form. -/
import Derived.Test.YtdjhhdppeicpbaaAbShal
open Go
namespace Ab.TD
set_option maxRecDepth 100000
/-- concertina/concertinalaw7.DepthKnown -/
def y3 : YCode := (.seq (.region [⟨none, [], [⟨(some 0), .mov (.c (.bool false)), none⟩]⟩])
  (.seq (.seq (.region [⟨none, [], [⟨(some 20), .call 4 [], none⟩,
    ⟨(some 21), .un .not (.t 20), none⟩]⟩])
  (.cond (.t 21) [] (.seq (.region [⟨none, [], [⟨(some 0), .mov (.c (.bool false)), none⟩]⟩])
  .ret)
  .skip))
  (.seq (.region [⟨none, [], [⟨(some 1), .alloc (List.replicate 256 (.int .i64 0)), none⟩,
    ⟨(some 2), .alloc (List.replicate 256 (.int .i64 0)), none⟩,
    ⟨(some 3), .alloc (List.replicate 256 (.int .i64 0)), none⟩]⟩])
  (.seq (.region [⟨none, [], [⟨(some 22), .idxa 256 1 (.t 1) (.c (.int .i64 120)), none⟩,
    ⟨none, .store1 (.t 22) (.c (.int .i64 7)), none⟩]⟩])
  (.seq (.region [⟨none, [], [⟨(some 23), .idxa 256 1 (.t 2) (.c (.int .i64 97)), none⟩,
    ⟨none, .store1 (.t 23) (.c (.int .i64 4)), none⟩,
    ⟨(some 24), .idxa 256 1 (.t 2) (.c (.int .i64 98)), none⟩,
    ⟨none, .store1 (.t 24) (.c (.int .i64 2)), none⟩,
    ⟨(some 25), .idxa 256 1 (.t 2) (.c (.int .i64 99)), none⟩,
    ⟨none, .store1 (.t 25) (.c (.int .i64 1)), none⟩]⟩])
  (.seq (.region [⟨none, [], [⟨(some 4), .mov (.c (.int .i64 1)), none⟩,
    ⟨(some 5), .mov (.c (.int .i64 1)), none⟩]⟩])
  (.seq (.seq (.region [⟨none, [], [⟨(some 6), .mov (.c (.int .i64 0)), none⟩]⟩])
  (.block 0 [1, 2, 3] (.loop [6, 4, 3, 5, 1, 2] (.seq (.seq (.region [⟨none, [], [⟨(some 26), .mov (.t 6), none⟩,
    ⟨(some 27), .bin .lss (.t 26) (.c (.int .i64 24)), none⟩]⟩])
  (.cond (.t 27) [6, 4, 3, 5, 1, 2] .skip
  (.exit 0)))
  (.seq (.block 1 [6, 4, 3, 5, 1, 2] (.seq (.region [⟨none, [], [⟨(some 30), .mov (.t 6), none⟩,
    ⟨(some 31), .mov (.t 4), none⟩,
    ⟨(some 32), .idxa 256 1 (.t 3) (.t 30), none⟩,
    ⟨none, .store1 (.t 32) (.t 31), none⟩]⟩])
  (.region [⟨none, [], [⟨(some 33), .mov (.t 5), none⟩,
    ⟨(some 34), .mov (.t 4), none⟩,
    ⟨(some 35), .mov (.t 5), none⟩,
    ⟨(some 36), .bin .add (.t 34) (.t 35), none⟩,
    ⟨(some 4), .mov (.t 33), none⟩,
    ⟨(some 5), .mov (.t 36), none⟩]⟩])))
  (.region [⟨none, [], [⟨(some 28), .mov (.t 6), none⟩,
    ⟨(some 29), .bin .add (.t 28) (.c (.int .i64 1)), none⟩,
    ⟨(some 6), .mov (.t 29), none⟩]⟩]))))))
  (.seq (.region [⟨none, [], [⟨(some 38), .loadN 256 (.t 1), none⟩,
    ⟨(some 39), .call 5 [(.t 38)], none⟩,
    ⟨(some 37), .mov (.t 39), none⟩,
    ⟨(some 40), .ext 0 (.t 37), none⟩,
    ⟨(some 41), .ext 1 (.t 37), none⟩,
    ⟨(some 7), .alloc (List.replicate 256 (.int .i64 0)), none⟩,
    ⟨none, .storeN 256 (.t 7) (.t 40), none⟩,
    ⟨(some 8), .mov (.t 41), none⟩]⟩])
  (.cut [2, 3, 8, 7] (.seq (.region [⟨none, [], [⟨(some 43), .loadN 256 (.t 2), none⟩,
    ⟨(some 44), .call 5 [(.t 43)], none⟩,
    ⟨(some 42), .mov (.t 44), none⟩,
    ⟨(some 45), .ext 0 (.t 42), none⟩,
    ⟨(some 46), .ext 1 (.t 42), none⟩,
    ⟨(some 9), .alloc (List.replicate 256 (.int .i64 0)), none⟩,
    ⟨none, .storeN 256 (.t 9) (.t 45), none⟩,
    ⟨(some 10), .mov (.t 46), none⟩]⟩])
  (.cut [3, 8, 10, 7, 9, 2] (.seq (.region [⟨none, [], [⟨(some 48), .loadN 256 (.t 3), none⟩,
    ⟨(some 49), .call 5 [(.t 48)], none⟩,
    ⟨(some 47), .mov (.t 49), none⟩,
    ⟨(some 50), .ext 0 (.t 47), none⟩,
    ⟨(some 51), .ext 1 (.t 47), none⟩,
    ⟨(some 11), .alloc (List.replicate 256 (.int .i64 0)), none⟩,
    ⟨none, .storeN 256 (.t 11) (.t 50), none⟩,
    ⟨(some 12), .mov (.t 51), none⟩]⟩])
  (.cut [11, 8, 10, 12, 7, 9, 2] (.seq (.region [⟨none, [], [⟨(some 53), .loadN 256 (.t 11), none⟩,
    ⟨(some 54), .call 6 [(.t 53)], none⟩,
    ⟨(some 52), .mov (.t 54), none⟩,
    ⟨(some 55), .ext 0 (.t 52), none⟩,
    ⟨(some 56), .ext 1 (.t 52), none⟩,
    ⟨(some 13), .mov (.t 55), none⟩,
    ⟨(some 14), .mov (.t 56), none⟩]⟩])
  (.seq (.region [⟨none, [], [⟨(some 15), .mov (.c (.int .i64 0)), none⟩]⟩])
  (.seq (.seq (.region [⟨none, [], [⟨(some 16), .mov (.c (.int .i64 0)), none⟩]⟩])
  (.block 2 [8, 10, 12, 7, 9, 13, 15, 2] (.loop [16, 15, 11, 8, 10, 12, 7, 9, 13, 2] (.seq (.seq (.region [⟨none, [], [⟨(some 57), .mov (.t 16), none⟩,
    ⟨(some 58), .bin .lss (.t 57) (.c (.int .i64 24)), none⟩]⟩])
  (.cond (.t 58) [15, 16, 11, 8, 10, 12, 7, 9, 13, 2] .skip
  (.exit 2)))
  (.seq (.block 3 [16, 15, 11, 8, 10, 12, 7, 9, 13, 2] (.region [⟨none, [], [⟨(some 61), .mov (.t 15), none⟩,
    ⟨(some 62), .mov (.t 16), none⟩,
    ⟨(some 63), .idxa 256 1 (.t 11) (.t 62), none⟩,
    ⟨(some 64), .load1 (.t 63), none⟩,
    ⟨(some 65), .bmax (.t 61) (.t 64), none⟩,
    ⟨(some 15), .mov (.t 65), none⟩]⟩]))
  (.region [⟨none, [], [⟨(some 59), .mov (.t 16), none⟩,
    ⟨(some 60), .bin .add (.t 59) (.c (.int .i64 1)), none⟩,
    ⟨(some 16), .mov (.t 60), none⟩]⟩]))))))
  (.seq (.region [⟨none, [], [⟨(some 17), .alloc (List.replicate 256 (.int .i64 0)), none⟩]⟩])
  (.seq (.region [⟨none, [], [⟨(some 66), .idxa 256 1 (.t 17) (.c (.int .i64 3)), none⟩,
    ⟨none, .store1 (.t 66) (.c (.int .i64 12)), none⟩]⟩])
  (.seq (.region [⟨none, [], [⟨(some 68), .loadN 256 (.t 17), none⟩,
    ⟨(some 69), .call 6 [(.t 68)], none⟩,
    ⟨(some 67), .mov (.t 69), none⟩,
    ⟨(some 70), .ext 0 (.t 67), none⟩,
    ⟨(some 71), .ext 1 (.t 67), none⟩,
    ⟨(some 18), .mov (.t 70), none⟩,
    ⟨(some 19), .mov (.t 71), none⟩]⟩])
  (.cut [8, 10, 12, 19, 7, 9, 13, 15, 2] (.seq (.region [⟨none, [], [⟨(some 72), .mov (.t 8), none⟩,
    ⟨(some 73), .mov (.t 72), none⟩]⟩,
   ⟨some (73, true), [74], [⟨(some 74), .mov (.t 10), some (73, true)⟩]⟩,
   ⟨none, [], [⟨(some 75), .pick (.t 73) (.t 74) (.c (.bool false)), none⟩,
    ⟨(some 76), .mov (.t 75), none⟩]⟩,
   ⟨some (76, true), [77], [⟨(some 77), .mov (.t 12), some (76, true)⟩]⟩,
   ⟨none, [], [⟨(some 78), .pick (.t 76) (.t 77) (.c (.bool false)), none⟩,
    ⟨(some 79), .mov (.t 78), none⟩]⟩,
   ⟨some (79, true), [81], [⟨(some 80), .mov (.t 19), some (79, true)⟩,
    ⟨(some 81), .un .not (.t 80), some (79, true)⟩]⟩,
   ⟨none, [], [⟨(some 82), .pick (.t 79) (.t 81) (.c (.bool false)), none⟩,
    ⟨(some 83), .mov (.t 82), none⟩]⟩,
   ⟨some (83, true), [86], [⟨(some 84), .idxa 256 1 (.t 7) (.c (.int .i64 120)), some (83, true)⟩,
    ⟨(some 85), .load1 (.t 84), some (83, true)⟩,
    ⟨(some 86), .bin .eql (.t 85) (.c (.int .i64 1)), some (83, true)⟩]⟩,
   ⟨none, [], [⟨(some 87), .pick (.t 83) (.t 86) (.c (.bool false)), none⟩,
    ⟨(some 88), .mov (.t 87), none⟩]⟩,
   ⟨some (88, true), [91], [⟨(some 89), .idxa 256 1 (.t 9) (.c (.int .i64 97)), some (88, true)⟩,
    ⟨(some 90), .load1 (.t 89), some (88, true)⟩,
    ⟨(some 91), .bin .eql (.t 90) (.c (.int .i64 1)), some (88, true)⟩]⟩,
   ⟨none, [], [⟨(some 92), .pick (.t 88) (.t 91) (.c (.bool false)), none⟩,
    ⟨(some 93), .mov (.t 92), none⟩]⟩,
   ⟨some (93, true), [96], [⟨(some 94), .idxa 256 1 (.t 9) (.c (.int .i64 98)), some (93, true)⟩,
    ⟨(some 95), .load1 (.t 94), some (93, true)⟩,
    ⟨(some 96), .bin .eql (.t 95) (.c (.int .i64 2)), some (93, true)⟩]⟩,
   ⟨none, [], [⟨(some 97), .pick (.t 93) (.t 96) (.c (.bool false)), none⟩,
    ⟨(some 98), .mov (.t 97), none⟩]⟩,
   ⟨some (98, true), [101], [⟨(some 99), .idxa 256 1 (.t 9) (.c (.int .i64 99)), some (98, true)⟩,
    ⟨(some 100), .load1 (.t 99), some (98, true)⟩,
    ⟨(some 101), .bin .eql (.t 100) (.c (.int .i64 2)), some (98, true)⟩]⟩,
   ⟨none, [], [⟨(some 102), .pick (.t 98) (.t 101) (.c (.bool false)), none⟩,
    ⟨(some 103), .mov (.t 102), none⟩]⟩,
   ⟨some (103, true), [105], [⟨(some 104), .mov (.t 13), some (103, true)⟩,
    ⟨(some 105), .bin .eql (.t 104) (.c (.int .i64 2048)), some (103, true)⟩]⟩,
   ⟨none, [], [⟨(some 106), .pick (.t 103) (.t 105) (.c (.bool false)), none⟩,
    ⟨(some 107), .mov (.t 106), none⟩]⟩,
   ⟨some (107, true), [109], [⟨(some 108), .mov (.t 15), some (107, true)⟩,
    ⟨(some 109), .bin .leq (.t 108) (.c (.int .i64 11)), some (107, true)⟩]⟩,
   ⟨none, [], [⟨(some 110), .pick (.t 107) (.t 109) (.c (.bool false)), none⟩,
    ⟨(some 111), .mov (.t 110), none⟩]⟩,
   ⟨some (111, true), [115], [⟨(some 112), .loadN 256 (.t 2), some (111, true)⟩,
    ⟨(some 113), .loadN 256 (.t 9), some (111, true)⟩,
    ⟨(some 114), .call 7 [(.t 112), (.t 113)], some (111, true)⟩,
    ⟨(some 115), .bin .eql (.t 114) (.c (.int .i64 10)), some (111, true)⟩]⟩,
   ⟨none, [], [⟨(some 116), .pick (.t 111) (.t 115) (.c (.bool false)), none⟩,
    ⟨(some 0), .mov (.t 116), none⟩]⟩])
  .ret)))))))))))))))))))))
def x3 : XFunc := ⟨117, [.tmp 0], y3.er⟩
noncomputable def s3_c139 (call : CallT) (_ : Nat) (v130 v131 v132 v133 v134 v135 v136 v137 v138 : AVal) (A139 : AH) : Res :=
 joinV (fun (v141 : AVal) (A142 : AH) =>
 bindO (pickR v130 v141 (.bool false)) fun v144 =>
 joinV (fun (v145 : AVal) (A146 : AH) =>
 bindO (pickR v144 v145 (.bool false)) fun v148 =>
 joinV (fun (v149 : AVal) (A150 : AH) =>
 bindO (pickR v148 v149 (.bool false)) fun v152 =>
 joinV (fun (v153 : AVal) (A154 : AH) =>
 bindO (pickR v152 v153 (.bool false)) fun v156 =>
 joinV (fun (v157 : AVal) (A158 : AH) =>
 bindO (pickR v156 v157 (.bool false)) fun v160 =>
 joinV (fun (v161 : AVal) (A162 : AH) =>
 bindO (pickR v160 v161 (.bool false)) fun v164 =>
 joinV (fun (v165 : AVal) (A166 : AH) =>
 bindO (pickR v164 v165 (.bool false)) fun v168 =>
 joinV (fun (v169 : AVal) (A170 : AH) =>
 bindO (pickR v168 v169 (.bool false)) fun v172 =>
 joinV (fun (v173 : AVal) (A174 : AH) =>
 bindO (pickR v172 v173 (.bool false)) fun v176 =>
 joinV (fun (v177 : AVal) (A178 : AH) =>
 bindO (pickR v176 v177 (.bool false)) fun v180 =>
 .ret v180 A178) fun j179 => wantK v176 true (
 bindO (loadNR 256 A174 v138) fun v181 =>
 bindO (loadNR 256 A174 v135) fun v182 =>
 bindR (call 7 [v181, v182] A174) (fun v183 A184 =>
 bindO (eqlR v183 (.int .i64 10)) fun v187 =>
 j179 v187 A184) fun u185 B186 => .pan u185 B186) (j179 (.tuple []) A174)) fun j175 => wantK v172 true (
 bindO (leqR v137 (.int .i64 11)) fun v188 =>
 j175 v188 A170) (j175 (.tuple []) A170)) fun j171 => wantK v168 true (
 bindO (eqlR v136 (.int .i64 2048)) fun v189 =>
 j171 v189 A166) (j171 (.tuple []) A166)) fun j167 => wantK v164 true (
 bindO (idxaR 256 1 v135 (.int .i64 99)) fun v190 =>
 bindO (load1R A162 v190) fun v191 =>
 bindO (eqlR v191 (.int .i64 2)) fun v192 =>
 j167 v192 A162) (j167 (.tuple []) A162)) fun j163 => wantK v160 true (
 bindO (idxaR 256 1 v135 (.int .i64 98)) fun v193 =>
 bindO (load1R A158 v193) fun v194 =>
 bindO (eqlR v194 (.int .i64 2)) fun v195 =>
 j163 v195 A158) (j163 (.tuple []) A158)) fun j159 => wantK v156 true (
 bindO (idxaR 256 1 v135 (.int .i64 97)) fun v196 =>
 bindO (load1R A154 v196) fun v197 =>
 bindO (eqlR v197 (.int .i64 1)) fun v198 =>
 j159 v198 A154) (j159 (.tuple []) A154)) fun j155 => wantK v152 true (
 bindO (idxaR 256 1 v134 (.int .i64 120)) fun v199 =>
 bindO (load1R A150 v199) fun v200 =>
 bindO (eqlR v200 (.int .i64 1)) fun v201 =>
 j155 v201 A150) (j155 (.tuple []) A150)) fun j151 => wantK v148 true (
 bindO (notR v133) fun v202 =>
 j151 v202 A146) (j151 (.tuple []) A146)) fun j147 => wantK v144 true (
 j147 v132 A142) (j147 (.tuple []) A142)) fun j143 => wantK v130 true (
 j143 v131 A139) (j143 (.tuple []) A139)
noncomputable def s3_k114 (call : CallT) (n : Nat) (v106 v107 v108 v109 v110 v111 v112 v113 : AVal) (A114 : AH) : Res :=
 bindF (afree [] (.alloc (List.replicate 256 (.int .i64 0)))) fun x116 f117 => forceV (f117 (A114.next)) fun v119 => letA (newR A114 x116) fun A118 =>
 bindO (idxaR 256 1 v119 (.int .i64 3)) fun v120 =>
 bindP (store1R A118 v120 (.int .i64 12)) fun _ A122 =>
 bindO (loadNR 256 A122 v119) fun v123 =>
 bindR (call 6 [v123] A122) (fun v124 A125 =>
 bindO (extR 0 v124) fun _ =>
 bindO (extR 1 v124) fun v129 =>
 joinV (s3_c139 call n) fun j140 => j140 v106 v107 v108 v129 v109 v110 v111 v112 v113 A125) fun u126 B127 => .pan u126 B127
noncomputable def s3_k238 (_ : CallT) (_ : Nat) (n214 : J10) (v228 v229 v230 v231 v232 v233 v234 v235 v236 v237 : AVal) (A238 : AH) : Res :=
 bindO (addR v228 (.int .i64 1)) fun v240 =>
 n214 v240 v229 v230 v231 v232 v233 v234 v235 v236 v237 A238
noncomputable def s3_k226 (call : CallT) (n : Nat) (n214 : J10) (v216 v217 v218 v219 v220 v221 v222 v223 v224 v225 : AVal) (A226 : AH) : Res :=
 joinV (s3_k238 call n n214) fun j239 =>
 bindO (idxaR 256 1 v218 v217) fun v241 =>
 bindO (load1R A226 v241) fun v242 =>
 bindO (apure [] (.bmax (.c v216) (.c v242))) fun v243 =>
 j239 v217 v243 v218 v219 v220 v221 v222 v223 v224 v225 A226
noncomputable def s3_l213 (call : CallT) (n : Nat) (j115 : J8) (n214 : J10) (v203 v204 v205 v206 v207 v208 v209 v210 v211 v212 : AVal) (A213 : AH) : Res :=
 bindO (lssR v203 (.int .i64 24)) fun v215 =>
 joinV (s3_k226 call n n214) fun j227 => boolK (some v215) (
 j227 v204 v203 v205 v206 v207 v208 v209 v210 v211 v212 A213) (
 j115 v206 v207 v208 v209 v210 v211 v204 v212 A213)
noncomputable def s3_c97 (call : CallT) (n : Nat) (v90 v91 v92 v93 v94 v95 v96 : AVal) (A97 : AH) : Res :=
 bindO (loadNR 256 A97 v90) fun v99 =>
 bindR (call 6 [v99] A97) (fun v100 A101 =>
 bindO (extR 0 v100) fun v104 =>
 bindO (extR 1 v100) fun _ =>
 joinV (s3_k114 call n) fun j115 =>
 loopK zJ10 n (s3_l213 call n j115) (.int .i64 0) (.int .i64 0) v90 v91 v92 v93 v94 v95 v104 v96 A101) fun u102 B103 => .pan u102 B103
noncomputable def s3_c75 (call : CallT) (n : Nat) (v69 v70 v71 v72 v73 v74 : AVal) (A75 : AH) : Res :=
 bindO (loadNR 256 A75 v69) fun v77 =>
 bindR (call 5 [v77] A75) (fun v78 A79 =>
 bindO (extR 0 v78) fun v82 =>
 bindO (extR 1 v78) fun v83 =>
 bindF (afree [] (.alloc (List.replicate 256 (.int .i64 0)))) fun x84 f85 => forceV (f85 (A79.next)) fun v87 => letA (newR A79 x84) fun A86 =>
 bindP (storeNR 256 A86 v87 v82) fun _ A89 =>
 joinV (s3_c97 call n) fun j98 => j98 v87 v70 v71 v83 v72 v73 v74 A89) fun u80 B81 => .pan u80 B81
noncomputable def s3_c54 (call : CallT) (n : Nat) (v50 v51 v52 v53 : AVal) (A54 : AH) : Res :=
 bindO (loadNR 256 A54 v50) fun v56 =>
 bindR (call 5 [v56] A54) (fun v57 A58 =>
 bindO (extR 0 v57) fun v61 =>
 bindO (extR 1 v57) fun v62 =>
 bindF (afree [] (.alloc (List.replicate 256 (.int .i64 0)))) fun x63 f64 => forceV (f64 (A58.next)) fun v66 => letA (newR A58 x63) fun A65 =>
 bindP (storeNR 256 A65 v66 v61) fun _ A68 =>
 joinV (s3_c75 call n) fun j76 => j76 v51 v52 v62 v53 v66 v50 A68) fun u59 B60 => .pan u59 B60
noncomputable def s3_k35 (call : CallT) (n : Nat) (v32 v33 v34 : AVal) (A35 : AH) : Res :=
 bindO (loadNR 256 A35 v32) fun v37 =>
 bindR (call 5 [v37] A35) (fun v38 A39 =>
 bindO (extR 0 v38) fun v42 =>
 bindO (extR 1 v38) fun v43 =>
 bindF (afree [] (.alloc (List.replicate 256 (.int .i64 0)))) fun x44 f45 => forceV (f45 (A39.next)) fun v47 => letA (newR A39 x44) fun A46 =>
 bindP (storeNR 256 A46 v47 v42) fun _ A49 =>
 joinV (s3_c54 call n) fun j55 => j55 v33 v34 v43 v47 A49) fun u40 B41 => .pan u40 B41
noncomputable def s3_k267 (_ : CallT) (_ : Nat) (n251 : J6) (v261 v262 v263 v264 v265 v266 : AVal) (A267 : AH) : Res :=
 bindO (addR v261 (.int .i64 1)) fun v269 =>
 n251 v269 v262 v263 v264 v265 v266 A267
noncomputable def s3_k259 (call : CallT) (n : Nat) (n251 : J6) (v253 v254 v255 v256 v257 v258 : AVal) (A259 : AH) : Res :=
 joinV (s3_k267 call n n251) fun j268 =>
 bindO (idxaR 256 1 v255 v253) fun v270 =>
 bindP (store1R A259 v270 v254) fun _ A272 =>
 bindO (addR v254 v256) fun v273 =>
 j268 v253 v256 v255 v273 v257 v258 A272
noncomputable def s3_l250 (call : CallT) (n : Nat) (j36 : J3) (n251 : J6) (v244 v245 v246 v247 v248 v249 : AVal) (A250 : AH) : Res :=
 bindO (lssR v244 (.int .i64 24)) fun v252 =>
 joinV (s3_k259 call n n251) fun j260 => boolK (some v252) (
 j260 v244 v245 v246 v247 v248 v249 A250) (
 j36 v248 v249 v246 A250)
noncomputable def s3_k6 (call : CallT) (n : Nat) (A6 : AH) : Res :=
 bindF (afree [] (.alloc (List.replicate 256 (.int .i64 0)))) fun x8 f9 => forceV (f9 (A6.next)) fun v11 => letA (newR A6 x8) fun A10 =>
 bindF (afree [] (.alloc (List.replicate 256 (.int .i64 0)))) fun x12 f13 => forceV (f13 (A10.next)) fun v15 => letA (newR A10 x12) fun A14 =>
 bindF (afree [] (.alloc (List.replicate 256 (.int .i64 0)))) fun x16 f17 => forceV (f17 (A14.next)) fun v19 => letA (newR A14 x16) fun A18 =>
 bindO (idxaR 256 1 v11 (.int .i64 120)) fun v20 =>
 bindP (store1R A18 v20 (.int .i64 7)) fun _ A22 =>
 bindO (idxaR 256 1 v15 (.int .i64 97)) fun v23 =>
 bindP (store1R A22 v23 (.int .i64 4)) fun _ A25 =>
 bindO (idxaR 256 1 v15 (.int .i64 98)) fun v26 =>
 bindP (store1R A25 v26 (.int .i64 2)) fun _ A28 =>
 bindO (idxaR 256 1 v15 (.int .i64 99)) fun v29 =>
 bindP (store1R A28 v29 (.int .i64 1)) fun _ A31 =>
 joinV (s3_k35 call n) fun j36 =>
 loopK zJ6 n (s3_l250 call n j36) (.int .i64 0) (.int .i64 1) v19 (.int .i64 1) v11 v15 A31
noncomputable def s3_b (call : CallT) (n : Nat) (A0 : AH) : Res :=
 bindR (call 4 [] A0) (fun v1 A2 =>
 bindO (notR v1) fun v5 =>
 joinV (s3_k6 call n) fun j7 => boolK (some v5) (
 .ret (.bool false) A2) (
 j7 A2)) fun u3 B4 => .pan u3 B4
noncomputable def s3 (call : CallT) (n : Nat) (as : List AVal) (A : AH) : Res := apL 0 (s3_b call n) as A
theorem s3_eq (call : CallT) (n : Nat) (as : List AVal) (A : AH) : fnK call n 117 [.tmp 0] y3 0 as A = s3 call n as A := by kernel_rfl
/-- concertina/concertinalaw7.awake -/
def y4 : YCode := (.seq (.region [⟨none, [], [⟨(some 0), .mov (.c (.bool false)), none⟩]⟩])
  (.seq (.region [⟨none, [], [⟨(some 1), .alloc (List.replicate 256 (.int .i64 0)), none⟩]⟩])
  (.seq (.region [⟨none, [], [⟨(some 6), .idxa 256 1 (.t 1) (.c (.int .i64 97)), none⟩,
    ⟨none, .store1 (.t 6) (.c (.int .i64 1)), none⟩,
    ⟨(some 7), .idxa 256 1 (.t 1) (.c (.int .i64 98)), none⟩,
    ⟨none, .store1 (.t 7) (.c (.int .i64 5)), none⟩]⟩])
  (.cut [1] (.seq (.region [⟨none, [], [⟨(some 9), .loadN 256 (.t 1), none⟩,
    ⟨(some 10), .call 5 [(.t 9)], none⟩,
    ⟨(some 8), .mov (.t 10), none⟩,
    ⟨(some 11), .ext 0 (.t 8), none⟩,
    ⟨(some 12), .ext 1 (.t 8), none⟩,
    ⟨(some 2), .alloc (List.replicate 256 (.int .i64 0)), none⟩,
    ⟨none, .storeN 256 (.t 2) (.t 11), none⟩,
    ⟨(some 3), .mov (.t 12), none⟩]⟩])
  (.cut [2, 3, 1] (.seq (.region [⟨none, [], [⟨(some 14), .loadN 256 (.t 2), none⟩,
    ⟨(some 15), .call 6 [(.t 14)], none⟩,
    ⟨(some 13), .mov (.t 15), none⟩,
    ⟨(some 16), .ext 0 (.t 13), none⟩,
    ⟨(some 17), .ext 1 (.t 13), none⟩,
    ⟨(some 4), .mov (.t 16), none⟩,
    ⟨(some 5), .mov (.t 17), none⟩]⟩])
  (.cut [3, 5, 2, 4, 1] (.seq (.region [⟨none, [], [⟨(some 18), .mov (.t 3), none⟩,
    ⟨(some 19), .mov (.t 18), none⟩]⟩,
   ⟨some (19, true), [20], [⟨(some 20), .mov (.t 5), some (19, true)⟩]⟩,
   ⟨none, [], [⟨(some 21), .pick (.t 19) (.t 20) (.c (.bool false)), none⟩,
    ⟨(some 22), .mov (.t 21), none⟩]⟩,
   ⟨some (22, true), [25], [⟨(some 23), .idxa 256 1 (.t 2) (.c (.int .i64 97)), some (22, true)⟩,
    ⟨(some 24), .load1 (.t 23), some (22, true)⟩,
    ⟨(some 25), .bin .eql (.t 24) (.c (.int .i64 1)), some (22, true)⟩]⟩,
   ⟨none, [], [⟨(some 26), .pick (.t 22) (.t 25) (.c (.bool false)), none⟩,
    ⟨(some 27), .mov (.t 26), none⟩]⟩,
   ⟨some (27, true), [30], [⟨(some 28), .idxa 256 1 (.t 2) (.c (.int .i64 98)), some (27, true)⟩,
    ⟨(some 29), .load1 (.t 28), some (27, true)⟩,
    ⟨(some 30), .bin .eql (.t 29) (.c (.int .i64 1)), some (27, true)⟩]⟩,
   ⟨none, [], [⟨(some 31), .pick (.t 27) (.t 30) (.c (.bool false)), none⟩,
    ⟨(some 32), .mov (.t 31), none⟩]⟩,
   ⟨some (32, true), [34], [⟨(some 33), .mov (.t 4), some (32, true)⟩,
    ⟨(some 34), .bin .eql (.t 33) (.c (.int .i64 2048)), some (32, true)⟩]⟩,
   ⟨none, [], [⟨(some 35), .pick (.t 32) (.t 34) (.c (.bool false)), none⟩,
    ⟨(some 36), .mov (.t 35), none⟩]⟩,
   ⟨some (36, true), [40], [⟨(some 37), .loadN 256 (.t 1), some (36, true)⟩,
    ⟨(some 38), .loadN 256 (.t 2), some (36, true)⟩,
    ⟨(some 39), .call 7 [(.t 37), (.t 38)], some (36, true)⟩,
    ⟨(some 40), .bin .eql (.t 39) (.c (.int .i64 6)), some (36, true)⟩]⟩,
   ⟨none, [], [⟨(some 41), .pick (.t 36) (.t 40) (.c (.bool false)), none⟩,
    ⟨(some 0), .mov (.t 41), none⟩]⟩])
  .ret)))))))))
def x4 : XFunc := ⟨42, [.tmp 0], y4.er⟩
noncomputable def s4_c44 (call : CallT) (_ : Nat) (v39 v40 v41 v42 v43 : AVal) (A44 : AH) : Res :=
 joinV (fun (v46 : AVal) (A47 : AH) =>
 bindO (pickR v39 v46 (.bool false)) fun v49 =>
 joinV (fun (v50 : AVal) (A51 : AH) =>
 bindO (pickR v49 v50 (.bool false)) fun v53 =>
 joinV (fun (v54 : AVal) (A55 : AH) =>
 bindO (pickR v53 v54 (.bool false)) fun v57 =>
 joinV (fun (v58 : AVal) (A59 : AH) =>
 bindO (pickR v57 v58 (.bool false)) fun v61 =>
 joinV (fun (v62 : AVal) (A63 : AH) =>
 bindO (pickR v61 v62 (.bool false)) fun v65 =>
 .ret v65 A63) fun j64 => wantK v61 true (
 bindO (loadNR 256 A59 v43) fun v66 =>
 bindO (loadNR 256 A59 v41) fun v67 =>
 bindR (call 7 [v66, v67] A59) (fun v68 A69 =>
 bindO (eqlR v68 (.int .i64 6)) fun v72 =>
 j64 v72 A69) fun u70 B71 => .pan u70 B71) (j64 (.tuple []) A59)) fun j60 => wantK v57 true (
 bindO (eqlR v42 (.int .i64 2048)) fun v73 =>
 j60 v73 A55) (j60 (.tuple []) A55)) fun j56 => wantK v53 true (
 bindO (idxaR 256 1 v41 (.int .i64 98)) fun v74 =>
 bindO (load1R A51 v74) fun v75 =>
 bindO (eqlR v75 (.int .i64 1)) fun v76 =>
 j56 v76 A51) (j56 (.tuple []) A51)) fun j52 => wantK v49 true (
 bindO (idxaR 256 1 v41 (.int .i64 97)) fun v77 =>
 bindO (load1R A47 v77) fun v78 =>
 bindO (eqlR v78 (.int .i64 1)) fun v79 =>
 j52 v79 A47) (j52 (.tuple []) A47)) fun j48 => wantK v39 true (
 j48 v40 A44) (j48 (.tuple []) A44)
noncomputable def s4_c30 (call : CallT) (n : Nat) (v27 v28 v29 : AVal) (A30 : AH) : Res :=
 bindO (loadNR 256 A30 v27) fun v32 =>
 bindR (call 6 [v32] A30) (fun v33 A34 =>
 bindO (extR 0 v33) fun v37 =>
 bindO (extR 1 v33) fun v38 =>
 joinV (s4_c44 call n) fun j45 => j45 v28 v38 v27 v37 v29 A34) fun u35 B36 => .pan u35 B36
noncomputable def s4_c12 (call : CallT) (n : Nat) (v11 : AVal) (A12 : AH) : Res :=
 bindO (loadNR 256 A12 v11) fun v14 =>
 bindR (call 5 [v14] A12) (fun v15 A16 =>
 bindO (extR 0 v15) fun v19 =>
 bindO (extR 1 v15) fun v20 =>
 bindF (afree [] (.alloc (List.replicate 256 (.int .i64 0)))) fun x21 f22 => forceV (f22 (A16.next)) fun v24 => letA (newR A16 x21) fun A23 =>
 bindP (storeNR 256 A23 v24 v19) fun _ A26 =>
 joinV (s4_c30 call n) fun j31 => j31 v24 v20 v11 A26) fun u17 B18 => .pan u17 B18
noncomputable def s4_b (call : CallT) (n : Nat) (A0 : AH) : Res :=
 bindF (afree [] (.alloc (List.replicate 256 (.int .i64 0)))) fun x1 f2 => forceV (f2 (A0.next)) fun v4 => letA (newR A0 x1) fun A3 =>
 bindO (idxaR 256 1 v4 (.int .i64 97)) fun v5 =>
 bindP (store1R A3 v5 (.int .i64 1)) fun _ A7 =>
 bindO (idxaR 256 1 v4 (.int .i64 98)) fun v8 =>
 bindP (store1R A7 v8 (.int .i64 5)) fun _ A10 =>
 joinV (s4_c12 call n) fun j13 => j13 v4 A10
noncomputable def s4 (call : CallT) (n : Nat) (as : List AVal) (A : AH) : Res := apL 0 (s4_b call n) as A
theorem s4_eq (call : CallT) (n : Nat) (as : List AVal) (A : AH) : fnK call n 42 [.tmp 0] y4 0 as A = s4 call n as A := by kernel_rfl
/-- concertina/depth.Lengths -/
def y5 : YCode := (.seq (.region [⟨none, [], [⟨(some 1), .box (.t 0), none⟩,
    ⟨(some 2), .alloc (List.replicate 256 (.int .i64 0)), none⟩,
    ⟨(some 3), .mov (.c (.bool false)), none⟩]⟩])
  (.seq (.region [⟨none, [], [⟨(some 4), .alloc (List.replicate 256 (.int .i64 0)), none⟩]⟩])
  (.seq (.seq (.region [⟨none, [], [⟨(some 16), .loadN 256 (.t 1), none⟩,
    ⟨(some 17), .call 8 [(.t 16)], none⟩,
    ⟨(some 18), .un .not (.t 17), none⟩]⟩])
  (.cond (.t 18) [1, 4, 2] (.seq (.region [⟨none, [], [⟨(some 19), .loadN 256 (.t 4), none⟩,
    ⟨none, .storeN 256 (.t 2) (.t 19), none⟩,
    ⟨(some 3), .mov (.c (.bool false)), none⟩]⟩])
  .ret)
  .skip))
  (.seq (.region [⟨none, [], [⟨(some 5), .mov (.c .nilslice), none⟩,
    ⟨(some 6), .mov (.c .nilslice), none⟩]⟩])
  (.seq (.seq (.region [⟨none, [], [⟨(some 20), .loadN 256 (.t 1), none⟩,
    ⟨(some 21), .mov (.c (.int .i64 0)), none⟩]⟩])
  (.block 0 [5, 1, 4, 2, 6] (.loop [21, 20, 5, 1, 4, 2, 6] (.seq (.region [⟨none, [], [⟨(some 22), .bin .lss (.t 21) (.c (.int .i64 256)), none⟩]⟩])
  (.seq (.cond (.t 22) [21, 20, 5, 1, 4, 2, 6] .skip
  (.exit 0))
  (.seq (.block 1 [21, 20, 5, 1, 4, 2, 6] (.seq (.region [⟨none, [], [⟨(some 23), .mov (.t 21), none⟩,
    ⟨(some 24), .idx 256 1 false (.t 20) (.t 21), none⟩,
    ⟨(some 7), .mov (.t 23), none⟩,
    ⟨(some 8), .mov (.t 24), none⟩]⟩])
  (.seq (.region [⟨none, [], [⟨(some 25), .mov (.t 8), none⟩,
    ⟨(some 26), .bin .gtr (.t 25) (.c (.int .i64 0)), none⟩]⟩])
  (.cond (.t 26) [21, 20, 5, 1, 4, 2, 6] (.region [⟨none, [], [⟨(some 27), .mov (.t 5), none⟩,
    ⟨(some 28), .mov (.t 7), none⟩,
    ⟨(some 29), .bslice 1 [(.int .i64 0)] [(0, 1, (.t 28))], none⟩,
    ⟨(some 30), .append 1 8 (.t 27) (.t 29), none⟩,
    ⟨(some 5), .mov (.t 30), none⟩]⟩])
  .skip))))
  (.region [⟨none, [], [⟨(some 31), .bin .add (.t 21) (.c (.int .i64 1)), none⟩,
    ⟨(some 21), .mov (.t 31), none⟩]⟩])))))))
  (.seq (.region [⟨none, [], [⟨(some 32), .mov (.t 5), none⟩,
    ⟨(some 33), .mkf 10 [(.t 1)], none⟩,
    ⟨(some 34), .call 9 [(.t 32), (.t 33)], none⟩]⟩])
  (.seq (.seq (.region [⟨none, [], [⟨(some 35), .mov (.t 5), none⟩,
    ⟨(some 36), .blen (.t 35), none⟩,
    ⟨(some 37), .bin .eql (.t 36) (.c (.int .i64 1)), none⟩]⟩])
  (.cond (.t 37) [5, 6, 1, 4, 2] (.seq (.region [⟨none, [], [⟨(some 38), .mov (.t 5), none⟩,
    ⟨(some 39), .idxs 1 (.t 38) (.c (.int .i64 0)), none⟩,
    ⟨(some 40), .load1 (.t 39), none⟩,
    ⟨(some 41), .idxa 256 1 (.t 4) (.t 40), none⟩,
    ⟨none, .store1 (.t 41) (.c (.int .i64 1)), none⟩]⟩])
  (.seq (.region [⟨none, [], [⟨(some 42), .loadN 256 (.t 4), none⟩,
    ⟨none, .storeN 256 (.t 2) (.t 42), none⟩,
    ⟨(some 3), .mov (.c (.bool true)), none⟩]⟩])
  .ret))
  .skip))
  (.seq (.seq (.region [⟨none, [], [⟨(some 43), .mov (.t 5), none⟩,
    ⟨(some 44), .blen (.t 43), none⟩,
    ⟨(some 45), .mov (.c (.int .i64 0)), none⟩]⟩])
  (.block 2 [6, 5, 4, 2] (.loop [45, 44, 43, 6, 1, 5, 4, 2] (.seq (.region [⟨none, [], [⟨(some 46), .bin .lss (.t 45) (.t 44), none⟩]⟩])
  (.seq (.cond (.t 46) [43, 45, 6, 1, 44, 5, 4, 2] .skip
  (.exit 2))
  (.seq (.block 3 [45, 44, 43, 6, 1, 5, 4, 2] (.seq (.region [⟨none, [], [⟨(some 47), .idxs 1 (.t 43) (.t 45), none⟩,
    ⟨(some 48), .load1 (.t 47), none⟩,
    ⟨(some 10), .mov (.t 48), none⟩]⟩])
  (.region [⟨none, [], [⟨(some 49), .mov (.t 6), none⟩,
    ⟨(some 50), .mov (.t 10), none⟩,
    ⟨(some 51), .idxa 256 1 (.t 1) (.t 50), none⟩,
    ⟨(some 52), .load1 (.t 51), none⟩,
    ⟨(some 53), .bslice 1 [(.int .i64 0)] [(0, 1, (.t 52))], none⟩,
    ⟨(some 54), .append 1 8 (.t 49) (.t 53), none⟩,
    ⟨(some 6), .mov (.t 54), none⟩]⟩])))
  (.region [⟨none, [], [⟨(some 55), .bin .add (.t 45) (.c (.int .i64 1)), none⟩,
    ⟨(some 45), .mov (.t 55), none⟩]⟩])))))))
  (.seq (.region [⟨none, [], [⟨(some 56), .mov (.t 6), none⟩,
    ⟨(some 57), .call 12 [(.t 56)], none⟩,
    ⟨(some 11), .mov (.t 57), none⟩]⟩])
  (.seq (.block 4 [11, 5, 4, 2] (.loop [11, 6, 5, 4, 2] (.seq (.seq (.region [⟨none, [], [⟨(some 58), .mov (.t 11), none⟩,
    ⟨(some 59), .blen (.t 58), none⟩,
    ⟨(some 60), .bin .gtr (.t 59) (.c (.int .i64 0)), none⟩,
    ⟨(some 61), .mov (.t 60), none⟩]⟩,
   ⟨some (61, true), [64], [⟨(some 62), .mov (.t 11), some (61, true)⟩,
    ⟨(some 63), .call 13 [(.t 62)], some (61, true)⟩,
    ⟨(some 64), .bin .gtr (.t 63) (.c (.int .i64 11)), some (61, true)⟩]⟩,
   ⟨none, [], [⟨(some 65), .pick (.t 61) (.t 64) (.c (.bool false)), none⟩]⟩])
  (.cond (.t 65) [6, 5, 4, 2] .skip
  (.exit 4)))
  (.block 5 [11, 6, 5, 4, 2] (.seq (.seq (.region [⟨none, [], [⟨(some 66), .mov (.t 6), none⟩,
    ⟨(some 67), .blen (.t 66), none⟩,
    ⟨(some 68), .mov (.c (.int .i64 0)), none⟩]⟩])
  (.block 6 [6, 5, 4, 2] (.loop [68, 67, 66, 6, 5, 4, 2] (.seq (.region [⟨none, [], [⟨(some 69), .bin .lss (.t 68) (.t 67), none⟩]⟩])
  (.seq (.cond (.t 69) [68, 66, 6, 67, 5, 4, 2] .skip
  (.exit 6))
  (.seq (.block 7 [68, 67, 66, 6, 5, 4, 2] (.seq (.region [⟨none, [], [⟨(some 70), .mov (.t 68), none⟩,
    ⟨(some 71), .idxs 1 (.t 66) (.t 68), none⟩,
    ⟨(some 72), .load1 (.t 71), none⟩,
    ⟨(some 12), .mov (.t 70), none⟩,
    ⟨(some 13), .mov (.t 72), none⟩]⟩])
  (.region [⟨none, [], [⟨(some 73), .mov (.t 6), none⟩,
    ⟨(some 74), .mov (.t 12), none⟩,
    ⟨(some 75), .mov (.t 13), none⟩,
    ⟨(some 76), .bin .add (.t 75) (.c (.int .i64 1)), none⟩,
    ⟨(some 77), .bin .quo (.t 76) (.c (.int .i64 2)), none⟩,
    ⟨(some 78), .idxs 1 (.t 73) (.t 74), none⟩,
    ⟨none, .store1 (.t 78) (.t 77), none⟩]⟩])))
  (.region [⟨none, [], [⟨(some 79), .bin .add (.t 68) (.c (.int .i64 1)), none⟩,
    ⟨(some 68), .mov (.t 79), none⟩]⟩])))))))
  (.region [⟨none, [], [⟨(some 80), .mov (.t 6), none⟩,
    ⟨(some 81), .call 12 [(.t 80)], none⟩,
    ⟨(some 11), .mov (.t 81), none⟩]⟩]))))))
  (.seq (.region [⟨none, [], [⟨(some 82), .mov (.t 11), none⟩,
    ⟨(some 83), .call 14 [(.t 82)], none⟩]⟩])
  (.seq (.seq (.region [⟨none, [], [⟨(some 84), .mov (.t 11), none⟩,
    ⟨(some 85), .blen (.t 84), none⟩,
    ⟨(some 86), .mov (.c (.int .i64 0)), none⟩]⟩])
  (.block 8 [4, 2] (.loop [86, 85, 84, 5, 4, 2] (.seq (.region [⟨none, [], [⟨(some 87), .bin .lss (.t 86) (.t 85), none⟩]⟩])
  (.seq (.cond (.t 87) [86, 84, 5, 4, 85, 2] .skip
  (.exit 8))
  (.seq (.block 9 [86, 85, 84, 5, 4, 2] (.seq (.region [⟨none, [], [⟨(some 88), .mov (.t 86), none⟩,
    ⟨(some 89), .idxs 1 (.t 84) (.t 86), none⟩,
    ⟨(some 90), .load1 (.t 89), none⟩,
    ⟨(some 14), .mov (.t 88), none⟩,
    ⟨(some 15), .mov (.t 90), none⟩]⟩])
  (.region [⟨none, [], [⟨(some 91), .mov (.t 5), none⟩,
    ⟨(some 92), .mov (.t 14), none⟩,
    ⟨(some 93), .idxs 1 (.t 91) (.t 92), none⟩,
    ⟨(some 94), .load1 (.t 93), none⟩,
    ⟨(some 95), .mov (.t 15), none⟩,
    ⟨(some 96), .idxa 256 1 (.t 4) (.t 94), none⟩,
    ⟨none, .store1 (.t 96) (.t 95), none⟩]⟩])))
  (.region [⟨none, [], [⟨(some 97), .bin .add (.t 86) (.c (.int .i64 1)), none⟩,
    ⟨(some 86), .mov (.t 97), none⟩]⟩])))))))
  (.seq (.region [⟨none, [], [⟨(some 98), .loadN 256 (.t 4), none⟩,
    ⟨none, .storeN 256 (.t 2) (.t 98), none⟩,
    ⟨(some 3), .mov (.c (.bool true)), none⟩]⟩])
  .ret)))))))))))))
def x5 : XFunc := ⟨99, [.cellN 2 256, .tmp 3], y5.er⟩
noncomputable def s5_k71 (_ : CallT) (_ : Nat) (v69 v70 : AVal) (A71 : AH) : Res :=
 bindO (loadNR 256 A71 v69) fun v73 =>
 bindP (storeNR 256 A71 v70 v73) fun _ A75 =>
 retK [.cellN 2 256, .tmp 3] [(2, v70), (3, (.bool true))] A75
noncomputable def s5_k99 (_ : CallT) (_ : Nat) (n83 : J6) (v93 v94 v95 v96 v97 v98 : AVal) (A99 : AH) : Res :=
 bindO (addR v93 (.int .i64 1)) fun v101 =>
 n83 v101 v94 v95 v96 v97 v98 A99
noncomputable def s5_k91 (call : CallT) (n : Nat) (n83 : J6) (v85 v86 v87 v88 v89 v90 : AVal) (A91 : AH) : Res :=
 joinV (s5_k99 call n n83) fun j100 =>
 bindO (idxsR 1 v86 v85) fun v102 =>
 bindO (load1R A91 v102) fun v103 =>
 bindO (idxsR 1 v87 v85) fun v104 =>
 bindO (load1R A91 v104) fun v105 =>
 bindO (idxaR 256 1 v88 v105) fun v106 =>
 bindP (store1R A91 v106 v103) fun _ A108 =>
 j100 v85 v89 v86 v87 v88 v90 A108
noncomputable def s5_l82 (call : CallT) (n : Nat) (j72 : J2) (n83 : J6) (v76 v77 v78 v79 v80 v81 : AVal) (A82 : AH) : Res :=
 bindO (lssR v76 v77) fun v84 =>
 joinV (s5_k91 call n n83) fun j92 => boolK (some v84) (
 j92 v76 v78 v79 v80 v77 v81 A82) (
 j72 v80 v81 A82)
noncomputable def s5_k62 (call : CallT) (n : Nat) (v58 v59 v60 v61 : AVal) (A62 : AH) : Res :=
 bindR (call 14 [v58] A62) (fun _ A65 =>
 bindO (blenR v58) fun v68 =>
 joinV (s5_k71 call n) fun j72 =>
 loopK zJ6 n (s5_l82 call n j72) (.int .i64 0) v68 v58 v59 v60 v61 A65) fun u66 B67 => .pan u66 B67
noncomputable def s5_k133 (_ : CallT) (_ : Nat) (n115 : J5) (v128 v129 v130 v131 v132 : AVal) (A133 : AH) : Res :=
 n115 v128 v129 v130 v131 v132 A133
noncomputable def s5_k140 (call : CallT) (_ : Nat) (j134 : J5) (v136 v137 v138 v139 : AVal) (A140 : AH) : Res :=
 bindR (call 12 [v136] A140) (fun v142 A143 =>
 j134 v142 v136 v137 v138 v139 A143) fun u144 B145 => .pan u144 B145
noncomputable def s5_k172 (_ : CallT) (_ : Nat) (n154 : J7) (v165 v166 v167 v168 v169 v170 v171 : AVal) (A172 : AH) : Res :=
 bindO (addR v165 (.int .i64 1)) fun v174 =>
 n154 v174 v166 v167 v168 v169 v170 v171 A172
noncomputable def s5_k163 (call : CallT) (n : Nat) (n154 : J7) (v156 v157 v158 v159 v160 v161 v162 : AVal) (A163 : AH) : Res :=
 joinV (s5_k172 call n n154) fun j173 =>
 bindO (idxsR 1 v157 v156) fun v175 =>
 bindO (load1R A163 v175) fun v176 =>
 bindO (addR v176 (.int .i64 1)) fun v177 =>
 bindO (abinR .quo v177 (.int .i64 2)) fun v178 =>
 bindO (idxsR 1 v158 v156) fun v179 =>
 bindP (store1R A163 v179 v178) fun _ A181 =>
 j173 v156 v159 v157 v158 v160 v161 v162 A181
noncomputable def s5_l153 (call : CallT) (n : Nat) (j141 : J4) (n154 : J7) (v146 v147 v148 v149 v150 v151 v152 : AVal) (A153 : AH) : Res :=
 bindO (lssR v146 v147) fun v155 =>
 joinV (s5_k163 call n n154) fun j164 => boolK (some v155) (
 j164 v146 v148 v149 v147 v150 v151 v152 A153) (
 j141 v149 v150 v151 v152 A153)
noncomputable def s5_k126 (call : CallT) (n : Nat) (n115 : J5) (v122 v123 v124 v125 : AVal) (A126 : AH) : Res :=
 joinV (s5_k133 call n n115) fun j134 =>
 bindO (blenR v122) fun v135 =>
 joinV (s5_k140 call n j134) fun j141 =>
 loopK zJ7 n (s5_l153 call n j141) (.int .i64 0) v135 v122 v122 v123 v124 v125 A126
noncomputable def s5_l114 (call : CallT) (n : Nat) (j63 : J4) (n115 : J5) (v109 v110 v111 v112 v113 : AVal) (A114 : AH) : Res :=
 bindO (blenR v109) fun v116 =>
 bindO (gtrR v116 (.int .i64 0)) fun v117 =>
 joinV (fun (v118 : AVal) (A119 : AH) =>
 bindO (pickR v117 v118 (.bool false)) fun v121 =>
 joinV (s5_k126 call n n115) fun j127 => boolK (some v121) (
 j127 v110 v111 v112 v113 A119) (
 j63 v109 v111 v112 v113 A119)) fun j120 => wantK v117 true (
 bindR (call 13 [v109] A114) (fun v182 A183 =>
 bindO (gtrR v182 (.int .i64 11)) fun v186 =>
 j120 v186 A183) fun u184 B185 => .pan u184 B185) (j120 (.tuple []) A114)
noncomputable def s5_k52 (call : CallT) (n : Nat) (v48 v49 v50 v51 : AVal) (A52 : AH) : Res :=
 bindR (call 12 [v48] A52) (fun v54 A55 =>
 joinV (s5_k62 call n) fun j63 =>
 loopK zJ5 n (s5_l114 call n j63) v54 v48 v49 v50 v51 A55) fun u56 B57 => .pan u56 B57
noncomputable def s5_k216 (_ : CallT) (_ : Nat) (n196 : J8) (v208 v209 v210 v211 v212 v213 v214 v215 : AVal) (A216 : AH) : Res :=
 bindO (addR v208 (.int .i64 1)) fun v218 =>
 n196 v218 v209 v210 v211 v212 v213 v214 v215 A216
noncomputable def s5_k206 (call : CallT) (n : Nat) (n196 : J8) (v198 v199 v200 v201 v202 v203 v204 v205 : AVal) (A206 : AH) : Res :=
 joinV (s5_k216 call n n196) fun j217 =>
 bindO (idxsR 1 v198 v199) fun v219 =>
 bindO (load1R A206 v219) fun v220 =>
 bindO (idxaR 256 1 v201 v220) fun v221 =>
 bindO (load1R A206 v221) fun v222 =>
 bindF (afree [] (.bslice 1 [(.int .i64 0)] [(0, 1, (.c v222))])) fun x223 f224 => forceV (f224 (A206.next)) fun v226 => letA (newR A206 x223) fun A225 =>
 bindP (achain [] A225 (.append 1 8 (.c v200) (.c v226))) fun v227 A228 =>
 j217 v199 v202 v198 v227 v201 v203 v204 v205 A228
noncomputable def s5_l195 (call : CallT) (n : Nat) (j53 : J4) (n196 : J8) (v187 v188 v189 v190 v191 v192 v193 v194 : AVal) (A195 : AH) : Res :=
 bindO (lssR v187 v188) fun v197 =>
 joinV (s5_k206 call n n196) fun j207 => boolK (some v197) (
 j207 v189 v187 v190 v191 v188 v192 v193 v194 A195) (
 j53 v190 v192 v193 v194 A195)
noncomputable def s5_k45 (call : CallT) (n : Nat) (v40 v41 v42 v43 v44 : AVal) (A45 : AH) : Res :=
 bindO (blenR v40) fun v47 =>
 joinV (s5_k52 call n) fun j53 =>
 loopK zJ8 n (s5_l195 call n j53) (.int .i64 0) v47 v40 v41 v42 v40 v43 v44 A45
noncomputable def s5_k31 (call : CallT) (n : Nat) (v26 v27 v28 v29 v30 : AVal) (A31 : AH) : Res :=
 bindO (apure [] (.mkf 10 [(.c v27)])) fun v33 =>
 bindR (call 9 [v26, v33] A31) (fun _ A35 =>
 bindO (blenR v26) fun v38 =>
 bindO (eqlR v38 (.int .i64 1)) fun v39 =>
 joinV (s5_k45 call n) fun j46 => boolK (some v39) (
 bindO (idxsR 1 v26 (.int .i64 0)) fun v229 =>
 bindO (load1R A35 v229) fun v230 =>
 bindO (idxaR 256 1 v28 v230) fun v231 =>
 bindP (store1R A35 v231 (.int .i64 1)) fun _ A233 =>
 bindO (loadNR 256 A233 v28) fun v234 =>
 bindP (storeNR 256 A233 v29 v234) fun _ A236 =>
 retK [.cellN 2 256, .tmp 3] [(2, v29), (3, (.bool true))] A236) (
 j46 v26 v30 v27 v28 v29 A35)) fun u36 B37 => .pan u36 B37
noncomputable def s5_k263 (_ : CallT) (_ : Nat) (n245 : J7) (v256 v257 v258 v259 v260 v261 v262 : AVal) (A263 : AH) : Res :=
 bindO (addR v256 (.int .i64 1)) fun v265 =>
 n245 v265 v257 v258 v259 v260 v261 v262 A263
noncomputable def s5_k275 (_ : CallT) (_ : Nat) (j264 : J7) (v268 v269 v270 v271 v272 v273 v274 : AVal) (A275 : AH) : Res :=
 j264 v268 v269 v270 v271 v272 v273 v274 A275
noncomputable def s5_k254 (call : CallT) (n : Nat) (n245 : J7) (v247 v248 v249 v250 v251 v252 v253 : AVal) (A254 : AH) : Res :=
 joinV (s5_k263 call n n245) fun j264 =>
 bindO (idxR 256 1 false v248 v247) fun v266 =>
 bindO (gtrR v266 (.int .i64 0)) fun v267 =>
 joinV (s5_k275 call n j264) fun j276 => boolK (some v267) (
 bindF (afree [] (.bslice 1 [(.int .i64 0)] [(0, 1, (.c v247))])) fun x277 f278 => forceV (f278 (A254.next)) fun v280 => letA (newR A254 x277) fun A279 =>
 bindP (achain [] A279 (.append 1 8 (.c v249) (.c v280))) fun v281 A282 =>
 j276 v247 v248 v281 v250 v251 v252 v253 A282) (
 j276 v247 v248 v249 v250 v251 v252 v253 A254)
noncomputable def s5_l244 (call : CallT) (n : Nat) (j32 : J5) (n245 : J7) (v237 v238 v239 v240 v241 v242 v243 : AVal) (A244 : AH) : Res :=
 bindO (lssR v237 (.int .i64 256)) fun v246 =>
 joinV (s5_k254 call n n245) fun j255 => boolK (some v246) (
 j255 v237 v238 v239 v240 v241 v242 v243 A244) (
 j32 v239 v240 v241 v242 v243 A244)
noncomputable def s5_k23 (call : CallT) (n : Nat) (v20 v21 v22 : AVal) (A23 : AH) : Res :=
 bindO (loadNR 256 A23 v20) fun v25 =>
 joinV (s5_k31 call n) fun j32 =>
 loopK zJ7 n (s5_l244 call n j32) (.int .i64 0) v25 .nilslice v20 v21 v22 .nilslice A23
noncomputable def s5_b (call : CallT) (n : Nat) (v0 : AVal) (A1 : AH) : Res :=
 bindF (afree [] (.box (.c v0))) fun x2 f3 => forceV (f3 (A1.next)) fun v5 => letA (newR A1 x2) fun A4 =>
 bindF (afree [] (.alloc (List.replicate 256 (.int .i64 0)))) fun x6 f7 => forceV (f7 (A4.next)) fun v9 => letA (newR A4 x6) fun A8 =>
 bindF (afree [] (.alloc (List.replicate 256 (.int .i64 0)))) fun x10 f11 => forceV (f11 (A8.next)) fun v13 => letA (newR A8 x10) fun A12 =>
 bindO (loadNR 256 A12 v5) fun v14 =>
 bindR (call 8 [v14] A12) (fun v15 A16 =>
 bindO (notR v15) fun v19 =>
 joinV (s5_k23 call n) fun j24 => boolK (some v19) (
 bindO (loadNR 256 A16 v13) fun v283 =>
 bindP (storeNR 256 A16 v9 v283) fun _ A285 =>
 retK [.cellN 2 256, .tmp 3] [(2, v9), (3, (.bool false))] A285) (
 j24 v5 v13 v9 A16)) fun u17 B18 => .pan u17 B18
noncomputable def s5 (call : CallT) (n : Nat) (as : List AVal) (A : AH) : Res := apL 1 (s5_b call n) as A
theorem s5_eq (call : CallT) (n : Nat) (as : List AVal) (A : AH) : fnK call n 99 [.cellN 2 256, .tmp 3] y5 1 as A = s5 call n as A := by kernel_rfl
/-- concertina/depth.Kraft -/
def y6 : YCode := (.seq (.region [⟨none, [], [⟨(some 1), .box (.t 0), none⟩,
    ⟨(some 2), .mov (.c (.int .i64 0)), none⟩,
    ⟨(some 3), .mov (.c (.bool false)), none⟩]⟩])
  (.seq (.region [⟨none, [], [⟨(some 4), .mov (.c (.int .i64 0)), none⟩]⟩])
  (.seq (.seq (.region [⟨none, [], [⟨(some 7), .loadN 256 (.t 1), none⟩,
    ⟨(some 8), .mov (.c (.int .i64 0)), none⟩]⟩])
  (.block 0 [4] (.loop [8, 7, 4] (.seq (.region [⟨none, [], [⟨(some 9), .bin .lss (.t 8) (.c (.int .i64 256)), none⟩]⟩])
  (.seq (.cond (.t 9) [7, 8, 4] .skip
  (.exit 0))
  (.seq (.block 1 [8, 7, 4] (.seq (.region [⟨none, [], [⟨(some 10), .idx 256 1 false (.t 7) (.t 8), none⟩,
    ⟨(some 6), .mov (.t 10), none⟩]⟩])
  (.seq (.seq (.region [⟨none, [], [⟨(some 11), .mov (.t 6), none⟩,
    ⟨(some 12), .bin .lss (.t 11) (.c (.int .i64 0)), none⟩,
    ⟨(some 13), .mov (.t 12), none⟩]⟩,
   ⟨some (13, false), [15], [⟨(some 14), .mov (.t 6), some (13, false)⟩,
    ⟨(some 15), .bin .gtr (.t 14) (.c (.int .i64 11)), some (13, false)⟩]⟩,
   ⟨none, [], [⟨(some 16), .pick (.t 13) (.c (.bool true)) (.t 15), none⟩]⟩])
  (.cond (.t 16) [6, 4, 8, 7] (.seq (.region [⟨none, [], [⟨(some 2), .mov (.c (.int .i64 0)), none⟩,
    ⟨(some 3), .mov (.c (.bool false)), none⟩]⟩])
  .ret)
  .skip))
  (.seq (.region [⟨none, [], [⟨(some 17), .mov (.t 6), none⟩,
    ⟨(some 18), .bin .gtr (.t 17) (.c (.int .i64 0)), none⟩]⟩])
  (.cond (.t 18) [8, 7, 4] (.region [⟨none, [], [⟨(some 19), .mov (.t 4), none⟩,
    ⟨(some 20), .mov (.t 6), none⟩,
    ⟨(some 21), .bin .sub (.c (.int .i64 11)) (.t 20), none⟩,
    ⟨(some 22), .bin .shl (.c (.int .i64 1)) (.t 21), none⟩,
    ⟨(some 23), .bin .add (.t 19) (.t 22), none⟩,
    ⟨(some 4), .mov (.t 23), none⟩]⟩])
  .skip)))))
  (.region [⟨none, [], [⟨(some 24), .bin .add (.t 8) (.c (.int .i64 1)), none⟩,
    ⟨(some 8), .mov (.t 24), none⟩]⟩])))))))
  (.seq (.region [⟨none, [], [⟨(some 25), .mov (.t 4), none⟩,
    ⟨(some 2), .mov (.t 25), none⟩,
    ⟨(some 3), .mov (.c (.bool true)), none⟩]⟩])
  .ret))))
def x6 : XFunc := ⟨26, [.tmp 2, .tmp 3], y6.er⟩
noncomputable def s6_k8 (_ : CallT) (_ : Nat) (v7 : AVal) (A8 : AH) : Res :=
 .ret (.tuple [v7, (.bool true)]) A8
noncomputable def s6_k24 (_ : CallT) (_ : Nat) (n14 : J3) (v21 v22 v23 : AVal) (A24 : AH) : Res :=
 bindO (addR v21 (.int .i64 1)) fun v26 =>
 n14 v26 v22 v23 A24
noncomputable def s6_k43 (_ : CallT) (_ : Nat) (j25 : J3) (v40 v41 v42 : AVal) (A43 : AH) : Res :=
 j25 v40 v41 v42 A43
noncomputable def s6_k37 (call : CallT) (n : Nat) (j25 : J3) (v33 v34 v35 v36 : AVal) (A37 : AH) : Res :=
 bindO (gtrR v33 (.int .i64 0)) fun v39 =>
 joinV (s6_k43 call n j25) fun j44 => boolK (some v39) (
 bindO (subR (.int .i64 11) v33) fun v45 =>
 bindO (abinR .shl (.int .i64 1) v45) fun v46 =>
 bindO (addR v34 v46) fun v47 =>
 j44 v35 v36 v47 A37) (
 j44 v35 v36 v34 A37)
noncomputable def s6_k19 (call : CallT) (n : Nat) (n14 : J3) (v16 v17 v18 : AVal) (A19 : AH) : Res :=
 joinV (s6_k24 call n n14) fun j25 =>
 bindO (idxR 256 1 false v16 v17) fun v27 =>
 bindO (lssR v27 (.int .i64 0)) fun v28 =>
 joinV (fun (v29 : AVal) (A30 : AH) =>
 bindO (pickR v28 (.bool true) v29) fun v32 =>
 joinV (s6_k37 call n j25) fun j38 => boolK (some v32) (
 .ret (.tuple [(.int .i64 0), (.bool false)]) A30) (
 j38 v27 v18 v17 v16 A30)) fun j31 => wantK v28 false (
 bindO (gtrR v27 (.int .i64 11)) fun v48 =>
 j31 v48 A19) (j31 (.tuple []) A19)
noncomputable def s6_l13 (call : CallT) (n : Nat) (j9 : J1) (n14 : J3) (v10 v11 v12 : AVal) (A13 : AH) : Res :=
 bindO (lssR v10 (.int .i64 256)) fun v15 =>
 joinV (s6_k19 call n n14) fun j20 => boolK (some v15) (
 j20 v11 v10 v12 A13) (
 j9 v12 A13)
noncomputable def s6_b (call : CallT) (n : Nat) (v0 : AVal) (A1 : AH) : Res :=
 bindF (afree [] (.box (.c v0))) fun x2 f3 => forceV (f3 (A1.next)) fun v5 => letA (newR A1 x2) fun A4 =>
 bindO (loadNR 256 A4 v5) fun v6 =>
 joinV (s6_k8 call n) fun j9 =>
 loopK zJ3 n (s6_l13 call n j9) (.int .i64 0) v6 (.int .i64 0) A4
noncomputable def s6 (call : CallT) (n : Nat) (as : List AVal) (A : AH) : Res := apL 1 (s6_b call n) as A
theorem s6_eq (call : CallT) (n : Nat) (as : List AVal) (A : AH) : fnK call n 26 [.tmp 2, .tmp 3] y6 1 as A = s6 call n as A := by kernel_rfl
/-- concertina/depth.Cost -/
def y7 : YCode := (.seq (.region [⟨none, [], [⟨(some 2), .box (.t 0), none⟩,
    ⟨(some 3), .box (.t 1), none⟩,
    ⟨(some 4), .mov (.c (.int .i64 0)), none⟩]⟩])
  (.seq (.seq (.region [⟨none, [], [⟨(some 11), .loadN 256 (.t 3), none⟩,
    ⟨(some 12), .call 6 [(.t 11)], none⟩,
    ⟨(some 10), .mov (.t 12), none⟩,
    ⟨(some 13), .ext 0 (.t 10), none⟩,
    ⟨(some 14), .ext 1 (.t 10), none⟩,
    ⟨(some 5), .mov (.t 13), none⟩,
    ⟨(some 6), .mov (.t 14), none⟩]⟩])
  (.seq (.region [⟨none, [], [⟨(some 15), .mov (.t 6), none⟩,
    ⟨(some 16), .un .not (.t 15), none⟩,
    ⟨(some 17), .mov (.t 16), none⟩]⟩,
   ⟨some (17, false), [20], [⟨(some 18), .loadN 256 (.t 2), some (17, false)⟩,
    ⟨(some 19), .call 8 [(.t 18)], some (17, false)⟩,
    ⟨(some 20), .un .not (.t 19), some (17, false)⟩]⟩,
   ⟨none, [], [⟨(some 21), .pick (.t 17) (.c (.bool true)) (.t 20), none⟩]⟩])
  (.cond (.t 21) [2, 3] (.seq (.region [⟨none, [], [⟨(some 4), .mov (.c (.int .i64 0)), none⟩]⟩])
  .ret)
  .skip)))
  (.seq (.region [⟨none, [], [⟨(some 7), .mov (.c (.int .i64 0)), none⟩]⟩])
  (.seq (.seq (.region [⟨none, [], [⟨(some 22), .loadN 256 (.t 2), none⟩,
    ⟨(some 23), .mov (.c (.int .i64 0)), none⟩]⟩])
  (.block 0 [7] (.loop [23, 22, 7, 3] (.seq (.region [⟨none, [], [⟨(some 24), .bin .lss (.t 23) (.c (.int .i64 256)), none⟩]⟩])
  (.seq (.cond (.t 24) [23, 22, 7, 3] .skip
  (.exit 0))
  (.seq (.block 1 [23, 22, 7, 3] (.seq (.region [⟨none, [], [⟨(some 25), .mov (.t 23), none⟩,
    ⟨(some 26), .idx 256 1 false (.t 22) (.t 23), none⟩,
    ⟨(some 8), .mov (.t 25), none⟩,
    ⟨(some 9), .mov (.t 26), none⟩]⟩])
  (.region [⟨none, [], [⟨(some 27), .mov (.t 7), none⟩,
    ⟨(some 28), .mov (.t 9), none⟩,
    ⟨(some 29), .mov (.t 8), none⟩,
    ⟨(some 30), .idxa 256 1 (.t 3) (.t 29), none⟩,
    ⟨(some 31), .load1 (.t 30), none⟩,
    ⟨(some 32), .bin .mul (.t 28) (.t 31), none⟩,
    ⟨(some 33), .bin .add (.t 27) (.t 32), none⟩,
    ⟨(some 7), .mov (.t 33), none⟩]⟩])))
  (.region [⟨none, [], [⟨(some 34), .bin .add (.t 23) (.c (.int .i64 1)), none⟩,
    ⟨(some 23), .mov (.t 34), none⟩]⟩])))))))
  (.seq (.region [⟨none, [], [⟨(some 35), .mov (.t 7), none⟩,
    ⟨(some 4), .mov (.t 35), none⟩]⟩])
  .ret)))))
def x7 : XFunc := ⟨36, [.tmp 4], y7.er⟩
noncomputable def s7_k29 (_ : CallT) (_ : Nat) (v28 : AVal) (A29 : AH) : Res :=
 .ret v28 A29
noncomputable def s7_k48 (_ : CallT) (_ : Nat) (n36 : J4) (v44 v45 v46 v47 : AVal) (A48 : AH) : Res :=
 bindO (addR v44 (.int .i64 1)) fun v50 =>
 n36 v50 v45 v46 v47 A48
noncomputable def s7_k42 (call : CallT) (n : Nat) (n36 : J4) (v38 v39 v40 v41 : AVal) (A42 : AH) : Res :=
 joinV (s7_k48 call n n36) fun j49 =>
 bindO (idxR 256 1 false v39 v38) fun v51 =>
 bindO (idxaR 256 1 v41 v38) fun v52 =>
 bindO (load1R A42 v52) fun v53 =>
 bindO (mulR v51 v53) fun v54 =>
 bindO (addR v40 v54) fun v55 =>
 j49 v38 v39 v55 v41 A42
noncomputable def s7_l35 (call : CallT) (n : Nat) (j30 : J1) (n36 : J4) (v31 v32 v33 v34 : AVal) (A35 : AH) : Res :=
 bindO (lssR v31 (.int .i64 256)) fun v37 =>
 joinV (s7_k42 call n n36) fun j43 => boolK (some v37) (
 j43 v31 v32 v33 v34 A35) (
 j30 v33 A35)
noncomputable def s7_k25 (call : CallT) (n : Nat) (v23 v24 : AVal) (A25 : AH) : Res :=
 bindO (loadNR 256 A25 v23) fun v27 =>
 joinV (s7_k29 call n) fun j30 =>
 loopK zJ4 n (s7_l35 call n j30) (.int .i64 0) v27 (.int .i64 0) v24 A25
noncomputable def s7_b (call : CallT) (n : Nat) (v0 v1 : AVal) (A2 : AH) : Res :=
 bindF (afree [] (.box (.c v0))) fun x3 f4 => forceV (f4 (A2.next)) fun v6 => letA (newR A2 x3) fun A5 =>
 bindF (afree [] (.box (.c v1))) fun x7 f8 => forceV (f8 (A5.next)) fun v10 => letA (newR A5 x7) fun A9 =>
 bindO (loadNR 256 A9 v10) fun v11 =>
 bindR (call 6 [v11] A9) (fun v12 A13 =>
 bindO (extR 0 v12) fun _ =>
 bindO (extR 1 v12) fun v17 =>
 bindO (notR v17) fun v18 =>
 joinV (fun (v19 : AVal) (A20 : AH) =>
 bindO (pickR v18 (.bool true) v19) fun v22 =>
 joinV (s7_k25 call n) fun j26 => boolK (some v22) (
 .ret (.int .i64 0) A20) (
 j26 v6 v10 A20)) fun j21 => wantK v18 false (
 bindO (loadNR 256 A13 v6) fun v56 =>
 bindR (call 8 [v56] A13) (fun v57 A58 =>
 bindO (notR v57) fun v61 =>
 j21 v61 A58) fun u59 B60 => .pan u59 B60) (j21 (.tuple []) A13)) fun u14 B15 => .pan u14 B15
noncomputable def s7 (call : CallT) (n : Nat) (as : List AVal) (A : AH) : Res := apL 2 (s7_b call n) as A
theorem s7_eq (call : CallT) (n : Nat) (as : List AVal) (A : AH) : fnK call n 36 [.tmp 4] y7 2 as A = s7 call n as A := by kernel_rfl
/-- concertina/depth.counts -/
def y8 : YCode := (.seq (.region [⟨none, [], [⟨(some 1), .box (.t 0), none⟩,
    ⟨(some 2), .mov (.c (.bool false)), none⟩]⟩])
  (.seq (.seq (.region [⟨none, [], [⟨(some 5), .loadN 256 (.t 1), none⟩,
    ⟨(some 6), .mov (.c (.int .i64 0)), none⟩]⟩])
  (.block 0 [] (.loop [6, 5] (.seq (.region [⟨none, [], [⟨(some 7), .bin .lss (.t 6) (.c (.int .i64 256)), none⟩]⟩])
  (.seq (.cond (.t 7) [5, 6] .skip
  (.exit 0))
  (.seq (.block 1 [6, 5] (.seq (.region [⟨none, [], [⟨(some 8), .idx 256 1 false (.t 5) (.t 6), none⟩,
    ⟨(some 4), .mov (.t 8), none⟩]⟩])
  (.seq (.region [⟨none, [], [⟨(some 9), .mov (.t 4), none⟩,
    ⟨(some 10), .bin .lss (.t 9) (.c (.int .i64 0)), none⟩,
    ⟨(some 11), .mov (.t 10), none⟩]⟩,
   ⟨some (11, false), [13], [⟨(some 12), .mov (.t 4), some (11, false)⟩,
    ⟨(some 13), .bin .gtr (.t 12) (.c (.int .i64 1048576)), some (11, false)⟩]⟩,
   ⟨none, [], [⟨(some 14), .pick (.t 11) (.c (.bool true)) (.t 13), none⟩]⟩])
  (.cond (.t 14) [6, 5] (.seq (.region [⟨none, [], [⟨(some 2), .mov (.c (.bool false)), none⟩]⟩])
  .ret)
  .skip))))
  (.region [⟨none, [], [⟨(some 15), .bin .add (.t 6) (.c (.int .i64 1)), none⟩,
    ⟨(some 6), .mov (.t 15), none⟩]⟩])))))))
  (.seq (.region [⟨none, [], [⟨(some 2), .mov (.c (.bool true)), none⟩]⟩])
  .ret)))
def x8 : XFunc := ⟨16, [.tmp 2], y8.er⟩
noncomputable def s8_k7 (_ : CallT) (_ : Nat) (A7 : AH) : Res :=
 .ret (.bool true) A7
noncomputable def s8_k20 (_ : CallT) (_ : Nat) (n12 : J2) (v18 v19 : AVal) (A20 : AH) : Res :=
 bindO (addR v18 (.int .i64 1)) fun v22 =>
 n12 v22 v19 A20
noncomputable def s8_k31 (_ : CallT) (_ : Nat) (j21 : J2) (v29 v30 : AVal) (A31 : AH) : Res :=
 j21 v29 v30 A31
noncomputable def s8_k16 (call : CallT) (n : Nat) (n12 : J2) (v14 v15 : AVal) (A16 : AH) : Res :=
 joinV (s8_k20 call n n12) fun j21 =>
 bindO (idxR 256 1 false v14 v15) fun v23 =>
 bindO (lssR v23 (.int .i64 0)) fun v24 =>
 joinV (fun (v25 : AVal) (A26 : AH) =>
 bindO (pickR v24 (.bool true) v25) fun v28 =>
 joinV (s8_k31 call n j21) fun j32 => boolK (some v28) (
 .ret (.bool false) A26) (
 j32 v15 v14 A26)) fun j27 => wantK v24 false (
 bindO (gtrR v23 (.int .i64 1048576)) fun v33 =>
 j27 v33 A16) (j27 (.tuple []) A16)
noncomputable def s8_l11 (call : CallT) (n : Nat) (j8 : J0) (n12 : J2) (v9 v10 : AVal) (A11 : AH) : Res :=
 bindO (lssR v9 (.int .i64 256)) fun v13 =>
 joinV (s8_k16 call n n12) fun j17 => boolK (some v13) (
 j17 v10 v9 A11) (
 j8 A11)
noncomputable def s8_b (call : CallT) (n : Nat) (v0 : AVal) (A1 : AH) : Res :=
 bindF (afree [] (.box (.c v0))) fun x2 f3 => forceV (f3 (A1.next)) fun v5 => letA (newR A1 x2) fun A4 =>
 bindO (loadNR 256 A4 v5) fun v6 =>
 joinV (s8_k7 call n) fun j8 =>
 loopK zJ2 n (s8_l11 call n j8) (.int .i64 0) v6 A4
noncomputable def s8 (call : CallT) (n : Nat) (as : List AVal) (A : AH) : Res := apL 1 (s8_b call n) as A
theorem s8_eq (call : CallT) (n : Nat) (as : List AVal) (A : AH) : fnK call n 16 [.tmp 2] y8 1 as A = s8 call n as A := by kernel_rfl
/-- slices.SortStableFunc[[]int,int] -/
def y9 : YCode := (.region [⟨none, [], [⟨(some 4), .mov (.t 0), none⟩,
    ⟨(some 5), .mov (.t 0), none⟩,
    ⟨(some 6), .blen (.t 5), none⟩,
    ⟨(some 7), .mov (.t 1), none⟩,
    ⟨(some 8), .call 15 [(.t 4), (.t 6), (.t 7)], none⟩]⟩])
def x9 : XFunc := ⟨9, [], y9.er⟩
noncomputable def s9_b (call : CallT) (_ : Nat) (v0 v1 : AVal) (A2 : AH) : Res :=
 bindO (blenR v0) fun v3 =>
 bindR (call 15 [v0, v3, v1] A2) (fun _ A5 =>
 .ret (.tuple []) A5) fun u6 B7 => .pan u6 B7
noncomputable def s9 (call : CallT) (n : Nat) (as : List AVal) (A : AH) : Res := apL 2 (s9_b call n) as A
theorem s9_eq (call : CallT) (n : Nat) (as : List AVal) (A : AH) : fnK call n 9 [] y9 2 as A = s9 call n as A := by kernel_rfl
/-- concertina/depth.Lengths$1 -/
def y10 : YCode := (.seq (.region [⟨none, [], [⟨(some 5), .mov (.c (.int .i64 0)), none⟩]⟩])
  (.seq (.draw [⟨none, [], [⟨(some 6), .mov (.t 1), none⟩,
    ⟨(some 7), .idxa 256 1 (.t 2) (.t 6), none⟩,
    ⟨(some 8), .load1 (.t 7), none⟩,
    ⟨(some 9), .mov (.t 0), none⟩,
    ⟨(some 10), .idxa 256 1 (.t 2) (.t 9), none⟩,
    ⟨(some 11), .load1 (.t 10), none⟩,
    ⟨(some 12), .call 11 [(.t 8), (.t 11)], none⟩,
    ⟨(some 5), .mov (.t 12), none⟩]⟩] [] [])
  .ret))
def x10 : XFunc := ⟨13, [.tmp 5], y10.er⟩
noncomputable def s10_b (call : CallT) (_ : Nat) (v0 v1 v2 : AVal) (A3 : AH) : Res :=
 letA (A3.bump 8) fun A4 =>
 bindO (idxaR 256 1 v2 v1) fun v5 =>
 bindO (load1R A4 v5) fun v6 =>
 bindO (idxaR 256 1 v2 v0) fun v7 =>
 bindO (load1R A4 v7) fun v8 =>
 bindR (call 11 [v6, v8] A4) (fun v9 A10 =>
 .ret v9 A10) fun u11 B12 => .pan u11 B12
noncomputable def s10 (call : CallT) (n : Nat) (as : List AVal) (A : AH) : Res := apL 3 (s10_b call n) as A
theorem s10_eq (call : CallT) (n : Nat) (as : List AVal) (A : AH) : fnK call n 13 [.tmp 5] y10 3 as A = s10 call n as A := by kernel_rfl
/-- cmp.Compare[int] -/
def y11 : YCode := (.seq (.region [⟨none, [], [⟨(some 4), .mov (.c (.int .i64 0)), none⟩]⟩])
  (.seq (.region [⟨none, [], [⟨(some 7), .mov (.t 0), none⟩,
    ⟨(some 8), .call 16 [(.t 7)], none⟩,
    ⟨(some 5), .mov (.t 8), none⟩]⟩])
  (.seq (.region [⟨none, [], [⟨(some 9), .mov (.t 1), none⟩,
    ⟨(some 10), .call 16 [(.t 9)], none⟩,
    ⟨(some 6), .mov (.t 10), none⟩]⟩])
  (.seq (.seq (.region [⟨none, [], [⟨(some 11), .mov (.t 5), none⟩]⟩])
  (.cond (.t 11) [6, 0, 1] (.seq (.seq (.region [⟨none, [], [⟨(some 12), .mov (.t 6), none⟩]⟩])
  (.cond (.t 12) [] (.seq (.region [⟨none, [], [⟨(some 4), .mov (.c (.int .i64 0)), none⟩]⟩])
  .ret)
  .skip))
  (.seq (.region [⟨none, [], [⟨(some 4), .mov (.c (.int .i64 (-1))), none⟩]⟩])
  .ret))
  .skip))
  (.seq (.seq (.region [⟨none, [], [⟨(some 13), .mov (.t 6), none⟩]⟩])
  (.cond (.t 13) [0, 1] (.seq (.region [⟨none, [], [⟨(some 4), .mov (.c (.int .i64 1)), none⟩]⟩])
  .ret)
  .skip))
  (.seq (.seq (.region [⟨none, [], [⟨(some 14), .mov (.t 0), none⟩,
    ⟨(some 15), .mov (.t 1), none⟩,
    ⟨(some 16), .bin .lss (.t 14) (.t 15), none⟩]⟩])
  (.cond (.t 16) [0, 1] (.seq (.region [⟨none, [], [⟨(some 4), .mov (.c (.int .i64 (-1))), none⟩]⟩])
  .ret)
  .skip))
  (.seq (.seq (.region [⟨none, [], [⟨(some 17), .mov (.t 0), none⟩,
    ⟨(some 18), .mov (.t 1), none⟩,
    ⟨(some 19), .bin .gtr (.t 17) (.t 18), none⟩]⟩])
  (.cond (.t 19) [] (.seq (.region [⟨none, [], [⟨(some 4), .mov (.c (.int .i64 1)), none⟩]⟩])
  .ret)
  .skip))
  (.seq (.region [⟨none, [], [⟨(some 4), .mov (.c (.int .i64 0)), none⟩]⟩])
  .ret))))))))
def x11 : XFunc := ⟨20, [.tmp 4], y11.er⟩
noncomputable def s11_k26 (_ : CallT) (_ : Nat) (A26 : AH) : Res :=
 .ret (.int .i64 0) A26
noncomputable def s11_k23 (call : CallT) (n : Nat) (v21 v22 : AVal) (A23 : AH) : Res :=
 bindO (gtrR v21 v22) fun v25 =>
 joinV (s11_k26 call n) fun j27 => boolK (some v25) (
 .ret (.int .i64 1) A23) (
 j27 A23)
noncomputable def s11_k18 (call : CallT) (n : Nat) (v16 v17 : AVal) (A18 : AH) : Res :=
 bindO (lssR v16 v17) fun v20 =>
 joinV (s11_k23 call n) fun j24 => boolK (some v20) (
 .ret (.int .i64 (-1)) A18) (
 j24 v16 v17 A18)
noncomputable def s11_k14 (call : CallT) (n : Nat) (v11 v12 v13 : AVal) (A14 : AH) : Res :=
 joinV (s11_k18 call n) fun j19 => boolK (some v11) (
 .ret (.int .i64 1) A14) (
 j19 v12 v13 A14)
noncomputable def s11_k28 (_ : CallT) (_ : Nat) (A28 : AH) : Res :=
 .ret (.int .i64 (-1)) A28
noncomputable def s11_b (call : CallT) (n : Nat) (v0 v1 : AVal) (A2 : AH) : Res :=
 bindR (call 16 [v0] A2) (fun v3 A4 =>
 bindR (call 16 [v1] A4) (fun v7 A8 =>
 joinV (s11_k14 call n) fun j15 => boolK (some v3) (
 joinV (s11_k28 call n) fun j29 => boolK (some v7) (
 .ret (.int .i64 0) A8) (
 j29 A8)) (
 j15 v7 v0 v1 A8)) fun u9 B10 => .pan u9 B10) fun u5 B6 => .pan u5 B6
noncomputable def s11 (call : CallT) (n : Nat) (as : List AVal) (A : AH) : Res := apL 2 (s11_b call n) as A
theorem s11_eq (call : CallT) (n : Nat) (as : List AVal) (A : AH) : fnK call n 20 [.tmp 4] y11 2 as A = s11 call n as A := by kernel_rfl
/-- concertina/depth.depths -/
def y12 : YCode := (.seq (.region [⟨none, [], [⟨(some 2), .mov (.c .nilslice), none⟩]⟩])
  (.seq (.region [⟨none, [], [⟨(some 13), .mov (.t 0), none⟩,
    ⟨(some 14), .blen (.t 13), none⟩,
    ⟨(some 15), .mks 1 8 [(.int .i64 0)] (.t 14) (.t 14), none⟩,
    ⟨(some 3), .mov (.t 15), none⟩]⟩])
  (.seq (.region [⟨none, [], [⟨(some 16), .bslice 0 [] [], none⟩,
    ⟨(some 17), .box (.t 16), none⟩,
    ⟨(some 4), .mov (.t 17), none⟩]⟩])
  (.seq (.seq (.region [⟨none, [], [⟨(some 18), .mov (.t 0), none⟩,
    ⟨(some 19), .blen (.t 18), none⟩,
    ⟨(some 20), .mov (.c (.int .i64 0)), none⟩]⟩])
  (.block 0 [0, 4, 3] (.loop [20, 19, 18, 4, 0, 3] (.seq (.region [⟨none, [], [⟨(some 21), .bin .lss (.t 20) (.t 19), none⟩]⟩])
  (.seq (.cond (.t 21) [20, 18, 4, 19, 0, 3] .skip
  (.exit 0))
  (.seq (.block 1 [20, 19, 18, 4, 0, 3] (.seq (.region [⟨none, [], [⟨(some 22), .mov (.t 20), none⟩,
    ⟨(some 23), .idxs 1 (.t 18) (.t 20), none⟩,
    ⟨(some 24), .load1 (.t 23), none⟩,
    ⟨(some 5), .mov (.t 22), none⟩,
    ⟨(some 6), .mov (.t 24), none⟩]⟩])
  (.region [⟨none, [], [⟨(some 25), .mov (.t 4), none⟩,
    ⟨(some 26), .mki 38 (.t 25), none⟩,
    ⟨(some 27), .mov (.t 6), none⟩,
    ⟨(some 28), .mov (.t 5), none⟩,
    ⟨(some 29), .mov (.t 5), none⟩,
    ⟨(some 30), .bslice 1 [(.int .i64 0)] [(0, 1, (.t 29))], none⟩,
    ⟨(some 31), .build [(.int .i64 0), (.int .i64 0), .nilslice] [(0, 1, (.t 27)), (1, 1, (.t 28)), (2, 1, (.t 30))], none⟩,
    ⟨(some 32), .mki 43 (.t 31), none⟩,
    ⟨(some 33), .call 17 [(.t 26), (.t 32)], none⟩]⟩])))
  (.region [⟨none, [], [⟨(some 34), .bin .add (.t 20) (.c (.int .i64 1)), none⟩,
    ⟨(some 20), .mov (.t 34), none⟩]⟩])))))))
  (.seq (.seq (.region [⟨none, [], [⟨(some 35), .mov (.t 0), none⟩,
    ⟨(some 36), .blen (.t 35), none⟩,
    ⟨(some 7), .mov (.t 36), none⟩]⟩])
  (.block 2 [3] (.loop [4, 3, 7] (.seq (.seq (.region [⟨none, [], [⟨(some 37), .mov (.t 4), none⟩,
    ⟨(some 38), .nilc (.t 37), none⟩,
    ⟨(some 39), .load1 (.t 38), none⟩,
    ⟨(some 40), .call 18 [(.t 39)], none⟩,
    ⟨(some 41), .bin .gtr (.t 40) (.c (.int .i64 1)), none⟩]⟩])
  (.cond (.t 41) [4, 3, 7] .skip
  (.exit 2)))
  (.seq (.block 3 [7, 4, 3] (.seq (.draw [⟨none, [], [⟨(some 44), .mov (.t 4), none⟩,
    ⟨(some 45), .mki 38 (.t 44), none⟩,
    ⟨(some 46), .call 19 [(.t 45)], none⟩,
    ⟨(some 47), .tassert 43 false (.agg [(.int .i64 0), (.int .i64 0), .nilslice]) (.t 46), none⟩,
    ⟨(some 48), .mov (.t 4), none⟩,
    ⟨(some 49), .mki 38 (.t 48), none⟩,
    ⟨(some 50), .call 19 [(.t 49)], none⟩,
    ⟨(some 51), .tassert 43 false (.agg [(.int .i64 0), (.int .i64 0), .nilslice]) (.t 50), none⟩,
    ⟨(some 8), .alloc [(.int .i64 0), (.int .i64 0), .nilslice], none⟩,
    ⟨(some 9), .alloc [(.int .i64 0), (.int .i64 0), .nilslice], none⟩,
    ⟨none, .storeN 3 (.t 8) (.t 47), none⟩,
    ⟨none, .storeN 3 (.t 9) (.t 51), none⟩]⟩] [] [2, 6])
  (.cut [8, 9, 3, 4, 7] (.seq (.region [⟨none, [], [⟨(some 52), .fadr 2 (.t 8), none⟩,
    ⟨(some 53), .load1 (.t 52), none⟩,
    ⟨(some 54), .fadr 2 (.t 9), none⟩,
    ⟨(some 55), .load1 (.t 54), none⟩,
    ⟨(some 56), .bslice 2 [.nilslice, .nilslice] [(0, 1, (.t 53)), (1, 1, (.t 55))], none⟩,
    ⟨(some 57), .call 20 [(.t 56)], none⟩,
    ⟨(some 10), .mov (.t 57), none⟩]⟩])
  (.seq (.seq (.region [⟨none, [], [⟨(some 58), .mov (.t 10), none⟩,
    ⟨(some 59), .blen (.t 58), none⟩,
    ⟨(some 60), .mov (.c (.int .i64 0)), none⟩]⟩])
  (.block 4 [4, 8, 9, 7, 10, 3] (.loop [60, 59, 58, 3, 4, 8, 9, 7, 10] (.seq (.region [⟨none, [], [⟨(some 61), .bin .lss (.t 60) (.t 59), none⟩]⟩])
  (.seq (.cond (.t 61) [58, 60, 3, 59, 4, 8, 9, 7, 10] .skip
  (.exit 4))
  (.seq (.block 5 [60, 59, 58, 3, 4, 8, 9, 7, 10] (.seq (.region [⟨none, [], [⟨(some 62), .idxs 1 (.t 58) (.t 60), none⟩,
    ⟨(some 63), .load1 (.t 62), none⟩,
    ⟨(some 12), .mov (.t 63), none⟩]⟩])
  (.region [⟨none, [], [⟨(some 64), .mov (.t 3), none⟩,
    ⟨(some 65), .mov (.t 12), none⟩,
    ⟨(some 66), .idxs 1 (.t 64) (.t 65), none⟩,
    ⟨(some 67), .load1 (.t 66), none⟩,
    ⟨(some 68), .bin .add (.t 67) (.c (.int .i64 1)), none⟩,
    ⟨(some 69), .idxs 1 (.t 64) (.t 65), none⟩,
    ⟨none, .store1 (.t 69) (.t 68), none⟩]⟩])))
  (.region [⟨none, [], [⟨(some 70), .bin .add (.t 60) (.c (.int .i64 1)), none⟩,
    ⟨(some 60), .mov (.t 70), none⟩]⟩])))))))
  (.region [⟨none, [], [⟨(some 71), .mov (.t 4), none⟩,
    ⟨(some 72), .mki 38 (.t 71), none⟩,
    ⟨(some 73), .fadr 0 (.t 8), none⟩,
    ⟨(some 74), .load1 (.t 73), none⟩,
    ⟨(some 75), .fadr 0 (.t 9), none⟩,
    ⟨(some 76), .load1 (.t 75), none⟩,
    ⟨(some 77), .bin .add (.t 74) (.t 76), none⟩,
    ⟨(some 78), .mov (.t 7), none⟩,
    ⟨(some 79), .mov (.t 10), none⟩,
    ⟨(some 80), .build [(.int .i64 0), (.int .i64 0), .nilslice] [(0, 1, (.t 77)), (1, 1, (.t 78)), (2, 1, (.t 79))], none⟩,
    ⟨(some 81), .mki 43 (.t 80), none⟩,
    ⟨(some 82), .call 17 [(.t 72), (.t 81)], none⟩]⟩]))))))
  (.region [⟨none, [], [⟨(some 42), .mov (.t 7), none⟩,
    ⟨(some 43), .bin .add (.t 42) (.c (.int .i64 1)), none⟩,
    ⟨(some 7), .mov (.t 43), none⟩]⟩]))))))
  (.seq (.region [⟨none, [], [⟨(some 83), .mov (.t 3), none⟩,
    ⟨(some 2), .mov (.t 83), none⟩]⟩])
  .ret))))))
def x12 : XFunc := ⟨84, [.tmp 2], y12.er⟩
noncomputable def s12_k23 (_ : CallT) (_ : Nat) (v22 : AVal) (A23 : AH) : Res :=
 .ret v22 A23
noncomputable def s12_k45 (_ : CallT) (_ : Nat) (n29 : J3) (v42 v43 v44 : AVal) (A45 : AH) : Res :=
 bindO (addR v42 (.int .i64 1)) fun v47 =>
 n29 v43 v44 v47 A45
noncomputable def s12_k99 (call : CallT) (_ : Nat) (j46 : J3) (v93 v94 v95 v96 v97 v98 : AVal) (A99 : AH) : Res :=
 bindO (apure [] (.mki 38 (.c v93))) fun v101 =>
 bindO (fadrR 0 v94) fun v102 =>
 bindO (load1R A99 v102) fun v103 =>
 bindO (fadrR 0 v95) fun v104 =>
 bindO (load1R A99 v104) fun v105 =>
 bindO (addR v103 v105) fun v106 =>
 bindO (apure [] (.build [(.int .i64 0), (.int .i64 0), .nilslice] [(0, 1, (.c v106)), (1, 1, (.c v96)), (2, 1, (.c v97))])) fun v107 =>
 bindO (apure [] (.mki 43 (.c v107))) fun v108 =>
 bindR (call 17 [v101, v108] A99) (fun _ A110 =>
 j46 v96 v93 v98 A110) fun u111 B112 => .pan u111 B112
noncomputable def s12_k145 (_ : CallT) (_ : Nat) (n123 : J9) (v136 v137 v138 v139 v140 v141 v142 v143 v144 : AVal) (A145 : AH) : Res :=
 bindO (addR v136 (.int .i64 1)) fun v147 =>
 n123 v147 v137 v138 v139 v140 v141 v142 v143 v144 A145
noncomputable def s12_k134 (call : CallT) (n : Nat) (n123 : J9) (v125 v126 v127 v128 v129 v130 v131 v132 v133 : AVal) (A134 : AH) : Res :=
 joinV (s12_k145 call n n123) fun j146 =>
 bindO (idxsR 1 v125 v126) fun v148 =>
 bindO (load1R A134 v148) fun v149 =>
 bindO (idxsR 1 v127 v149) fun v150 =>
 bindO (load1R A134 v150) fun v151 =>
 bindO (addR v151 (.int .i64 1)) fun v152 =>
 bindO (idxsR 1 v127 v149) fun v153 =>
 bindP (store1R A134 v153 v152) fun _ A155 =>
 j146 v126 v128 v125 v127 v129 v130 v131 v132 v133 A155
noncomputable def s12_l122 (call : CallT) (n : Nat) (j100 : J6) (n123 : J9) (v113 v114 v115 v116 v117 v118 v119 v120 v121 : AVal) (A122 : AH) : Res :=
 bindO (lssR v113 v114) fun v124 =>
 joinV (s12_k134 call n n123) fun j135 => boolK (some v124) (
 j135 v115 v113 v116 v114 v117 v118 v119 v120 v121 A122) (
 j100 v117 v118 v119 v120 v121 v116 A122)
noncomputable def s12_c78 (call : CallT) (n : Nat) (j46 : J3) (v73 v74 v75 v76 v77 : AVal) (A78 : AH) : Res :=
 bindO (fadrR 2 v73) fun v80 =>
 bindO (load1R A78 v80) fun v81 =>
 bindO (fadrR 2 v74) fun v82 =>
 bindO (load1R A78 v82) fun v83 =>
 bindF (afree [] (.bslice 2 [.nilslice, .nilslice] [(0, 1, (.c v81)), (1, 1, (.c v83))])) fun x84 f85 => forceV (f85 (A78.next)) fun v87 => letA (newR A78 x84) fun A86 =>
 bindR (call 20 [v87] A86) (fun v88 A89 =>
 bindO (blenR v88) fun v92 =>
 joinV (s12_k99 call n j46) fun j100 =>
 loopK zJ9 n (s12_l122 call n j100) (.int .i64 0) v92 v88 v75 v76 v73 v74 v77 v88 A89) fun u90 B91 => .pan u90 B91
noncomputable def s12_k40 (call : CallT) (n : Nat) (n29 : J3) (v37 v38 v39 : AVal) (A40 : AH) : Res :=
 joinV (s12_k45 call n n29) fun j46 =>
 letA (A40.bump 12) fun A48 =>
 bindO (apure [] (.mki 38 (.c v37))) fun v49 =>
 bindR (call 19 [v49] A48) (fun v50 A51 =>
 bindO (apure [] (.tassert 43 false (.agg [(.int .i64 0), (.int .i64 0), .nilslice]) (.c v50))) fun v54 =>
 bindO (apure [] (.mki 38 (.c v37))) fun v55 =>
 bindR (call 19 [v55] A51) (fun v56 A57 =>
 bindO (apure [] (.tassert 43 false (.agg [(.int .i64 0), (.int .i64 0), .nilslice]) (.c v56))) fun v60 =>
 bindF (afree [] (.alloc [(.int .i64 0), (.int .i64 0), .nilslice])) fun x61 f62 => forceV (f62 ((Nat.add A40.next 8))) fun v64 => letA (setR A57 (Nat.add A40.next 8) x61) fun A63 =>
 bindF (afree [] (.alloc [(.int .i64 0), (.int .i64 0), .nilslice])) fun x65 f66 => forceV (f66 ((Nat.add A40.next 9))) fun v68 => letA (setR A63 (Nat.add A40.next 9) x65) fun A67 =>
 bindP (storeNR 3 A67 v64 v54) fun _ A70 =>
 bindP (storeNR 3 A70 v68 v60) fun _ A72 =>
 joinV (s12_c78 call n j46) fun j79 => j79 v64 v68 v38 v37 v39 A72) fun _ _ => .stuck) fun _ _ => .stuck
noncomputable def s12_l28 (call : CallT) (n : Nat) (j24 : J1) (n29 : J3) (v25 v26 v27 : AVal) (A28 : AH) : Res :=
 bindO (nilcR v25) fun v30 =>
 bindO (load1R A28 v30) fun v31 =>
 bindR (call 18 [v31] A28) (fun v32 A33 =>
 bindO (gtrR v32 (.int .i64 1)) fun v36 =>
 joinV (s12_k40 call n n29) fun j41 => boolK (some v36) (
 j41 v25 v26 v27 A33) (
 j24 v26 A33)) fun u34 B35 => .pan u34 B35
noncomputable def s12_k19 (call : CallT) (n : Nat) (v16 v17 v18 : AVal) (A19 : AH) : Res :=
 bindO (blenR v16) fun v21 =>
 joinV (s12_k23 call n) fun j24 =>
 loopK zJ3 n (s12_l28 call n j24) v17 v18 v21 A19
noncomputable def s12_k179 (_ : CallT) (_ : Nat) (n163 : J6) (v173 v174 v175 v176 v177 v178 : AVal) (A179 : AH) : Res :=
 bindO (addR v173 (.int .i64 1)) fun v181 =>
 n163 v181 v174 v175 v176 v177 v178 A179
noncomputable def s12_k171 (call : CallT) (n : Nat) (n163 : J6) (v165 v166 v167 v168 v169 v170 : AVal) (A171 : AH) : Res :=
 joinV (s12_k179 call n n163) fun j180 =>
 bindO (idxsR 1 v166 v165) fun v182 =>
 bindO (load1R A171 v182) fun v183 =>
 bindO (apure [] (.mki 38 (.c v167))) fun v184 =>
 bindF (afree [] (.bslice 1 [(.int .i64 0)] [(0, 1, (.c v165))])) fun x185 f186 => forceV (f186 (A171.next)) fun v188 => letA (newR A171 x185) fun A187 =>
 bindO (apure [] (.build [(.int .i64 0), (.int .i64 0), .nilslice] [(0, 1, (.c v183)), (1, 1, (.c v165)), (2, 1, (.c v188))])) fun v189 =>
 bindO (apure [] (.mki 43 (.c v189))) fun v190 =>
 bindR (call 17 [v184, v190] A187) (fun _ A192 =>
 j180 v165 v168 v166 v167 v169 v170 A192) fun u193 B194 => .pan u193 B194
noncomputable def s12_l162 (call : CallT) (n : Nat) (j20 : J3) (n163 : J6) (v156 v157 v158 v159 v160 v161 : AVal) (A162 : AH) : Res :=
 bindO (lssR v156 v157) fun v164 =>
 joinV (s12_k171 call n n163) fun j172 => boolK (some v164) (
 j172 v156 v158 v159 v157 v160 v161 A162) (
 j20 v160 v159 v161 A162)
noncomputable def s12_b (call : CallT) (n : Nat) (v0 : AVal) (A1 : AH) : Res :=
 bindO (blenR v0) fun v2 =>
 bindF (afree [] (.mks 1 8 [(.int .i64 0)] (.c v2) (.c v2))) fun x3 f4 => forceV (f4 (A1.next)) fun v6 => letA (newR A1 x3) fun A5 =>
 bindF (afree [] (.bslice 0 [] [])) fun x7 f8 => forceV (f8 (A5.next)) fun v10 => letA (newR A5 x7) fun A9 =>
 bindF (afree [] (.box (.c v10))) fun x11 f12 => forceV (f12 (A9.next)) fun v14 => letA (newR A9 x11) fun A13 =>
 bindO (blenR v0) fun v15 =>
 joinV (s12_k19 call n) fun j20 =>
 loopK zJ6 n (s12_l162 call n j20) (.int .i64 0) v15 v0 v14 v0 v6 A13
noncomputable def s12 (call : CallT) (n : Nat) (as : List AVal) (A : AH) : Res := apL 1 (s12_b call n) as A
theorem s12_eq (call : CallT) (n : Nat) (as : List AVal) (A : AH) : fnK call n 84 [.tmp 2] y12 1 as A = s12 call n as A := by kernel_rfl
/-- slices.Max[[]int,int] -/
def y13 : YCode := (.seq (.region [⟨none, [], [⟨(some 2), .mov (.c (.int .i64 0)), none⟩]⟩])
  (.seq (.seq (.region [⟨none, [], [⟨(some 5), .mov (.t 0), none⟩,
    ⟨(some 6), .blen (.t 5), none⟩,
    ⟨(some 7), .bin .lss (.t 6) (.c (.int .i64 1)), none⟩]⟩])
  (.cond (.t 7) [0] (.region [⟨none, [], [⟨(some 8), .mki 9 (.c (.str ⟨#[115, 108, 105, 99, 101, 115, 46, 77, 97, 120, 58, 32, 101, 109, 112, 116, 121, 32, 108, 105, 115, 116]⟩)), none⟩,
    ⟨none, .panic (.t 8), none⟩]⟩])
  .skip))
  (.seq (.region [⟨none, [], [⟨(some 9), .mov (.t 0), none⟩,
    ⟨(some 10), .idxs 1 (.t 9) (.c (.int .i64 0)), none⟩,
    ⟨(some 11), .load1 (.t 10), none⟩,
    ⟨(some 3), .mov (.t 11), none⟩]⟩])
  (.seq (.seq (.region [⟨none, [], [⟨(some 4), .mov (.c (.int .i64 1)), none⟩]⟩])
  (.block 0 [3] (.loop [4, 0, 3] (.seq (.seq (.region [⟨none, [], [⟨(some 12), .mov (.t 4), none⟩,
    ⟨(some 13), .mov (.t 0), none⟩,
    ⟨(some 14), .blen (.t 13), none⟩,
    ⟨(some 15), .bin .lss (.t 12) (.t 14), none⟩]⟩])
  (.cond (.t 15) [3, 0, 4] .skip
  (.exit 0)))
  (.seq (.block 1 [4, 0, 3] (.region [⟨none, [], [⟨(some 18), .mov (.t 3), none⟩,
    ⟨(some 19), .mov (.t 0), none⟩,
    ⟨(some 20), .mov (.t 4), none⟩,
    ⟨(some 21), .idxs 1 (.t 19) (.t 20), none⟩,
    ⟨(some 22), .load1 (.t 21), none⟩,
    ⟨(some 23), .bmax (.t 18) (.t 22), none⟩,
    ⟨(some 3), .mov (.t 23), none⟩]⟩]))
  (.region [⟨none, [], [⟨(some 16), .mov (.t 4), none⟩,
    ⟨(some 17), .bin .add (.t 16) (.c (.int .i64 1)), none⟩,
    ⟨(some 4), .mov (.t 17), none⟩]⟩]))))))
  (.seq (.region [⟨none, [], [⟨(some 24), .mov (.t 3), none⟩,
    ⟨(some 2), .mov (.t 24), none⟩]⟩])
  .ret)))))
def x13 : XFunc := ⟨25, [.tmp 2], y13.er⟩
noncomputable def s13_k10 (_ : CallT) (_ : Nat) (v9 : AVal) (A10 : AH) : Res :=
 .ret v9 A10
noncomputable def s13_k27 (_ : CallT) (_ : Nat) (n16 : J3) (v24 v25 v26 : AVal) (A27 : AH) : Res :=
 bindO (addR v24 (.int .i64 1)) fun v29 =>
 n16 v29 v25 v26 A27
noncomputable def s13_k22 (call : CallT) (n : Nat) (n16 : J3) (v19 v20 v21 : AVal) (A22 : AH) : Res :=
 joinV (s13_k27 call n n16) fun j28 =>
 bindO (idxsR 1 v20 v21) fun v30 =>
 bindO (load1R A22 v30) fun v31 =>
 bindO (apure [] (.bmax (.c v19) (.c v31))) fun v32 =>
 j28 v21 v20 v32 A22
noncomputable def s13_l15 (call : CallT) (n : Nat) (j11 : J1) (n16 : J3) (v12 v13 v14 : AVal) (A15 : AH) : Res :=
 bindO (blenR v13) fun v17 =>
 bindO (lssR v12 v17) fun v18 =>
 joinV (s13_k22 call n n16) fun j23 => boolK (some v18) (
 j23 v14 v13 v12 A15) (
 j11 v14 A15)
noncomputable def s13_k5 (call : CallT) (n : Nat) (v4 : AVal) (A5 : AH) : Res :=
 bindO (idxsR 1 v4 (.int .i64 0)) fun v7 =>
 bindO (load1R A5 v7) fun v8 =>
 joinV (s13_k10 call n) fun j11 =>
 loopK zJ3 n (s13_l15 call n j11) (.int .i64 1) v4 v8 A5
noncomputable def s13_b (call : CallT) (n : Nat) (v0 : AVal) (A1 : AH) : Res :=
 bindO (blenR v0) fun v2 =>
 bindO (lssR v2 (.int .i64 1)) fun v3 =>
 joinV (s13_k5 call n) fun j6 => boolK (some v3) (
 bindO (apure [] (.mki 9 (.c (.str ⟨#[115, 108, 105, 99, 101, 115, 46, 77, 97, 120, 58, 32, 101, 109, 112, 116, 121, 32, 108, 105, 115, 116]⟩)))) fun v33 =>
 panK v33 A1) (
 j6 v0 A1)
noncomputable def s13 (call : CallT) (n : Nat) (as : List AVal) (A : AH) : Res := apL 1 (s13_b call n) as A
theorem s13_eq (call : CallT) (n : Nat) (as : List AVal) (A : AH) : fnK call n 25 [.tmp 2] y13 1 as A = s13 call n as A := by kernel_rfl
/-- slices.Sort[[]int,int] -/
def y14 : YCode := (.seq (.region [⟨none, [], [⟨(some 3), .mov (.t 0), none⟩,
    ⟨(some 4), .blen (.t 3), none⟩,
    ⟨(some 2), .mov (.t 4), none⟩]⟩])
  (.region [⟨none, [], [⟨(some 5), .mov (.t 0), none⟩,
    ⟨(some 6), .mov (.t 2), none⟩,
    ⟨(some 7), .mov (.t 2), none⟩,
    ⟨(some 8), .cvi .u64 (.t 7), none⟩,
    ⟨(some 9), .call 22 [(.t 8)], none⟩,
    ⟨(some 10), .call 21 [(.t 5), (.c (.int .i64 0)), (.t 6), (.t 9)], none⟩]⟩]))
def x14 : XFunc := ⟨11, [], y14.er⟩
noncomputable def s14_b (call : CallT) (_ : Nat) (v0 : AVal) (A1 : AH) : Res :=
 bindO (blenR v0) fun v2 =>
 bindO (cviR .u64 v2) fun v3 =>
 bindR (call 22 [v3] A1) (fun v4 A5 =>
 bindR (call 21 [v0, (.int .i64 0), v2, v4] A5) (fun _ A9 =>
 .ret (.tuple []) A9) fun u10 B11 => .pan u10 B11) fun u6 B7 => .pan u6 B7
noncomputable def s14 (call : CallT) (n : Nat) (as : List AVal) (A : AH) : Res := apL 1 (s14_b call n) as A
theorem s14_eq (call : CallT) (n : Nat) (as : List AVal) (A : AH) : fnK call n 11 [] y14 1 as A = s14 call n as A := by kernel_rfl
/-- slices.stableCmpFunc[int] -/
def y15 : YCode := (.seq (.region [⟨none, [], [⟨(some 6), .mov (.c (.int .i64 20)), none⟩]⟩])
  (.seq (.region [⟨none, [], [⟨(some 10), .mov (.t 6), none⟩,
    ⟨(some 7), .mov (.c (.int .i64 0)), none⟩,
    ⟨(some 8), .mov (.t 10), none⟩]⟩])
  (.seq (.block 0 [0, 7, 1, 2, 6] (.loop [8, 1, 0, 7, 2, 6] (.seq (.seq (.region [⟨none, [], [⟨(some 11), .mov (.t 8), none⟩,
    ⟨(some 12), .mov (.t 1), none⟩,
    ⟨(some 13), .bin .leq (.t 11) (.t 12), none⟩]⟩])
  (.cond (.t 13) [0, 7, 8, 2, 6, 1] .skip
  (.exit 0)))
  (.block 1 [8, 1, 0, 7, 2, 6] (.seq (.region [⟨none, [], [⟨(some 14), .mov (.t 0), none⟩,
    ⟨(some 15), .mov (.t 7), none⟩,
    ⟨(some 16), .mov (.t 8), none⟩,
    ⟨(some 17), .mov (.t 2), none⟩,
    ⟨(some 18), .call 23 [(.t 14), (.t 15), (.t 16), (.t 17)], none⟩]⟩])
  (.seq (.region [⟨none, [], [⟨(some 19), .mov (.t 8), none⟩,
    ⟨(some 7), .mov (.t 19), none⟩]⟩])
  (.region [⟨none, [], [⟨(some 20), .mov (.t 8), none⟩,
    ⟨(some 21), .mov (.t 6), none⟩,
    ⟨(some 22), .bin .add (.t 20) (.t 21), none⟩,
    ⟨(some 8), .mov (.t 22), none⟩]⟩])))))))
  (.seq (.region [⟨none, [], [⟨(some 23), .mov (.t 0), none⟩,
    ⟨(some 24), .mov (.t 7), none⟩,
    ⟨(some 25), .mov (.t 1), none⟩,
    ⟨(some 26), .mov (.t 2), none⟩,
    ⟨(some 27), .call 23 [(.t 23), (.t 24), (.t 25), (.t 26)], none⟩]⟩])
  (.block 2 [] (.loop [6, 1, 0, 2] (.seq (.seq (.region [⟨none, [], [⟨(some 28), .mov (.t 6), none⟩,
    ⟨(some 29), .mov (.t 1), none⟩,
    ⟨(some 30), .bin .lss (.t 28) (.t 29), none⟩]⟩])
  (.cond (.t 30) [6, 1, 0, 2] .skip
  (.exit 2)))
  (.block 3 [6, 1, 0, 2] (.seq (.region [⟨none, [], [⟨(some 31), .mov (.t 6), none⟩,
    ⟨(some 32), .bin .mul (.c (.int .i64 2)) (.t 31), none⟩,
    ⟨(some 7), .mov (.c (.int .i64 0)), none⟩,
    ⟨(some 8), .mov (.t 32), none⟩]⟩])
  (.seq (.block 4 [7, 6, 1, 0, 2] (.loop [8, 1, 0, 7, 6, 2] (.seq (.seq (.region [⟨none, [], [⟨(some 33), .mov (.t 8), none⟩,
    ⟨(some 34), .mov (.t 1), none⟩,
    ⟨(some 35), .bin .leq (.t 33) (.t 34), none⟩]⟩])
  (.cond (.t 35) [0, 7, 6, 8, 2, 1] .skip
  (.exit 4)))
  (.block 5 [8, 1, 0, 7, 6, 2] (.seq (.region [⟨none, [], [⟨(some 36), .mov (.t 0), none⟩,
    ⟨(some 37), .mov (.t 7), none⟩,
    ⟨(some 38), .mov (.t 7), none⟩,
    ⟨(some 39), .mov (.t 6), none⟩,
    ⟨(some 40), .bin .add (.t 38) (.t 39), none⟩,
    ⟨(some 41), .mov (.t 8), none⟩,
    ⟨(some 42), .mov (.t 2), none⟩,
    ⟨(some 43), .call 24 [(.t 36), (.t 37), (.t 40), (.t 41), (.t 42)], none⟩]⟩])
  (.seq (.region [⟨none, [], [⟨(some 44), .mov (.t 8), none⟩,
    ⟨(some 7), .mov (.t 44), none⟩]⟩])
  (.region [⟨none, [], [⟨(some 45), .mov (.t 8), none⟩,
    ⟨(some 46), .mov (.t 6), none⟩,
    ⟨(some 47), .bin .mul (.c (.int .i64 2)) (.t 46), none⟩,
    ⟨(some 48), .bin .add (.t 45) (.t 47), none⟩,
    ⟨(some 8), .mov (.t 48), none⟩]⟩])))))))
  (.seq (.seq (.region [⟨none, [], [⟨(some 49), .mov (.t 7), none⟩,
    ⟨(some 50), .mov (.t 6), none⟩,
    ⟨(some 51), .bin .add (.t 49) (.t 50), none⟩,
    ⟨(some 9), .mov (.t 51), none⟩]⟩])
  (.seq (.region [⟨none, [], [⟨(some 52), .mov (.t 9), none⟩,
    ⟨(some 53), .mov (.t 1), none⟩,
    ⟨(some 54), .bin .lss (.t 52) (.t 53), none⟩]⟩])
  (.cond (.t 54) [6, 1, 0, 2] (.region [⟨none, [], [⟨(some 55), .mov (.t 0), none⟩,
    ⟨(some 56), .mov (.t 7), none⟩,
    ⟨(some 57), .mov (.t 9), none⟩,
    ⟨(some 58), .mov (.t 1), none⟩,
    ⟨(some 59), .mov (.t 2), none⟩,
    ⟨(some 60), .call 24 [(.t 55), (.t 56), (.t 57), (.t 58), (.t 59)], none⟩]⟩])
  .skip)))
  (.region [⟨none, [], [⟨(some 61), .mov (.t 6), none⟩,
    ⟨(some 62), .bin .mul (.t 61) (.c (.int .i64 2)), none⟩,
    ⟨(some 6), .mov (.t 62), none⟩]⟩]))))))))))))
def x15 : XFunc := ⟨63, [], y15.er⟩
noncomputable def s15_k15 (_ : CallT) (_ : Nat) (A15 : AH) : Res :=
 .ret (.tuple []) A15
noncomputable def s15_k34 (_ : CallT) (_ : Nat) (n22 : J4) (v30 v31 v32 v33 : AVal) (A34 : AH) : Res :=
 n22 v30 v31 v32 v33 A34
noncomputable def s15_k50 (_ : CallT) (_ : Nat) (j35 : J4) (v46 v47 v48 v49 : AVal) (A50 : AH) : Res :=
 bindO (mulR v46 (.int .i64 2)) fun v52 =>
 j35 v52 v47 v48 v49 A50
noncomputable def s15_k42 (call : CallT) (n : Nat) (j35 : J4) (v37 v38 v39 v40 v41 : AVal) (A42 : AH) : Res :=
 bindO (addR v37 v38) fun v44 =>
 bindO (lssR v44 v39) fun v45 =>
 joinV (s15_k50 call n j35) fun j51 => boolK (some v45) (
 bindR (call 24 [v40, v37, v44, v39, v41] A42) (fun _ A54 =>
 j51 v38 v39 v40 v41 A54) fun u55 B56 => .pan u55 B56) (
 j51 v38 v39 v40 v41 A42)
noncomputable def s15_k80 (_ : CallT) (_ : Nat) (n64 : J6) (v74 v75 v76 v77 v78 v79 : AVal) (A80 : AH) : Res :=
 n64 v74 v75 v76 v77 v78 v79 A80
noncomputable def s15_k72 (call : CallT) (n : Nat) (n64 : J6) (v66 v67 v68 v69 v70 v71 : AVal) (A72 : AH) : Res :=
 joinV (s15_k80 call n n64) fun j81 =>
 bindO (addR v67 v68) fun v82 =>
 bindR (call 24 [v66, v67, v82, v69, v70] A72) (fun _ A84 =>
 bindO (mulR (.int .i64 2) v68) fun v87 =>
 bindO (addR v69 v87) fun v88 =>
 j81 v88 v71 v66 v69 v68 v70 A84) fun u85 B86 => .pan u85 B86
noncomputable def s15_l63 (call : CallT) (n : Nat) (j43 : J5) (n64 : J6) (v57 v58 v59 v60 v61 v62 : AVal) (A63 : AH) : Res :=
 bindO (leqR v57 v58) fun v65 =>
 joinV (s15_k72 call n n64) fun j73 => boolK (some v65) (
 j73 v59 v60 v61 v57 v62 v58 A63) (
 j43 v60 v61 v58 v59 v62 A63)
noncomputable def s15_k28 (call : CallT) (n : Nat) (n22 : J4) (v24 v25 v26 v27 : AVal) (A28 : AH) : Res :=
 joinV (s15_k34 call n n22) fun j35 =>
 bindO (mulR (.int .i64 2) v24) fun v36 =>
 joinV (s15_k42 call n j35) fun j43 =>
 loopK zJ6 n (s15_l63 call n j43) v36 v25 v26 (.int .i64 0) v24 v27 A28
noncomputable def s15_l21 (call : CallT) (n : Nat) (j16 : J0) (n22 : J4) (v17 v18 v19 v20 : AVal) (A21 : AH) : Res :=
 bindO (lssR v17 v18) fun v23 =>
 joinV (s15_k28 call n n22) fun j29 => boolK (some v23) (
 j29 v17 v18 v19 v20 A21) (
 j16 A21)
noncomputable def s15_k9 (call : CallT) (n : Nat) (v4 v5 v6 v7 v8 : AVal) (A9 : AH) : Res :=
 bindR (call 23 [v4, v5, v6, v7] A9) (fun _ A12 =>
 joinV (s15_k15 call n) fun j16 =>
 loopK zJ4 n (s15_l21 call n j16) v8 v6 v4 v7 A12) fun u13 B14 => .pan u13 B14
noncomputable def s15_k112 (_ : CallT) (_ : Nat) (n96 : J6) (v106 v107 v108 v109 v110 v111 : AVal) (A112 : AH) : Res :=
 n96 v106 v107 v108 v109 v110 v111 A112
noncomputable def s15_k104 (call : CallT) (n : Nat) (n96 : J6) (v98 v99 v100 v101 v102 v103 : AVal) (A104 : AH) : Res :=
 joinV (s15_k112 call n n96) fun j113 =>
 bindR (call 23 [v98, v99, v100, v101] A104) (fun _ A115 =>
 bindO (addR v100 v102) fun v118 =>
 j113 v118 v103 v98 v100 v101 v102 A115) fun u116 B117 => .pan u116 B117
noncomputable def s15_l95 (call : CallT) (n : Nat) (j10 : J5) (n96 : J6) (v89 v90 v91 v92 v93 v94 : AVal) (A95 : AH) : Res :=
 bindO (leqR v89 v90) fun v97 =>
 joinV (s15_k104 call n n96) fun j105 => boolK (some v97) (
 j105 v91 v92 v89 v93 v94 v90 A95) (
 j10 v91 v92 v90 v93 v94 A95)
noncomputable def s15_b (call : CallT) (n : Nat) (v0 v1 v2 : AVal) (A3 : AH) : Res :=
 joinV (s15_k9 call n) fun j10 =>
 loopK zJ6 n (s15_l95 call n j10) (.int .i64 20) v1 v0 (.int .i64 0) v2 (.int .i64 20) A3
noncomputable def s15 (call : CallT) (n : Nat) (as : List AVal) (A : AH) : Res := apL 3 (s15_b call n) as A
theorem s15_eq (call : CallT) (n : Nat) (as : List AVal) (A : AH) : fnK call n 63 [] y15 3 as A = s15 call n as A := by kernel_rfl
/-- cmp.isNaN[int] -/
def y16 : YCode := (.seq (.region [⟨none, [], [⟨(some 2), .mov (.c (.bool false)), none⟩]⟩])
  (.seq (.region [⟨none, [], [⟨(some 3), .mov (.t 0), none⟩,
    ⟨(some 4), .mov (.t 0), none⟩,
    ⟨(some 5), .bin .neq (.t 3) (.t 4), none⟩,
    ⟨(some 2), .mov (.t 5), none⟩]⟩])
  .ret))
def x16 : XFunc := ⟨6, [.tmp 2], y16.er⟩
noncomputable def s16_b (_ : CallT) (_ : Nat) (v0 : AVal) (A1 : AH) : Res :=
 bindO (neqR v0 v0) fun v2 =>
 .ret v2 A1
noncomputable def s16 (call : CallT) (n : Nat) (as : List AVal) (A : AH) : Res := apL 1 (s16_b call n) as A
theorem s16_eq (call : CallT) (n : Nat) (as : List AVal) (A : AH) : fnK call n 6 [.tmp 2] y16 1 as A = s16 call n as A := by kernel_rfl
/-- container/heap.Push -/
def y17 : YCode := (.seq (.region [⟨none, [], [⟨(some 4), .mov (.t 0), none⟩,
    ⟨(some 5), .mov (.t 1), none⟩,
    ⟨(some 6), .invoke [(38, 65, none)] (.t 4) [(.t 5)], none⟩]⟩])
  (.region [⟨none, [], [⟨(some 7), .mov (.t 0), none⟩,
    ⟨(some 8), .mov (.t 0), none⟩,
    ⟨(some 9), .invoke [(17, 60, none), (38, 18, some 0), (40, 18, none)] (.t 8) [], none⟩,
    ⟨(some 10), .bin .sub (.t 9) (.c (.int .i64 1)), none⟩,
    ⟨(some 11), .call 25 [(.t 7), (.t 10)], none⟩]⟩]))
def x17 : XFunc := ⟨12, [], y17.er⟩
noncomputable def s17_b (call : CallT) (_ : Nat) (v0 v1 : AVal) (A2 : AH) : Res :=
 bindC (acallee [] A2 (.invoke [(38, 65, none)] (.c v0) [(.c v1)])) fun f18 a19 => bindR (call f18 a19 A2) (fun _ A4 =>
 bindC (acallee [] A4 (.invoke [(17, 60, none), (38, 18, some 0), (40, 18, none)] (.c v0) [])) fun f16 a17 => bindR (call f16 a17 A4) (fun v7 A8 =>
 bindO (subR v7 (.int .i64 1)) fun v11 =>
 bindR (call 25 [v0, v11] A8) (fun _ A13 =>
 .ret (.tuple []) A13) fun u14 B15 => .pan u14 B15) fun u9 B10 => .pan u9 B10) fun u5 B6 => .pan u5 B6
noncomputable def s17 (call : CallT) (n : Nat) (as : List AVal) (A : AH) : Res := apL 2 (s17_b call n) as A
theorem s17_eq (call : CallT) (n : Nat) (as : List AVal) (A : AH) : fnK call n 12 [] y17 2 as A = s17 call n as A := by kernel_rfl
/-- (concertina/depth.trees).Len -/
def y18 : YCode := (.seq (.region [⟨none, [], [⟨(some 2), .mov (.c (.int .i64 0)), none⟩]⟩])
  (.seq (.region [⟨none, [], [⟨(some 3), .mov (.t 0), none⟩,
    ⟨(some 4), .blen (.t 3), none⟩,
    ⟨(some 2), .mov (.t 4), none⟩]⟩])
  .ret))
def x18 : XFunc := ⟨5, [.tmp 2], y18.er⟩
noncomputable def s18_b (_ : CallT) (_ : Nat) (v0 : AVal) (A1 : AH) : Res :=
 bindO (blenR v0) fun v2 =>
 .ret v2 A1
noncomputable def s18 (call : CallT) (n : Nat) (as : List AVal) (A : AH) : Res := apL 1 (s18_b call n) as A
theorem s18_eq (call : CallT) (n : Nat) (as : List AVal) (A : AH) : fnK call n 5 [.tmp 2] y18 1 as A = s18 call n as A := by kernel_rfl
/-- container/heap.Pop -/
def y19 : YCode := (.seq (.region [⟨none, [], [⟨(some 2), .mov (.c .nilIface), none⟩]⟩])
  (.seq (.region [⟨none, [], [⟨(some 4), .mov (.t 0), none⟩,
    ⟨(some 5), .invoke [(17, 60, none), (38, 18, some 0), (40, 18, none)] (.t 4) [], none⟩,
    ⟨(some 6), .bin .sub (.t 5) (.c (.int .i64 1)), none⟩,
    ⟨(some 3), .mov (.t 6), none⟩]⟩])
  (.seq (.region [⟨none, [], [⟨(some 7), .mov (.t 0), none⟩,
    ⟨(some 8), .mov (.t 3), none⟩,
    ⟨(some 9), .invoke [(38, 66, some 0), (40, 66, none)] (.t 7) [(.c (.int .i64 0)), (.t 8)], none⟩]⟩])
  (.seq (.region [⟨none, [], [⟨(some 10), .mov (.t 0), none⟩,
    ⟨(some 11), .mov (.t 3), none⟩,
    ⟨(some 12), .call 26 [(.t 10), (.c (.int .i64 0)), (.t 11)], none⟩]⟩])
  (.seq (.region [⟨none, [], [⟨(some 13), .mov (.t 0), none⟩,
    ⟨(some 14), .invoke [(38, 64, none)] (.t 13) [], none⟩,
    ⟨(some 2), .mov (.t 14), none⟩]⟩])
  .ret)))))
def x19 : XFunc := ⟨15, [.tmp 2], y19.er⟩
noncomputable def s19_b (call : CallT) (_ : Nat) (v0 : AVal) (A1 : AH) : Res :=
 bindC (acallee [] A1 (.invoke [(17, 60, none), (38, 18, some 0), (40, 18, none)] (.c v0) [])) fun f23 a24 => bindR (call f23 a24 A1) (fun v2 A3 =>
 bindO (subR v2 (.int .i64 1)) fun v6 =>
 bindC (acallee [] A3 (.invoke [(38, 66, some 0), (40, 66, none)] (.c v0) [(.c (.int .i64 0)), (.c v6)])) fun f21 a22 => bindR (call f21 a22 A3) (fun _ A8 =>
 bindR (call 26 [v0, (.int .i64 0), v6] A8) (fun _ A12 =>
 bindC (acallee [] A12 (.invoke [(38, 64, none)] (.c v0) [])) fun f19 a20 => bindR (call f19 a20 A12) (fun v15 A16 =>
 .ret v15 A16) fun u17 B18 => .pan u17 B18) fun u13 B14 => .pan u13 B14) fun u9 B10 => .pan u9 B10) fun u4 B5 => .pan u4 B5
noncomputable def s19 (call : CallT) (n : Nat) (as : List AVal) (A : AH) : Res := apL 1 (s19_b call n) as A
theorem s19_eq (call : CallT) (n : Nat) (as : List AVal) (A : AH) : fnK call n 15 [.tmp 2] y19 1 as A = s19 call n as A := by kernel_rfl
/-- slices.Concat[[]int,int] -/
def y20 : YCode := (.seq (.region [⟨none, [], [⟨(some 2), .mov (.c .nilslice), none⟩]⟩])
  (.seq (.region [⟨none, [], [⟨(some 3), .mov (.c (.int .i64 0)), none⟩]⟩])
  (.seq (.seq (.region [⟨none, [], [⟨(some 9), .mov (.t 0), none⟩,
    ⟨(some 10), .blen (.t 9), none⟩,
    ⟨(some 11), .mov (.c (.int .i64 0)), none⟩]⟩])
  (.block 0 [3, 0] (.loop [11, 10, 9, 3, 0] (.seq (.region [⟨none, [], [⟨(some 12), .bin .lss (.t 11) (.t 10), none⟩]⟩])
  (.seq (.cond (.t 12) [9, 11, 3, 10, 0] .skip
  (.exit 0))
  (.seq (.block 1 [11, 10, 9, 3, 0] (.seq (.region [⟨none, [], [⟨(some 13), .idxs 1 (.t 9) (.t 11), none⟩,
    ⟨(some 14), .load1 (.t 13), none⟩,
    ⟨(some 5), .mov (.t 14), none⟩]⟩])
  (.seq (.region [⟨none, [], [⟨(some 15), .mov (.t 3), none⟩,
    ⟨(some 16), .mov (.t 5), none⟩,
    ⟨(some 17), .blen (.t 16), none⟩,
    ⟨(some 18), .bin .add (.t 15) (.t 17), none⟩,
    ⟨(some 3), .mov (.t 18), none⟩]⟩])
  (.seq (.region [⟨none, [], [⟨(some 19), .mov (.t 3), none⟩,
    ⟨(some 20), .bin .lss (.t 19) (.c (.int .i64 0)), none⟩]⟩])
  (.cond (.t 20) [11, 10, 9, 3, 0] (.region [⟨none, [], [⟨(some 21), .mki 9 (.c (.str ⟨#[108, 101, 110, 32, 111, 117, 116, 32, 111, 102, 32, 114, 97, 110, 103, 101]⟩)), none⟩,
    ⟨none, .panic (.t 21), none⟩]⟩])
  .skip)))))
  (.region [⟨none, [], [⟨(some 22), .bin .add (.t 11) (.c (.int .i64 1)), none⟩,
    ⟨(some 11), .mov (.t 22), none⟩]⟩])))))))
  (.seq (.region [⟨none, [], [⟨(some 23), .mov (.t 3), none⟩,
    ⟨(some 24), .call 27 [(.c .nilslice), (.t 23)], none⟩,
    ⟨(some 6), .mov (.t 24), none⟩]⟩])
  (.seq (.seq (.region [⟨none, [], [⟨(some 25), .mov (.t 0), none⟩,
    ⟨(some 26), .blen (.t 25), none⟩,
    ⟨(some 27), .mov (.c (.int .i64 0)), none⟩]⟩])
  (.block 2 [6] (.loop [27, 26, 25, 6] (.seq (.region [⟨none, [], [⟨(some 28), .bin .lss (.t 27) (.t 26), none⟩]⟩])
  (.seq (.cond (.t 28) [25, 27, 6, 26] .skip
  (.exit 2))
  (.seq (.block 3 [27, 26, 25, 6] (.seq (.region [⟨none, [], [⟨(some 29), .idxs 1 (.t 25) (.t 27), none⟩,
    ⟨(some 30), .load1 (.t 29), none⟩,
    ⟨(some 8), .mov (.t 30), none⟩]⟩])
  (.region [⟨none, [], [⟨(some 31), .mov (.t 6), none⟩,
    ⟨(some 32), .mov (.t 8), none⟩,
    ⟨(some 33), .append 1 8 (.t 31) (.t 32), none⟩,
    ⟨(some 6), .mov (.t 33), none⟩]⟩])))
  (.region [⟨none, [], [⟨(some 34), .bin .add (.t 27) (.c (.int .i64 1)), none⟩,
    ⟨(some 27), .mov (.t 34), none⟩]⟩])))))))
  (.seq (.region [⟨none, [], [⟨(some 35), .mov (.t 6), none⟩,
    ⟨(some 2), .mov (.t 35), none⟩]⟩])
  .ret))))))
def x20 : XFunc := ⟨36, [.tmp 2], y20.er⟩
noncomputable def s20_k13 (_ : CallT) (_ : Nat) (v12 : AVal) (A13 : AH) : Res :=
 .ret v12 A13
noncomputable def s20_k32 (_ : CallT) (_ : Nat) (n20 : J4) (v28 v29 v30 v31 : AVal) (A32 : AH) : Res :=
 bindO (addR v28 (.int .i64 1)) fun v34 =>
 n20 v34 v29 v30 v31 A32
noncomputable def s20_k26 (call : CallT) (n : Nat) (n20 : J4) (v22 v23 v24 v25 : AVal) (A26 : AH) : Res :=
 joinV (s20_k32 call n n20) fun j33 =>
 bindO (idxsR 1 v22 v23) fun v35 =>
 bindO (load1R A26 v35) fun v36 =>
 bindP (achain [] A26 (.append 1 8 (.c v24) (.c v36))) fun v37 A38 =>
 j33 v23 v25 v22 v37 A38
noncomputable def s20_l19 (call : CallT) (n : Nat) (j14 : J1) (n20 : J4) (v15 v16 v17 v18 : AVal) (A19 : AH) : Res :=
 bindO (lssR v15 v16) fun v21 =>
 joinV (s20_k26 call n n20) fun j27 => boolK (some v21) (
 j27 v17 v15 v18 v16 A19) (
 j14 v18 A19)
noncomputable def s20_k5 (call : CallT) (n : Nat) (v3 v4 : AVal) (A5 : AH) : Res :=
 bindR (call 27 [.nilslice, v3] A5) (fun v7 A8 =>
 bindO (blenR v4) fun v11 =>
 joinV (s20_k13 call n) fun j14 =>
 loopK zJ4 n (s20_l19 call n j14) (.int .i64 0) v11 v4 v7 A8) fun u9 B10 => .pan u9 B10
noncomputable def s20_k59 (_ : CallT) (_ : Nat) (n45 : J5) (v54 v55 v56 v57 v58 : AVal) (A59 : AH) : Res :=
 bindO (addR v54 (.int .i64 1)) fun v61 =>
 n45 v61 v55 v56 v57 v58 A59
noncomputable def s20_k72 (_ : CallT) (_ : Nat) (j60 : J5) (v67 v68 v69 v70 v71 : AVal) (A72 : AH) : Res :=
 j60 v67 v68 v69 v70 v71 A72
noncomputable def s20_k52 (call : CallT) (n : Nat) (n45 : J5) (v47 v48 v49 v50 v51 : AVal) (A52 : AH) : Res :=
 joinV (s20_k59 call n n45) fun j60 =>
 bindO (idxsR 1 v47 v48) fun v62 =>
 bindO (load1R A52 v62) fun v63 =>
 bindO (blenR v63) fun v64 =>
 bindO (addR v49 v64) fun v65 =>
 bindO (lssR v65 (.int .i64 0)) fun v66 =>
 joinV (s20_k72 call n j60) fun j73 => boolK (some v66) (
 bindO (apure [] (.mki 9 (.c (.str ⟨#[108, 101, 110, 32, 111, 117, 116, 32, 111, 102, 32, 114, 97, 110, 103, 101]⟩)))) fun v74 =>
 panK v74 A52) (
 j73 v48 v50 v47 v65 v51 A52)
noncomputable def s20_l44 (call : CallT) (n : Nat) (j6 : J2) (n45 : J5) (v39 v40 v41 v42 v43 : AVal) (A44 : AH) : Res :=
 bindO (lssR v39 v40) fun v46 =>
 joinV (s20_k52 call n n45) fun j53 => boolK (some v46) (
 j53 v41 v39 v42 v40 v43 A44) (
 j6 v42 v43 A44)
noncomputable def s20_b (call : CallT) (n : Nat) (v0 : AVal) (A1 : AH) : Res :=
 bindO (blenR v0) fun v2 =>
 joinV (s20_k5 call n) fun j6 =>
 loopK zJ5 n (s20_l44 call n j6) (.int .i64 0) v2 v0 (.int .i64 0) v0 A1
noncomputable def s20 (call : CallT) (n : Nat) (as : List AVal) (A : AH) : Res := apL 1 (s20_b call n) as A
theorem s20_eq (call : CallT) (n : Nat) (as : List AVal) (A : AH) : fnK call n 36 [.tmp 2] y20 1 as A = s20 call n as A := by kernel_rfl
/-- slices.pdqsortOrdered[int] -/
def y21 : YCode := (.seq (.region [⟨none, [], [⟨(some 8), .mov (.c (.bool true)), none⟩]⟩])
  (.seq (.region [⟨none, [], [⟨(some 9), .mov (.c (.bool true)), none⟩]⟩])
  (.block 0 [] (.loop [2, 1, 0, 3, 8, 9] (.block 1 [2, 1, 0, 3, 8, 9] (.seq (.region [⟨none, [], [⟨(some 19), .mov (.t 2), none⟩,
    ⟨(some 20), .mov (.t 1), none⟩,
    ⟨(some 21), .bin .sub (.t 19) (.t 20), none⟩,
    ⟨(some 10), .mov (.t 21), none⟩]⟩])
  (.seq (.seq (.region [⟨none, [], [⟨(some 22), .mov (.t 10), none⟩,
    ⟨(some 23), .bin .leq (.t 22) (.c (.int .i64 12)), none⟩]⟩])
  (.cond (.t 23) [3, 0, 1, 2, 8, 9, 10] (.seq (.region [⟨none, [], [⟨(some 24), .mov (.t 0), none⟩,
    ⟨(some 25), .mov (.t 1), none⟩,
    ⟨(some 26), .mov (.t 2), none⟩,
    ⟨(some 27), .call 28 [(.t 24), (.t 25), (.t 26)], none⟩]⟩])
  .ret)
  .skip))
  (.seq (.seq (.region [⟨none, [], [⟨(some 28), .mov (.t 3), none⟩,
    ⟨(some 29), .bin .eql (.t 28) (.c (.int .i64 0)), none⟩]⟩])
  (.cond (.t 29) [8, 0, 1, 2, 3, 9, 10] (.seq (.region [⟨none, [], [⟨(some 30), .mov (.t 0), none⟩,
    ⟨(some 31), .mov (.t 1), none⟩,
    ⟨(some 32), .mov (.t 2), none⟩,
    ⟨(some 33), .call 29 [(.t 30), (.t 31), (.t 32)], none⟩]⟩])
  .ret)
  .skip))
  (.seq (.seq (.region [⟨none, [], [⟨(some 34), .mov (.t 8), none⟩,
    ⟨(some 35), .un .not (.t 34), none⟩]⟩])
  (.cond (.t 35) [0, 1, 2, 8, 9, 3, 10] (.seq (.region [⟨none, [], [⟨(some 36), .mov (.t 0), none⟩,
    ⟨(some 37), .mov (.t 1), none⟩,
    ⟨(some 38), .mov (.t 2), none⟩,
    ⟨(some 39), .call 30 [(.t 36), (.t 37), (.t 38)], none⟩]⟩])
  (.region [⟨none, [], [⟨(some 40), .mov (.t 3), none⟩,
    ⟨(some 41), .bin .sub (.t 40) (.c (.int .i64 1)), none⟩,
    ⟨(some 3), .mov (.t 41), none⟩]⟩]))
  .skip))
  (.seq (.region [⟨none, [], [⟨(some 43), .mov (.t 0), none⟩,
    ⟨(some 44), .mov (.t 1), none⟩,
    ⟨(some 45), .mov (.t 2), none⟩,
    ⟨(some 46), .call 31 [(.t 43), (.t 44), (.t 45)], none⟩,
    ⟨(some 42), .mov (.t 46), none⟩,
    ⟨(some 47), .ext 0 (.t 42), none⟩,
    ⟨(some 48), .ext 1 (.t 42), none⟩,
    ⟨(some 11), .mov (.t 47), none⟩,
    ⟨(some 12), .mov (.t 48), none⟩]⟩])
  (.seq (.seq (.region [⟨none, [], [⟨(some 49), .mov (.t 12), none⟩,
    ⟨(some 50), .bin .eql (.t 49) (.c (.int .i64 2)), none⟩]⟩])
  (.cond (.t 50) [8, 9, 12, 0, 1, 2, 11, 3, 10] (.seq (.region [⟨none, [], [⟨(some 51), .mov (.t 0), none⟩,
    ⟨(some 52), .mov (.t 1), none⟩,
    ⟨(some 53), .mov (.t 2), none⟩,
    ⟨(some 54), .call 32 [(.t 51), (.t 52), (.t 53)], none⟩]⟩])
  (.seq (.region [⟨none, [], [⟨(some 55), .mov (.t 2), none⟩,
    ⟨(some 56), .bin .sub (.t 55) (.c (.int .i64 1)), none⟩,
    ⟨(some 57), .mov (.t 11), none⟩,
    ⟨(some 58), .mov (.t 1), none⟩,
    ⟨(some 59), .bin .sub (.t 57) (.t 58), none⟩,
    ⟨(some 60), .bin .sub (.t 56) (.t 59), none⟩,
    ⟨(some 11), .mov (.t 60), none⟩]⟩])
  (.region [⟨none, [], [⟨(some 12), .mov (.c (.int .i64 1)), none⟩]⟩])))
  .skip))
  (.seq (.seq (.region [⟨none, [], [⟨(some 61), .mov (.t 8), none⟩,
    ⟨(some 62), .mov (.t 61), none⟩]⟩,
   ⟨some (62, true), [63], [⟨(some 63), .mov (.t 9), some (62, true)⟩]⟩,
   ⟨none, [], [⟨(some 64), .pick (.t 62) (.t 63) (.c (.bool false)), none⟩,
    ⟨(some 65), .mov (.t 64), none⟩]⟩,
   ⟨some (65, true), [67], [⟨(some 66), .mov (.t 12), some (65, true)⟩,
    ⟨(some 67), .bin .eql (.t 66) (.c (.int .i64 1)), some (65, true)⟩]⟩,
   ⟨none, [], [⟨(some 68), .pick (.t 65) (.t 67) (.c (.bool false)), none⟩]⟩])
  (.cond (.t 68) [1, 0, 11, 2, 3, 8, 9, 10] (.seq (.region [⟨none, [], [⟨(some 69), .mov (.t 0), none⟩,
    ⟨(some 70), .mov (.t 1), none⟩,
    ⟨(some 71), .mov (.t 2), none⟩,
    ⟨(some 72), .call 33 [(.t 69), (.t 70), (.t 71)], none⟩]⟩])
  (.cond (.t 72) [1, 0, 11, 2, 3, 8, 9, 10] .ret
  .skip))
  .skip))
  (.seq (.seq (.draw [⟨none, [], [⟨(some 73), .mov (.t 1), none⟩,
    ⟨(some 74), .bin .gtr (.t 73) (.c (.int .i64 0)), none⟩,
    ⟨(some 75), .mov (.t 74), none⟩]⟩,
   ⟨some (75, true), [86], [⟨(some 76), .mov (.t 0), some (75, true)⟩,
    ⟨(some 77), .mov (.t 1), some (75, true)⟩,
    ⟨(some 78), .bin .sub (.t 77) (.c (.int .i64 1)), some (75, true)⟩,
    ⟨(some 79), .idxs 1 (.t 76) (.t 78), some (75, true)⟩,
    ⟨(some 80), .load1 (.t 79), some (75, true)⟩,
    ⟨(some 81), .mov (.t 0), some (75, true)⟩,
    ⟨(some 82), .mov (.t 11), some (75, true)⟩,
    ⟨(some 83), .idxs 1 (.t 81) (.t 82), some (75, true)⟩,
    ⟨(some 84), .load1 (.t 83), some (75, true)⟩,
    ⟨(some 85), .call 34 [(.t 80), (.t 84)], some (75, true)⟩,
    ⟨(some 86), .un .not (.t 85), some (75, true)⟩]⟩,
   ⟨none, [], [⟨(some 87), .pick (.t 75) (.t 86) (.c (.bool false)), none⟩]⟩] [] [])
  (.cond (.t 87) [0, 1, 2, 11, 10, 3] (.seq (.region [⟨none, [], [⟨(some 88), .mov (.t 0), none⟩,
    ⟨(some 89), .mov (.t 1), none⟩,
    ⟨(some 90), .mov (.t 2), none⟩,
    ⟨(some 91), .mov (.t 11), none⟩,
    ⟨(some 92), .call 35 [(.t 88), (.t 89), (.t 90), (.t 91)], none⟩,
    ⟨(some 13), .mov (.t 92), none⟩]⟩])
  (.seq (.region [⟨none, [], [⟨(some 93), .mov (.t 13), none⟩,
    ⟨(some 1), .mov (.t 93), none⟩]⟩])
  (.exit 1)))
  .skip))
  (.seq (.region [⟨none, [], [⟨(some 95), .mov (.t 0), none⟩,
    ⟨(some 96), .mov (.t 1), none⟩,
    ⟨(some 97), .mov (.t 2), none⟩,
    ⟨(some 98), .mov (.t 11), none⟩,
    ⟨(some 99), .call 36 [(.t 95), (.t 96), (.t 97), (.t 98)], none⟩,
    ⟨(some 94), .mov (.t 99), none⟩,
    ⟨(some 100), .ext 0 (.t 94), none⟩,
    ⟨(some 101), .ext 1 (.t 94), none⟩,
    ⟨(some 14), .mov (.t 100), none⟩,
    ⟨(some 15), .mov (.t 101), none⟩]⟩])
  (.seq (.region [⟨none, [], [⟨(some 102), .mov (.t 15), none⟩,
    ⟨(some 9), .mov (.t 102), none⟩]⟩])
  (.seq (.region [⟨none, [], [⟨(some 103), .mov (.t 14), none⟩,
    ⟨(some 104), .mov (.t 1), none⟩,
    ⟨(some 105), .bin .sub (.t 103) (.t 104), none⟩,
    ⟨(some 106), .mov (.t 2), none⟩,
    ⟨(some 107), .mov (.t 14), none⟩,
    ⟨(some 108), .bin .sub (.t 106) (.t 107), none⟩,
    ⟨(some 16), .mov (.t 105), none⟩,
    ⟨(some 17), .mov (.t 108), none⟩]⟩])
  (.seq (.region [⟨none, [], [⟨(some 109), .mov (.t 10), none⟩,
    ⟨(some 110), .bin .quo (.t 109) (.c (.int .i64 8)), none⟩,
    ⟨(some 18), .mov (.t 110), none⟩]⟩])
  (.seq (.region [⟨none, [], [⟨(some 111), .mov (.t 16), none⟩,
    ⟨(some 112), .mov (.t 17), none⟩,
    ⟨(some 113), .bin .lss (.t 111) (.t 112), none⟩]⟩])
  (.cond (.t 113) [2, 1, 0, 3, 8, 9] (.seq (.region [⟨none, [], [⟨(some 114), .mov (.t 16), none⟩,
    ⟨(some 115), .mov (.t 18), none⟩,
    ⟨(some 116), .bin .geq (.t 114) (.t 115), none⟩,
    ⟨(some 8), .mov (.t 116), none⟩]⟩])
  (.seq (.region [⟨none, [], [⟨(some 117), .mov (.t 0), none⟩,
    ⟨(some 118), .mov (.t 1), none⟩,
    ⟨(some 119), .mov (.t 14), none⟩,
    ⟨(some 120), .mov (.t 3), none⟩,
    ⟨(some 121), .call 21 [(.t 117), (.t 118), (.t 119), (.t 120)], none⟩]⟩])
  (.region [⟨none, [], [⟨(some 122), .mov (.t 14), none⟩,
    ⟨(some 123), .bin .add (.t 122) (.c (.int .i64 1)), none⟩,
    ⟨(some 1), .mov (.t 123), none⟩]⟩])))
  (.seq (.region [⟨none, [], [⟨(some 124), .mov (.t 17), none⟩,
    ⟨(some 125), .mov (.t 18), none⟩,
    ⟨(some 126), .bin .geq (.t 124) (.t 125), none⟩,
    ⟨(some 8), .mov (.t 126), none⟩]⟩])
  (.seq (.region [⟨none, [], [⟨(some 127), .mov (.t 0), none⟩,
    ⟨(some 128), .mov (.t 14), none⟩,
    ⟨(some 129), .bin .add (.t 128) (.c (.int .i64 1)), none⟩,
    ⟨(some 130), .mov (.t 2), none⟩,
    ⟨(some 131), .mov (.t 3), none⟩,
    ⟨(some 132), .call 21 [(.t 127), (.t 129), (.t 130), (.t 131)], none⟩]⟩])
  (.region [⟨none, [], [⟨(some 133), .mov (.t 14), none⟩,
    ⟨(some 2), .mov (.t 133), none⟩]⟩]))))))))))))))))))))))
def x21 : XFunc := ⟨134, [], y21.er⟩
noncomputable def s21_k5 (_ : CallT) (_ : Nat) (A5 : AH) : Res :=
 .ret (.tuple []) A5
noncomputable def s21_k21 (_ : CallT) (_ : Nat) (n14 : J6) (v15 v16 v17 v18 v19 v20 : AVal) (A21 : AH) : Res :=
 n14 v15 v16 v17 v18 v19 v20 A21
noncomputable def s21_k121 (_ : CallT) (_ : Nat) (j22 : J6) (v115 v116 v117 v118 v119 v120 : AVal) (A121 : AH) : Res :=
 j22 v115 v116 v117 v118 v119 v120 A121
noncomputable def s21_k103 (call : CallT) (n : Nat) (j22 : J6) (v97 v98 v99 v100 v101 v102 : AVal) (A103 : AH) : Res :=
 bindR (call 36 [v97, v98, v99, v100] A103) (fun v105 A106 =>
 bindO (extR 0 v105) fun v109 =>
 bindO (extR 1 v105) fun v110 =>
 bindO (subR v109 v98) fun v111 =>
 bindO (subR v99 v109) fun v112 =>
 bindO (abinR .quo v101 (.int .i64 8)) fun v113 =>
 bindO (lssR v111 v112) fun v114 =>
 joinV (s21_k121 call n j22) fun j122 => boolK (some v114) (
 bindO (geqR v111 v113) fun v123 =>
 bindR (call 21 [v97, v98, v109, v102] A106) (fun _ A125 =>
 bindO (addR v109 (.int .i64 1)) fun v128 =>
 j122 v99 v128 v97 v102 v123 v110 A125) fun u126 B127 => .pan u126 B127) (
 bindO (geqR v112 v113) fun v129 =>
 bindO (addR v109 (.int .i64 1)) fun v130 =>
 bindR (call 21 [v97, v130, v99, v102] A106) (fun _ A132 =>
 j122 v109 v98 v97 v102 v129 v110 A132) fun u133 B134 => .pan u133 B134)) fun u107 B108 => .pan u107 B108
noncomputable def s21_k88 (call : CallT) (n : Nat) (j22 : J6) (v80 v81 v82 v83 v84 v85 v86 v87 : AVal) (A88 : AH) : Res :=
 letA (A88.bump 15) fun A90 =>
 bindO (gtrR v80 (.int .i64 0)) fun v91 =>
 joinV (fun (v92 : AVal) (A93 : AH) (_ : AH) =>
 bindO (pickR v91 v92 (.bool false)) fun v96 =>
 joinV (s21_k103 call n j22) fun j104 => boolK (some v96) (
 bindR (call 35 [v81, v80, v83, v82] A93) (fun v135 A136 =>
 j22 v83 v135 v81 v84 v85 v86 A136) fun u137 B138 => .pan u137 B138) (
 j104 v81 v80 v83 v82 v87 v84 A93)) fun j94 => wantK v91 true (
 bindO (subR v80 (.int .i64 1)) fun v139 =>
 bindO (idxsR 1 v81 v139) fun v140 =>
 bindO (load1R A90 v140) fun v141 =>
 bindO (idxsR 1 v81 v82) fun v142 =>
 bindO (load1R A90 v142) fun v143 =>
 bindR (call 34 [v141, v143] A90) (fun v144 A145 =>
 bindO (notR v144) fun v148 =>
 j94 v148 A145 A90) fun u146 B147 => .pan u146 B147) (j94 (.tuple []) A90 A90)
noncomputable def s21_k161 (_ : CallT) (_ : Nat) (j89 : J8) (v153 v154 v155 v156 v157 v158 v159 v160 : AVal) (A161 : AH) : Res :=
 j89 v153 v154 v155 v156 v157 v158 v159 v160 A161
noncomputable def s21_k70 (call : CallT) (n : Nat) (j22 : J6) (v61 v62 v63 v64 v65 v66 v67 v68 v69 : AVal) (A70 : AH) : Res :=
 joinV (fun (v72 : AVal) (A73 : AH) =>
 bindO (pickR v61 v72 (.bool false)) fun v75 =>
 joinV (fun (v76 : AVal) (A77 : AH) =>
 bindO (pickR v75 v76 (.bool false)) fun v79 =>
 joinV (s21_k88 call n j22) fun j89 => boolK (some v79) (
 bindR (call 33 [v64, v65, v66] A77) (fun v149 A150 =>
 joinV (s21_k161 call n j89) fun j162 => boolK (some v149) (
 .ret (.tuple []) A150) (
 j162 v65 v64 v67 v66 v68 v61 v62 v69 A150)) fun u151 B152 => .pan u151 B152) (
 j89 v65 v64 v67 v66 v68 v61 v62 v69 A77)) fun j78 => wantK v75 true (
 bindO (eqlR v63 (.int .i64 1)) fun v163 =>
 j78 v163 A73) (j78 (.tuple []) A73)) fun j74 => wantK v61 true (
 j74 v62 A70) (j74 (.tuple []) A70)
noncomputable def s21_k52 (call : CallT) (n : Nat) (j22 : J6) (v45 v46 v47 v48 v49 v50 v51 : AVal) (A52 : AH) : Res :=
 bindR (call 31 [v45, v46, v47] A52) (fun v54 A55 =>
 bindO (extR 0 v54) fun v58 =>
 bindO (extR 1 v54) fun v59 =>
 bindO (eqlR v59 (.int .i64 2)) fun v60 =>
 joinV (s21_k70 call n j22) fun j71 => boolK (some v60) (
 bindR (call 32 [v45, v46, v47] A55) (fun _ A165 =>
 bindO (subR v47 (.int .i64 1)) fun v168 =>
 bindO (subR v58 v46) fun v169 =>
 bindO (subR v168 v169) fun v170 =>
 j71 v48 v49 (.int .i64 1) v45 v46 v47 v170 v50 v51 A165) fun u166 B167 => .pan u166 B167) (
 j71 v48 v49 v59 v45 v46 v47 v58 v50 v51 A55)) fun u56 B57 => .pan u56 B57
noncomputable def s21_k42 (call : CallT) (n : Nat) (j22 : J6) (v35 v36 v37 v38 v39 v40 v41 : AVal) (A42 : AH) : Res :=
 bindO (notR v35) fun v44 =>
 joinV (s21_k52 call n j22) fun j53 => boolK (some v44) (
 bindR (call 30 [v36, v37, v38] A42) (fun _ A172 =>
 bindO (subR v39 (.int .i64 1)) fun v175 =>
 j53 v36 v37 v38 v35 v40 v175 v41 A172) fun u173 B174 => .pan u173 B174) (
 j53 v36 v37 v38 v35 v40 v39 v41 A42)
noncomputable def s21_k32 (call : CallT) (n : Nat) (j22 : J6) (v25 v26 v27 v28 v29 v30 v31 : AVal) (A32 : AH) : Res :=
 bindO (eqlR v25 (.int .i64 0)) fun v34 =>
 joinV (s21_k42 call n j22) fun j43 => boolK (some v34) (
 bindR (call 29 [v26, v27, v28] A32) (fun _ A177 =>
 .ret (.tuple []) A177) fun u178 B179 => .pan u178 B179) (
 j43 v29 v26 v27 v28 v25 v30 v31 A32)
noncomputable def s21_l13 (call : CallT) (n : Nat) (n14 : J6) (v7 v8 v9 v10 v11 v12 : AVal) (A13 : AH) : Res :=
 joinV (s21_k21 call n n14) fun j22 =>
 bindO (subR v7 v8) fun v23 =>
 bindO (leqR v23 (.int .i64 12)) fun v24 =>
 joinV (s21_k32 call n j22) fun j33 => boolK (some v24) (
 bindR (call 28 [v9, v8, v7] A13) (fun _ A181 =>
 .ret (.tuple []) A181) fun u182 B183 => .pan u182 B183) (
 j33 v10 v9 v8 v7 v11 v12 v23 A13)
noncomputable def s21_b (call : CallT) (n : Nat) (v0 v1 v2 v3 : AVal) (A4 : AH) : Res :=
 joinV (s21_k5 call n) fun _ =>
 loopK zJ6 n (s21_l13 call n) v2 v1 v0 v3 (.bool true) (.bool true) A4
noncomputable def s21 (call : CallT) (n : Nat) (as : List AVal) (A : AH) : Res := apL 4 (s21_b call n) as A
theorem s21_eq (call : CallT) (n : Nat) (as : List AVal) (A : AH) : fnK call n 134 [] y21 4 as A = s21 call n as A := by kernel_rfl
/-- math/bits.Len -/
def y22 : YCode := (.seq (.region [⟨none, [], [⟨(some 2), .mov (.c (.int .i64 0)), none⟩]⟩])
  (.seq (.cond (.c (.bool false)) [0] (.seq (.region [⟨none, [], [⟨(some 3), .mov (.t 0), none⟩,
    ⟨(some 4), .cvi .u32 (.t 3), none⟩,
    ⟨(some 5), .call 37 [(.t 4)], none⟩,
    ⟨(some 2), .mov (.t 5), none⟩]⟩])
  .ret)
  .skip)
  (.seq (.region [⟨none, [], [⟨(some 6), .mov (.t 0), none⟩,
    ⟨(some 7), .call 38 [(.t 6)], none⟩,
    ⟨(some 2), .mov (.t 7), none⟩]⟩])
  .ret)))
def x22 : XFunc := ⟨8, [.tmp 2], y22.er⟩
noncomputable def s22_k3 (call : CallT) (_ : Nat) (v2 : AVal) (A3 : AH) : Res :=
 bindR (call 38 [v2] A3) (fun v5 A6 =>
 .ret v5 A6) fun u7 B8 => .pan u7 B8
noncomputable def s22_b (call : CallT) (n : Nat) (v0 : AVal) (A1 : AH) : Res :=
 joinV (s22_k3 call n) fun j4 => boolK (some (.bool false)) (
 bindO (cviR .u32 v0) fun v9 =>
 bindR (call 37 [v9] A1) (fun v10 A11 =>
 .ret v10 A11) fun u12 B13 => .pan u12 B13) (
 j4 v0 A1)
noncomputable def s22 (call : CallT) (n : Nat) (as : List AVal) (A : AH) : Res := apL 1 (s22_b call n) as A
theorem s22_eq (call : CallT) (n : Nat) (as : List AVal) (A : AH) : fnK call n 8 [.tmp 2] y22 1 as A = s22 call n as A := by kernel_rfl
/-- slices.insertionSortCmpFunc[int] -/
def y23 : YCode := (.seq (.region [⟨none, [], [⟨(some 10), .mov (.t 1), none⟩,
    ⟨(some 11), .bin .add (.t 10) (.c (.int .i64 1)), none⟩,
    ⟨(some 8), .mov (.t 11), none⟩]⟩])
  (.block 0 [] (.loop [8, 2, 1, 3, 0] (.seq (.seq (.region [⟨none, [], [⟨(some 12), .mov (.t 8), none⟩,
    ⟨(some 13), .mov (.t 2), none⟩,
    ⟨(some 14), .bin .lss (.t 12) (.t 13), none⟩]⟩])
  (.cond (.t 14) [8, 1, 3, 0, 2] .skip
  (.exit 0)))
  (.seq (.block 1 [8, 2, 1, 3, 0] (.seq (.region [⟨none, [], [⟨(some 17), .mov (.t 8), none⟩,
    ⟨(some 9), .mov (.t 17), none⟩]⟩])
  (.block 2 [8, 2, 1, 3, 0] (.loop [9, 1, 3, 0, 8, 2] (.seq (.seq (.draw [⟨none, [], [⟨(some 18), .mov (.t 9), none⟩,
    ⟨(some 19), .mov (.t 1), none⟩,
    ⟨(some 20), .bin .gtr (.t 18) (.t 19), none⟩,
    ⟨(some 21), .mov (.t 20), none⟩]⟩,
   ⟨some (21, true), [33], [⟨(some 22), .mov (.t 3), some (21, true)⟩,
    ⟨(some 23), .mov (.t 0), some (21, true)⟩,
    ⟨(some 24), .mov (.t 9), some (21, true)⟩,
    ⟨(some 25), .idxs 1 (.t 23) (.t 24), some (21, true)⟩,
    ⟨(some 26), .load1 (.t 25), some (21, true)⟩,
    ⟨(some 27), .mov (.t 0), some (21, true)⟩,
    ⟨(some 28), .mov (.t 9), some (21, true)⟩,
    ⟨(some 29), .bin .sub (.t 28) (.c (.int .i64 1)), some (21, true)⟩,
    ⟨(some 30), .idxs 1 (.t 27) (.t 29), some (21, true)⟩,
    ⟨(some 31), .load1 (.t 30), some (21, true)⟩,
    ⟨(some 32), .callv (.t 22) [(.t 26), (.t 31)], some (21, true)⟩,
    ⟨(some 33), .bin .lss (.t 32) (.c (.int .i64 0)), some (21, true)⟩]⟩,
   ⟨none, [], [⟨(some 34), .pick (.t 21) (.t 33) (.c (.bool false)), none⟩]⟩] [] [])
  (.cond (.t 34) [0, 9, 1, 3, 8, 2] .skip
  (.exit 2)))
  (.seq (.block 3 [9, 1, 3, 0, 8, 2] (.draw [⟨none, [], [⟨(some 37), .mov (.t 0), none⟩,
    ⟨(some 38), .mov (.t 9), none⟩,
    ⟨(some 39), .mov (.t 0), none⟩,
    ⟨(some 40), .mov (.t 9), none⟩,
    ⟨(some 41), .bin .sub (.t 40) (.c (.int .i64 1)), none⟩,
    ⟨(some 42), .mov (.t 0), none⟩,
    ⟨(some 43), .mov (.t 9), none⟩,
    ⟨(some 44), .bin .sub (.t 43) (.c (.int .i64 1)), none⟩,
    ⟨(some 45), .idxs 1 (.t 42) (.t 44), none⟩,
    ⟨(some 46), .load1 (.t 45), none⟩,
    ⟨(some 47), .mov (.t 0), none⟩,
    ⟨(some 48), .mov (.t 9), none⟩,
    ⟨(some 49), .idxs 1 (.t 47) (.t 48), none⟩,
    ⟨(some 50), .load1 (.t 49), none⟩,
    ⟨(some 51), .idxs 1 (.t 37) (.t 38), none⟩,
    ⟨none, .store1 (.t 51) (.t 46), none⟩,
    ⟨(some 52), .idxs 1 (.t 39) (.t 41), none⟩,
    ⟨none, .store1 (.t 52) (.t 50), none⟩]⟩] [] []))
  (.region [⟨none, [], [⟨(some 35), .mov (.t 9), none⟩,
    ⟨(some 36), .bin .sub (.t 35) (.c (.int .i64 1)), none⟩,
    ⟨(some 9), .mov (.t 36), none⟩]⟩])))))))
  (.region [⟨none, [], [⟨(some 15), .mov (.t 8), none⟩,
    ⟨(some 16), .bin .add (.t 15) (.c (.int .i64 1)), none⟩,
    ⟨(some 8), .mov (.t 16), none⟩]⟩]))))))
def x23 : XFunc := ⟨53, [], y23.er⟩
noncomputable def s23_k6 (_ : CallT) (_ : Nat) (A6 : AH) : Res :=
 .ret (.tuple []) A6
noncomputable def s23_k28 (_ : CallT) (_ : Nat) (n14 : J5) (v23 v24 v25 v26 v27 : AVal) (A28 : AH) : Res :=
 bindO (addR v23 (.int .i64 1)) fun v30 =>
 n14 v30 v24 v25 v26 v27 A28
noncomputable def s23_k36 (_ : CallT) (_ : Nat) (j29 : J5) (v31 v32 v33 v34 v35 : AVal) (A36 : AH) : Res :=
 j29 v31 v32 v33 v34 v35 A36
noncomputable def s23_k67 (_ : CallT) (_ : Nat) (n45 : J6) (v61 v62 v63 v64 v65 v66 : AVal) (A67 : AH) : Res :=
 bindO (subR v61 (.int .i64 1)) fun v69 =>
 n45 v69 v62 v63 v64 v65 v66 A67
noncomputable def s23_k59 (call : CallT) (n : Nat) (n45 : J6) (v53 v54 v55 v56 v57 v58 : AVal) (A59 : AH) : Res :=
 joinV (s23_k67 call n n45) fun j68 =>
 letA (A59.bump 18) fun A70 =>
 bindO (subR v54 (.int .i64 1)) fun v71 =>
 bindO (subR v54 (.int .i64 1)) fun v72 =>
 bindO (idxsR 1 v53 v72) fun v73 =>
 bindO (load1R A70 v73) fun v74 =>
 bindO (idxsR 1 v53 v54) fun v75 =>
 bindO (load1R A70 v75) fun v76 =>
 bindO (idxsR 1 v53 v54) fun v77 =>
 bindP (store1R A70 v77 v74) fun _ A79 =>
 bindO (idxsR 1 v53 v71) fun v80 =>
 bindP (store1R A79 v80 v76) fun _ A82 =>
 j68 v54 v55 v56 v53 v57 v58 A82
noncomputable def s23_l44 (call : CallT) (n : Nat) (j37 : J5) (n45 : J6) (v38 v39 v40 v41 v42 v43 : AVal) (A44 : AH) : Res :=
 letA (A44.bump 17) fun A46 =>
 bindO (gtrR v38 v39) fun v47 =>
 joinV (fun (v48 : AVal) (A49 : AH) (_ : AH) =>
 bindO (pickR v47 v48 (.bool false)) fun v52 =>
 joinV (s23_k59 call n n45) fun j60 => boolK (some v52) (
 j60 v41 v38 v39 v40 v42 v43 A49) (
 j37 v42 v43 v39 v40 v41 A49)) fun j50 => wantK v47 true (
 bindO (idxsR 1 v41 v38) fun v83 =>
 bindO (load1R A46 v83) fun v84 =>
 bindO (subR v38 (.int .i64 1)) fun v85 =>
 bindO (idxsR 1 v41 v85) fun v86 =>
 bindO (load1R A46 v86) fun v87 =>
 bindC (acallee [] A46 (.callv (.c v40) [(.c v84), (.c v87)])) fun f93 a94 => bindR (call f93 a94 A46) (fun v88 A89 =>
 bindO (lssR v88 (.int .i64 0)) fun v92 =>
 j50 v92 A89 A46) fun u90 B91 => .pan u90 B91) (j50 (.tuple []) A46 A46)
noncomputable def s23_k21 (call : CallT) (n : Nat) (n14 : J5) (v16 v17 v18 v19 v20 : AVal) (A21 : AH) : Res :=
 joinV (s23_k28 call n n14) fun j29 =>
 joinV (s23_k36 call n j29) fun j37 =>
 loopK zJ6 n (s23_l44 call n j37) v16 v17 v18 v19 v16 v20 A21
noncomputable def s23_l13 (call : CallT) (n : Nat) (j7 : J0) (n14 : J5) (v8 v9 v10 v11 v12 : AVal) (A13 : AH) : Res :=
 bindO (lssR v8 v9) fun v15 =>
 joinV (s23_k21 call n n14) fun j22 => boolK (some v15) (
 j22 v8 v10 v11 v12 v9 A13) (
 j7 A13)
noncomputable def s23_b (call : CallT) (n : Nat) (v0 v1 v2 v3 : AVal) (A4 : AH) : Res :=
 bindO (addR v1 (.int .i64 1)) fun v5 =>
 joinV (s23_k6 call n) fun j7 =>
 loopK zJ5 n (s23_l13 call n j7) v5 v2 v1 v3 v0 A4
noncomputable def s23 (call : CallT) (n : Nat) (as : List AVal) (A : AH) : Res := apL 4 (s23_b call n) as A
theorem s23_eq (call : CallT) (n : Nat) (as : List AVal) (A : AH) : fnK call n 53 [] y23 4 as A = s23 call n as A := by kernel_rfl
/-- slices.symMergeCmpFunc[int] -/
def y24 : YCode := (.seq (.seq (.region [⟨none, [], [⟨(some 25), .mov (.t 2), none⟩,
    ⟨(some 26), .mov (.t 1), none⟩,
    ⟨(some 27), .bin .sub (.t 25) (.t 26), none⟩,
    ⟨(some 28), .bin .eql (.t 27) (.c (.int .i64 1)), none⟩]⟩])
  (.cond (.t 28) [3, 2, 1, 4, 0] (.seq (.region [⟨none, [], [⟨(some 29), .mov (.t 2), none⟩,
    ⟨(some 10), .mov (.t 29), none⟩]⟩])
  (.seq (.region [⟨none, [], [⟨(some 30), .mov (.t 3), none⟩,
    ⟨(some 11), .mov (.t 30), none⟩]⟩])
  (.seq (.block 0 [1, 10, 0] (.loop [10, 11, 4, 0, 1] (.seq (.seq (.region [⟨none, [], [⟨(some 31), .mov (.t 10), none⟩,
    ⟨(some 32), .mov (.t 11), none⟩,
    ⟨(some 33), .bin .lss (.t 31) (.t 32), none⟩]⟩])
  (.cond (.t 33) [10, 11, 4, 0, 1] .skip
  (.exit 0)))
  (.block 1 [10, 11, 4, 0, 1] (.seq (.region [⟨none, [], [⟨(some 34), .mov (.t 10), none⟩,
    ⟨(some 35), .mov (.t 11), none⟩,
    ⟨(some 36), .bin .add (.t 34) (.t 35), none⟩,
    ⟨(some 37), .cvi .u64 (.t 36), none⟩,
    ⟨(some 38), .bin .shr (.t 37) (.c (.int .u64 1)), none⟩,
    ⟨(some 39), .cvi .i64 (.t 38), none⟩,
    ⟨(some 12), .mov (.t 39), none⟩]⟩])
  (.seq (.draw [⟨none, [], [⟨(some 40), .mov (.t 4), none⟩,
    ⟨(some 41), .mov (.t 0), none⟩,
    ⟨(some 42), .mov (.t 12), none⟩,
    ⟨(some 43), .idxs 1 (.t 41) (.t 42), none⟩,
    ⟨(some 44), .load1 (.t 43), none⟩,
    ⟨(some 45), .mov (.t 0), none⟩,
    ⟨(some 46), .mov (.t 1), none⟩,
    ⟨(some 47), .idxs 1 (.t 45) (.t 46), none⟩,
    ⟨(some 48), .load1 (.t 47), none⟩,
    ⟨(some 49), .callv (.t 40) [(.t 44), (.t 48)], none⟩,
    ⟨(some 50), .bin .lss (.t 49) (.c (.int .i64 0)), none⟩]⟩] [] [])
  (.cond (.t 50) [10, 11, 4, 0, 1] (.region [⟨none, [], [⟨(some 51), .mov (.t 12), none⟩,
    ⟨(some 52), .bin .add (.t 51) (.c (.int .i64 1)), none⟩,
    ⟨(some 10), .mov (.t 52), none⟩]⟩])
  (.region [⟨none, [], [⟨(some 53), .mov (.t 12), none⟩,
    ⟨(some 11), .mov (.t 53), none⟩]⟩]))))))))
  (.seq (.seq (.region [⟨none, [], [⟨(some 54), .mov (.t 1), none⟩,
    ⟨(some 13), .mov (.t 54), none⟩]⟩])
  (.block 2 [] (.loop [13, 10, 0] (.seq (.seq (.region [⟨none, [], [⟨(some 55), .mov (.t 13), none⟩,
    ⟨(some 56), .mov (.t 10), none⟩,
    ⟨(some 57), .bin .sub (.t 56) (.c (.int .i64 1)), none⟩,
    ⟨(some 58), .bin .lss (.t 55) (.t 57), none⟩]⟩])
  (.cond (.t 58) [0, 13, 10] .skip
  (.exit 2)))
  (.seq (.block 3 [13, 10, 0] (.draw [⟨none, [], [⟨(some 61), .mov (.t 0), none⟩,
    ⟨(some 62), .mov (.t 13), none⟩,
    ⟨(some 63), .mov (.t 0), none⟩,
    ⟨(some 64), .mov (.t 13), none⟩,
    ⟨(some 65), .bin .add (.t 64) (.c (.int .i64 1)), none⟩,
    ⟨(some 66), .mov (.t 0), none⟩,
    ⟨(some 67), .mov (.t 13), none⟩,
    ⟨(some 68), .bin .add (.t 67) (.c (.int .i64 1)), none⟩,
    ⟨(some 69), .idxs 1 (.t 66) (.t 68), none⟩,
    ⟨(some 70), .load1 (.t 69), none⟩,
    ⟨(some 71), .mov (.t 0), none⟩,
    ⟨(some 72), .mov (.t 13), none⟩,
    ⟨(some 73), .idxs 1 (.t 71) (.t 72), none⟩,
    ⟨(some 74), .load1 (.t 73), none⟩,
    ⟨(some 75), .idxs 1 (.t 61) (.t 62), none⟩,
    ⟨none, .store1 (.t 75) (.t 70), none⟩,
    ⟨(some 76), .idxs 1 (.t 63) (.t 65), none⟩,
    ⟨none, .store1 (.t 76) (.t 74), none⟩]⟩] [] []))
  (.region [⟨none, [], [⟨(some 59), .mov (.t 13), none⟩,
    ⟨(some 60), .bin .add (.t 59) (.c (.int .i64 1)), none⟩,
    ⟨(some 13), .mov (.t 60), none⟩]⟩]))))))
  .ret))))
  .skip))
  (.seq (.seq (.region [⟨none, [], [⟨(some 77), .mov (.t 3), none⟩,
    ⟨(some 78), .mov (.t 2), none⟩,
    ⟨(some 79), .bin .sub (.t 77) (.t 78), none⟩,
    ⟨(some 80), .bin .eql (.t 79) (.c (.int .i64 1)), none⟩]⟩])
  (.cond (.t 80) [1, 3, 2, 4, 0] (.seq (.region [⟨none, [], [⟨(some 81), .mov (.t 1), none⟩,
    ⟨(some 14), .mov (.t 81), none⟩]⟩])
  (.seq (.region [⟨none, [], [⟨(some 82), .mov (.t 2), none⟩,
    ⟨(some 15), .mov (.t 82), none⟩]⟩])
  (.seq (.block 4 [2, 14, 0] (.loop [14, 15, 4, 0, 2] (.seq (.seq (.region [⟨none, [], [⟨(some 83), .mov (.t 14), none⟩,
    ⟨(some 84), .mov (.t 15), none⟩,
    ⟨(some 85), .bin .lss (.t 83) (.t 84), none⟩]⟩])
  (.cond (.t 85) [14, 15, 4, 0, 2] .skip
  (.exit 4)))
  (.block 5 [14, 15, 4, 0, 2] (.seq (.region [⟨none, [], [⟨(some 86), .mov (.t 14), none⟩,
    ⟨(some 87), .mov (.t 15), none⟩,
    ⟨(some 88), .bin .add (.t 86) (.t 87), none⟩,
    ⟨(some 89), .cvi .u64 (.t 88), none⟩,
    ⟨(some 90), .bin .shr (.t 89) (.c (.int .u64 1)), none⟩,
    ⟨(some 91), .cvi .i64 (.t 90), none⟩,
    ⟨(some 16), .mov (.t 91), none⟩]⟩])
  (.seq (.draw [⟨none, [], [⟨(some 92), .mov (.t 4), none⟩,
    ⟨(some 93), .mov (.t 0), none⟩,
    ⟨(some 94), .mov (.t 2), none⟩,
    ⟨(some 95), .idxs 1 (.t 93) (.t 94), none⟩,
    ⟨(some 96), .load1 (.t 95), none⟩,
    ⟨(some 97), .mov (.t 0), none⟩,
    ⟨(some 98), .mov (.t 16), none⟩,
    ⟨(some 99), .idxs 1 (.t 97) (.t 98), none⟩,
    ⟨(some 100), .load1 (.t 99), none⟩,
    ⟨(some 101), .callv (.t 92) [(.t 96), (.t 100)], none⟩,
    ⟨(some 102), .bin .lss (.t 101) (.c (.int .i64 0)), none⟩,
    ⟨(some 103), .un .not (.t 102), none⟩]⟩] [] [])
  (.cond (.t 103) [14, 15, 4, 0, 2] (.region [⟨none, [], [⟨(some 104), .mov (.t 16), none⟩,
    ⟨(some 105), .bin .add (.t 104) (.c (.int .i64 1)), none⟩,
    ⟨(some 14), .mov (.t 105), none⟩]⟩])
  (.region [⟨none, [], [⟨(some 106), .mov (.t 16), none⟩,
    ⟨(some 15), .mov (.t 106), none⟩]⟩]))))))))
  (.seq (.seq (.region [⟨none, [], [⟨(some 107), .mov (.t 2), none⟩,
    ⟨(some 17), .mov (.t 107), none⟩]⟩])
  (.block 6 [] (.loop [17, 14, 0] (.seq (.seq (.region [⟨none, [], [⟨(some 108), .mov (.t 17), none⟩,
    ⟨(some 109), .mov (.t 14), none⟩,
    ⟨(some 110), .bin .gtr (.t 108) (.t 109), none⟩]⟩])
  (.cond (.t 110) [0, 17, 14] .skip
  (.exit 6)))
  (.seq (.block 7 [17, 14, 0] (.draw [⟨none, [], [⟨(some 113), .mov (.t 0), none⟩,
    ⟨(some 114), .mov (.t 17), none⟩,
    ⟨(some 115), .mov (.t 0), none⟩,
    ⟨(some 116), .mov (.t 17), none⟩,
    ⟨(some 117), .bin .sub (.t 116) (.c (.int .i64 1)), none⟩,
    ⟨(some 118), .mov (.t 0), none⟩,
    ⟨(some 119), .mov (.t 17), none⟩,
    ⟨(some 120), .bin .sub (.t 119) (.c (.int .i64 1)), none⟩,
    ⟨(some 121), .idxs 1 (.t 118) (.t 120), none⟩,
    ⟨(some 122), .load1 (.t 121), none⟩,
    ⟨(some 123), .mov (.t 0), none⟩,
    ⟨(some 124), .mov (.t 17), none⟩,
    ⟨(some 125), .idxs 1 (.t 123) (.t 124), none⟩,
    ⟨(some 126), .load1 (.t 125), none⟩,
    ⟨(some 127), .idxs 1 (.t 113) (.t 114), none⟩,
    ⟨none, .store1 (.t 127) (.t 122), none⟩,
    ⟨(some 128), .idxs 1 (.t 115) (.t 117), none⟩,
    ⟨none, .store1 (.t 128) (.t 126), none⟩]⟩] [] []))
  (.region [⟨none, [], [⟨(some 111), .mov (.t 17), none⟩,
    ⟨(some 112), .bin .sub (.t 111) (.c (.int .i64 1)), none⟩,
    ⟨(some 17), .mov (.t 112), none⟩]⟩]))))))
  .ret))))
  .skip))
  (.seq (.region [⟨none, [], [⟨(some 129), .mov (.t 1), none⟩,
    ⟨(some 130), .mov (.t 3), none⟩,
    ⟨(some 131), .bin .add (.t 129) (.t 130), none⟩,
    ⟨(some 132), .cvi .u64 (.t 131), none⟩,
    ⟨(some 133), .bin .shr (.t 132) (.c (.int .u64 1)), none⟩,
    ⟨(some 134), .cvi .i64 (.t 133), none⟩,
    ⟨(some 18), .mov (.t 134), none⟩]⟩])
  (.seq (.region [⟨none, [], [⟨(some 135), .mov (.t 18), none⟩,
    ⟨(some 136), .mov (.t 2), none⟩,
    ⟨(some 137), .bin .add (.t 135) (.t 136), none⟩,
    ⟨(some 19), .mov (.t 137), none⟩]⟩])
  (.seq (.region [⟨none, [], [⟨(some 20), .mov (.c (.int .i64 0)), none⟩,
    ⟨(some 21), .mov (.c (.int .i64 0)), none⟩]⟩])
  (.seq (.seq (.region [⟨none, [], [⟨(some 138), .mov (.t 2), none⟩,
    ⟨(some 139), .mov (.t 18), none⟩,
    ⟨(some 140), .bin .gtr (.t 138) (.t 139), none⟩]⟩])
  (.cond (.t 140) [19, 20, 21, 4, 0, 2, 1, 18, 3] (.seq (.region [⟨none, [], [⟨(some 141), .mov (.t 19), none⟩,
    ⟨(some 142), .mov (.t 3), none⟩,
    ⟨(some 143), .bin .sub (.t 141) (.t 142), none⟩,
    ⟨(some 20), .mov (.t 143), none⟩]⟩])
  (.region [⟨none, [], [⟨(some 144), .mov (.t 18), none⟩,
    ⟨(some 21), .mov (.t 144), none⟩]⟩]))
  (.seq (.region [⟨none, [], [⟨(some 145), .mov (.t 1), none⟩,
    ⟨(some 20), .mov (.t 145), none⟩]⟩])
  (.region [⟨none, [], [⟨(some 146), .mov (.t 2), none⟩,
    ⟨(some 21), .mov (.t 146), none⟩]⟩]))))
  (.seq (.region [⟨none, [], [⟨(some 147), .mov (.t 19), none⟩,
    ⟨(some 148), .bin .sub (.t 147) (.c (.int .i64 1)), none⟩,
    ⟨(some 22), .mov (.t 148), none⟩]⟩])
  (.seq (.block 8 [19, 20, 2, 0, 4, 1, 18, 3] (.loop [20, 21, 4, 0, 22, 19, 2, 1, 18, 3] (.seq (.seq (.region [⟨none, [], [⟨(some 149), .mov (.t 20), none⟩,
    ⟨(some 150), .mov (.t 21), none⟩,
    ⟨(some 151), .bin .lss (.t 149) (.t 150), none⟩]⟩])
  (.cond (.t 151) [20, 21, 4, 0, 22, 19, 2, 1, 18, 3] .skip
  (.exit 8)))
  (.block 9 [20, 21, 4, 0, 22, 19, 2, 1, 18, 3] (.seq (.region [⟨none, [], [⟨(some 152), .mov (.t 20), none⟩,
    ⟨(some 153), .mov (.t 21), none⟩,
    ⟨(some 154), .bin .add (.t 152) (.t 153), none⟩,
    ⟨(some 155), .cvi .u64 (.t 154), none⟩,
    ⟨(some 156), .bin .shr (.t 155) (.c (.int .u64 1)), none⟩,
    ⟨(some 157), .cvi .i64 (.t 156), none⟩,
    ⟨(some 23), .mov (.t 157), none⟩]⟩])
  (.seq (.draw [⟨none, [], [⟨(some 158), .mov (.t 4), none⟩,
    ⟨(some 159), .mov (.t 0), none⟩,
    ⟨(some 160), .mov (.t 22), none⟩,
    ⟨(some 161), .mov (.t 23), none⟩,
    ⟨(some 162), .bin .sub (.t 160) (.t 161), none⟩,
    ⟨(some 163), .idxs 1 (.t 159) (.t 162), none⟩,
    ⟨(some 164), .load1 (.t 163), none⟩,
    ⟨(some 165), .mov (.t 0), none⟩,
    ⟨(some 166), .mov (.t 23), none⟩,
    ⟨(some 167), .idxs 1 (.t 165) (.t 166), none⟩,
    ⟨(some 168), .load1 (.t 167), none⟩,
    ⟨(some 169), .callv (.t 158) [(.t 164), (.t 168)], none⟩,
    ⟨(some 170), .bin .lss (.t 169) (.c (.int .i64 0)), none⟩,
    ⟨(some 171), .un .not (.t 170), none⟩]⟩] [] [])
  (.cond (.t 171) [20, 21, 4, 0, 22, 19, 2, 1, 18, 3] (.region [⟨none, [], [⟨(some 172), .mov (.t 23), none⟩,
    ⟨(some 173), .bin .add (.t 172) (.c (.int .i64 1)), none⟩,
    ⟨(some 20), .mov (.t 173), none⟩]⟩])
  (.region [⟨none, [], [⟨(some 174), .mov (.t 23), none⟩,
    ⟨(some 21), .mov (.t 174), none⟩]⟩]))))))))
  (.seq (.region [⟨none, [], [⟨(some 175), .mov (.t 19), none⟩,
    ⟨(some 176), .mov (.t 20), none⟩,
    ⟨(some 177), .bin .sub (.t 175) (.t 176), none⟩,
    ⟨(some 24), .mov (.t 177), none⟩]⟩])
  (.seq (.seq (.region [⟨none, [], [⟨(some 178), .mov (.t 20), none⟩,
    ⟨(some 179), .mov (.t 2), none⟩,
    ⟨(some 180), .bin .lss (.t 178) (.t 179), none⟩,
    ⟨(some 181), .mov (.t 180), none⟩]⟩,
   ⟨some (181, true), [184], [⟨(some 182), .mov (.t 2), some (181, true)⟩,
    ⟨(some 183), .mov (.t 24), some (181, true)⟩,
    ⟨(some 184), .bin .lss (.t 182) (.t 183), some (181, true)⟩]⟩,
   ⟨none, [], [⟨(some 185), .pick (.t 181) (.t 184) (.c (.bool false)), none⟩]⟩])
  (.cond (.t 185) [1, 20, 18, 0, 4, 24, 3] (.region [⟨none, [], [⟨(some 186), .mov (.t 0), none⟩,
    ⟨(some 187), .mov (.t 20), none⟩,
    ⟨(some 188), .mov (.t 2), none⟩,
    ⟨(some 189), .mov (.t 24), none⟩,
    ⟨(some 190), .mov (.t 4), none⟩,
    ⟨(some 191), .call 39 [(.t 186), (.t 187), (.t 188), (.t 189), (.t 190)], none⟩]⟩])
  .skip))
  (.seq (.seq (.region [⟨none, [], [⟨(some 192), .mov (.t 1), none⟩,
    ⟨(some 193), .mov (.t 20), none⟩,
    ⟨(some 194), .bin .lss (.t 192) (.t 193), none⟩,
    ⟨(some 195), .mov (.t 194), none⟩]⟩,
   ⟨some (195, true), [198], [⟨(some 196), .mov (.t 20), some (195, true)⟩,
    ⟨(some 197), .mov (.t 18), some (195, true)⟩,
    ⟨(some 198), .bin .lss (.t 196) (.t 197), some (195, true)⟩]⟩,
   ⟨none, [], [⟨(some 199), .pick (.t 195) (.t 198) (.c (.bool false)), none⟩]⟩])
  (.cond (.t 199) [18, 24, 3, 0, 4] (.region [⟨none, [], [⟨(some 200), .mov (.t 0), none⟩,
    ⟨(some 201), .mov (.t 1), none⟩,
    ⟨(some 202), .mov (.t 20), none⟩,
    ⟨(some 203), .mov (.t 18), none⟩,
    ⟨(some 204), .mov (.t 4), none⟩,
    ⟨(some 205), .call 24 [(.t 200), (.t 201), (.t 202), (.t 203), (.t 204)], none⟩]⟩])
  .skip))
  (.seq (.region [⟨none, [], [⟨(some 206), .mov (.t 18), none⟩,
    ⟨(some 207), .mov (.t 24), none⟩,
    ⟨(some 208), .bin .lss (.t 206) (.t 207), none⟩,
    ⟨(some 209), .mov (.t 208), none⟩]⟩,
   ⟨some (209, true), [212], [⟨(some 210), .mov (.t 24), some (209, true)⟩,
    ⟨(some 211), .mov (.t 3), some (209, true)⟩,
    ⟨(some 212), .bin .lss (.t 210) (.t 211), some (209, true)⟩]⟩,
   ⟨none, [], [⟨(some 213), .pick (.t 209) (.t 212) (.c (.bool false)), none⟩]⟩])
  (.cond (.t 213) [] (.region [⟨none, [], [⟨(some 214), .mov (.t 0), none⟩,
    ⟨(some 215), .mov (.t 18), none⟩,
    ⟨(some 216), .mov (.t 24), none⟩,
    ⟨(some 217), .mov (.t 3), none⟩,
    ⟨(some 218), .mov (.t 4), none⟩,
    ⟨(some 219), .call 24 [(.t 214), (.t 215), (.t 216), (.t 217), (.t 218)], none⟩]⟩])
  .skip)))))))))))))
def x24 : XFunc := ⟨220, [], y24.er⟩
noncomputable def s24_k84 (_ : CallT) (_ : Nat) (A84 : AH) : Res :=
 .ret (.tuple []) A84
noncomputable def s24_k77 (call : CallT) (n : Nat) (v72 v73 v74 v75 v76 : AVal) (A77 : AH) : Res :=
 bindO (lssR v72 v73) fun v79 =>
 joinV (fun (v80 : AVal) (A81 : AH) =>
 bindO (pickR v79 v80 (.bool false)) fun v83 =>
 joinV (s24_k84 call n) fun j85 => boolK (some v83) (
 bindR (call 24 [v75, v72, v73, v74, v76] A81) (fun _ A87 =>
 j85 A87) fun u88 B89 => .pan u88 B89) (
 j85 A81)) fun j82 => wantK v79 true (
 bindO (lssR v73 v74) fun v90 =>
 j82 v90 A77) (j82 (.tuple []) A77)
noncomputable def s24_k65 (call : CallT) (n : Nat) (v58 v59 v60 v61 v62 v63 v64 : AVal) (A65 : AH) : Res :=
 bindO (lssR v58 v59) fun v67 =>
 joinV (fun (v68 : AVal) (A69 : AH) =>
 bindO (pickR v67 v68 (.bool false)) fun v71 =>
 joinV (s24_k77 call n) fun j78 => boolK (some v71) (
 bindR (call 24 [v61, v58, v59, v60, v62] A69) (fun _ A92 =>
 j78 v60 v63 v64 v61 v62 A92) fun u93 B94 => .pan u93 B94) (
 j78 v60 v63 v64 v61 v62 A69)) fun j70 => wantK v67 true (
 bindO (lssR v59 v60) fun v95 =>
 j70 v95 A65) (j70 (.tuple []) A65)
noncomputable def s24_k50 (call : CallT) (n : Nat) (v42 v43 v44 v45 v46 v47 v48 v49 : AVal) (A50 : AH) : Res :=
 bindO (subR v42 v43) fun v52 =>
 bindO (lssR v43 v44) fun v53 =>
 joinV (fun (v54 : AVal) (A55 : AH) =>
 bindO (pickR v53 v54 (.bool false)) fun v57 =>
 joinV (s24_k65 call n) fun j66 => boolK (some v57) (
 bindR (call 39 [v45, v43, v44, v52, v46] A55) (fun _ A97 =>
 j66 v47 v43 v48 v45 v46 v52 v49 A97) fun u98 B99 => .pan u98 B99) (
 j66 v47 v43 v48 v45 v46 v52 v49 A55)) fun j56 => wantK v53 true (
 bindO (lssR v44 v52) fun v100 =>
 j56 v100 A50) (j56 (.tuple []) A50)
noncomputable def s24_k136 (_ : CallT) (_ : Nat) (n112 : J10) (v126 v127 v128 v129 v130 v131 v132 v133 v134 v135 : AVal) (A136 : AH) : Res :=
 n112 v126 v127 v128 v129 v130 v131 v132 v133 v134 v135 A136
noncomputable def s24_k164 (_ : CallT) (_ : Nat) (j137 : J10) (v154 v155 v156 v157 v158 v159 v160 v161 v162 v163 : AVal) (A164 : AH) : Res :=
 j137 v154 v155 v156 v157 v158 v159 v160 v161 v162 v163 A164
noncomputable def s24_k124 (call : CallT) (n : Nat) (n112 : J10) (v114 v115 v116 v117 v118 v119 v120 v121 v122 v123 : AVal) (A124 : AH) : Res :=
 joinV (s24_k136 call n n112) fun j137 =>
 bindO (addR v114 v115) fun v138 =>
 bindO (cviR .u64 v138) fun v139 =>
 bindO (abinR .shr v139 (.int .u64 1)) fun v140 =>
 bindO (cviR .i64 v140) fun v141 =>
 letA (A124.bump 14) fun A142 =>
 bindO (subR v118 v141) fun v143 =>
 bindO (idxsR 1 v117 v143) fun v144 =>
 bindO (load1R A142 v144) fun v145 =>
 bindO (idxsR 1 v117 v141) fun v146 =>
 bindO (load1R A142 v146) fun v147 =>
 bindC (acallee [] A142 (.callv (.c v116) [(.c v145), (.c v147)])) fun f167 a168 => bindR (call f167 a168 A142) (fun v148 A149 =>
 bindO (lssR v148 (.int .i64 0)) fun v152 =>
 bindO (notR v152) fun v153 =>
 joinV (s24_k164 call n j137) fun j165 => boolK (some v153) (
 bindO (addR v141 (.int .i64 1)) fun v166 =>
 j165 v166 v115 v116 v117 v118 v119 v120 v121 v122 v123 A149) (
 j165 v114 v141 v116 v117 v118 v119 v120 v121 v122 v123 A149)) fun u150 B151 => .pan u150 B151
noncomputable def s24_l111 (call : CallT) (n : Nat) (j51 : J8) (n112 : J10) (v101 v102 v103 v104 v105 v106 v107 v108 v109 v110 : AVal) (A111 : AH) : Res :=
 bindO (lssR v101 v102) fun v113 =>
 joinV (s24_k124 call n n112) fun j125 => boolK (some v113) (
 j125 v101 v102 v103 v104 v105 v106 v107 v108 v109 v110 A111) (
 j51 v106 v101 v107 v104 v103 v108 v109 v110 A111)
noncomputable def s24_k39 (call : CallT) (n : Nat) (v30 v31 v32 v33 v34 v35 v36 v37 v38 : AVal) (A39 : AH) : Res :=
 bindO (subR v30 (.int .i64 1)) fun v41 =>
 joinV (s24_k50 call n) fun j51 =>
 loopK zJ10 n (s24_l111 call n j51) v31 v32 v33 v34 v41 v30 v35 v36 v37 v38 A39
noncomputable def s24_k22 (call : CallT) (n : Nat) (v17 v18 v19 v20 v21 : AVal) (A22 : AH) : Res :=
 bindO (addR v17 v18) fun v24 =>
 bindO (cviR .u64 v24) fun v25 =>
 bindO (abinR .shr v25 (.int .u64 1)) fun v26 =>
 bindO (cviR .i64 v26) fun v27 =>
 bindO (addR v27 v19) fun v28 =>
 bindO (gtrR v19 v27) fun v29 =>
 joinV (s24_k39 call n) fun j40 => boolK (some v29) (
 bindO (subR v28 v18) fun v169 =>
 j40 v28 v169 v27 v20 v21 v19 v17 v27 v18 A22) (
 j40 v28 v17 v19 v20 v21 v19 v17 v27 v18 A22)
noncomputable def s24_k175 (_ : CallT) (_ : Nat) (A175 : AH) : Res :=
 .ret (.tuple []) A175
noncomputable def s24_k191 (_ : CallT) (_ : Nat) (n181 : J3) (v188 v189 v190 : AVal) (A191 : AH) : Res :=
 bindO (subR v188 (.int .i64 1)) fun v193 =>
 n181 v193 v189 v190 A191
noncomputable def s24_k186 (call : CallT) (n : Nat) (n181 : J3) (v183 v184 v185 : AVal) (A186 : AH) : Res :=
 joinV (s24_k191 call n n181) fun j192 =>
 letA (A186.bump 18) fun A194 =>
 bindO (subR v184 (.int .i64 1)) fun v195 =>
 bindO (subR v184 (.int .i64 1)) fun v196 =>
 bindO (idxsR 1 v183 v196) fun v197 =>
 bindO (load1R A194 v197) fun v198 =>
 bindO (idxsR 1 v183 v184) fun v199 =>
 bindO (load1R A194 v199) fun v200 =>
 bindO (idxsR 1 v183 v184) fun v201 =>
 bindP (store1R A194 v201 v198) fun _ A203 =>
 bindO (idxsR 1 v183 v195) fun v204 =>
 bindP (store1R A203 v204 v200) fun _ A206 =>
 j192 v184 v185 v183 A206
noncomputable def s24_l180 (call : CallT) (n : Nat) (j176 : J0) (n181 : J3) (v177 v178 v179 : AVal) (A180 : AH) : Res :=
 bindO (gtrR v177 v178) fun v182 =>
 joinV (s24_k186 call n n181) fun j187 => boolK (some v182) (
 j187 v179 v177 v178 A180) (
 j176 A180)
noncomputable def s24_k173 (call : CallT) (n : Nat) (v170 v171 v172 : AVal) (A173 : AH) : Res :=
 joinV (s24_k175 call n) fun j176 =>
 loopK zJ3 n (s24_l180 call n j176) v170 v171 v172 A173
noncomputable def s24_k227 (_ : CallT) (_ : Nat) (n213 : J5) (v222 v223 v224 v225 v226 : AVal) (A227 : AH) : Res :=
 n213 v222 v223 v224 v225 v226 A227
noncomputable def s24_k249 (_ : CallT) (_ : Nat) (j228 : J5) (v244 v245 v246 v247 v248 : AVal) (A249 : AH) : Res :=
 j228 v244 v245 v246 v247 v248 A249
noncomputable def s24_k220 (call : CallT) (n : Nat) (n213 : J5) (v215 v216 v217 v218 v219 : AVal) (A220 : AH) : Res :=
 joinV (s24_k227 call n n213) fun j228 =>
 bindO (addR v215 v216) fun v229 =>
 bindO (cviR .u64 v229) fun v230 =>
 bindO (abinR .shr v230 (.int .u64 1)) fun v231 =>
 bindO (cviR .i64 v231) fun v232 =>
 letA (A220.bump 12) fun A233 =>
 bindO (idxsR 1 v218 v219) fun v234 =>
 bindO (load1R A233 v234) fun v235 =>
 bindO (idxsR 1 v218 v232) fun v236 =>
 bindO (load1R A233 v236) fun v237 =>
 bindC (acallee [] A233 (.callv (.c v217) [(.c v235), (.c v237)])) fun f252 a253 => bindR (call f252 a253 A233) (fun v238 A239 =>
 bindO (lssR v238 (.int .i64 0)) fun v242 =>
 bindO (notR v242) fun v243 =>
 joinV (s24_k249 call n j228) fun j250 => boolK (some v243) (
 bindO (addR v232 (.int .i64 1)) fun v251 =>
 j250 v251 v216 v217 v218 v219 A239) (
 j250 v215 v232 v217 v218 v219 A239)) fun u240 B241 => .pan u240 B241
noncomputable def s24_l212 (call : CallT) (n : Nat) (j174 : J3) (n213 : J5) (v207 v208 v209 v210 v211 : AVal) (A212 : AH) : Res :=
 bindO (lssR v207 v208) fun v214 =>
 joinV (s24_k220 call n n213) fun j221 => boolK (some v214) (
 j221 v207 v208 v209 v210 v211 A212) (
 j174 v211 v207 v210 A212)
noncomputable def s24_k13 (call : CallT) (n : Nat) (v8 v9 v10 v11 v12 : AVal) (A13 : AH) : Res :=
 bindO (subR v8 v9) fun v15 =>
 bindO (eqlR v15 (.int .i64 1)) fun v16 =>
 joinV (s24_k22 call n) fun j23 => boolK (some v16) (
 joinV (s24_k173 call n) fun j174 =>
 loopK zJ5 n (s24_l212 call n j174) v10 v9 v11 v12 v9 A13) (
 j23 v10 v8 v9 v11 v12 A13)
noncomputable def s24_k259 (_ : CallT) (_ : Nat) (A259 : AH) : Res :=
 .ret (.tuple []) A259
noncomputable def s24_k276 (_ : CallT) (_ : Nat) (n265 : J3) (v273 v274 v275 : AVal) (A276 : AH) : Res :=
 bindO (addR v273 (.int .i64 1)) fun v278 =>
 n265 v278 v274 v275 A276
noncomputable def s24_k271 (call : CallT) (n : Nat) (n265 : J3) (v268 v269 v270 : AVal) (A271 : AH) : Res :=
 joinV (s24_k276 call n n265) fun j277 =>
 letA (A271.bump 18) fun A279 =>
 bindO (addR v269 (.int .i64 1)) fun v280 =>
 bindO (addR v269 (.int .i64 1)) fun v281 =>
 bindO (idxsR 1 v268 v281) fun v282 =>
 bindO (load1R A279 v282) fun v283 =>
 bindO (idxsR 1 v268 v269) fun v284 =>
 bindO (load1R A279 v284) fun v285 =>
 bindO (idxsR 1 v268 v269) fun v286 =>
 bindP (store1R A279 v286 v283) fun _ A288 =>
 bindO (idxsR 1 v268 v280) fun v289 =>
 bindP (store1R A288 v289 v285) fun _ A291 =>
 j277 v269 v270 v268 A291
noncomputable def s24_l264 (call : CallT) (n : Nat) (j260 : J0) (n265 : J3) (v261 v262 v263 : AVal) (A264 : AH) : Res :=
 bindO (subR v262 (.int .i64 1)) fun v266 =>
 bindO (lssR v261 v266) fun v267 =>
 joinV (s24_k271 call n n265) fun j272 => boolK (some v267) (
 j272 v263 v261 v262 A264) (
 j260 A264)
noncomputable def s24_k257 (call : CallT) (n : Nat) (v254 v255 v256 : AVal) (A257 : AH) : Res :=
 joinV (s24_k259 call n) fun j260 =>
 loopK zJ3 n (s24_l264 call n j260) v254 v255 v256 A257
noncomputable def s24_k312 (_ : CallT) (_ : Nat) (n298 : J5) (v307 v308 v309 v310 v311 : AVal) (A312 : AH) : Res :=
 n298 v307 v308 v309 v310 v311 A312
noncomputable def s24_k333 (_ : CallT) (_ : Nat) (j313 : J5) (v328 v329 v330 v331 v332 : AVal) (A333 : AH) : Res :=
 j313 v328 v329 v330 v331 v332 A333
noncomputable def s24_k305 (call : CallT) (n : Nat) (n298 : J5) (v300 v301 v302 v303 v304 : AVal) (A305 : AH) : Res :=
 joinV (s24_k312 call n n298) fun j313 =>
 bindO (addR v300 v301) fun v314 =>
 bindO (cviR .u64 v314) fun v315 =>
 bindO (abinR .shr v315 (.int .u64 1)) fun v316 =>
 bindO (cviR .i64 v316) fun v317 =>
 letA (A305.bump 11) fun A318 =>
 bindO (idxsR 1 v303 v317) fun v319 =>
 bindO (load1R A318 v319) fun v320 =>
 bindO (idxsR 1 v303 v304) fun v321 =>
 bindO (load1R A318 v321) fun v322 =>
 bindC (acallee [] A318 (.callv (.c v302) [(.c v320), (.c v322)])) fun f336 a337 => bindR (call f336 a337 A318) (fun v323 A324 =>
 bindO (lssR v323 (.int .i64 0)) fun v327 =>
 joinV (s24_k333 call n j313) fun j334 => boolK (some v327) (
 bindO (addR v317 (.int .i64 1)) fun v335 =>
 j334 v335 v301 v302 v303 v304 A324) (
 j334 v300 v317 v302 v303 v304 A324)) fun u325 B326 => .pan u325 B326
noncomputable def s24_l297 (call : CallT) (n : Nat) (j258 : J3) (n298 : J5) (v292 v293 v294 v295 v296 : AVal) (A297 : AH) : Res :=
 bindO (lssR v292 v293) fun v299 =>
 joinV (s24_k305 call n n298) fun j306 => boolK (some v299) (
 j306 v292 v293 v294 v295 v296 A297) (
 j258 v296 v292 v295 A297)
noncomputable def s24_b (call : CallT) (n : Nat) (v0 v1 v2 v3 v4 : AVal) (A5 : AH) : Res :=
 bindO (subR v2 v1) fun v6 =>
 bindO (eqlR v6 (.int .i64 1)) fun v7 =>
 joinV (s24_k13 call n) fun j14 => boolK (some v7) (
 joinV (s24_k257 call n) fun j258 =>
 loopK zJ5 n (s24_l297 call n j258) v2 v3 v4 v0 v1 A5) (
 j14 v3 v2 v1 v4 v0 A5)
noncomputable def s24 (call : CallT) (n : Nat) (as : List AVal) (A : AH) : Res := apL 5 (s24_b call n) as A
theorem s24_eq (call : CallT) (n : Nat) (as : List AVal) (A : AH) : fnK call n 220 [] y24 5 as A = s24 call n as A := by kernel_rfl
/-- container/heap.up -/
def y25 : YCode := (.block 0 [] (.loop [1, 0] (.block 1 [1, 0] (.seq (.region [⟨none, [], [⟨(some 5), .mov (.t 1), none⟩,
    ⟨(some 6), .bin .sub (.t 5) (.c (.int .i64 1)), none⟩,
    ⟨(some 7), .bin .quo (.t 6) (.c (.int .i64 2)), none⟩,
    ⟨(some 4), .mov (.t 7), none⟩]⟩])
  (.seq (.seq (.region [⟨none, [], [⟨(some 8), .mov (.t 4), none⟩,
    ⟨(some 9), .mov (.t 1), none⟩,
    ⟨(some 10), .bin .eql (.t 8) (.t 9), none⟩,
    ⟨(some 11), .mov (.t 10), none⟩]⟩,
   ⟨some (11, false), [16], [⟨(some 12), .mov (.t 0), some (11, false)⟩,
    ⟨(some 13), .mov (.t 1), some (11, false)⟩,
    ⟨(some 14), .mov (.t 4), some (11, false)⟩,
    ⟨(some 15), .invoke [(38, 63, some 0), (40, 63, none)] (.t 12) [(.t 13), (.t 14)], some (11, false)⟩,
    ⟨(some 16), .un .not (.t 15), some (11, false)⟩]⟩,
   ⟨none, [], [⟨(some 17), .pick (.t 11) (.c (.bool true)) (.t 16), none⟩]⟩])
  (.cond (.t 17) [0, 4, 1] (.exit 0)
  .skip))
  (.seq (.region [⟨none, [], [⟨(some 18), .mov (.t 0), none⟩,
    ⟨(some 19), .mov (.t 4), none⟩,
    ⟨(some 20), .mov (.t 1), none⟩,
    ⟨(some 21), .invoke [(38, 66, some 0), (40, 66, none)] (.t 18) [(.t 19), (.t 20)], none⟩]⟩])
  (.region [⟨none, [], [⟨(some 22), .mov (.t 4), none⟩,
    ⟨(some 1), .mov (.t 22), none⟩]⟩])))))))
def x25 : XFunc := ⟨23, [], y25.er⟩
noncomputable def s25_k3 (_ : CallT) (_ : Nat) (A3 : AH) : Res :=
 .ret (.tuple []) A3
noncomputable def s25_k11 (_ : CallT) (_ : Nat) (n8 : J2) (v9 v10 : AVal) (A11 : AH) : Res :=
 n8 v9 v10 A11
noncomputable def s25_k23 (call : CallT) (_ : Nat) (j12 : J2) (v20 v21 v22 : AVal) (A23 : AH) : Res :=
 bindC (acallee [] A23 (.invoke [(38, 66, some 0), (40, 66, none)] (.c v20) [(.c v21), (.c v22)])) fun f29 a30 => bindR (call f29 a30 A23) (fun _ A26 =>
 j12 v21 v20 A26) fun u27 B28 => .pan u27 B28
noncomputable def s25_l7 (call : CallT) (n : Nat) (j4 : J0) (n8 : J2) (v5 v6 : AVal) (A7 : AH) : Res :=
 joinV (s25_k11 call n n8) fun j12 =>
 bindO (subR v5 (.int .i64 1)) fun v13 =>
 bindO (abinR .quo v13 (.int .i64 2)) fun v14 =>
 bindO (eqlR v14 v5) fun v15 =>
 joinV (fun (v16 : AVal) (A17 : AH) =>
 bindO (pickR v15 (.bool true) v16) fun v19 =>
 joinV (s25_k23 call n j12) fun j24 => boolK (some v19) (
 j4 A17) (
 j24 v6 v14 v5 A17)) fun j18 => wantK v15 false (
 bindC (acallee [] A7 (.invoke [(38, 63, some 0), (40, 63, none)] (.c v6) [(.c v5), (.c v14)])) fun f36 a37 => bindR (call f36 a37 A7) (fun v31 A32 =>
 bindO (notR v31) fun v35 =>
 j18 v35 A32) fun u33 B34 => .pan u33 B34) (j18 (.tuple []) A7)
noncomputable def s25_b (call : CallT) (n : Nat) (v0 v1 : AVal) (A2 : AH) : Res :=
 joinV (s25_k3 call n) fun j4 =>
 loopK zJ2 n (s25_l7 call n j4) v1 v0 A2
noncomputable def s25 (call : CallT) (n : Nat) (as : List AVal) (A : AH) : Res := apL 2 (s25_b call n) as A
theorem s25_eq (call : CallT) (n : Nat) (as : List AVal) (A : AH) : fnK call n 23 [] y25 2 as A = s25 call n as A := by kernel_rfl
/-- container/heap.down -/
def y26 : YCode := (.seq (.region [⟨none, [], [⟨(some 6), .mov (.c (.bool false)), none⟩]⟩])
  (.seq (.region [⟨none, [], [⟨(some 11), .mov (.t 1), none⟩,
    ⟨(some 7), .mov (.t 11), none⟩]⟩])
  (.seq (.block 0 [7, 1] (.loop [7, 2, 1, 0] (.block 1 [7, 2, 1, 0] (.seq (.region [⟨none, [], [⟨(some 12), .mov (.t 7), none⟩,
    ⟨(some 13), .bin .mul (.c (.int .i64 2)) (.t 12), none⟩,
    ⟨(some 14), .bin .add (.t 13) (.c (.int .i64 1)), none⟩,
    ⟨(some 8), .mov (.t 14), none⟩]⟩])
  (.seq (.seq (.region [⟨none, [], [⟨(some 15), .mov (.t 8), none⟩,
    ⟨(some 16), .mov (.t 2), none⟩,
    ⟨(some 17), .bin .geq (.t 15) (.t 16), none⟩,
    ⟨(some 18), .mov (.t 17), none⟩]⟩,
   ⟨some (18, false), [20], [⟨(some 19), .mov (.t 8), some (18, false)⟩,
    ⟨(some 20), .bin .lss (.t 19) (.c (.int .i64 0)), some (18, false)⟩]⟩,
   ⟨none, [], [⟨(some 21), .pick (.t 18) (.c (.bool true)) (.t 20), none⟩]⟩])
  (.cond (.t 21) [8, 2, 0, 7, 1] (.exit 0)
  .skip))
  (.seq (.region [⟨none, [], [⟨(some 22), .mov (.t 8), none⟩,
    ⟨(some 9), .mov (.t 22), none⟩]⟩])
  (.seq (.seq (.region [⟨none, [], [⟨(some 23), .mov (.t 8), none⟩,
    ⟨(some 24), .bin .add (.t 23) (.c (.int .i64 1)), none⟩,
    ⟨(some 10), .mov (.t 24), none⟩]⟩])
  (.seq (.region [⟨none, [], [⟨(some 25), .mov (.t 10), none⟩,
    ⟨(some 26), .mov (.t 2), none⟩,
    ⟨(some 27), .bin .lss (.t 25) (.t 26), none⟩,
    ⟨(some 28), .mov (.t 27), none⟩]⟩,
   ⟨some (28, true), [32], [⟨(some 29), .mov (.t 0), some (28, true)⟩,
    ⟨(some 30), .mov (.t 10), some (28, true)⟩,
    ⟨(some 31), .mov (.t 8), some (28, true)⟩,
    ⟨(some 32), .invoke [(38, 63, some 0), (40, 63, none)] (.t 29) [(.t 30), (.t 31)], some (28, true)⟩]⟩,
   ⟨none, [], [⟨(some 33), .pick (.t 28) (.t 32) (.c (.bool false)), none⟩]⟩])
  (.cond (.t 33) [0, 9, 7, 1, 2] (.region [⟨none, [], [⟨(some 34), .mov (.t 10), none⟩,
    ⟨(some 9), .mov (.t 34), none⟩]⟩])
  .skip)))
  (.seq (.seq (.region [⟨none, [], [⟨(some 35), .mov (.t 0), none⟩,
    ⟨(some 36), .mov (.t 9), none⟩,
    ⟨(some 37), .mov (.t 7), none⟩,
    ⟨(some 38), .invoke [(38, 63, some 0), (40, 63, none)] (.t 35) [(.t 36), (.t 37)], none⟩,
    ⟨(some 39), .un .not (.t 38), none⟩]⟩])
  (.cond (.t 39) [0, 7, 9, 2, 1] (.exit 0)
  .skip))
  (.seq (.region [⟨none, [], [⟨(some 40), .mov (.t 0), none⟩,
    ⟨(some 41), .mov (.t 7), none⟩,
    ⟨(some 42), .mov (.t 9), none⟩,
    ⟨(some 43), .invoke [(38, 66, some 0), (40, 66, none)] (.t 40) [(.t 41), (.t 42)], none⟩]⟩])
  (.region [⟨none, [], [⟨(some 44), .mov (.t 9), none⟩,
    ⟨(some 7), .mov (.t 44), none⟩]⟩]))))))))))
  (.seq (.region [⟨none, [], [⟨(some 45), .mov (.t 7), none⟩,
    ⟨(some 46), .mov (.t 1), none⟩,
    ⟨(some 47), .bin .gtr (.t 45) (.t 46), none⟩,
    ⟨(some 6), .mov (.t 47), none⟩]⟩])
  .ret))))
def x26 : XFunc := ⟨48, [.tmp 6], y26.er⟩
noncomputable def s26_k6 (_ : CallT) (_ : Nat) (v4 v5 : AVal) (A6 : AH) : Res :=
 bindO (gtrR v4 v5) fun v8 =>
 .ret v8 A6
noncomputable def s26_k19 (_ : CallT) (_ : Nat) (n14 : J4) (v15 v16 v17 v18 : AVal) (A19 : AH) : Res :=
 n14 v15 v16 v17 v18 A19
noncomputable def s26_k58 (call : CallT) (_ : Nat) (j20 : J4) (v53 v54 v55 v56 v57 : AVal) (A58 : AH) : Res :=
 bindC (acallee [] A58 (.invoke [(38, 66, some 0), (40, 66, none)] (.c v53) [(.c v54), (.c v55)])) fun f64 a65 => bindR (call f64 a65 A58) (fun _ A61 =>
 j20 v55 v56 v57 v53 A61) fun u62 B63 => .pan u62 B63
noncomputable def s26_k46 (call : CallT) (n : Nat) (j20 : J4) (j7 : J2) (v41 v42 v43 v44 v45 : AVal) (A46 : AH) : Res :=
 bindC (acallee [] A46 (.invoke [(38, 63, some 0), (40, 63, none)] (.c v41) [(.c v42), (.c v43)])) fun f66 a67 => bindR (call f66 a67 A46) (fun v48 A49 =>
 bindO (notR v48) fun v52 =>
 joinV (s26_k58 call n j20) fun j59 => boolK (some v52) (
 j7 v43 v44 A49) (
 j59 v41 v43 v42 v45 v44 A49)) fun u50 B51 => .pan u50 B51
noncomputable def s26_k33 (call : CallT) (n : Nat) (j20 : J4) (j7 : J2) (v28 v29 v30 v31 v32 : AVal) (A33 : AH) : Res :=
 bindO (addR v28 (.int .i64 1)) fun v35 =>
 bindO (lssR v35 v29) fun v36 =>
 joinV (fun (v37 : AVal) (A38 : AH) =>
 bindO (pickR v36 v37 (.bool false)) fun v40 =>
 joinV (s26_k46 call n j20 j7) fun j47 => boolK (some v40) (
 j47 v30 v35 v31 v32 v29 A38) (
 j47 v30 v28 v31 v32 v29 A38)) fun j39 => wantK v36 true (
 bindC (acallee [] A33 (.invoke [(38, 63, some 0), (40, 63, none)] (.c v30) [(.c v35), (.c v28)])) fun f72 a73 => bindR (call f72 a73 A33) (fun v68 A69 =>
 j39 v68 A69) fun u70 B71 => .pan u70 B71) (j39 (.tuple []) A33)
noncomputable def s26_l13 (call : CallT) (n : Nat) (j7 : J2) (n14 : J4) (v9 v10 v11 v12 : AVal) (A13 : AH) : Res :=
 joinV (s26_k19 call n n14) fun j20 =>
 bindO (mulR (.int .i64 2) v9) fun v21 =>
 bindO (addR v21 (.int .i64 1)) fun v22 =>
 bindO (geqR v22 v10) fun v23 =>
 joinV (fun (v24 : AVal) (A25 : AH) =>
 bindO (pickR v23 (.bool true) v24) fun v27 =>
 joinV (s26_k33 call n j20 j7) fun j34 => boolK (some v27) (
 j7 v9 v11 A25) (
 j34 v22 v10 v12 v9 v11 A25)) fun j26 => wantK v23 false (
 bindO (lssR v22 (.int .i64 0)) fun v74 =>
 j26 v74 A13) (j26 (.tuple []) A13)
noncomputable def s26_b (call : CallT) (n : Nat) (v0 v1 v2 : AVal) (A3 : AH) : Res :=
 joinV (s26_k6 call n) fun j7 =>
 loopK zJ4 n (s26_l13 call n j7) v1 v2 v1 v0 A3
noncomputable def s26 (call : CallT) (n : Nat) (as : List AVal) (A : AH) : Res := apL 3 (s26_b call n) as A
theorem s26_eq (call : CallT) (n : Nat) (as : List AVal) (A : AH) : fnK call n 48 [.tmp 6] y26 3 as A = s26 call n as A := by kernel_rfl
/-- slices.Grow[[]int,int] -/
def y27 : YCode := (.seq (.region [⟨none, [], [⟨(some 4), .mov (.c .nilslice), none⟩]⟩])
  (.seq (.seq (.region [⟨none, [], [⟨(some 5), .mov (.t 1), none⟩,
    ⟨(some 6), .bin .lss (.t 5) (.c (.int .i64 0)), none⟩]⟩])
  (.cond (.t 6) [1, 0] (.region [⟨none, [], [⟨(some 7), .mki 9 (.c (.str ⟨#[99, 97, 110, 110, 111, 116, 32, 98, 101, 32, 110, 101, 103, 97, 116, 105, 118, 101]⟩)), none⟩,
    ⟨none, .panic (.t 7), none⟩]⟩])
  .skip))
  (.seq (.seq (.region [⟨none, [], [⟨(some 8), .mov (.t 1), none⟩,
    ⟨(some 9), .mov (.t 0), none⟩,
    ⟨(some 10), .bcap (.t 9), none⟩,
    ⟨(some 11), .mov (.t 0), none⟩,
    ⟨(some 12), .blen (.t 11), none⟩,
    ⟨(some 13), .bin .sub (.t 10) (.t 12), none⟩,
    ⟨(some 14), .bin .sub (.t 8) (.t 13), none⟩,
    ⟨(some 1), .mov (.t 14), none⟩]⟩])
  (.seq (.region [⟨none, [], [⟨(some 15), .mov (.t 1), none⟩,
    ⟨(some 16), .bin .gtr (.t 15) (.c (.int .i64 0)), none⟩]⟩])
  (.cond (.t 16) [0] (.region [⟨none, [], [⟨(some 17), .mov (.t 0), none⟩,
    ⟨(some 18), .mov (.t 0), none⟩,
    ⟨(some 19), .bcap (.t 18), none⟩,
    ⟨(some 20), .slc 1 (.t 17) none (some (.t 19)) none, none⟩,
    ⟨(some 21), .mov (.t 1), none⟩,
    ⟨(some 22), .appendZ 1 8 [(.int .i64 0)] (.t 20) (.t 21), none⟩,
    ⟨(some 23), .mov (.t 0), none⟩,
    ⟨(some 24), .blen (.t 23), none⟩,
    ⟨(some 25), .slc 1 (.t 22) none (some (.t 24)) none, none⟩,
    ⟨(some 0), .mov (.t 25), none⟩]⟩])
  .skip)))
  (.seq (.region [⟨none, [], [⟨(some 26), .mov (.t 0), none⟩,
    ⟨(some 4), .mov (.t 26), none⟩]⟩])
  .ret))))
def x27 : XFunc := ⟨27, [.tmp 4], y27.er⟩
noncomputable def s27_k14 (_ : CallT) (_ : Nat) (v13 : AVal) (A14 : AH) : Res :=
 .ret v13 A14
noncomputable def s27_k6 (call : CallT) (n : Nat) (v4 v5 : AVal) (A6 : AH) : Res :=
 bindO (apure [] (.bcap (.c v5))) fun v8 =>
 bindO (blenR v5) fun v9 =>
 bindO (subR v8 v9) fun v10 =>
 bindO (subR v4 v10) fun v11 =>
 bindO (gtrR v11 (.int .i64 0)) fun v12 =>
 joinV (s27_k14 call n) fun j15 => boolK (some v12) (
 bindO (apure [] (.bcap (.c v5))) fun v16 =>
 bindO (apure [] (.slc 1 (.c v5) none (some (.c v16)) none)) fun v17 =>
 bindP (achain [] A6 (.appendZ 1 8 [(.int .i64 0)] (.c v17) (.c v11))) fun v18 A19 =>
 bindO (blenR v5) fun v20 =>
 bindO (apure [] (.slc 1 (.c v18) none (some (.c v20)) none)) fun v21 =>
 j15 v21 A19) (
 j15 v5 A6)
noncomputable def s27_b (call : CallT) (n : Nat) (v0 v1 : AVal) (A2 : AH) : Res :=
 bindO (lssR v1 (.int .i64 0)) fun v3 =>
 joinV (s27_k6 call n) fun j7 => boolK (some v3) (
 bindO (apure [] (.mki 9 (.c (.str ⟨#[99, 97, 110, 110, 111, 116, 32, 98, 101, 32, 110, 101, 103, 97, 116, 105, 118, 101]⟩)))) fun v22 =>
 panK v22 A2) (
 j7 v1 v0 A2)
noncomputable def s27 (call : CallT) (n : Nat) (as : List AVal) (A : AH) : Res := apL 2 (s27_b call n) as A
theorem s27_eq (call : CallT) (n : Nat) (as : List AVal) (A : AH) : fnK call n 27 [.tmp 4] y27 2 as A = s27 call n as A := by kernel_rfl
/-- slices.insertionSortOrdered[int] -/
def y28 : YCode := (.seq (.region [⟨none, [], [⟨(some 8), .mov (.t 1), none⟩,
    ⟨(some 9), .bin .add (.t 8) (.c (.int .i64 1)), none⟩,
    ⟨(some 6), .mov (.t 9), none⟩]⟩])
  (.block 0 [] (.loop [6, 2, 1, 0] (.seq (.seq (.region [⟨none, [], [⟨(some 10), .mov (.t 6), none⟩,
    ⟨(some 11), .mov (.t 2), none⟩,
    ⟨(some 12), .bin .lss (.t 10) (.t 11), none⟩]⟩])
  (.cond (.t 12) [6, 1, 0, 2] .skip
  (.exit 0)))
  (.seq (.block 1 [6, 2, 1, 0] (.seq (.region [⟨none, [], [⟨(some 15), .mov (.t 6), none⟩,
    ⟨(some 7), .mov (.t 15), none⟩]⟩])
  (.block 2 [6, 2, 1, 0] (.loop [7, 1, 0, 6, 2] (.seq (.seq (.draw [⟨none, [], [⟨(some 16), .mov (.t 7), none⟩,
    ⟨(some 17), .mov (.t 1), none⟩,
    ⟨(some 18), .bin .gtr (.t 16) (.t 17), none⟩,
    ⟨(some 19), .mov (.t 18), none⟩]⟩,
   ⟨some (19, true), [29], [⟨(some 20), .mov (.t 0), some (19, true)⟩,
    ⟨(some 21), .mov (.t 7), some (19, true)⟩,
    ⟨(some 22), .idxs 1 (.t 20) (.t 21), some (19, true)⟩,
    ⟨(some 23), .load1 (.t 22), some (19, true)⟩,
    ⟨(some 24), .mov (.t 0), some (19, true)⟩,
    ⟨(some 25), .mov (.t 7), some (19, true)⟩,
    ⟨(some 26), .bin .sub (.t 25) (.c (.int .i64 1)), some (19, true)⟩,
    ⟨(some 27), .idxs 1 (.t 24) (.t 26), some (19, true)⟩,
    ⟨(some 28), .load1 (.t 27), some (19, true)⟩,
    ⟨(some 29), .call 34 [(.t 23), (.t 28)], some (19, true)⟩]⟩,
   ⟨none, [], [⟨(some 30), .pick (.t 19) (.t 29) (.c (.bool false)), none⟩]⟩] [] [])
  (.cond (.t 30) [0, 7, 1, 6, 2] .skip
  (.exit 2)))
  (.seq (.block 3 [7, 1, 0, 6, 2] (.draw [⟨none, [], [⟨(some 33), .mov (.t 0), none⟩,
    ⟨(some 34), .mov (.t 7), none⟩,
    ⟨(some 35), .mov (.t 0), none⟩,
    ⟨(some 36), .mov (.t 7), none⟩,
    ⟨(some 37), .bin .sub (.t 36) (.c (.int .i64 1)), none⟩,
    ⟨(some 38), .mov (.t 0), none⟩,
    ⟨(some 39), .mov (.t 7), none⟩,
    ⟨(some 40), .bin .sub (.t 39) (.c (.int .i64 1)), none⟩,
    ⟨(some 41), .idxs 1 (.t 38) (.t 40), none⟩,
    ⟨(some 42), .load1 (.t 41), none⟩,
    ⟨(some 43), .mov (.t 0), none⟩,
    ⟨(some 44), .mov (.t 7), none⟩,
    ⟨(some 45), .idxs 1 (.t 43) (.t 44), none⟩,
    ⟨(some 46), .load1 (.t 45), none⟩,
    ⟨(some 47), .idxs 1 (.t 33) (.t 34), none⟩,
    ⟨none, .store1 (.t 47) (.t 42), none⟩,
    ⟨(some 48), .idxs 1 (.t 35) (.t 37), none⟩,
    ⟨none, .store1 (.t 48) (.t 46), none⟩]⟩] [] []))
  (.region [⟨none, [], [⟨(some 31), .mov (.t 7), none⟩,
    ⟨(some 32), .bin .sub (.t 31) (.c (.int .i64 1)), none⟩,
    ⟨(some 7), .mov (.t 32), none⟩]⟩])))))))
  (.region [⟨none, [], [⟨(some 13), .mov (.t 6), none⟩,
    ⟨(some 14), .bin .add (.t 13) (.c (.int .i64 1)), none⟩,
    ⟨(some 6), .mov (.t 14), none⟩]⟩]))))))
def x28 : XFunc := ⟨49, [], y28.er⟩
noncomputable def s28_k5 (_ : CallT) (_ : Nat) (A5 : AH) : Res :=
 .ret (.tuple []) A5
noncomputable def s28_k24 (_ : CallT) (_ : Nat) (n12 : J4) (v20 v21 v22 v23 : AVal) (A24 : AH) : Res :=
 bindO (addR v20 (.int .i64 1)) fun v26 =>
 n12 v26 v21 v22 v23 A24
noncomputable def s28_k31 (_ : CallT) (_ : Nat) (j25 : J4) (v27 v28 v29 v30 : AVal) (A31 : AH) : Res :=
 j25 v27 v28 v29 v30 A31
noncomputable def s28_k59 (_ : CallT) (_ : Nat) (n39 : J5) (v54 v55 v56 v57 v58 : AVal) (A59 : AH) : Res :=
 bindO (subR v54 (.int .i64 1)) fun v61 =>
 n39 v61 v55 v56 v57 v58 A59
noncomputable def s28_k52 (call : CallT) (n : Nat) (n39 : J5) (v47 v48 v49 v50 v51 : AVal) (A52 : AH) : Res :=
 joinV (s28_k59 call n n39) fun j60 =>
 letA (A52.bump 18) fun A62 =>
 bindO (subR v48 (.int .i64 1)) fun v63 =>
 bindO (subR v48 (.int .i64 1)) fun v64 =>
 bindO (idxsR 1 v47 v64) fun v65 =>
 bindO (load1R A62 v65) fun v66 =>
 bindO (idxsR 1 v47 v48) fun v67 =>
 bindO (load1R A62 v67) fun v68 =>
 bindO (idxsR 1 v47 v48) fun v69 =>
 bindP (store1R A62 v69 v66) fun _ A71 =>
 bindO (idxsR 1 v47 v63) fun v72 =>
 bindP (store1R A71 v72 v68) fun _ A74 =>
 j60 v48 v49 v47 v50 v51 A74
noncomputable def s28_l38 (call : CallT) (n : Nat) (j32 : J4) (n39 : J5) (v33 v34 v35 v36 v37 : AVal) (A38 : AH) : Res :=
 letA (A38.bump 15) fun A40 =>
 bindO (gtrR v33 v34) fun v41 =>
 joinV (fun (v42 : AVal) (A43 : AH) (_ : AH) =>
 bindO (pickR v41 v42 (.bool false)) fun v46 =>
 joinV (s28_k52 call n n39) fun j53 => boolK (some v46) (
 j53 v35 v33 v34 v36 v37 A43) (
 j32 v36 v37 v34 v35 A43)) fun j44 => wantK v41 true (
 bindO (idxsR 1 v35 v33) fun v75 =>
 bindO (load1R A40 v75) fun v76 =>
 bindO (subR v33 (.int .i64 1)) fun v77 =>
 bindO (idxsR 1 v35 v77) fun v78 =>
 bindO (load1R A40 v78) fun v79 =>
 bindR (call 34 [v76, v79] A40) (fun v80 A81 =>
 j44 v80 A81 A40) fun u82 B83 => .pan u82 B83) (j44 (.tuple []) A40 A40)
noncomputable def s28_k18 (call : CallT) (n : Nat) (n12 : J4) (v14 v15 v16 v17 : AVal) (A18 : AH) : Res :=
 joinV (s28_k24 call n n12) fun j25 =>
 joinV (s28_k31 call n j25) fun j32 =>
 loopK zJ5 n (s28_l38 call n j32) v14 v15 v16 v14 v17 A18
noncomputable def s28_l11 (call : CallT) (n : Nat) (j6 : J0) (n12 : J4) (v7 v8 v9 v10 : AVal) (A11 : AH) : Res :=
 bindO (lssR v7 v8) fun v13 =>
 joinV (s28_k18 call n n12) fun j19 => boolK (some v13) (
 j19 v7 v9 v10 v8 A11) (
 j6 A11)
noncomputable def s28_b (call : CallT) (n : Nat) (v0 v1 v2 : AVal) (A3 : AH) : Res :=
 bindO (addR v1 (.int .i64 1)) fun v4 =>
 joinV (s28_k5 call n) fun j6 =>
 loopK zJ4 n (s28_l11 call n j6) v4 v2 v1 v0 A3
noncomputable def s28 (call : CallT) (n : Nat) (as : List AVal) (A : AH) : Res := apL 3 (s28_b call n) as A
theorem s28_eq (call : CallT) (n : Nat) (as : List AVal) (A : AH) : fnK call n 49 [] y28 3 as A = s28 call n as A := by kernel_rfl
/-- slices.heapSortOrdered[int] -/
def y29 : YCode := (.seq (.region [⟨none, [], [⟨(some 11), .mov (.t 1), none⟩,
    ⟨(some 6), .mov (.t 11), none⟩]⟩])
  (.seq (.region [⟨none, [], [⟨(some 7), .mov (.c (.int .i64 0)), none⟩]⟩])
  (.seq (.region [⟨none, [], [⟨(some 12), .mov (.t 2), none⟩,
    ⟨(some 13), .mov (.t 1), none⟩,
    ⟨(some 14), .bin .sub (.t 12) (.t 13), none⟩,
    ⟨(some 8), .mov (.t 14), none⟩]⟩])
  (.seq (.seq (.region [⟨none, [], [⟨(some 15), .mov (.t 8), none⟩,
    ⟨(some 16), .bin .sub (.t 15) (.c (.int .i64 1)), none⟩,
    ⟨(some 17), .bin .quo (.t 16) (.c (.int .i64 2)), none⟩,
    ⟨(some 9), .mov (.t 17), none⟩]⟩])
  (.block 0 [8, 0, 6, 7] (.loop [9, 0, 8, 6, 7] (.seq (.seq (.region [⟨none, [], [⟨(some 18), .mov (.t 9), none⟩,
    ⟨(some 19), .bin .geq (.t 18) (.c (.int .i64 0)), none⟩]⟩])
  (.cond (.t 19) [0, 9, 8, 6, 7] .skip
  (.exit 0)))
  (.seq (.block 1 [9, 0, 8, 6, 7] (.region [⟨none, [], [⟨(some 22), .mov (.t 0), none⟩,
    ⟨(some 23), .mov (.t 9), none⟩,
    ⟨(some 24), .mov (.t 8), none⟩,
    ⟨(some 25), .mov (.t 6), none⟩,
    ⟨(some 26), .call 40 [(.t 22), (.t 23), (.t 24), (.t 25)], none⟩]⟩]))
  (.region [⟨none, [], [⟨(some 20), .mov (.t 9), none⟩,
    ⟨(some 21), .bin .sub (.t 20) (.c (.int .i64 1)), none⟩,
    ⟨(some 9), .mov (.t 21), none⟩]⟩]))))))
  (.seq (.region [⟨none, [], [⟨(some 27), .mov (.t 8), none⟩,
    ⟨(some 28), .bin .sub (.t 27) (.c (.int .i64 1)), none⟩,
    ⟨(some 10), .mov (.t 28), none⟩]⟩])
  (.block 2 [] (.loop [10, 0, 6, 7] (.seq (.seq (.region [⟨none, [], [⟨(some 29), .mov (.t 10), none⟩,
    ⟨(some 30), .bin .geq (.t 29) (.c (.int .i64 0)), none⟩]⟩])
  (.cond (.t 30) [0, 6, 10, 7] .skip
  (.exit 2)))
  (.seq (.block 3 [10, 0, 6, 7] (.seq (.draw [⟨none, [], [⟨(some 33), .mov (.t 0), none⟩,
    ⟨(some 34), .mov (.t 6), none⟩,
    ⟨(some 35), .mov (.t 0), none⟩,
    ⟨(some 36), .mov (.t 6), none⟩,
    ⟨(some 37), .mov (.t 10), none⟩,
    ⟨(some 38), .bin .add (.t 36) (.t 37), none⟩,
    ⟨(some 39), .mov (.t 0), none⟩,
    ⟨(some 40), .mov (.t 6), none⟩,
    ⟨(some 41), .mov (.t 10), none⟩,
    ⟨(some 42), .bin .add (.t 40) (.t 41), none⟩,
    ⟨(some 43), .idxs 1 (.t 39) (.t 42), none⟩,
    ⟨(some 44), .load1 (.t 43), none⟩,
    ⟨(some 45), .mov (.t 0), none⟩,
    ⟨(some 46), .mov (.t 6), none⟩,
    ⟨(some 47), .idxs 1 (.t 45) (.t 46), none⟩,
    ⟨(some 48), .load1 (.t 47), none⟩,
    ⟨(some 49), .idxs 1 (.t 33) (.t 34), none⟩,
    ⟨none, .store1 (.t 49) (.t 44), none⟩,
    ⟨(some 50), .idxs 1 (.t 35) (.t 38), none⟩,
    ⟨none, .store1 (.t 50) (.t 48), none⟩]⟩] [] [])
  (.region [⟨none, [], [⟨(some 51), .mov (.t 0), none⟩,
    ⟨(some 52), .mov (.t 7), none⟩,
    ⟨(some 53), .mov (.t 10), none⟩,
    ⟨(some 54), .mov (.t 6), none⟩,
    ⟨(some 55), .call 40 [(.t 51), (.t 52), (.t 53), (.t 54)], none⟩]⟩])))
  (.region [⟨none, [], [⟨(some 31), .mov (.t 10), none⟩,
    ⟨(some 32), .bin .sub (.t 31) (.c (.int .i64 1)), none⟩,
    ⟨(some 10), .mov (.t 32), none⟩]⟩]))))))))))
def x29 : XFunc := ⟨56, [], y29.er⟩
noncomputable def s29_k14 (_ : CallT) (_ : Nat) (A14 : AH) : Res :=
 .ret (.tuple []) A14
noncomputable def s29_k33 (_ : CallT) (_ : Nat) (n21 : J4) (v29 v30 v31 v32 : AVal) (A33 : AH) : Res :=
 bindO (subR v29 (.int .i64 1)) fun v35 =>
 n21 v35 v30 v31 v32 A33
noncomputable def s29_k27 (call : CallT) (n : Nat) (n21 : J4) (v23 v24 v25 v26 : AVal) (A27 : AH) : Res :=
 joinV (s29_k33 call n n21) fun j34 =>
 letA (A27.bump 20) fun A36 =>
 bindO (addR v24 v25) fun v37 =>
 bindO (addR v24 v25) fun v38 =>
 bindO (idxsR 1 v23 v38) fun v39 =>
 bindO (load1R A36 v39) fun v40 =>
 bindO (idxsR 1 v23 v24) fun v41 =>
 bindO (load1R A36 v41) fun v42 =>
 bindO (idxsR 1 v23 v24) fun v43 =>
 bindP (store1R A36 v43 v40) fun _ A45 =>
 bindO (idxsR 1 v23 v37) fun v46 =>
 bindP (store1R A45 v46 v42) fun _ A48 =>
 bindR (call 40 [v23, v26, v25, v24] A48) (fun _ A50 =>
 j34 v25 v23 v24 v26 A50) fun u51 B52 => .pan u51 B52
noncomputable def s29_l20 (call : CallT) (n : Nat) (j15 : J0) (n21 : J4) (v16 v17 v18 v19 : AVal) (A20 : AH) : Res :=
 bindO (geqR v16 (.int .i64 0)) fun v22 =>
 joinV (s29_k27 call n n21) fun j28 => boolK (some v22) (
 j28 v17 v18 v16 v19 A20) (
 j15 A20)
noncomputable def s29_k11 (call : CallT) (n : Nat) (v7 v8 v9 v10 : AVal) (A11 : AH) : Res :=
 bindO (subR v7 (.int .i64 1)) fun v13 =>
 joinV (s29_k14 call n) fun j15 =>
 loopK zJ4 n (s29_l20 call n j15) v13 v8 v9 v10 A11
noncomputable def s29_k73 (_ : CallT) (_ : Nat) (n59 : J5) (v68 v69 v70 v71 v72 : AVal) (A73 : AH) : Res :=
 bindO (subR v68 (.int .i64 1)) fun v75 =>
 n59 v75 v69 v70 v71 v72 A73
noncomputable def s29_k66 (call : CallT) (n : Nat) (n59 : J5) (v61 v62 v63 v64 v65 : AVal) (A66 : AH) : Res :=
 joinV (s29_k73 call n n59) fun j74 =>
 bindR (call 40 [v61, v62, v63, v64] A66) (fun _ A77 =>
 j74 v62 v61 v63 v64 v65 A77) fun u78 B79 => .pan u78 B79
noncomputable def s29_l58 (call : CallT) (n : Nat) (j12 : J4) (n59 : J5) (v53 v54 v55 v56 v57 : AVal) (A58 : AH) : Res :=
 bindO (geqR v53 (.int .i64 0)) fun v60 =>
 joinV (s29_k66 call n n59) fun j67 => boolK (some v60) (
 j67 v54 v53 v55 v56 v57 A58) (
 j12 v55 v54 v56 v57 A58)
noncomputable def s29_b (call : CallT) (n : Nat) (v0 v1 v2 : AVal) (A3 : AH) : Res :=
 bindO (subR v2 v1) fun v4 =>
 bindO (subR v4 (.int .i64 1)) fun v5 =>
 bindO (abinR .quo v5 (.int .i64 2)) fun v6 =>
 joinV (s29_k11 call n) fun j12 =>
 loopK zJ5 n (s29_l58 call n j12) v6 v0 v4 v1 (.int .i64 0) A3
noncomputable def s29 (call : CallT) (n : Nat) (as : List AVal) (A : AH) : Res := apL 3 (s29_b call n) as A
theorem s29_eq (call : CallT) (n : Nat) (as : List AVal) (A : AH) : fnK call n 56 [] y29 3 as A = s29 call n as A := by kernel_rfl
/-- slices.breakPatternsOrdered[int] -/
def y30 : YCode := (.seq (.region [⟨none, [], [⟨(some 11), .mov (.t 2), none⟩,
    ⟨(some 12), .mov (.t 1), none⟩,
    ⟨(some 13), .bin .sub (.t 11) (.t 12), none⟩,
    ⟨(some 6), .mov (.t 13), none⟩]⟩])
  (.seq (.region [⟨none, [], [⟨(some 14), .mov (.t 6), none⟩,
    ⟨(some 15), .bin .geq (.t 14) (.c (.int .i64 8)), none⟩]⟩])
  (.cond (.t 15) [] (.seq (.region [⟨none, [], [⟨(some 16), .mov (.t 6), none⟩,
    ⟨(some 17), .cvi .u64 (.t 16), none⟩,
    ⟨(some 7), .alloc [(.int .u64 0)], none⟩,
    ⟨none, .store1 (.t 7) (.t 17), none⟩]⟩])
  (.seq (.region [⟨none, [], [⟨(some 18), .mov (.t 6), none⟩,
    ⟨(some 19), .call 41 [(.t 18)], none⟩,
    ⟨(some 8), .mov (.t 19), none⟩]⟩])
  (.seq (.region [⟨none, [], [⟨(some 20), .mov (.t 1), none⟩,
    ⟨(some 21), .mov (.t 6), none⟩,
    ⟨(some 22), .bin .quo (.t 21) (.c (.int .i64 4)), none⟩,
    ⟨(some 23), .bin .mul (.t 22) (.c (.int .i64 2)), none⟩,
    ⟨(some 24), .bin .add (.t 20) (.t 23), none⟩,
    ⟨(some 25), .bin .sub (.t 24) (.c (.int .i64 1)), none⟩,
    ⟨(some 9), .mov (.t 25), none⟩]⟩])
  (.block 0 [] (.loop [9, 1, 6, 7, 8, 0] (.seq (.seq (.region [⟨none, [], [⟨(some 26), .mov (.t 9), none⟩,
    ⟨(some 27), .mov (.t 1), none⟩,
    ⟨(some 28), .mov (.t 6), none⟩,
    ⟨(some 29), .bin .quo (.t 28) (.c (.int .i64 4)), none⟩,
    ⟨(some 30), .bin .mul (.t 29) (.c (.int .i64 2)), none⟩,
    ⟨(some 31), .bin .add (.t 27) (.t 30), none⟩,
    ⟨(some 32), .bin .add (.t 31) (.c (.int .i64 1)), none⟩,
    ⟨(some 33), .bin .leq (.t 26) (.t 32), none⟩]⟩])
  (.cond (.t 33) [7, 8, 6, 0, 9, 1] .skip
  (.exit 0)))
  (.seq (.block 1 [9, 1, 6, 7, 8, 0] (.seq (.region [⟨none, [], [⟨(some 36), .call 42 [(.t 7)], none⟩,
    ⟨(some 37), .mov (.t 8), none⟩,
    ⟨(some 38), .bin .sub (.t 37) (.c (.int .u64 1)), none⟩,
    ⟨(some 39), .bin .and (.t 36) (.t 38), none⟩,
    ⟨(some 40), .cvi .i64 (.t 39), none⟩,
    ⟨(some 10), .mov (.t 40), none⟩]⟩])
  (.seq (.seq (.region [⟨none, [], [⟨(some 41), .mov (.t 10), none⟩,
    ⟨(some 42), .mov (.t 6), none⟩,
    ⟨(some 43), .bin .geq (.t 41) (.t 42), none⟩]⟩])
  (.cond (.t 43) [0, 9, 1, 10, 6, 7, 8] (.region [⟨none, [], [⟨(some 44), .mov (.t 10), none⟩,
    ⟨(some 45), .mov (.t 6), none⟩,
    ⟨(some 46), .bin .sub (.t 44) (.t 45), none⟩,
    ⟨(some 10), .mov (.t 46), none⟩]⟩])
  .skip))
  (.draw [⟨none, [], [⟨(some 47), .mov (.t 0), none⟩,
    ⟨(some 48), .mov (.t 9), none⟩,
    ⟨(some 49), .mov (.t 0), none⟩,
    ⟨(some 50), .mov (.t 1), none⟩,
    ⟨(some 51), .mov (.t 10), none⟩,
    ⟨(some 52), .bin .add (.t 50) (.t 51), none⟩,
    ⟨(some 53), .mov (.t 0), none⟩,
    ⟨(some 54), .mov (.t 1), none⟩,
    ⟨(some 55), .mov (.t 10), none⟩,
    ⟨(some 56), .bin .add (.t 54) (.t 55), none⟩,
    ⟨(some 57), .idxs 1 (.t 53) (.t 56), none⟩,
    ⟨(some 58), .load1 (.t 57), none⟩,
    ⟨(some 59), .mov (.t 0), none⟩,
    ⟨(some 60), .mov (.t 9), none⟩,
    ⟨(some 61), .idxs 1 (.t 59) (.t 60), none⟩,
    ⟨(some 62), .load1 (.t 61), none⟩,
    ⟨(some 63), .idxs 1 (.t 47) (.t 48), none⟩,
    ⟨none, .store1 (.t 63) (.t 58), none⟩,
    ⟨(some 64), .idxs 1 (.t 49) (.t 52), none⟩,
    ⟨none, .store1 (.t 64) (.t 62), none⟩]⟩] [] []))))
  (.region [⟨none, [], [⟨(some 34), .mov (.t 9), none⟩,
    ⟨(some 35), .bin .add (.t 34) (.c (.int .i64 1)), none⟩,
    ⟨(some 9), .mov (.t 35), none⟩]⟩]))))))))
  .skip)))
def x30 : XFunc := ⟨65, [], y30.er⟩
noncomputable def s30_k6 (_ : CallT) (_ : Nat) (A6 : AH) : Res :=
 .ret (.tuple []) A6
noncomputable def s30_k23 (_ : CallT) (_ : Nat) (j7 : J0) (A23 : AH) : Res :=
 j7 A23
noncomputable def s30_k52 (_ : CallT) (_ : Nat) (n32 : J6) (v46 v47 v48 v49 v50 v51 : AVal) (A52 : AH) : Res :=
 bindO (addR v46 (.int .i64 1)) fun v54 =>
 n32 v54 v47 v48 v49 v50 v51 A52
noncomputable def s30_k70 (_ : CallT) (_ : Nat) (j53 : J6) (v63 v64 v65 v66 v67 v68 v69 : AVal) (A70 : AH) : Res :=
 letA (A70.bump 20) fun A72 =>
 bindO (addR v65 v66) fun v73 =>
 bindO (addR v65 v66) fun v74 =>
 bindO (idxsR 1 v63 v74) fun v75 =>
 bindO (load1R A72 v75) fun v76 =>
 bindO (idxsR 1 v63 v64) fun v77 =>
 bindO (load1R A72 v77) fun v78 =>
 bindO (idxsR 1 v63 v64) fun v79 =>
 bindP (store1R A72 v79 v76) fun _ A81 =>
 bindO (idxsR 1 v63 v73) fun v82 =>
 bindP (store1R A81 v82 v78) fun _ A84 =>
 j53 v64 v65 v67 v68 v69 v63 A84
noncomputable def s30_k44 (call : CallT) (n : Nat) (n32 : J6) (v38 v39 v40 v41 v42 v43 : AVal) (A44 : AH) : Res :=
 joinV (s30_k52 call n n32) fun j53 =>
 bindR (call 42 [v38] A44) (fun v55 A56 =>
 bindO (subR v39 (.int .u64 1)) fun v59 =>
 bindO (abinR .and v55 v59) fun v60 =>
 bindO (cviR .i64 v60) fun v61 =>
 bindO (geqR v61 v40) fun v62 =>
 joinV (s30_k70 call n j53) fun j71 => boolK (some v62) (
 bindO (subR v61 v40) fun v85 =>
 j71 v41 v42 v43 v85 v40 v38 v39 A56) (
 j71 v41 v42 v43 v61 v40 v38 v39 A56)) fun u57 B58 => .pan u57 B58
noncomputable def s30_l31 (call : CallT) (n : Nat) (j24 : J0) (n32 : J6) (v25 v26 v27 v28 v29 v30 : AVal) (A31 : AH) : Res :=
 bindO (abinR .quo v27 (.int .i64 4)) fun v33 =>
 bindO (mulR v33 (.int .i64 2)) fun v34 =>
 bindO (addR v26 v34) fun v35 =>
 bindO (addR v35 (.int .i64 1)) fun v36 =>
 bindO (leqR v25 v36) fun v37 =>
 joinV (s30_k44 call n n32) fun j45 => boolK (some v37) (
 j45 v28 v29 v27 v30 v25 v26 A31) (
 j24 A31)
noncomputable def s30_b (call : CallT) (n : Nat) (v0 v1 v2 : AVal) (A3 : AH) : Res :=
 bindO (subR v2 v1) fun v4 =>
 bindO (geqR v4 (.int .i64 8)) fun v5 =>
 joinV (s30_k6 call n) fun j7 => boolK (some v5) (
 bindO (cviR .u64 v4) fun v8 =>
 bindF (afree [] (.alloc [(.int .u64 0)])) fun x9 f10 => forceV (f10 (A3.next)) fun v12 => letA (newR A3 x9) fun A11 =>
 bindP (store1R A11 v12 v8) fun _ A14 =>
 bindR (call 41 [v4] A14) (fun v15 A16 =>
 bindO (abinR .quo v4 (.int .i64 4)) fun v19 =>
 bindO (mulR v19 (.int .i64 2)) fun v20 =>
 bindO (addR v1 v20) fun v21 =>
 bindO (subR v21 (.int .i64 1)) fun v22 =>
 joinV (s30_k23 call n j7) fun j24 =>
 loopK zJ6 n (s30_l31 call n j24) v22 v1 v4 v12 v15 v0 A16) fun u17 B18 => .pan u17 B18) (
 j7 A3)
noncomputable def s30 (call : CallT) (n : Nat) (as : List AVal) (A : AH) : Res := apL 3 (s30_b call n) as A
theorem s30_eq (call : CallT) (n : Nat) (as : List AVal) (A : AH) : fnK call n 65 [] y30 3 as A = s30 call n as A := by kernel_rfl
/-- slices.choosePivotOrdered[int] -/
def y31 : YCode := (.seq (.region [⟨none, [], [⟨(some 6), .mov (.c (.int .i64 0)), none⟩,
    ⟨(some 7), .mov (.c (.int .i64 0)), none⟩]⟩])
  (.seq (.region [⟨none, [], [⟨(some 13), .mov (.t 2), none⟩,
    ⟨(some 14), .mov (.t 1), none⟩,
    ⟨(some 15), .bin .sub (.t 13) (.t 14), none⟩,
    ⟨(some 8), .mov (.t 15), none⟩]⟩])
  (.seq (.region [⟨none, [], [⟨(some 9), .alloc [(.int .i64 0)], none⟩]⟩])
  (.seq (.region [⟨none, [], [⟨(some 16), .mov (.t 1), none⟩,
    ⟨(some 17), .mov (.t 8), none⟩,
    ⟨(some 18), .bin .quo (.t 17) (.c (.int .i64 4)), none⟩,
    ⟨(some 19), .bin .mul (.t 18) (.c (.int .i64 1)), none⟩,
    ⟨(some 20), .bin .add (.t 16) (.t 19), none⟩,
    ⟨(some 10), .mov (.t 20), none⟩]⟩])
  (.seq (.region [⟨none, [], [⟨(some 21), .mov (.t 1), none⟩,
    ⟨(some 22), .mov (.t 8), none⟩,
    ⟨(some 23), .bin .quo (.t 22) (.c (.int .i64 4)), none⟩,
    ⟨(some 24), .bin .mul (.t 23) (.c (.int .i64 2)), none⟩,
    ⟨(some 25), .bin .add (.t 21) (.t 24), none⟩,
    ⟨(some 11), .mov (.t 25), none⟩]⟩])
  (.seq (.region [⟨none, [], [⟨(some 26), .mov (.t 1), none⟩,
    ⟨(some 27), .mov (.t 8), none⟩,
    ⟨(some 28), .bin .quo (.t 27) (.c (.int .i64 4)), none⟩,
    ⟨(some 29), .bin .mul (.t 28) (.c (.int .i64 3)), none⟩,
    ⟨(some 30), .bin .add (.t 26) (.t 29), none⟩,
    ⟨(some 12), .mov (.t 30), none⟩]⟩])
  (.seq (.seq (.region [⟨none, [], [⟨(some 31), .mov (.t 8), none⟩,
    ⟨(some 32), .bin .geq (.t 31) (.c (.int .i64 8)), none⟩]⟩])
  (.cond (.t 32) [9, 11] (.seq (.seq (.region [⟨none, [], [⟨(some 33), .mov (.t 8), none⟩,
    ⟨(some 34), .bin .geq (.t 33) (.c (.int .i64 50)), none⟩]⟩])
  (.cond (.t 34) [0, 10, 11, 12, 9] (.seq (.region [⟨none, [], [⟨(some 35), .mov (.t 0), none⟩,
    ⟨(some 36), .mov (.t 10), none⟩,
    ⟨(some 37), .call 43 [(.t 35), (.t 36), (.t 9)], none⟩,
    ⟨(some 10), .mov (.t 37), none⟩]⟩])
  (.seq (.region [⟨none, [], [⟨(some 38), .mov (.t 0), none⟩,
    ⟨(some 39), .mov (.t 11), none⟩,
    ⟨(some 40), .call 43 [(.t 38), (.t 39), (.t 9)], none⟩,
    ⟨(some 11), .mov (.t 40), none⟩]⟩])
  (.region [⟨none, [], [⟨(some 41), .mov (.t 0), none⟩,
    ⟨(some 42), .mov (.t 12), none⟩,
    ⟨(some 43), .call 43 [(.t 41), (.t 42), (.t 9)], none⟩,
    ⟨(some 12), .mov (.t 43), none⟩]⟩])))
  .skip))
  (.region [⟨none, [], [⟨(some 44), .mov (.t 0), none⟩,
    ⟨(some 45), .mov (.t 10), none⟩,
    ⟨(some 46), .mov (.t 11), none⟩,
    ⟨(some 47), .mov (.t 12), none⟩,
    ⟨(some 48), .call 44 [(.t 44), (.t 45), (.t 46), (.t 47), (.t 9)], none⟩,
    ⟨(some 11), .mov (.t 48), none⟩]⟩]))
  .skip))
  (.seq (.region [⟨none, [], [⟨(some 49), .load1 (.t 9), none⟩]⟩])
  (.block 0 [6, 7] (.seq (.region [⟨none, [], [⟨(some 52), .bin .eql (.t 49) (.c (.int .i64 0)), none⟩,
    ⟨(some 51), .mov (.t 52), none⟩]⟩])
  (.cond (.t 51) [6, 7] (.seq (.region [⟨none, [], [⟨(some 53), .mov (.t 11), none⟩,
    ⟨(some 6), .mov (.t 53), none⟩,
    ⟨(some 7), .mov (.c (.int .i64 1)), none⟩]⟩])
  .ret)
  (.seq (.region [⟨none, [], [⟨(some 55), .bin .eql (.t 49) (.c (.int .i64 12)), none⟩,
    ⟨(some 54), .mov (.t 55), none⟩]⟩])
  (.cond (.t 54) [6, 7] (.seq (.region [⟨none, [], [⟨(some 56), .mov (.t 11), none⟩,
    ⟨(some 6), .mov (.t 56), none⟩,
    ⟨(some 7), .mov (.c (.int .i64 2)), none⟩]⟩])
  .ret)
  (.seq (.region [⟨none, [], [⟨(some 50), .mov (.t 11), none⟩,
    ⟨(some 6), .mov (.t 50), none⟩,
    ⟨(some 7), .mov (.c (.int .i64 0)), none⟩]⟩])
  .ret))))))))))))))
def x31 : XFunc := ⟨57, [.tmp 6, .tmp 7], y31.er⟩
noncomputable def s31_k26 (_ : CallT) (_ : Nat) (v24 v25 : AVal) (A26 : AH) : Res :=
 .ret (.tuple [v24, v25]) A26
noncomputable def s31_k31 (_ : CallT) (_ : Nat) (j27 : J2) (v29 v30 : AVal) (A31 : AH) : Res :=
 j27 v29 v30 A31
noncomputable def s31_k36 (_ : CallT) (_ : Nat) (j32 : J2) (v34 v35 : AVal) (A36 : AH) : Res :=
 j32 v34 v35 A36
noncomputable def s31_k21 (call : CallT) (n : Nat) (v19 v20 : AVal) (A21 : AH) : Res :=
 bindO (load1R A21 v19) fun v23 =>
 joinV (s31_k26 call n) fun j27 =>
 bindO (eqlR v23 (.int .i64 0)) fun v28 =>
 joinV (s31_k31 call n j27) fun j32 => boolK (some v28) (
 .ret (.tuple [v20, (.int .i64 1)]) A21) (
 bindO (eqlR v23 (.int .i64 12)) fun v33 =>
 joinV (s31_k36 call n j32) fun _ => boolK (some v33) (
 .ret (.tuple [v20, (.int .i64 2)]) A21) (
 .ret (.tuple [v20, (.int .i64 0)]) A21))
noncomputable def s31_k44 (call : CallT) (_ : Nat) (j22 : J2) (v39 v40 v41 v42 v43 : AVal) (A44 : AH) : Res :=
 bindR (call 44 [v39, v40, v41, v42, v43] A44) (fun v46 A47 =>
 j22 v43 v46 A47) fun u48 B49 => .pan u48 B49
noncomputable def s31_b (call : CallT) (n : Nat) (v0 v1 v2 : AVal) (A3 : AH) : Res :=
 bindO (subR v2 v1) fun v4 =>
 bindF (afree [] (.alloc [(.int .i64 0)])) fun x5 f6 => forceV (f6 (A3.next)) fun v8 => letA (newR A3 x5) fun A7 =>
 bindO (abinR .quo v4 (.int .i64 4)) fun v9 =>
 bindO (mulR v9 (.int .i64 1)) fun v10 =>
 bindO (addR v1 v10) fun v11 =>
 bindO (abinR .quo v4 (.int .i64 4)) fun v12 =>
 bindO (mulR v12 (.int .i64 2)) fun v13 =>
 bindO (addR v1 v13) fun v14 =>
 bindO (abinR .quo v4 (.int .i64 4)) fun v15 =>
 bindO (mulR v15 (.int .i64 3)) fun v16 =>
 bindO (addR v1 v16) fun v17 =>
 bindO (geqR v4 (.int .i64 8)) fun v18 =>
 joinV (s31_k21 call n) fun j22 => boolK (some v18) (
 bindO (geqR v4 (.int .i64 50)) fun v38 =>
 joinV (s31_k44 call n j22) fun j45 => boolK (some v38) (
 bindR (call 43 [v0, v11, v8] A7) (fun v50 A51 =>
 bindR (call 43 [v0, v14, v8] A51) (fun v54 A55 =>
 bindR (call 43 [v0, v17, v8] A55) (fun v58 A59 =>
 j45 v0 v50 v54 v58 v8 A59) fun u60 B61 => .pan u60 B61) fun u56 B57 => .pan u56 B57) fun u52 B53 => .pan u52 B53) (
 j45 v0 v11 v14 v17 v8 A7)) (
 j22 v8 v14 A7)
noncomputable def s31 (call : CallT) (n : Nat) (as : List AVal) (A : AH) : Res := apL 3 (s31_b call n) as A
theorem s31_eq (call : CallT) (n : Nat) (as : List AVal) (A : AH) : fnK call n 57 [.tmp 6, .tmp 7] y31 3 as A = s31 call n as A := by kernel_rfl
/-- slices.reverseRangeOrdered[int] -/
def y32 : YCode := (.seq (.region [⟨none, [], [⟨(some 8), .mov (.t 1), none⟩,
    ⟨(some 6), .mov (.t 8), none⟩]⟩])
  (.seq (.region [⟨none, [], [⟨(some 9), .mov (.t 2), none⟩,
    ⟨(some 10), .bin .sub (.t 9) (.c (.int .i64 1)), none⟩,
    ⟨(some 7), .mov (.t 10), none⟩]⟩])
  (.block 0 [] (.loop [6, 7, 0] (.seq (.seq (.region [⟨none, [], [⟨(some 11), .mov (.t 6), none⟩,
    ⟨(some 12), .mov (.t 7), none⟩,
    ⟨(some 13), .bin .lss (.t 11) (.t 12), none⟩]⟩])
  (.cond (.t 13) [0, 6, 7] .skip
  (.exit 0)))
  (.block 1 [6, 7, 0] (.seq (.draw [⟨none, [], [⟨(some 14), .mov (.t 0), none⟩,
    ⟨(some 15), .mov (.t 6), none⟩,
    ⟨(some 16), .mov (.t 0), none⟩,
    ⟨(some 17), .mov (.t 7), none⟩,
    ⟨(some 18), .mov (.t 0), none⟩,
    ⟨(some 19), .mov (.t 7), none⟩,
    ⟨(some 20), .idxs 1 (.t 18) (.t 19), none⟩,
    ⟨(some 21), .load1 (.t 20), none⟩,
    ⟨(some 22), .mov (.t 0), none⟩,
    ⟨(some 23), .mov (.t 6), none⟩,
    ⟨(some 24), .idxs 1 (.t 22) (.t 23), none⟩,
    ⟨(some 25), .load1 (.t 24), none⟩,
    ⟨(some 26), .idxs 1 (.t 14) (.t 15), none⟩,
    ⟨none, .store1 (.t 26) (.t 21), none⟩,
    ⟨(some 27), .idxs 1 (.t 16) (.t 17), none⟩,
    ⟨none, .store1 (.t 27) (.t 25), none⟩]⟩] [] [])
  (.seq (.region [⟨none, [], [⟨(some 28), .mov (.t 6), none⟩,
    ⟨(some 29), .bin .add (.t 28) (.c (.int .i64 1)), none⟩,
    ⟨(some 6), .mov (.t 29), none⟩]⟩])
  (.region [⟨none, [], [⟨(some 30), .mov (.t 7), none⟩,
    ⟨(some 31), .bin .sub (.t 30) (.c (.int .i64 1)), none⟩,
    ⟨(some 7), .mov (.t 31), none⟩]⟩])))))))))
def x32 : XFunc := ⟨32, [], y32.er⟩
noncomputable def s32_k5 (_ : CallT) (_ : Nat) (A5 : AH) : Res :=
 .ret (.tuple []) A5
noncomputable def s32_k21 (_ : CallT) (_ : Nat) (n11 : J3) (v18 v19 v20 : AVal) (A21 : AH) : Res :=
 n11 v18 v19 v20 A21
noncomputable def s32_k16 (call : CallT) (n : Nat) (n11 : J3) (v13 v14 v15 : AVal) (A16 : AH) : Res :=
 joinV (s32_k21 call n n11) fun j22 =>
 letA (A16.bump 16) fun A23 =>
 bindO (idxsR 1 v13 v15) fun v24 =>
 bindO (load1R A23 v24) fun v25 =>
 bindO (idxsR 1 v13 v14) fun v26 =>
 bindO (load1R A23 v26) fun v27 =>
 bindO (idxsR 1 v13 v14) fun v28 =>
 bindP (store1R A23 v28 v25) fun _ A30 =>
 bindO (idxsR 1 v13 v15) fun v31 =>
 bindP (store1R A30 v31 v27) fun _ A33 =>
 bindO (addR v14 (.int .i64 1)) fun v34 =>
 bindO (subR v15 (.int .i64 1)) fun v35 =>
 j22 v34 v35 v13 A33
noncomputable def s32_l10 (call : CallT) (n : Nat) (j6 : J0) (n11 : J3) (v7 v8 v9 : AVal) (A10 : AH) : Res :=
 bindO (lssR v7 v8) fun v12 =>
 joinV (s32_k16 call n n11) fun j17 => boolK (some v12) (
 j17 v9 v7 v8 A10) (
 j6 A10)
noncomputable def s32_b (call : CallT) (n : Nat) (v0 v1 v2 : AVal) (A3 : AH) : Res :=
 bindO (subR v2 (.int .i64 1)) fun v4 =>
 joinV (s32_k5 call n) fun j6 =>
 loopK zJ3 n (s32_l10 call n j6) v1 v4 v0 A3
noncomputable def s32 (call : CallT) (n : Nat) (as : List AVal) (A : AH) : Res := apL 3 (s32_b call n) as A
theorem s32_eq (call : CallT) (n : Nat) (as : List AVal) (A : AH) : fnK call n 32 [] y32 3 as A = s32 call n as A := by kernel_rfl
/-- slices.partialInsertionSortOrdered[int] -/
def y33 : YCode := (.seq (.region [⟨none, [], [⟨(some 6), .mov (.c (.bool false)), none⟩]⟩])
  (.seq (.region [⟨none, [], [⟨(some 11), .mov (.t 1), none⟩,
    ⟨(some 12), .bin .add (.t 11) (.c (.int .i64 1)), none⟩,
    ⟨(some 7), .mov (.t 12), none⟩]⟩])
  (.seq (.seq (.region [⟨none, [], [⟨(some 8), .mov (.c (.int .i64 0)), none⟩]⟩])
  (.block 0 [] (.loop [8, 7, 2, 0, 1] (.seq (.seq (.region [⟨none, [], [⟨(some 13), .mov (.t 8), none⟩,
    ⟨(some 14), .bin .lss (.t 13) (.c (.int .i64 5)), none⟩]⟩])
  (.cond (.t 14) [7, 2, 0, 1, 8] .skip
  (.exit 0)))
  (.seq (.block 1 [8, 7, 2, 0, 1] (.seq (.block 2 [7, 2, 1, 0, 8] (.loop [7, 2, 0, 1, 8] (.seq (.seq (.draw [⟨none, [], [⟨(some 17), .mov (.t 7), none⟩,
    ⟨(some 18), .mov (.t 2), none⟩,
    ⟨(some 19), .bin .lss (.t 17) (.t 18), none⟩,
    ⟨(some 20), .mov (.t 19), none⟩]⟩,
   ⟨some (20, true), [31], [⟨(some 21), .mov (.t 0), some (20, true)⟩,
    ⟨(some 22), .mov (.t 7), some (20, true)⟩,
    ⟨(some 23), .idxs 1 (.t 21) (.t 22), some (20, true)⟩,
    ⟨(some 24), .load1 (.t 23), some (20, true)⟩,
    ⟨(some 25), .mov (.t 0), some (20, true)⟩,
    ⟨(some 26), .mov (.t 7), some (20, true)⟩,
    ⟨(some 27), .bin .sub (.t 26) (.c (.int .i64 1)), some (20, true)⟩,
    ⟨(some 28), .idxs 1 (.t 25) (.t 27), some (20, true)⟩,
    ⟨(some 29), .load1 (.t 28), some (20, true)⟩,
    ⟨(some 30), .call 34 [(.t 24), (.t 29)], some (20, true)⟩,
    ⟨(some 31), .un .not (.t 30), some (20, true)⟩]⟩,
   ⟨none, [], [⟨(some 32), .pick (.t 20) (.t 31) (.c (.bool false)), none⟩]⟩] [] [])
  (.cond (.t 32) [7, 2, 0, 1, 8] .skip
  (.exit 2)))
  (.block 3 [7, 2, 0, 1, 8] (.region [⟨none, [], [⟨(some 33), .mov (.t 7), none⟩,
    ⟨(some 34), .bin .add (.t 33) (.c (.int .i64 1)), none⟩,
    ⟨(some 7), .mov (.t 34), none⟩]⟩])))))
  (.seq (.seq (.region [⟨none, [], [⟨(some 35), .mov (.t 7), none⟩,
    ⟨(some 36), .mov (.t 2), none⟩,
    ⟨(some 37), .bin .eql (.t 35) (.t 36), none⟩]⟩])
  (.cond (.t 37) [2, 1, 0, 7, 8] (.seq (.region [⟨none, [], [⟨(some 6), .mov (.c (.bool true)), none⟩]⟩])
  .ret)
  .skip))
  (.seq (.seq (.region [⟨none, [], [⟨(some 38), .mov (.t 2), none⟩,
    ⟨(some 39), .mov (.t 1), none⟩,
    ⟨(some 40), .bin .sub (.t 38) (.t 39), none⟩,
    ⟨(some 41), .bin .lss (.t 40) (.c (.int .i64 50)), none⟩]⟩])
  (.cond (.t 41) [0, 7, 1, 2, 8] (.seq (.region [⟨none, [], [⟨(some 6), .mov (.c (.bool false)), none⟩]⟩])
  .ret)
  .skip))
  (.seq (.draw [⟨none, [], [⟨(some 42), .mov (.t 0), none⟩,
    ⟨(some 43), .mov (.t 7), none⟩,
    ⟨(some 44), .mov (.t 0), none⟩,
    ⟨(some 45), .mov (.t 7), none⟩,
    ⟨(some 46), .bin .sub (.t 45) (.c (.int .i64 1)), none⟩,
    ⟨(some 47), .mov (.t 0), none⟩,
    ⟨(some 48), .mov (.t 7), none⟩,
    ⟨(some 49), .bin .sub (.t 48) (.c (.int .i64 1)), none⟩,
    ⟨(some 50), .idxs 1 (.t 47) (.t 49), none⟩,
    ⟨(some 51), .load1 (.t 50), none⟩,
    ⟨(some 52), .mov (.t 0), none⟩,
    ⟨(some 53), .mov (.t 7), none⟩,
    ⟨(some 54), .idxs 1 (.t 52) (.t 53), none⟩,
    ⟨(some 55), .load1 (.t 54), none⟩,
    ⟨(some 56), .idxs 1 (.t 42) (.t 43), none⟩,
    ⟨none, .store1 (.t 56) (.t 51), none⟩,
    ⟨(some 57), .idxs 1 (.t 44) (.t 46), none⟩,
    ⟨none, .store1 (.t 57) (.t 55), none⟩]⟩] [] [])
  (.cut [7, 1, 0, 2, 8] (.seq (.seq (.region [⟨none, [], [⟨(some 58), .mov (.t 7), none⟩,
    ⟨(some 59), .mov (.t 1), none⟩,
    ⟨(some 60), .bin .sub (.t 58) (.t 59), none⟩,
    ⟨(some 61), .bin .geq (.t 60) (.c (.int .i64 2)), none⟩]⟩])
  (.cond (.t 61) [2, 7, 0, 8, 1] (.seq (.region [⟨none, [], [⟨(some 62), .mov (.t 7), none⟩,
    ⟨(some 63), .bin .sub (.t 62) (.c (.int .i64 1)), none⟩,
    ⟨(some 9), .mov (.t 63), none⟩]⟩])
  (.block 4 [2, 7, 0, 8, 1] (.loop [9, 0, 2, 7, 8, 1] (.seq (.seq (.region [⟨none, [], [⟨(some 64), .mov (.t 9), none⟩,
    ⟨(some 65), .bin .geq (.t 64) (.c (.int .i64 1)), none⟩]⟩])
  (.cond (.t 65) [0, 9, 2, 7, 8, 1] .skip
  (.exit 4)))
  (.seq (.block 5 [9, 0, 2, 7, 8, 1] (.seq (.seq (.draw [⟨none, [], [⟨(some 68), .mov (.t 0), none⟩,
    ⟨(some 69), .mov (.t 9), none⟩,
    ⟨(some 70), .idxs 1 (.t 68) (.t 69), none⟩,
    ⟨(some 71), .load1 (.t 70), none⟩,
    ⟨(some 72), .mov (.t 0), none⟩,
    ⟨(some 73), .mov (.t 9), none⟩,
    ⟨(some 74), .bin .sub (.t 73) (.c (.int .i64 1)), none⟩,
    ⟨(some 75), .idxs 1 (.t 72) (.t 74), none⟩,
    ⟨(some 76), .load1 (.t 75), none⟩,
    ⟨(some 77), .call 34 [(.t 71), (.t 76)], none⟩,
    ⟨(some 78), .un .not (.t 77), none⟩]⟩] [] [])
  (.cond (.t 78) [0, 9, 2, 7, 8, 1] (.exit 4)
  .skip))
  (.draw [⟨none, [], [⟨(some 79), .mov (.t 0), none⟩,
    ⟨(some 80), .mov (.t 9), none⟩,
    ⟨(some 81), .mov (.t 0), none⟩,
    ⟨(some 82), .mov (.t 9), none⟩,
    ⟨(some 83), .bin .sub (.t 82) (.c (.int .i64 1)), none⟩,
    ⟨(some 84), .mov (.t 0), none⟩,
    ⟨(some 85), .mov (.t 9), none⟩,
    ⟨(some 86), .bin .sub (.t 85) (.c (.int .i64 1)), none⟩,
    ⟨(some 87), .idxs 1 (.t 84) (.t 86), none⟩,
    ⟨(some 88), .load1 (.t 87), none⟩,
    ⟨(some 89), .mov (.t 0), none⟩,
    ⟨(some 90), .mov (.t 9), none⟩,
    ⟨(some 91), .idxs 1 (.t 89) (.t 90), none⟩,
    ⟨(some 92), .load1 (.t 91), none⟩,
    ⟨(some 93), .idxs 1 (.t 79) (.t 80), none⟩,
    ⟨none, .store1 (.t 93) (.t 88), none⟩,
    ⟨(some 94), .idxs 1 (.t 81) (.t 83), none⟩,
    ⟨none, .store1 (.t 94) (.t 92), none⟩]⟩] [] [])))
  (.region [⟨none, [], [⟨(some 66), .mov (.t 9), none⟩,
    ⟨(some 67), .bin .sub (.t 66) (.c (.int .i64 1)), none⟩,
    ⟨(some 9), .mov (.t 67), none⟩]⟩]))))))
  .skip))
  (.seq (.region [⟨none, [], [⟨(some 95), .mov (.t 2), none⟩,
    ⟨(some 96), .mov (.t 7), none⟩,
    ⟨(some 97), .bin .sub (.t 95) (.t 96), none⟩,
    ⟨(some 98), .bin .geq (.t 97) (.c (.int .i64 2)), none⟩]⟩])
  (.cond (.t 98) [8, 7, 2, 0, 1] (.seq (.region [⟨none, [], [⟨(some 99), .mov (.t 7), none⟩,
    ⟨(some 100), .bin .add (.t 99) (.c (.int .i64 1)), none⟩,
    ⟨(some 10), .mov (.t 100), none⟩]⟩])
  (.block 6 [8, 7, 2, 0, 1] (.loop [10, 2, 0, 8, 7, 1] (.seq (.seq (.region [⟨none, [], [⟨(some 101), .mov (.t 10), none⟩,
    ⟨(some 102), .mov (.t 2), none⟩,
    ⟨(some 103), .bin .lss (.t 101) (.t 102), none⟩]⟩])
  (.cond (.t 103) [0, 10, 8, 7, 2, 1] .skip
  (.exit 6)))
  (.seq (.block 7 [10, 2, 0, 8, 7, 1] (.seq (.seq (.draw [⟨none, [], [⟨(some 106), .mov (.t 0), none⟩,
    ⟨(some 107), .mov (.t 10), none⟩,
    ⟨(some 108), .idxs 1 (.t 106) (.t 107), none⟩,
    ⟨(some 109), .load1 (.t 108), none⟩,
    ⟨(some 110), .mov (.t 0), none⟩,
    ⟨(some 111), .mov (.t 10), none⟩,
    ⟨(some 112), .bin .sub (.t 111) (.c (.int .i64 1)), none⟩,
    ⟨(some 113), .idxs 1 (.t 110) (.t 112), none⟩,
    ⟨(some 114), .load1 (.t 113), none⟩,
    ⟨(some 115), .call 34 [(.t 109), (.t 114)], none⟩,
    ⟨(some 116), .un .not (.t 115), none⟩]⟩] [] [])
  (.cond (.t 116) [0, 10, 2, 8, 7, 1] (.exit 6)
  .skip))
  (.draw [⟨none, [], [⟨(some 117), .mov (.t 0), none⟩,
    ⟨(some 118), .mov (.t 10), none⟩,
    ⟨(some 119), .mov (.t 0), none⟩,
    ⟨(some 120), .mov (.t 10), none⟩,
    ⟨(some 121), .bin .sub (.t 120) (.c (.int .i64 1)), none⟩,
    ⟨(some 122), .mov (.t 0), none⟩,
    ⟨(some 123), .mov (.t 10), none⟩,
    ⟨(some 124), .bin .sub (.t 123) (.c (.int .i64 1)), none⟩,
    ⟨(some 125), .idxs 1 (.t 122) (.t 124), none⟩,
    ⟨(some 126), .load1 (.t 125), none⟩,
    ⟨(some 127), .mov (.t 0), none⟩,
    ⟨(some 128), .mov (.t 10), none⟩,
    ⟨(some 129), .idxs 1 (.t 127) (.t 128), none⟩,
    ⟨(some 130), .load1 (.t 129), none⟩,
    ⟨(some 131), .idxs 1 (.t 117) (.t 118), none⟩,
    ⟨none, .store1 (.t 131) (.t 126), none⟩,
    ⟨(some 132), .idxs 1 (.t 119) (.t 121), none⟩,
    ⟨none, .store1 (.t 132) (.t 130), none⟩]⟩] [] [])))
  (.region [⟨none, [], [⟨(some 104), .mov (.t 10), none⟩,
    ⟨(some 105), .bin .add (.t 104) (.c (.int .i64 1)), none⟩,
    ⟨(some 10), .mov (.t 105), none⟩]⟩]))))))
  .skip)))))))))
  (.region [⟨none, [], [⟨(some 15), .mov (.t 8), none⟩,
    ⟨(some 16), .bin .add (.t 15) (.c (.int .i64 1)), none⟩,
    ⟨(some 8), .mov (.t 16), none⟩]⟩]))))))
  (.seq (.region [⟨none, [], [⟨(some 6), .mov (.c (.bool false)), none⟩]⟩])
  .ret))))
def x33 : XFunc := ⟨133, [.tmp 6], y33.er⟩
noncomputable def s33_k5 (_ : CallT) (_ : Nat) (A5 : AH) : Res :=
 .ret (.bool false) A5
noncomputable def s33_k27 (_ : CallT) (_ : Nat) (n13 : J5) (v22 v23 v24 v25 v26 : AVal) (A27 : AH) : Res :=
 bindO (addR v22 (.int .i64 1)) fun v29 =>
 n13 v29 v23 v24 v25 v26 A27
noncomputable def s33_k90 (_ : CallT) (_ : Nat) (j28 : J5) (v85 v86 v87 v88 v89 : AVal) (A90 : AH) : Res :=
 j28 v85 v86 v87 v88 v89 A90
noncomputable def s33_k98 (_ : CallT) (_ : Nat) (j91 : J5) (v93 v94 v95 v96 v97 : AVal) (A98 : AH) : Res :=
 j91 v93 v94 v95 v96 v97 A98
noncomputable def s33_k123 (_ : CallT) (_ : Nat) (n107 : J6) (v117 v118 v119 v120 v121 v122 : AVal) (A123 : AH) : Res :=
 bindO (addR v117 (.int .i64 1)) fun v125 =>
 n107 v125 v118 v119 v120 v121 v122 A123
noncomputable def s33_k143 (_ : CallT) (_ : Nat) (j124 : J6) (v137 v138 v139 v140 v141 v142 : AVal) (A143 : AH) : Res :=
 letA (A143.bump 18) fun A145 =>
 bindO (subR v138 (.int .i64 1)) fun v146 =>
 bindO (subR v138 (.int .i64 1)) fun v147 =>
 bindO (idxsR 1 v137 v147) fun v148 =>
 bindO (load1R A145 v148) fun v149 =>
 bindO (idxsR 1 v137 v138) fun v150 =>
 bindO (load1R A145 v150) fun v151 =>
 bindO (idxsR 1 v137 v138) fun v152 =>
 bindP (store1R A145 v152 v149) fun _ A154 =>
 bindO (idxsR 1 v137 v146) fun v155 =>
 bindP (store1R A154 v155 v151) fun _ A157 =>
 j124 v138 v139 v137 v140 v141 v142 A157
noncomputable def s33_k115 (call : CallT) (n : Nat) (n107 : J6) (j99 : J5) (v109 v110 v111 v112 v113 v114 : AVal) (A115 : AH) : Res :=
 joinV (s33_k123 call n n107) fun j124 =>
 letA (A115.bump 11) fun A126 =>
 bindO (idxsR 1 v109 v110) fun v127 =>
 bindO (load1R A126 v127) fun v128 =>
 bindO (subR v110 (.int .i64 1)) fun v129 =>
 bindO (idxsR 1 v109 v129) fun v130 =>
 bindO (load1R A126 v130) fun v131 =>
 bindR (call 34 [v128, v131] A126) (fun v132 A133 =>
 bindO (notR v132) fun v136 =>
 joinV (s33_k143 call n j124) fun j144 => boolK (some v136) (
 j99 v111 v112 v113 v109 v114 A133) (
 j144 v109 v110 v113 v111 v112 v114 A133)) fun u134 B135 => .pan u134 B135
noncomputable def s33_l106 (call : CallT) (n : Nat) (j99 : J5) (n107 : J6) (v100 v101 v102 v103 v104 v105 : AVal) (A106 : AH) : Res :=
 bindO (lssR v100 v101) fun v108 =>
 joinV (s33_k115 call n n107 j99) fun j116 => boolK (some v108) (
 j116 v102 v100 v103 v104 v101 v105 A106) (
 j99 v103 v104 v101 v102 v105 A106)
noncomputable def s33_k81 (call : CallT) (n : Nat) (j28 : J5) (v76 v77 v78 v79 v80 : AVal) (A81 : AH) : Res :=
 bindO (subR v76 v77) fun v83 =>
 bindO (geqR v83 (.int .i64 2)) fun v84 =>
 joinV (s33_k90 call n j28) fun j91 => boolK (some v84) (
 bindO (addR v77 (.int .i64 1)) fun v92 =>
 joinV (s33_k98 call n j91) fun j99 =>
 loopK zJ6 n (s33_l106 call n j99) v92 v76 v78 v79 v77 v80 A81) (
 j91 v79 v77 v76 v78 v80 A81)
noncomputable def s33_k164 (_ : CallT) (_ : Nat) (j82 : J5) (v159 v160 v161 v162 v163 : AVal) (A164 : AH) : Res :=
 j82 v159 v160 v161 v162 v163 A164
noncomputable def s33_k189 (_ : CallT) (_ : Nat) (n173 : J6) (v183 v184 v185 v186 v187 v188 : AVal) (A189 : AH) : Res :=
 bindO (subR v183 (.int .i64 1)) fun v191 =>
 n173 v191 v184 v185 v186 v187 v188 A189
noncomputable def s33_k209 (_ : CallT) (_ : Nat) (j190 : J6) (v203 v204 v205 v206 v207 v208 : AVal) (A209 : AH) : Res :=
 letA (A209.bump 18) fun A211 =>
 bindO (subR v204 (.int .i64 1)) fun v212 =>
 bindO (subR v204 (.int .i64 1)) fun v213 =>
 bindO (idxsR 1 v203 v213) fun v214 =>
 bindO (load1R A211 v214) fun v215 =>
 bindO (idxsR 1 v203 v204) fun v216 =>
 bindO (load1R A211 v216) fun v217 =>
 bindO (idxsR 1 v203 v204) fun v218 =>
 bindP (store1R A211 v218 v215) fun _ A220 =>
 bindO (idxsR 1 v203 v212) fun v221 =>
 bindP (store1R A220 v221 v217) fun _ A223 =>
 j190 v204 v203 v205 v206 v207 v208 A223
noncomputable def s33_k181 (call : CallT) (n : Nat) (n173 : J6) (j165 : J5) (v175 v176 v177 v178 v179 v180 : AVal) (A181 : AH) : Res :=
 joinV (s33_k189 call n n173) fun j190 =>
 letA (A181.bump 11) fun A192 =>
 bindO (idxsR 1 v175 v176) fun v193 =>
 bindO (load1R A192 v193) fun v194 =>
 bindO (subR v176 (.int .i64 1)) fun v195 =>
 bindO (idxsR 1 v175 v195) fun v196 =>
 bindO (load1R A192 v196) fun v197 =>
 bindR (call 34 [v194, v197] A192) (fun v198 A199 =>
 bindO (notR v198) fun v202 =>
 joinV (s33_k209 call n j190) fun j210 => boolK (some v202) (
 j165 v177 v178 v175 v179 v180 A199) (
 j210 v175 v176 v177 v178 v179 v180 A199)) fun u200 B201 => .pan u200 B201
noncomputable def s33_l172 (call : CallT) (n : Nat) (j165 : J5) (n173 : J6) (v166 v167 v168 v169 v170 v171 : AVal) (A172 : AH) : Res :=
 bindO (geqR v166 (.int .i64 1)) fun v174 =>
 joinV (s33_k181 call n n173 j165) fun j182 => boolK (some v174) (
 j182 v167 v166 v168 v169 v170 v171 A172) (
 j165 v168 v169 v167 v170 v171 A172)
noncomputable def s33_c72 (call : CallT) (n : Nat) (j28 : J5) (v67 v68 v69 v70 v71 : AVal) (A72 : AH) : Res :=
 bindO (subR v67 v68) fun v74 =>
 bindO (geqR v74 (.int .i64 2)) fun v75 =>
 joinV (s33_k81 call n j28) fun j82 => boolK (some v75) (
 bindO (subR v67 (.int .i64 1)) fun v158 =>
 joinV (s33_k164 call n j82) fun j165 =>
 loopK zJ6 n (s33_l172 call n j165) v158 v69 v70 v67 v71 v68 A72) (
 j82 v70 v67 v69 v71 v68 A72)
noncomputable def s33_k52 (call : CallT) (n : Nat) (j28 : J5) (v47 v48 v49 v50 v51 : AVal) (A52 : AH) : Res :=
 letA (A52.bump 18) fun A54 =>
 bindO (subR v48 (.int .i64 1)) fun v55 =>
 bindO (subR v48 (.int .i64 1)) fun v56 =>
 bindO (idxsR 1 v47 v56) fun v57 =>
 bindO (load1R A54 v57) fun v58 =>
 bindO (idxsR 1 v47 v48) fun v59 =>
 bindO (load1R A54 v59) fun v60 =>
 bindO (idxsR 1 v47 v48) fun v61 =>
 bindP (store1R A54 v61 v58) fun _ A63 =>
 bindO (idxsR 1 v47 v55) fun v64 =>
 bindP (store1R A63 v64 v60) fun _ A66 =>
 joinV (s33_c72 call n j28) fun j73 => j73 v48 v49 v47 v50 v51 A66
noncomputable def s33_k43 (call : CallT) (n : Nat) (j28 : J5) (v38 v39 v40 v41 v42 : AVal) (A43 : AH) : Res :=
 bindO (subR v38 v39) fun v45 =>
 bindO (lssR v45 (.int .i64 50)) fun v46 =>
 joinV (s33_k52 call n j28) fun j53 => boolK (some v46) (
 .ret (.bool false) A43) (
 j53 v40 v41 v39 v38 v42 A43)
noncomputable def s33_k35 (call : CallT) (n : Nat) (j28 : J5) (v30 v31 v32 v33 v34 : AVal) (A35 : AH) : Res :=
 bindO (eqlR v30 v31) fun v37 =>
 joinV (s33_k43 call n j28) fun j44 => boolK (some v37) (
 .ret (.bool true) A35) (
 j44 v31 v32 v33 v30 v34 A35)
noncomputable def s33_k250 (_ : CallT) (_ : Nat) (n230 : J5) (v245 v246 v247 v248 v249 : AVal) (A250 : AH) : Res :=
 n230 v245 v246 v247 v248 v249 A250
noncomputable def s33_k243 (call : CallT) (n : Nat) (n230 : J5) (v238 v239 v240 v241 v242 : AVal) (A243 : AH) : Res :=
 joinV (s33_k250 call n n230) fun j251 =>
 bindO (addR v238 (.int .i64 1)) fun v252 =>
 j251 v252 v239 v240 v241 v242 A243
noncomputable def s33_l229 (call : CallT) (n : Nat) (j36 : J5) (n230 : J5) (v224 v225 v226 v227 v228 : AVal) (A229 : AH) : Res :=
 letA (A229.bump 16) fun A231 =>
 bindO (lssR v224 v225) fun v232 =>
 joinV (fun (v233 : AVal) (A234 : AH) (_ : AH) =>
 bindO (pickR v232 v233 (.bool false)) fun v237 =>
 joinV (s33_k243 call n n230) fun j244 => boolK (some v237) (
 j244 v224 v225 v226 v227 v228 A234) (
 j36 v224 v225 v227 v226 v228 A234)) fun j235 => wantK v232 true (
 bindO (idxsR 1 v226 v224) fun v253 =>
 bindO (load1R A231 v253) fun v254 =>
 bindO (subR v224 (.int .i64 1)) fun v255 =>
 bindO (idxsR 1 v226 v255) fun v256 =>
 bindO (load1R A231 v256) fun v257 =>
 bindR (call 34 [v254, v257] A231) (fun v258 A259 =>
 bindO (notR v258) fun v262 =>
 j235 v262 A259 A231) fun u260 B261 => .pan u260 B261) (j235 (.tuple []) A231 A231)
noncomputable def s33_k20 (call : CallT) (n : Nat) (n13 : J5) (v15 v16 v17 v18 v19 : AVal) (A20 : AH) : Res :=
 joinV (s33_k27 call n n13) fun j28 =>
 joinV (s33_k35 call n j28) fun j36 =>
 loopK zJ5 n (s33_l229 call n j36) v15 v16 v17 v18 v19 A20
noncomputable def s33_l12 (call : CallT) (n : Nat) (j6 : J0) (n13 : J5) (v7 v8 v9 v10 v11 : AVal) (A12 : AH) : Res :=
 bindO (lssR v7 (.int .i64 5)) fun v14 =>
 joinV (s33_k20 call n n13) fun j21 => boolK (some v14) (
 j21 v8 v9 v10 v11 v7 A12) (
 j6 A12)
noncomputable def s33_b (call : CallT) (n : Nat) (v0 v1 v2 : AVal) (A3 : AH) : Res :=
 bindO (addR v1 (.int .i64 1)) fun v4 =>
 joinV (s33_k5 call n) fun j6 =>
 loopK zJ5 n (s33_l12 call n j6) (.int .i64 0) v4 v2 v0 v1 A3
noncomputable def s33 (call : CallT) (n : Nat) (as : List AVal) (A : AH) : Res := apL 3 (s33_b call n) as A
theorem s33_eq (call : CallT) (n : Nat) (as : List AVal) (A : AH) : fnK call n 133 [.tmp 6] y33 3 as A = s33 call n as A := by kernel_rfl
/-- cmp.Less[int] -/
def y34 : YCode := (.seq (.region [⟨none, [], [⟨(some 4), .mov (.c (.bool false)), none⟩]⟩])
  (.seq (.region [⟨none, [], [⟨(some 5), .mov (.t 0), none⟩,
    ⟨(some 6), .call 16 [(.t 5)], none⟩,
    ⟨(some 7), .mov (.t 6), none⟩]⟩,
   ⟨some (7, true), [10], [⟨(some 8), .mov (.t 1), some (7, true)⟩,
    ⟨(some 9), .call 16 [(.t 8)], some (7, true)⟩,
    ⟨(some 10), .un .not (.t 9), some (7, true)⟩]⟩,
   ⟨none, [], [⟨(some 11), .pick (.t 7) (.t 10) (.c (.bool false)), none⟩,
    ⟨(some 12), .mov (.t 11), none⟩]⟩,
   ⟨some (12, false), [15], [⟨(some 13), .mov (.t 0), some (12, false)⟩,
    ⟨(some 14), .mov (.t 1), some (12, false)⟩,
    ⟨(some 15), .bin .lss (.t 13) (.t 14), some (12, false)⟩]⟩,
   ⟨none, [], [⟨(some 16), .pick (.t 12) (.c (.bool true)) (.t 15), none⟩,
    ⟨(some 4), .mov (.t 16), none⟩]⟩])
  .ret))
def x34 : XFunc := ⟨17, [.tmp 4], y34.er⟩
noncomputable def s34_b (call : CallT) (_ : Nat) (v0 v1 : AVal) (A2 : AH) : Res :=
 bindR (call 16 [v0] A2) (fun v3 A4 =>
 joinV (fun (v7 : AVal) (A8 : AH) =>
 bindO (pickR v3 v7 (.bool false)) fun v10 =>
 joinV (fun (v11 : AVal) (A12 : AH) =>
 bindO (pickR v10 (.bool true) v11) fun v14 =>
 .ret v14 A12) fun j13 => wantK v10 false (
 bindO (lssR v0 v1) fun v15 =>
 j13 v15 A8) (j13 (.tuple []) A8)) fun j9 => wantK v3 true (
 bindR (call 16 [v1] A4) (fun v16 A17 =>
 bindO (notR v16) fun v20 =>
 j9 v20 A17) fun u18 B19 => .pan u18 B19) (j9 (.tuple []) A4)) fun u5 B6 => .pan u5 B6
noncomputable def s34 (call : CallT) (n : Nat) (as : List AVal) (A : AH) : Res := apL 2 (s34_b call n) as A
theorem s34_eq (call : CallT) (n : Nat) (as : List AVal) (A : AH) : fnK call n 17 [.tmp 4] y34 2 as A = s34 call n as A := by kernel_rfl
/-- slices.partitionEqualOrdered[int] -/
def y35 : YCode := (.seq (.region [⟨none, [], [⟨(some 8), .mov (.c (.int .i64 0)), none⟩]⟩])
  (.seq (.draw [⟨none, [], [⟨(some 11), .mov (.t 0), none⟩,
    ⟨(some 12), .mov (.t 1), none⟩,
    ⟨(some 13), .mov (.t 0), none⟩,
    ⟨(some 14), .mov (.t 3), none⟩,
    ⟨(some 15), .mov (.t 0), none⟩,
    ⟨(some 16), .mov (.t 3), none⟩,
    ⟨(some 17), .idxs 1 (.t 15) (.t 16), none⟩,
    ⟨(some 18), .load1 (.t 17), none⟩,
    ⟨(some 19), .mov (.t 0), none⟩,
    ⟨(some 20), .mov (.t 1), none⟩,
    ⟨(some 21), .idxs 1 (.t 19) (.t 20), none⟩,
    ⟨(some 22), .load1 (.t 21), none⟩,
    ⟨(some 23), .idxs 1 (.t 11) (.t 12), none⟩,
    ⟨none, .store1 (.t 23) (.t 18), none⟩,
    ⟨(some 24), .idxs 1 (.t 13) (.t 14), none⟩,
    ⟨none, .store1 (.t 24) (.t 22), none⟩]⟩] [] [])
  (.cut [1, 2, 0] (.seq (.region [⟨none, [], [⟨(some 25), .mov (.t 1), none⟩,
    ⟨(some 26), .bin .add (.t 25) (.c (.int .i64 1)), none⟩,
    ⟨(some 27), .mov (.t 2), none⟩,
    ⟨(some 28), .bin .sub (.t 27) (.c (.int .i64 1)), none⟩,
    ⟨(some 9), .mov (.t 26), none⟩,
    ⟨(some 10), .mov (.t 28), none⟩]⟩])
  (.seq (.block 0 [9] (.loop [9, 10, 0, 1] (.block 1 [9, 10, 0, 1] (.seq (.block 2 [9, 10, 0, 1] (.loop [9, 10, 0, 1] (.seq (.seq (.draw [⟨none, [], [⟨(some 29), .mov (.t 9), none⟩,
    ⟨(some 30), .mov (.t 10), none⟩,
    ⟨(some 31), .bin .leq (.t 29) (.t 30), none⟩,
    ⟨(some 32), .mov (.t 31), none⟩]⟩,
   ⟨some (32, true), [42], [⟨(some 33), .mov (.t 0), some (32, true)⟩,
    ⟨(some 34), .mov (.t 1), some (32, true)⟩,
    ⟨(some 35), .idxs 1 (.t 33) (.t 34), some (32, true)⟩,
    ⟨(some 36), .load1 (.t 35), some (32, true)⟩,
    ⟨(some 37), .mov (.t 0), some (32, true)⟩,
    ⟨(some 38), .mov (.t 9), some (32, true)⟩,
    ⟨(some 39), .idxs 1 (.t 37) (.t 38), some (32, true)⟩,
    ⟨(some 40), .load1 (.t 39), some (32, true)⟩,
    ⟨(some 41), .call 34 [(.t 36), (.t 40)], some (32, true)⟩,
    ⟨(some 42), .un .not (.t 41), some (32, true)⟩]⟩,
   ⟨none, [], [⟨(some 43), .pick (.t 32) (.t 42) (.c (.bool false)), none⟩]⟩] [] [])
  (.cond (.t 43) [9, 10, 0, 1] .skip
  (.exit 2)))
  (.block 3 [9, 10, 0, 1] (.region [⟨none, [], [⟨(some 44), .mov (.t 9), none⟩,
    ⟨(some 45), .bin .add (.t 44) (.c (.int .i64 1)), none⟩,
    ⟨(some 9), .mov (.t 45), none⟩]⟩])))))
  (.seq (.block 4 [9, 10, 0, 1] (.loop [9, 10, 0, 1] (.seq (.seq (.draw [⟨none, [], [⟨(some 46), .mov (.t 9), none⟩,
    ⟨(some 47), .mov (.t 10), none⟩,
    ⟨(some 48), .bin .leq (.t 46) (.t 47), none⟩,
    ⟨(some 49), .mov (.t 48), none⟩]⟩,
   ⟨some (49, true), [58], [⟨(some 50), .mov (.t 0), some (49, true)⟩,
    ⟨(some 51), .mov (.t 1), some (49, true)⟩,
    ⟨(some 52), .idxs 1 (.t 50) (.t 51), some (49, true)⟩,
    ⟨(some 53), .load1 (.t 52), some (49, true)⟩,
    ⟨(some 54), .mov (.t 0), some (49, true)⟩,
    ⟨(some 55), .mov (.t 10), some (49, true)⟩,
    ⟨(some 56), .idxs 1 (.t 54) (.t 55), some (49, true)⟩,
    ⟨(some 57), .load1 (.t 56), some (49, true)⟩,
    ⟨(some 58), .call 34 [(.t 53), (.t 57)], some (49, true)⟩]⟩,
   ⟨none, [], [⟨(some 59), .pick (.t 49) (.t 58) (.c (.bool false)), none⟩]⟩] [] [])
  (.cond (.t 59) [10, 9, 0, 1] .skip
  (.exit 4)))
  (.block 5 [9, 10, 0, 1] (.region [⟨none, [], [⟨(some 60), .mov (.t 10), none⟩,
    ⟨(some 61), .bin .sub (.t 60) (.c (.int .i64 1)), none⟩,
    ⟨(some 10), .mov (.t 61), none⟩]⟩])))))
  (.seq (.seq (.region [⟨none, [], [⟨(some 62), .mov (.t 9), none⟩,
    ⟨(some 63), .mov (.t 10), none⟩,
    ⟨(some 64), .bin .gtr (.t 62) (.t 63), none⟩]⟩])
  (.cond (.t 64) [0, 9, 10, 1] (.exit 0)
  .skip))
  (.seq (.draw [⟨none, [], [⟨(some 65), .mov (.t 0), none⟩,
    ⟨(some 66), .mov (.t 9), none⟩,
    ⟨(some 67), .mov (.t 0), none⟩,
    ⟨(some 68), .mov (.t 10), none⟩,
    ⟨(some 69), .mov (.t 0), none⟩,
    ⟨(some 70), .mov (.t 10), none⟩,
    ⟨(some 71), .idxs 1 (.t 69) (.t 70), none⟩,
    ⟨(some 72), .load1 (.t 71), none⟩,
    ⟨(some 73), .mov (.t 0), none⟩,
    ⟨(some 74), .mov (.t 9), none⟩,
    ⟨(some 75), .idxs 1 (.t 73) (.t 74), none⟩,
    ⟨(some 76), .load1 (.t 75), none⟩,
    ⟨(some 77), .idxs 1 (.t 65) (.t 66), none⟩,
    ⟨none, .store1 (.t 77) (.t 72), none⟩,
    ⟨(some 78), .idxs 1 (.t 67) (.t 68), none⟩,
    ⟨none, .store1 (.t 78) (.t 76), none⟩]⟩] [] [])
  (.seq (.region [⟨none, [], [⟨(some 79), .mov (.t 9), none⟩,
    ⟨(some 80), .bin .add (.t 79) (.c (.int .i64 1)), none⟩,
    ⟨(some 9), .mov (.t 80), none⟩]⟩])
  (.region [⟨none, [], [⟨(some 81), .mov (.t 10), none⟩,
    ⟨(some 82), .bin .sub (.t 81) (.c (.int .i64 1)), none⟩,
    ⟨(some 10), .mov (.t 82), none⟩]⟩])))))))))
  (.seq (.region [⟨none, [], [⟨(some 83), .mov (.t 9), none⟩,
    ⟨(some 8), .mov (.t 83), none⟩]⟩])
  .ret))))))
def x35 : XFunc := ⟨84, [.tmp 8], y35.er⟩
noncomputable def s35_k24 (_ : CallT) (_ : Nat) (v23 : AVal) (A24 : AH) : Res :=
 .ret v23 A24
noncomputable def s35_k36 (_ : CallT) (_ : Nat) (n31 : J4) (v32 v33 v34 v35 : AVal) (A36 : AH) : Res :=
 n31 v32 v33 v34 v35 A36
noncomputable def s35_k55 (_ : CallT) (_ : Nat) (j37 : J4) (v51 v52 v53 v54 : AVal) (A55 : AH) : Res :=
 letA (A55.bump 16) fun A57 =>
 bindO (idxsR 1 v51 v53) fun v58 =>
 bindO (load1R A57 v58) fun v59 =>
 bindO (idxsR 1 v51 v52) fun v60 =>
 bindO (load1R A57 v60) fun v61 =>
 bindO (idxsR 1 v51 v52) fun v62 =>
 bindP (store1R A57 v62 v59) fun _ A64 =>
 bindO (idxsR 1 v51 v53) fun v65 =>
 bindP (store1R A64 v65 v61) fun _ A67 =>
 bindO (addR v52 (.int .i64 1)) fun v68 =>
 bindO (subR v53 (.int .i64 1)) fun v69 =>
 j37 v68 v69 v51 v54 A67
noncomputable def s35_k48 (call : CallT) (n : Nat) (j37 : J4) (j25 : J1) (v44 v45 v46 v47 : AVal) (A48 : AH) : Res :=
 bindO (gtrR v44 v45) fun v50 =>
 joinV (s35_k55 call n j37) fun j56 => boolK (some v50) (
 j25 v44 A48) (
 j56 v46 v44 v45 v47 A48)
noncomputable def s35_k93 (_ : CallT) (_ : Nat) (n75 : J4) (v89 v90 v91 v92 : AVal) (A93 : AH) : Res :=
 n75 v89 v90 v91 v92 A93
noncomputable def s35_k87 (call : CallT) (n : Nat) (n75 : J4) (v83 v84 v85 v86 : AVal) (A87 : AH) : Res :=
 joinV (s35_k93 call n n75) fun j94 =>
 bindO (subR v83 (.int .i64 1)) fun v95 =>
 j94 v84 v95 v85 v86 A87
noncomputable def s35_l74 (call : CallT) (n : Nat) (j49 : J4) (n75 : J4) (v70 v71 v72 v73 : AVal) (A74 : AH) : Res :=
 letA (A74.bump 14) fun A76 =>
 bindO (leqR v70 v71) fun v77 =>
 joinV (fun (v78 : AVal) (A79 : AH) (_ : AH) =>
 bindO (pickR v77 v78 (.bool false)) fun v82 =>
 joinV (s35_k87 call n n75) fun j88 => boolK (some v82) (
 j88 v71 v70 v72 v73 A79) (
 j49 v70 v71 v72 v73 A79)) fun j80 => wantK v77 true (
 bindO (idxsR 1 v72 v73) fun v96 =>
 bindO (load1R A76 v96) fun v97 =>
 bindO (idxsR 1 v72 v71) fun v98 =>
 bindO (load1R A76 v98) fun v99 =>
 bindR (call 34 [v97, v99] A76) (fun v100 A101 =>
 j80 v100 A101 A76) fun u102 B103 => .pan u102 B103) (j80 (.tuple []) A76 A76)
noncomputable def s35_k42 (call : CallT) (n : Nat) (j37 : J4) (j25 : J1) (v38 v39 v40 v41 : AVal) (A42 : AH) : Res :=
 joinV (s35_k48 call n j37 j25) fun j49 =>
 loopK zJ4 n (s35_l74 call n j49) v38 v39 v40 v41 A42
noncomputable def s35_k127 (_ : CallT) (_ : Nat) (n109 : J4) (v123 v124 v125 v126 : AVal) (A127 : AH) : Res :=
 n109 v123 v124 v125 v126 A127
noncomputable def s35_k121 (call : CallT) (n : Nat) (n109 : J4) (v117 v118 v119 v120 : AVal) (A121 : AH) : Res :=
 joinV (s35_k127 call n n109) fun j128 =>
 bindO (addR v117 (.int .i64 1)) fun v129 =>
 j128 v129 v118 v119 v120 A121
noncomputable def s35_l108 (call : CallT) (n : Nat) (j43 : J4) (n109 : J4) (v104 v105 v106 v107 : AVal) (A108 : AH) : Res :=
 letA (A108.bump 15) fun A110 =>
 bindO (leqR v104 v105) fun v111 =>
 joinV (fun (v112 : AVal) (A113 : AH) (_ : AH) =>
 bindO (pickR v111 v112 (.bool false)) fun v116 =>
 joinV (s35_k121 call n n109) fun j122 => boolK (some v116) (
 j122 v104 v105 v106 v107 A113) (
 j43 v104 v105 v106 v107 A113)) fun j114 => wantK v111 true (
 bindO (idxsR 1 v106 v107) fun v130 =>
 bindO (load1R A110 v130) fun v131 =>
 bindO (idxsR 1 v106 v104) fun v132 =>
 bindO (load1R A110 v132) fun v133 =>
 bindR (call 34 [v131, v133] A110) (fun v134 A135 =>
 bindO (notR v134) fun v138 =>
 j114 v138 A135 A110) fun u136 B137 => .pan u136 B137) (j114 (.tuple []) A110 A110)
noncomputable def s35_l30 (call : CallT) (n : Nat) (j25 : J1) (n31 : J4) (v26 v27 v28 v29 : AVal) (A30 : AH) : Res :=
 joinV (s35_k36 call n n31) fun j37 =>
 joinV (s35_k42 call n j37 j25) fun j43 =>
 loopK zJ4 n (s35_l108 call n j43) v26 v27 v28 v29 A30
noncomputable def s35_c19 (call : CallT) (n : Nat) (v16 v17 v18 : AVal) (A19 : AH) : Res :=
 bindO (addR v16 (.int .i64 1)) fun v21 =>
 bindO (subR v17 (.int .i64 1)) fun v22 =>
 joinV (s35_k24 call n) fun j25 =>
 loopK zJ4 n (s35_l30 call n j25) v21 v22 v18 v16 A19
noncomputable def s35_b (call : CallT) (n : Nat) (v0 v1 v2 v3 : AVal) (A4 : AH) : Res :=
 letA (A4.bump 16) fun A5 =>
 bindO (idxsR 1 v0 v3) fun v6 =>
 bindO (load1R A5 v6) fun v7 =>
 bindO (idxsR 1 v0 v1) fun v8 =>
 bindO (load1R A5 v8) fun v9 =>
 bindO (idxsR 1 v0 v1) fun v10 =>
 bindP (store1R A5 v10 v7) fun _ A12 =>
 bindO (idxsR 1 v0 v3) fun v13 =>
 bindP (store1R A12 v13 v9) fun _ A15 =>
 joinV (s35_c19 call n) fun j20 => j20 v1 v2 v0 A15
noncomputable def s35 (call : CallT) (n : Nat) (as : List AVal) (A : AH) : Res := apL 4 (s35_b call n) as A
theorem s35_eq (call : CallT) (n : Nat) (as : List AVal) (A : AH) : fnK call n 84 [.tmp 8] y35 4 as A = s35 call n as A := by kernel_rfl
/-- slices.partitionOrdered[int] -/
def y36 : YCode := (.seq (.region [⟨none, [], [⟨(some 8), .mov (.c (.int .i64 0)), none⟩,
    ⟨(some 9), .mov (.c (.bool false)), none⟩]⟩])
  (.seq (.draw [⟨none, [], [⟨(some 12), .mov (.t 0), none⟩,
    ⟨(some 13), .mov (.t 1), none⟩,
    ⟨(some 14), .mov (.t 0), none⟩,
    ⟨(some 15), .mov (.t 3), none⟩,
    ⟨(some 16), .mov (.t 0), none⟩,
    ⟨(some 17), .mov (.t 3), none⟩,
    ⟨(some 18), .idxs 1 (.t 16) (.t 17), none⟩,
    ⟨(some 19), .load1 (.t 18), none⟩,
    ⟨(some 20), .mov (.t 0), none⟩,
    ⟨(some 21), .mov (.t 1), none⟩,
    ⟨(some 22), .idxs 1 (.t 20) (.t 21), none⟩,
    ⟨(some 23), .load1 (.t 22), none⟩,
    ⟨(some 24), .idxs 1 (.t 12) (.t 13), none⟩,
    ⟨none, .store1 (.t 24) (.t 19), none⟩,
    ⟨(some 25), .idxs 1 (.t 14) (.t 15), none⟩,
    ⟨none, .store1 (.t 25) (.t 23), none⟩]⟩] [] [])
  (.cut [1, 2, 0] (.seq (.region [⟨none, [], [⟨(some 26), .mov (.t 1), none⟩,
    ⟨(some 27), .bin .add (.t 26) (.c (.int .i64 1)), none⟩,
    ⟨(some 28), .mov (.t 2), none⟩,
    ⟨(some 29), .bin .sub (.t 28) (.c (.int .i64 1)), none⟩,
    ⟨(some 10), .mov (.t 27), none⟩,
    ⟨(some 11), .mov (.t 29), none⟩]⟩])
  (.seq (.block 0 [10, 11, 0, 1] (.loop [10, 11, 0, 1] (.seq (.seq (.draw [⟨none, [], [⟨(some 30), .mov (.t 10), none⟩,
    ⟨(some 31), .mov (.t 11), none⟩,
    ⟨(some 32), .bin .leq (.t 30) (.t 31), none⟩,
    ⟨(some 33), .mov (.t 32), none⟩]⟩,
   ⟨some (33, true), [42], [⟨(some 34), .mov (.t 0), some (33, true)⟩,
    ⟨(some 35), .mov (.t 10), some (33, true)⟩,
    ⟨(some 36), .idxs 1 (.t 34) (.t 35), some (33, true)⟩,
    ⟨(some 37), .load1 (.t 36), some (33, true)⟩,
    ⟨(some 38), .mov (.t 0), some (33, true)⟩,
    ⟨(some 39), .mov (.t 1), some (33, true)⟩,
    ⟨(some 40), .idxs 1 (.t 38) (.t 39), some (33, true)⟩,
    ⟨(some 41), .load1 (.t 40), some (33, true)⟩,
    ⟨(some 42), .call 34 [(.t 37), (.t 41)], some (33, true)⟩]⟩,
   ⟨none, [], [⟨(some 43), .pick (.t 33) (.t 42) (.c (.bool false)), none⟩]⟩] [] [])
  (.cond (.t 43) [10, 11, 0, 1] .skip
  (.exit 0)))
  (.block 1 [10, 11, 0, 1] (.region [⟨none, [], [⟨(some 44), .mov (.t 10), none⟩,
    ⟨(some 45), .bin .add (.t 44) (.c (.int .i64 1)), none⟩,
    ⟨(some 10), .mov (.t 45), none⟩]⟩])))))
  (.seq (.block 2 [10, 11, 0, 1] (.loop [10, 11, 0, 1] (.seq (.seq (.draw [⟨none, [], [⟨(some 46), .mov (.t 10), none⟩,
    ⟨(some 47), .mov (.t 11), none⟩,
    ⟨(some 48), .bin .leq (.t 46) (.t 47), none⟩,
    ⟨(some 49), .mov (.t 48), none⟩]⟩,
   ⟨some (49, true), [59], [⟨(some 50), .mov (.t 0), some (49, true)⟩,
    ⟨(some 51), .mov (.t 11), some (49, true)⟩,
    ⟨(some 52), .idxs 1 (.t 50) (.t 51), some (49, true)⟩,
    ⟨(some 53), .load1 (.t 52), some (49, true)⟩,
    ⟨(some 54), .mov (.t 0), some (49, true)⟩,
    ⟨(some 55), .mov (.t 1), some (49, true)⟩,
    ⟨(some 56), .idxs 1 (.t 54) (.t 55), some (49, true)⟩,
    ⟨(some 57), .load1 (.t 56), some (49, true)⟩,
    ⟨(some 58), .call 34 [(.t 53), (.t 57)], some (49, true)⟩,
    ⟨(some 59), .un .not (.t 58), some (49, true)⟩]⟩,
   ⟨none, [], [⟨(some 60), .pick (.t 49) (.t 59) (.c (.bool false)), none⟩]⟩] [] [])
  (.cond (.t 60) [11, 10, 0, 1] .skip
  (.exit 2)))
  (.block 3 [10, 11, 0, 1] (.region [⟨none, [], [⟨(some 61), .mov (.t 11), none⟩,
    ⟨(some 62), .bin .sub (.t 61) (.c (.int .i64 1)), none⟩,
    ⟨(some 11), .mov (.t 62), none⟩]⟩])))))
  (.seq (.seq (.region [⟨none, [], [⟨(some 63), .mov (.t 10), none⟩,
    ⟨(some 64), .mov (.t 11), none⟩,
    ⟨(some 65), .bin .gtr (.t 63) (.t 64), none⟩]⟩])
  (.cond (.t 65) [0, 10, 11, 1] (.seq (.draw [⟨none, [], [⟨(some 66), .mov (.t 0), none⟩,
    ⟨(some 67), .mov (.t 11), none⟩,
    ⟨(some 68), .mov (.t 0), none⟩,
    ⟨(some 69), .mov (.t 1), none⟩,
    ⟨(some 70), .mov (.t 0), none⟩,
    ⟨(some 71), .mov (.t 1), none⟩,
    ⟨(some 72), .idxs 1 (.t 70) (.t 71), none⟩,
    ⟨(some 73), .load1 (.t 72), none⟩,
    ⟨(some 74), .mov (.t 0), none⟩,
    ⟨(some 75), .mov (.t 11), none⟩,
    ⟨(some 76), .idxs 1 (.t 74) (.t 75), none⟩,
    ⟨(some 77), .load1 (.t 76), none⟩,
    ⟨(some 78), .idxs 1 (.t 66) (.t 67), none⟩,
    ⟨none, .store1 (.t 78) (.t 73), none⟩,
    ⟨(some 79), .idxs 1 (.t 68) (.t 69), none⟩,
    ⟨none, .store1 (.t 79) (.t 77), none⟩]⟩] [] [])
  (.seq (.region [⟨none, [], [⟨(some 80), .mov (.t 11), none⟩,
    ⟨(some 8), .mov (.t 80), none⟩,
    ⟨(some 9), .mov (.c (.bool true)), none⟩]⟩])
  .ret))
  .skip))
  (.seq (.draw [⟨none, [], [⟨(some 81), .mov (.t 0), none⟩,
    ⟨(some 82), .mov (.t 10), none⟩,
    ⟨(some 83), .mov (.t 0), none⟩,
    ⟨(some 84), .mov (.t 11), none⟩,
    ⟨(some 85), .mov (.t 0), none⟩,
    ⟨(some 86), .mov (.t 11), none⟩,
    ⟨(some 87), .idxs 1 (.t 85) (.t 86), none⟩,
    ⟨(some 88), .load1 (.t 87), none⟩,
    ⟨(some 89), .mov (.t 0), none⟩,
    ⟨(some 90), .mov (.t 10), none⟩,
    ⟨(some 91), .idxs 1 (.t 89) (.t 90), none⟩,
    ⟨(some 92), .load1 (.t 91), none⟩,
    ⟨(some 93), .idxs 1 (.t 81) (.t 82), none⟩,
    ⟨none, .store1 (.t 93) (.t 88), none⟩,
    ⟨(some 94), .idxs 1 (.t 83) (.t 84), none⟩,
    ⟨none, .store1 (.t 94) (.t 92), none⟩]⟩] [] [])
  (.seq (.region [⟨none, [], [⟨(some 95), .mov (.t 10), none⟩,
    ⟨(some 96), .bin .add (.t 95) (.c (.int .i64 1)), none⟩,
    ⟨(some 10), .mov (.t 96), none⟩]⟩])
  (.seq (.region [⟨none, [], [⟨(some 97), .mov (.t 11), none⟩,
    ⟨(some 98), .bin .sub (.t 97) (.c (.int .i64 1)), none⟩,
    ⟨(some 11), .mov (.t 98), none⟩]⟩])
  (.seq (.block 4 [0, 11, 1] (.loop [10, 11, 0, 1] (.block 5 [10, 11, 0, 1] (.seq (.block 6 [10, 11, 0, 1] (.loop [10, 11, 0, 1] (.seq (.seq (.draw [⟨none, [], [⟨(some 99), .mov (.t 10), none⟩,
    ⟨(some 100), .mov (.t 11), none⟩,
    ⟨(some 101), .bin .leq (.t 99) (.t 100), none⟩,
    ⟨(some 102), .mov (.t 101), none⟩]⟩,
   ⟨some (102, true), [111], [⟨(some 103), .mov (.t 0), some (102, true)⟩,
    ⟨(some 104), .mov (.t 10), some (102, true)⟩,
    ⟨(some 105), .idxs 1 (.t 103) (.t 104), some (102, true)⟩,
    ⟨(some 106), .load1 (.t 105), some (102, true)⟩,
    ⟨(some 107), .mov (.t 0), some (102, true)⟩,
    ⟨(some 108), .mov (.t 1), some (102, true)⟩,
    ⟨(some 109), .idxs 1 (.t 107) (.t 108), some (102, true)⟩,
    ⟨(some 110), .load1 (.t 109), some (102, true)⟩,
    ⟨(some 111), .call 34 [(.t 106), (.t 110)], some (102, true)⟩]⟩,
   ⟨none, [], [⟨(some 112), .pick (.t 102) (.t 111) (.c (.bool false)), none⟩]⟩] [] [])
  (.cond (.t 112) [10, 11, 0, 1] .skip
  (.exit 6)))
  (.block 7 [10, 11, 0, 1] (.region [⟨none, [], [⟨(some 113), .mov (.t 10), none⟩,
    ⟨(some 114), .bin .add (.t 113) (.c (.int .i64 1)), none⟩,
    ⟨(some 10), .mov (.t 114), none⟩]⟩])))))
  (.seq (.block 8 [10, 11, 0, 1] (.loop [10, 11, 0, 1] (.seq (.seq (.draw [⟨none, [], [⟨(some 115), .mov (.t 10), none⟩,
    ⟨(some 116), .mov (.t 11), none⟩,
    ⟨(some 117), .bin .leq (.t 115) (.t 116), none⟩,
    ⟨(some 118), .mov (.t 117), none⟩]⟩,
   ⟨some (118, true), [128], [⟨(some 119), .mov (.t 0), some (118, true)⟩,
    ⟨(some 120), .mov (.t 11), some (118, true)⟩,
    ⟨(some 121), .idxs 1 (.t 119) (.t 120), some (118, true)⟩,
    ⟨(some 122), .load1 (.t 121), some (118, true)⟩,
    ⟨(some 123), .mov (.t 0), some (118, true)⟩,
    ⟨(some 124), .mov (.t 1), some (118, true)⟩,
    ⟨(some 125), .idxs 1 (.t 123) (.t 124), some (118, true)⟩,
    ⟨(some 126), .load1 (.t 125), some (118, true)⟩,
    ⟨(some 127), .call 34 [(.t 122), (.t 126)], some (118, true)⟩,
    ⟨(some 128), .un .not (.t 127), some (118, true)⟩]⟩,
   ⟨none, [], [⟨(some 129), .pick (.t 118) (.t 128) (.c (.bool false)), none⟩]⟩] [] [])
  (.cond (.t 129) [11, 10, 0, 1] .skip
  (.exit 8)))
  (.block 9 [10, 11, 0, 1] (.region [⟨none, [], [⟨(some 130), .mov (.t 11), none⟩,
    ⟨(some 131), .bin .sub (.t 130) (.c (.int .i64 1)), none⟩,
    ⟨(some 11), .mov (.t 131), none⟩]⟩])))))
  (.seq (.seq (.region [⟨none, [], [⟨(some 132), .mov (.t 10), none⟩,
    ⟨(some 133), .mov (.t 11), none⟩,
    ⟨(some 134), .bin .gtr (.t 132) (.t 133), none⟩]⟩])
  (.cond (.t 134) [0, 10, 11, 1] (.exit 4)
  .skip))
  (.seq (.draw [⟨none, [], [⟨(some 135), .mov (.t 0), none⟩,
    ⟨(some 136), .mov (.t 10), none⟩,
    ⟨(some 137), .mov (.t 0), none⟩,
    ⟨(some 138), .mov (.t 11), none⟩,
    ⟨(some 139), .mov (.t 0), none⟩,
    ⟨(some 140), .mov (.t 11), none⟩,
    ⟨(some 141), .idxs 1 (.t 139) (.t 140), none⟩,
    ⟨(some 142), .load1 (.t 141), none⟩,
    ⟨(some 143), .mov (.t 0), none⟩,
    ⟨(some 144), .mov (.t 10), none⟩,
    ⟨(some 145), .idxs 1 (.t 143) (.t 144), none⟩,
    ⟨(some 146), .load1 (.t 145), none⟩,
    ⟨(some 147), .idxs 1 (.t 135) (.t 136), none⟩,
    ⟨none, .store1 (.t 147) (.t 142), none⟩,
    ⟨(some 148), .idxs 1 (.t 137) (.t 138), none⟩,
    ⟨none, .store1 (.t 148) (.t 146), none⟩]⟩] [] [])
  (.seq (.region [⟨none, [], [⟨(some 149), .mov (.t 10), none⟩,
    ⟨(some 150), .bin .add (.t 149) (.c (.int .i64 1)), none⟩,
    ⟨(some 10), .mov (.t 150), none⟩]⟩])
  (.region [⟨none, [], [⟨(some 151), .mov (.t 11), none⟩,
    ⟨(some 152), .bin .sub (.t 151) (.c (.int .i64 1)), none⟩,
    ⟨(some 11), .mov (.t 152), none⟩]⟩])))))))))
  (.seq (.draw [⟨none, [], [⟨(some 153), .mov (.t 0), none⟩,
    ⟨(some 154), .mov (.t 11), none⟩,
    ⟨(some 155), .mov (.t 0), none⟩,
    ⟨(some 156), .mov (.t 1), none⟩,
    ⟨(some 157), .mov (.t 0), none⟩,
    ⟨(some 158), .mov (.t 1), none⟩,
    ⟨(some 159), .idxs 1 (.t 157) (.t 158), none⟩,
    ⟨(some 160), .load1 (.t 159), none⟩,
    ⟨(some 161), .mov (.t 0), none⟩,
    ⟨(some 162), .mov (.t 11), none⟩,
    ⟨(some 163), .idxs 1 (.t 161) (.t 162), none⟩,
    ⟨(some 164), .load1 (.t 163), none⟩,
    ⟨(some 165), .idxs 1 (.t 153) (.t 154), none⟩,
    ⟨none, .store1 (.t 165) (.t 160), none⟩,
    ⟨(some 166), .idxs 1 (.t 155) (.t 156), none⟩,
    ⟨none, .store1 (.t 166) (.t 164), none⟩]⟩] [] [])
  (.seq (.region [⟨none, [], [⟨(some 167), .mov (.t 11), none⟩,
    ⟨(some 8), .mov (.t 167), none⟩,
    ⟨(some 9), .mov (.c (.bool false)), none⟩]⟩])
  .ret)))))))))))))
def x36 : XFunc := ⟨168, [.tmp 8, .tmp 9], y36.er⟩
noncomputable def s36_k58 (_ : CallT) (_ : Nat) (v55 v56 v57 : AVal) (A58 : AH) : Res :=
 letA (A58.bump 16) fun A60 =>
 bindO (idxsR 1 v55 v57) fun v61 =>
 bindO (load1R A60 v61) fun v62 =>
 bindO (idxsR 1 v55 v56) fun v63 =>
 bindO (load1R A60 v63) fun v64 =>
 bindO (idxsR 1 v55 v56) fun v65 =>
 bindP (store1R A60 v65 v62) fun _ A67 =>
 bindO (idxsR 1 v55 v57) fun v68 =>
 bindP (store1R A67 v68 v64) fun _ A70 =>
 .ret (.tuple [v56, (.bool false)]) A70
noncomputable def s36_k81 (_ : CallT) (_ : Nat) (n76 : J4) (v77 v78 v79 v80 : AVal) (A81 : AH) : Res :=
 n76 v77 v78 v79 v80 A81
noncomputable def s36_k100 (_ : CallT) (_ : Nat) (j82 : J4) (v96 v97 v98 v99 : AVal) (A100 : AH) : Res :=
 letA (A100.bump 16) fun A102 =>
 bindO (idxsR 1 v96 v98) fun v103 =>
 bindO (load1R A102 v103) fun v104 =>
 bindO (idxsR 1 v96 v97) fun v105 =>
 bindO (load1R A102 v105) fun v106 =>
 bindO (idxsR 1 v96 v97) fun v107 =>
 bindP (store1R A102 v107 v104) fun _ A109 =>
 bindO (idxsR 1 v96 v98) fun v110 =>
 bindP (store1R A109 v110 v106) fun _ A112 =>
 bindO (addR v97 (.int .i64 1)) fun v113 =>
 bindO (subR v98 (.int .i64 1)) fun v114 =>
 j82 v113 v114 v96 v99 A112
noncomputable def s36_k93 (call : CallT) (n : Nat) (j82 : J4) (j59 : J3) (v89 v90 v91 v92 : AVal) (A93 : AH) : Res :=
 bindO (gtrR v89 v90) fun v95 =>
 joinV (s36_k100 call n j82) fun j101 => boolK (some v95) (
 j59 v91 v90 v92 A93) (
 j101 v91 v89 v90 v92 A93)
noncomputable def s36_k138 (_ : CallT) (_ : Nat) (n120 : J4) (v134 v135 v136 v137 : AVal) (A138 : AH) : Res :=
 n120 v134 v135 v136 v137 A138
noncomputable def s36_k132 (call : CallT) (n : Nat) (n120 : J4) (v128 v129 v130 v131 : AVal) (A132 : AH) : Res :=
 joinV (s36_k138 call n n120) fun j139 =>
 bindO (subR v128 (.int .i64 1)) fun v140 =>
 j139 v129 v140 v130 v131 A132
noncomputable def s36_l119 (call : CallT) (n : Nat) (j94 : J4) (n120 : J4) (v115 v116 v117 v118 : AVal) (A119 : AH) : Res :=
 letA (A119.bump 15) fun A121 =>
 bindO (leqR v115 v116) fun v122 =>
 joinV (fun (v123 : AVal) (A124 : AH) (_ : AH) =>
 bindO (pickR v122 v123 (.bool false)) fun v127 =>
 joinV (s36_k132 call n n120) fun j133 => boolK (some v127) (
 j133 v116 v115 v117 v118 A124) (
 j94 v115 v116 v117 v118 A124)) fun j125 => wantK v122 true (
 bindO (idxsR 1 v117 v116) fun v141 =>
 bindO (load1R A121 v141) fun v142 =>
 bindO (idxsR 1 v117 v118) fun v143 =>
 bindO (load1R A121 v143) fun v144 =>
 bindR (call 34 [v142, v144] A121) (fun v145 A146 =>
 bindO (notR v145) fun v149 =>
 j125 v149 A146 A121) fun u147 B148 => .pan u147 B148) (j125 (.tuple []) A121 A121)
noncomputable def s36_k87 (call : CallT) (n : Nat) (j82 : J4) (j59 : J3) (v83 v84 v85 v86 : AVal) (A87 : AH) : Res :=
 joinV (s36_k93 call n j82 j59) fun j94 =>
 loopK zJ4 n (s36_l119 call n j94) v83 v84 v85 v86 A87
noncomputable def s36_k173 (_ : CallT) (_ : Nat) (n155 : J4) (v169 v170 v171 v172 : AVal) (A173 : AH) : Res :=
 n155 v169 v170 v171 v172 A173
noncomputable def s36_k167 (call : CallT) (n : Nat) (n155 : J4) (v163 v164 v165 v166 : AVal) (A167 : AH) : Res :=
 joinV (s36_k173 call n n155) fun j174 =>
 bindO (addR v163 (.int .i64 1)) fun v175 =>
 j174 v175 v164 v165 v166 A167
noncomputable def s36_l154 (call : CallT) (n : Nat) (j88 : J4) (n155 : J4) (v150 v151 v152 v153 : AVal) (A154 : AH) : Res :=
 letA (A154.bump 14) fun A156 =>
 bindO (leqR v150 v151) fun v157 =>
 joinV (fun (v158 : AVal) (A159 : AH) (_ : AH) =>
 bindO (pickR v157 v158 (.bool false)) fun v162 =>
 joinV (s36_k167 call n n155) fun j168 => boolK (some v162) (
 j168 v150 v151 v152 v153 A159) (
 j88 v150 v151 v152 v153 A159)) fun j160 => wantK v157 true (
 bindO (idxsR 1 v152 v150) fun v176 =>
 bindO (load1R A156 v176) fun v177 =>
 bindO (idxsR 1 v152 v153) fun v178 =>
 bindO (load1R A156 v178) fun v179 =>
 bindR (call 34 [v177, v179] A156) (fun v180 A181 =>
 j160 v180 A181 A156) fun u182 B183 => .pan u182 B183) (j160 (.tuple []) A156 A156)
noncomputable def s36_l75 (call : CallT) (n : Nat) (j59 : J3) (n76 : J4) (v71 v72 v73 v74 : AVal) (A75 : AH) : Res :=
 joinV (s36_k81 call n n76) fun j82 =>
 joinV (s36_k87 call n j82 j59) fun j88 =>
 loopK zJ4 n (s36_l154 call n j88) v71 v72 v73 v74 A75
noncomputable def s36_k40 (call : CallT) (n : Nat) (v36 v37 v38 v39 : AVal) (A40 : AH) : Res :=
 letA (A40.bump 16) fun A42 =>
 bindO (idxsR 1 v36 v38) fun v43 =>
 bindO (load1R A42 v43) fun v44 =>
 bindO (idxsR 1 v36 v37) fun v45 =>
 bindO (load1R A42 v45) fun v46 =>
 bindO (idxsR 1 v36 v37) fun v47 =>
 bindP (store1R A42 v47 v44) fun _ A49 =>
 bindO (idxsR 1 v36 v38) fun v50 =>
 bindP (store1R A49 v50 v46) fun _ A52 =>
 bindO (addR v37 (.int .i64 1)) fun v53 =>
 bindO (subR v38 (.int .i64 1)) fun v54 =>
 joinV (s36_k58 call n) fun j59 =>
 loopK zJ4 n (s36_l75 call n j59) v53 v54 v36 v39 A52
noncomputable def s36_k33 (call : CallT) (n : Nat) (v29 v30 v31 v32 : AVal) (A33 : AH) : Res :=
 bindO (gtrR v29 v30) fun v35 =>
 joinV (s36_k40 call n) fun j41 => boolK (some v35) (
 letA (A33.bump 16) fun A184 =>
 bindO (idxsR 1 v31 v32) fun v185 =>
 bindO (load1R A184 v185) fun v186 =>
 bindO (idxsR 1 v31 v30) fun v187 =>
 bindO (load1R A184 v187) fun v188 =>
 bindO (idxsR 1 v31 v30) fun v189 =>
 bindP (store1R A184 v189 v186) fun _ A191 =>
 bindO (idxsR 1 v31 v32) fun v192 =>
 bindP (store1R A191 v192 v188) fun _ A194 =>
 .ret (.tuple [v30, (.bool true)]) A194) (
 j41 v31 v29 v30 v32 A33)
noncomputable def s36_k218 (_ : CallT) (_ : Nat) (n200 : J4) (v214 v215 v216 v217 : AVal) (A218 : AH) : Res :=
 n200 v214 v215 v216 v217 A218
noncomputable def s36_k212 (call : CallT) (n : Nat) (n200 : J4) (v208 v209 v210 v211 : AVal) (A212 : AH) : Res :=
 joinV (s36_k218 call n n200) fun j219 =>
 bindO (subR v208 (.int .i64 1)) fun v220 =>
 j219 v209 v220 v210 v211 A212
noncomputable def s36_l199 (call : CallT) (n : Nat) (j34 : J4) (n200 : J4) (v195 v196 v197 v198 : AVal) (A199 : AH) : Res :=
 letA (A199.bump 15) fun A201 =>
 bindO (leqR v195 v196) fun v202 =>
 joinV (fun (v203 : AVal) (A204 : AH) (_ : AH) =>
 bindO (pickR v202 v203 (.bool false)) fun v207 =>
 joinV (s36_k212 call n n200) fun j213 => boolK (some v207) (
 j213 v196 v195 v197 v198 A204) (
 j34 v195 v196 v197 v198 A204)) fun j205 => wantK v202 true (
 bindO (idxsR 1 v197 v196) fun v221 =>
 bindO (load1R A201 v221) fun v222 =>
 bindO (idxsR 1 v197 v198) fun v223 =>
 bindO (load1R A201 v223) fun v224 =>
 bindR (call 34 [v222, v224] A201) (fun v225 A226 =>
 bindO (notR v225) fun v229 =>
 j205 v229 A226 A201) fun u227 B228 => .pan u227 B228) (j205 (.tuple []) A201 A201)
noncomputable def s36_k27 (call : CallT) (n : Nat) (v23 v24 v25 v26 : AVal) (A27 : AH) : Res :=
 joinV (s36_k33 call n) fun j34 =>
 loopK zJ4 n (s36_l199 call n j34) v23 v24 v25 v26 A27
noncomputable def s36_k253 (_ : CallT) (_ : Nat) (n235 : J4) (v249 v250 v251 v252 : AVal) (A253 : AH) : Res :=
 n235 v249 v250 v251 v252 A253
noncomputable def s36_k247 (call : CallT) (n : Nat) (n235 : J4) (v243 v244 v245 v246 : AVal) (A247 : AH) : Res :=
 joinV (s36_k253 call n n235) fun j254 =>
 bindO (addR v243 (.int .i64 1)) fun v255 =>
 j254 v255 v244 v245 v246 A247
noncomputable def s36_l234 (call : CallT) (n : Nat) (j28 : J4) (n235 : J4) (v230 v231 v232 v233 : AVal) (A234 : AH) : Res :=
 letA (A234.bump 14) fun A236 =>
 bindO (leqR v230 v231) fun v237 =>
 joinV (fun (v238 : AVal) (A239 : AH) (_ : AH) =>
 bindO (pickR v237 v238 (.bool false)) fun v242 =>
 joinV (s36_k247 call n n235) fun j248 => boolK (some v242) (
 j248 v230 v231 v232 v233 A239) (
 j28 v230 v231 v232 v233 A239)) fun j240 => wantK v237 true (
 bindO (idxsR 1 v232 v230) fun v256 =>
 bindO (load1R A236 v256) fun v257 =>
 bindO (idxsR 1 v232 v233) fun v258 =>
 bindO (load1R A236 v258) fun v259 =>
 bindR (call 34 [v257, v259] A236) (fun v260 A261 =>
 j240 v260 A261 A236) fun u262 B263 => .pan u262 B263) (j240 (.tuple []) A236 A236)
noncomputable def s36_c19 (call : CallT) (n : Nat) (v16 v17 v18 : AVal) (A19 : AH) : Res :=
 bindO (addR v16 (.int .i64 1)) fun v21 =>
 bindO (subR v17 (.int .i64 1)) fun v22 =>
 joinV (s36_k27 call n) fun j28 =>
 loopK zJ4 n (s36_l234 call n j28) v21 v22 v18 v16 A19
noncomputable def s36_b (call : CallT) (n : Nat) (v0 v1 v2 v3 : AVal) (A4 : AH) : Res :=
 letA (A4.bump 16) fun A5 =>
 bindO (idxsR 1 v0 v3) fun v6 =>
 bindO (load1R A5 v6) fun v7 =>
 bindO (idxsR 1 v0 v1) fun v8 =>
 bindO (load1R A5 v8) fun v9 =>
 bindO (idxsR 1 v0 v1) fun v10 =>
 bindP (store1R A5 v10 v7) fun _ A12 =>
 bindO (idxsR 1 v0 v3) fun v13 =>
 bindP (store1R A12 v13 v9) fun _ A15 =>
 joinV (s36_c19 call n) fun j20 => j20 v1 v2 v0 A15
noncomputable def s36 (call : CallT) (n : Nat) (as : List AVal) (A : AH) : Res := apL 4 (s36_b call n) as A
theorem s36_eq (call : CallT) (n : Nat) (as : List AVal) (A : AH) : fnK call n 168 [.tmp 8, .tmp 9] y36 4 as A = s36 call n as A := by kernel_rfl
/-- math/bits.Len32 -/
def y37 : YCode := (.seq (.region [⟨none, [], [⟨(some 2), .mov (.c (.int .i64 0)), none⟩]⟩])
  (.seq (.seq (.region [⟨none, [], [⟨(some 3), .mov (.t 0), none⟩,
    ⟨(some 4), .bin .geq (.t 3) (.c (.int .u32 65536)), none⟩]⟩])
  (.cond (.t 4) [0, 2] (.seq (.region [⟨none, [], [⟨(some 5), .mov (.t 0), none⟩,
    ⟨(some 6), .bin .shr (.t 5) (.c (.int .u64 16)), none⟩,
    ⟨(some 0), .mov (.t 6), none⟩]⟩])
  (.region [⟨none, [], [⟨(some 2), .mov (.c (.int .i64 16)), none⟩]⟩]))
  .skip))
  (.seq (.seq (.region [⟨none, [], [⟨(some 7), .mov (.t 0), none⟩,
    ⟨(some 8), .bin .geq (.t 7) (.c (.int .u32 256)), none⟩]⟩])
  (.cond (.t 8) [2, 0] (.seq (.region [⟨none, [], [⟨(some 9), .mov (.t 0), none⟩,
    ⟨(some 10), .bin .shr (.t 9) (.c (.int .u64 8)), none⟩,
    ⟨(some 0), .mov (.t 10), none⟩]⟩])
  (.region [⟨none, [], [⟨(some 11), .mov (.t 2), none⟩,
    ⟨(some 12), .bin .add (.t 11) (.c (.int .i64 8)), none⟩,
    ⟨(some 2), .mov (.t 12), none⟩]⟩]))
  .skip))
  (.seq (.region [⟨none, [], [⟨(some 13), .mov (.t 2), none⟩,
    ⟨(some 14), .mov (.t 0), none⟩,
    ⟨(some 15), .cvi .u8 (.t 14), none⟩,
    ⟨(some 16), .idxstr (.c (.str ⟨#[0, 1, 2, 2, 3, 3, 3, 3, 4, 4, 4, 4, 4, 4, 4, 4, 5, 5, 5, 5, 5, 5, 5, 5, 5, 5, 5, 5, 5, 5, 5, 5, 6, 6, 6, 6, 6, 6, 6, 6, 6, 6, 6, 6, 6, 6, 6, 6, 6, 6, 6, 6, 6, 6, 6, 6, 6, 6, 6, 6, 6, 6, 6, 6, 7, 7, 7, 7, 7, 7, 7, 7, 7, 7, 7, 7, 7, 7, 7, 7, 7, 7, 7, 7, 7, 7, 7, 7, 7, 7, 7, 7, 7, 7, 7, 7, 7, 7, 7, 7, 7, 7, 7, 7, 7, 7, 7, 7, 7, 7, 7, 7, 7, 7, 7, 7, 7, 7, 7, 7, 7, 7, 7, 7, 7, 7, 7, 7, 8, 8, 8, 8, 8, 8, 8, 8, 8, 8, 8, 8, 8, 8, 8, 8, 8, 8, 8, 8, 8, 8, 8, 8, 8, 8, 8, 8, 8, 8, 8, 8, 8, 8, 8, 8, 8, 8, 8, 8, 8, 8, 8, 8, 8, 8, 8, 8, 8, 8, 8, 8, 8, 8, 8, 8, 8, 8, 8, 8, 8, 8, 8, 8, 8, 8, 8, 8, 8, 8, 8, 8, 8, 8, 8, 8, 8, 8, 8, 8, 8, 8, 8, 8, 8, 8, 8, 8, 8, 8, 8, 8, 8, 8, 8, 8, 8, 8, 8, 8, 8, 8, 8, 8, 8, 8, 8, 8, 8, 8, 8, 8, 8, 8, 8, 8, 8, 8, 8, 8, 8, 8, 8, 8, 8, 8, 8, 8]⟩)) (.t 15), none⟩,
    ⟨(some 17), .cvi .i64 (.t 16), none⟩,
    ⟨(some 18), .bin .add (.t 13) (.t 17), none⟩,
    ⟨(some 2), .mov (.t 18), none⟩]⟩])
  .ret))))
def x37 : XFunc := ⟨19, [.tmp 2], y37.er⟩
noncomputable def s37_k10 (_ : CallT) (_ : Nat) (v8 v9 : AVal) (A10 : AH) : Res :=
 bindO (cviR .u8 v9) fun v12 =>
 bindO (apure [] (.idxstr (.c (.str ⟨#[0, 1, 2, 2, 3, 3, 3, 3, 4, 4, 4, 4, 4, 4, 4, 4, 5, 5, 5, 5, 5, 5, 5, 5, 5, 5, 5, 5, 5, 5, 5, 5, 6, 6, 6, 6, 6, 6, 6, 6, 6, 6, 6, 6, 6, 6, 6, 6, 6, 6, 6, 6, 6, 6, 6, 6, 6, 6, 6, 6, 6, 6, 6, 6, 7, 7, 7, 7, 7, 7, 7, 7, 7, 7, 7, 7, 7, 7, 7, 7, 7, 7, 7, 7, 7, 7, 7, 7, 7, 7, 7, 7, 7, 7, 7, 7, 7, 7, 7, 7, 7, 7, 7, 7, 7, 7, 7, 7, 7, 7, 7, 7, 7, 7, 7, 7, 7, 7, 7, 7, 7, 7, 7, 7, 7, 7, 7, 7, 8, 8, 8, 8, 8, 8, 8, 8, 8, 8, 8, 8, 8, 8, 8, 8, 8, 8, 8, 8, 8, 8, 8, 8, 8, 8, 8, 8, 8, 8, 8, 8, 8, 8, 8, 8, 8, 8, 8, 8, 8, 8, 8, 8, 8, 8, 8, 8, 8, 8, 8, 8, 8, 8, 8, 8, 8, 8, 8, 8, 8, 8, 8, 8, 8, 8, 8, 8, 8, 8, 8, 8, 8, 8, 8, 8, 8, 8, 8, 8, 8, 8, 8, 8, 8, 8, 8, 8, 8, 8, 8, 8, 8, 8, 8, 8, 8, 8, 8, 8, 8, 8, 8, 8, 8, 8, 8, 8, 8, 8, 8, 8, 8, 8, 8, 8, 8, 8, 8, 8, 8, 8, 8, 8, 8, 8, 8, 8]⟩)) (.c v12))) fun v13 =>
 bindO (cviR .i64 v13) fun v14 =>
 bindO (addR v8 v14) fun v15 =>
 .ret v15 A10
noncomputable def s37_k5 (call : CallT) (n : Nat) (v3 v4 : AVal) (A5 : AH) : Res :=
 bindO (geqR v3 (.int .u32 256)) fun v7 =>
 joinV (s37_k10 call n) fun j11 => boolK (some v7) (
 bindO (abinR .shr v3 (.int .u64 8)) fun v16 =>
 bindO (addR v4 (.int .i64 8)) fun v17 =>
 j11 v17 v16 A5) (
 j11 v4 v3 A5)
noncomputable def s37_b (call : CallT) (n : Nat) (v0 : AVal) (A1 : AH) : Res :=
 bindO (geqR v0 (.int .u32 65536)) fun v2 =>
 joinV (s37_k5 call n) fun j6 => boolK (some v2) (
 bindO (abinR .shr v0 (.int .u64 16)) fun v18 =>
 j6 v18 (.int .i64 16) A1) (
 j6 v0 (.int .i64 0) A1)
noncomputable def s37 (call : CallT) (n : Nat) (as : List AVal) (A : AH) : Res := apL 1 (s37_b call n) as A
theorem s37_eq (call : CallT) (n : Nat) (as : List AVal) (A : AH) : fnK call n 19 [.tmp 2] y37 1 as A = s37 call n as A := by kernel_rfl
/-- math/bits.Len64 -/
def y38 : YCode := (.seq (.region [⟨none, [], [⟨(some 2), .mov (.c (.int .i64 0)), none⟩]⟩])
  (.seq (.seq (.region [⟨none, [], [⟨(some 3), .mov (.t 0), none⟩,
    ⟨(some 4), .bin .geq (.t 3) (.c (.int .u64 4294967296)), none⟩]⟩])
  (.cond (.t 4) [0, 2] (.seq (.region [⟨none, [], [⟨(some 5), .mov (.t 0), none⟩,
    ⟨(some 6), .bin .shr (.t 5) (.c (.int .u64 32)), none⟩,
    ⟨(some 0), .mov (.t 6), none⟩]⟩])
  (.region [⟨none, [], [⟨(some 2), .mov (.c (.int .i64 32)), none⟩]⟩]))
  .skip))
  (.seq (.seq (.region [⟨none, [], [⟨(some 7), .mov (.t 0), none⟩,
    ⟨(some 8), .bin .geq (.t 7) (.c (.int .u64 65536)), none⟩]⟩])
  (.cond (.t 8) [0, 2] (.seq (.region [⟨none, [], [⟨(some 9), .mov (.t 0), none⟩,
    ⟨(some 10), .bin .shr (.t 9) (.c (.int .u64 16)), none⟩,
    ⟨(some 0), .mov (.t 10), none⟩]⟩])
  (.region [⟨none, [], [⟨(some 11), .mov (.t 2), none⟩,
    ⟨(some 12), .bin .add (.t 11) (.c (.int .i64 16)), none⟩,
    ⟨(some 2), .mov (.t 12), none⟩]⟩]))
  .skip))
  (.seq (.seq (.region [⟨none, [], [⟨(some 13), .mov (.t 0), none⟩,
    ⟨(some 14), .bin .geq (.t 13) (.c (.int .u64 256)), none⟩]⟩])
  (.cond (.t 14) [2, 0] (.seq (.region [⟨none, [], [⟨(some 15), .mov (.t 0), none⟩,
    ⟨(some 16), .bin .shr (.t 15) (.c (.int .u64 8)), none⟩,
    ⟨(some 0), .mov (.t 16), none⟩]⟩])
  (.region [⟨none, [], [⟨(some 17), .mov (.t 2), none⟩,
    ⟨(some 18), .bin .add (.t 17) (.c (.int .i64 8)), none⟩,
    ⟨(some 2), .mov (.t 18), none⟩]⟩]))
  .skip))
  (.seq (.region [⟨none, [], [⟨(some 19), .mov (.t 2), none⟩,
    ⟨(some 20), .mov (.t 0), none⟩,
    ⟨(some 21), .cvi .u8 (.t 20), none⟩,
    ⟨(some 22), .idxstr (.c (.str ⟨#[0, 1, 2, 2, 3, 3, 3, 3, 4, 4, 4, 4, 4, 4, 4, 4, 5, 5, 5, 5, 5, 5, 5, 5, 5, 5, 5, 5, 5, 5, 5, 5, 6, 6, 6, 6, 6, 6, 6, 6, 6, 6, 6, 6, 6, 6, 6, 6, 6, 6, 6, 6, 6, 6, 6, 6, 6, 6, 6, 6, 6, 6, 6, 6, 7, 7, 7, 7, 7, 7, 7, 7, 7, 7, 7, 7, 7, 7, 7, 7, 7, 7, 7, 7, 7, 7, 7, 7, 7, 7, 7, 7, 7, 7, 7, 7, 7, 7, 7, 7, 7, 7, 7, 7, 7, 7, 7, 7, 7, 7, 7, 7, 7, 7, 7, 7, 7, 7, 7, 7, 7, 7, 7, 7, 7, 7, 7, 7, 8, 8, 8, 8, 8, 8, 8, 8, 8, 8, 8, 8, 8, 8, 8, 8, 8, 8, 8, 8, 8, 8, 8, 8, 8, 8, 8, 8, 8, 8, 8, 8, 8, 8, 8, 8, 8, 8, 8, 8, 8, 8, 8, 8, 8, 8, 8, 8, 8, 8, 8, 8, 8, 8, 8, 8, 8, 8, 8, 8, 8, 8, 8, 8, 8, 8, 8, 8, 8, 8, 8, 8, 8, 8, 8, 8, 8, 8, 8, 8, 8, 8, 8, 8, 8, 8, 8, 8, 8, 8, 8, 8, 8, 8, 8, 8, 8, 8, 8, 8, 8, 8, 8, 8, 8, 8, 8, 8, 8, 8, 8, 8, 8, 8, 8, 8, 8, 8, 8, 8, 8, 8, 8, 8, 8, 8, 8, 8]⟩)) (.t 21), none⟩,
    ⟨(some 23), .cvi .i64 (.t 22), none⟩,
    ⟨(some 24), .bin .add (.t 19) (.t 23), none⟩,
    ⟨(some 2), .mov (.t 24), none⟩]⟩])
  .ret)))))
def x38 : XFunc := ⟨25, [.tmp 2], y38.er⟩
noncomputable def s38_k15 (_ : CallT) (_ : Nat) (v13 v14 : AVal) (A15 : AH) : Res :=
 bindO (cviR .u8 v14) fun v17 =>
 bindO (apure [] (.idxstr (.c (.str ⟨#[0, 1, 2, 2, 3, 3, 3, 3, 4, 4, 4, 4, 4, 4, 4, 4, 5, 5, 5, 5, 5, 5, 5, 5, 5, 5, 5, 5, 5, 5, 5, 5, 6, 6, 6, 6, 6, 6, 6, 6, 6, 6, 6, 6, 6, 6, 6, 6, 6, 6, 6, 6, 6, 6, 6, 6, 6, 6, 6, 6, 6, 6, 6, 6, 7, 7, 7, 7, 7, 7, 7, 7, 7, 7, 7, 7, 7, 7, 7, 7, 7, 7, 7, 7, 7, 7, 7, 7, 7, 7, 7, 7, 7, 7, 7, 7, 7, 7, 7, 7, 7, 7, 7, 7, 7, 7, 7, 7, 7, 7, 7, 7, 7, 7, 7, 7, 7, 7, 7, 7, 7, 7, 7, 7, 7, 7, 7, 7, 8, 8, 8, 8, 8, 8, 8, 8, 8, 8, 8, 8, 8, 8, 8, 8, 8, 8, 8, 8, 8, 8, 8, 8, 8, 8, 8, 8, 8, 8, 8, 8, 8, 8, 8, 8, 8, 8, 8, 8, 8, 8, 8, 8, 8, 8, 8, 8, 8, 8, 8, 8, 8, 8, 8, 8, 8, 8, 8, 8, 8, 8, 8, 8, 8, 8, 8, 8, 8, 8, 8, 8, 8, 8, 8, 8, 8, 8, 8, 8, 8, 8, 8, 8, 8, 8, 8, 8, 8, 8, 8, 8, 8, 8, 8, 8, 8, 8, 8, 8, 8, 8, 8, 8, 8, 8, 8, 8, 8, 8, 8, 8, 8, 8, 8, 8, 8, 8, 8, 8, 8, 8, 8, 8, 8, 8, 8, 8]⟩)) (.c v17))) fun v18 =>
 bindO (cviR .i64 v18) fun v19 =>
 bindO (addR v13 v19) fun v20 =>
 .ret v20 A15
noncomputable def s38_k10 (call : CallT) (n : Nat) (v8 v9 : AVal) (A10 : AH) : Res :=
 bindO (geqR v8 (.int .u64 256)) fun v12 =>
 joinV (s38_k15 call n) fun j16 => boolK (some v12) (
 bindO (abinR .shr v8 (.int .u64 8)) fun v21 =>
 bindO (addR v9 (.int .i64 8)) fun v22 =>
 j16 v22 v21 A10) (
 j16 v9 v8 A10)
noncomputable def s38_k5 (call : CallT) (n : Nat) (v3 v4 : AVal) (A5 : AH) : Res :=
 bindO (geqR v3 (.int .u64 65536)) fun v7 =>
 joinV (s38_k10 call n) fun j11 => boolK (some v7) (
 bindO (abinR .shr v3 (.int .u64 16)) fun v23 =>
 bindO (addR v4 (.int .i64 16)) fun v24 =>
 j11 v23 v24 A5) (
 j11 v3 v4 A5)
noncomputable def s38_b (call : CallT) (n : Nat) (v0 : AVal) (A1 : AH) : Res :=
 bindO (geqR v0 (.int .u64 4294967296)) fun v2 =>
 joinV (s38_k5 call n) fun j6 => boolK (some v2) (
 bindO (abinR .shr v0 (.int .u64 32)) fun v25 =>
 j6 v25 (.int .i64 32) A1) (
 j6 v0 (.int .i64 0) A1)
noncomputable def s38 (call : CallT) (n : Nat) (as : List AVal) (A : AH) : Res := apL 1 (s38_b call n) as A
theorem s38_eq (call : CallT) (n : Nat) (as : List AVal) (A : AH) : fnK call n 25 [.tmp 2] y38 1 as A = s38 call n as A := by kernel_rfl
/-- slices.rotateCmpFunc[int] -/
def y39 : YCode := (.seq (.region [⟨none, [], [⟨(some 12), .mov (.t 2), none⟩,
    ⟨(some 13), .mov (.t 1), none⟩,
    ⟨(some 14), .bin .sub (.t 12) (.t 13), none⟩,
    ⟨(some 10), .mov (.t 14), none⟩]⟩])
  (.seq (.region [⟨none, [], [⟨(some 15), .mov (.t 3), none⟩,
    ⟨(some 16), .mov (.t 2), none⟩,
    ⟨(some 17), .bin .sub (.t 15) (.t 16), none⟩,
    ⟨(some 11), .mov (.t 17), none⟩]⟩])
  (.seq (.block 0 [0, 2, 10, 4] (.loop [10, 11, 0, 2, 4] (.seq (.seq (.region [⟨none, [], [⟨(some 18), .mov (.t 10), none⟩,
    ⟨(some 19), .mov (.t 11), none⟩,
    ⟨(some 20), .bin .neq (.t 18) (.t 19), none⟩]⟩])
  (.cond (.t 20) [10, 11, 0, 2, 4] .skip
  (.exit 0)))
  (.block 1 [10, 11, 0, 2, 4] (.seq (.region [⟨none, [], [⟨(some 21), .mov (.t 10), none⟩,
    ⟨(some 22), .mov (.t 11), none⟩,
    ⟨(some 23), .bin .gtr (.t 21) (.t 22), none⟩]⟩])
  (.cond (.t 23) [10, 11, 0, 2, 4] (.seq (.region [⟨none, [], [⟨(some 24), .mov (.t 0), none⟩,
    ⟨(some 25), .mov (.t 2), none⟩,
    ⟨(some 26), .mov (.t 10), none⟩,
    ⟨(some 27), .bin .sub (.t 25) (.t 26), none⟩,
    ⟨(some 28), .mov (.t 2), none⟩,
    ⟨(some 29), .mov (.t 11), none⟩,
    ⟨(some 30), .mov (.t 4), none⟩,
    ⟨(some 31), .call 45 [(.t 24), (.t 27), (.t 28), (.t 29), (.t 30)], none⟩]⟩])
  (.region [⟨none, [], [⟨(some 32), .mov (.t 10), none⟩,
    ⟨(some 33), .mov (.t 11), none⟩,
    ⟨(some 34), .bin .sub (.t 32) (.t 33), none⟩,
    ⟨(some 10), .mov (.t 34), none⟩]⟩]))
  (.seq (.region [⟨none, [], [⟨(some 35), .mov (.t 0), none⟩,
    ⟨(some 36), .mov (.t 2), none⟩,
    ⟨(some 37), .mov (.t 10), none⟩,
    ⟨(some 38), .bin .sub (.t 36) (.t 37), none⟩,
    ⟨(some 39), .mov (.t 2), none⟩,
    ⟨(some 40), .mov (.t 11), none⟩,
    ⟨(some 41), .bin .add (.t 39) (.t 40), none⟩,
    ⟨(some 42), .mov (.t 10), none⟩,
    ⟨(some 43), .bin .sub (.t 41) (.t 42), none⟩,
    ⟨(some 44), .mov (.t 10), none⟩,
    ⟨(some 45), .mov (.t 4), none⟩,
    ⟨(some 46), .call 45 [(.t 35), (.t 38), (.t 43), (.t 44), (.t 45)], none⟩]⟩])
  (.region [⟨none, [], [⟨(some 47), .mov (.t 11), none⟩,
    ⟨(some 48), .mov (.t 10), none⟩,
    ⟨(some 49), .bin .sub (.t 47) (.t 48), none⟩,
    ⟨(some 11), .mov (.t 49), none⟩]⟩]))))))))
  (.region [⟨none, [], [⟨(some 50), .mov (.t 0), none⟩,
    ⟨(some 51), .mov (.t 2), none⟩,
    ⟨(some 52), .mov (.t 10), none⟩,
    ⟨(some 53), .bin .sub (.t 51) (.t 52), none⟩,
    ⟨(some 54), .mov (.t 2), none⟩,
    ⟨(some 55), .mov (.t 10), none⟩,
    ⟨(some 56), .mov (.t 4), none⟩,
    ⟨(some 57), .call 45 [(.t 50), (.t 53), (.t 54), (.t 55), (.t 56)], none⟩]⟩]))))
def x39 : XFunc := ⟨58, [], y39.er⟩
noncomputable def s39_k12 (call : CallT) (_ : Nat) (v8 v9 v10 v11 : AVal) (A12 : AH) : Res :=
 bindO (subR v9 v10) fun v14 =>
 bindR (call 45 [v8, v14, v9, v10, v11] A12) (fun _ A16 =>
 .ret (.tuple []) A16) fun u17 B18 => .pan u17 B18
noncomputable def s39_k39 (_ : CallT) (_ : Nat) (n25 : J5) (v34 v35 v36 v37 v38 : AVal) (A39 : AH) : Res :=
 n25 v34 v35 v36 v37 v38 A39
noncomputable def s39_k47 (_ : CallT) (_ : Nat) (j40 : J5) (v42 v43 v44 v45 v46 : AVal) (A47 : AH) : Res :=
 j40 v42 v43 v44 v45 v46 A47
noncomputable def s39_k32 (call : CallT) (n : Nat) (n25 : J5) (v27 v28 v29 v30 v31 : AVal) (A32 : AH) : Res :=
 joinV (s39_k39 call n n25) fun j40 =>
 bindO (gtrR v27 v28) fun v41 =>
 joinV (s39_k47 call n j40) fun j48 => boolK (some v41) (
 bindO (subR v30 v27) fun v49 =>
 bindR (call 45 [v29, v49, v30, v28, v31] A32) (fun _ A51 =>
 bindO (subR v27 v28) fun v54 =>
 j48 v54 v28 v29 v30 v31 A51) fun u52 B53 => .pan u52 B53) (
 bindO (subR v30 v27) fun v55 =>
 bindO (addR v30 v28) fun v56 =>
 bindO (subR v56 v27) fun v57 =>
 bindR (call 45 [v29, v55, v57, v27, v31] A32) (fun _ A59 =>
 bindO (subR v28 v27) fun v62 =>
 j48 v27 v62 v29 v30 v31 A59) fun u60 B61 => .pan u60 B61)
noncomputable def s39_l24 (call : CallT) (n : Nat) (j13 : J4) (n25 : J5) (v19 v20 v21 v22 v23 : AVal) (A24 : AH) : Res :=
 bindO (neqR v19 v20) fun v26 =>
 joinV (s39_k32 call n n25) fun j33 => boolK (some v26) (
 j33 v19 v20 v21 v22 v23 A24) (
 j13 v21 v22 v19 v23 A24)
noncomputable def s39_b (call : CallT) (n : Nat) (v0 v1 v2 v3 v4 : AVal) (A5 : AH) : Res :=
 bindO (subR v2 v1) fun v6 =>
 bindO (subR v3 v2) fun v7 =>
 joinV (s39_k12 call n) fun j13 =>
 loopK zJ5 n (s39_l24 call n j13) v6 v7 v0 v2 v4 A5
noncomputable def s39 (call : CallT) (n : Nat) (as : List AVal) (A : AH) : Res := apL 5 (s39_b call n) as A
theorem s39_eq (call : CallT) (n : Nat) (as : List AVal) (A : AH) : fnK call n 58 [] y39 5 as A = s39 call n as A := by kernel_rfl
/-- slices.siftDownOrdered[int] -/
def y40 : YCode := (.seq (.region [⟨none, [], [⟨(some 10), .mov (.t 1), none⟩,
    ⟨(some 8), .mov (.t 10), none⟩]⟩])
  (.block 0 [] (.loop [8, 2, 0, 3] (.block 1 [8, 2, 0, 3] (.seq (.region [⟨none, [], [⟨(some 11), .mov (.t 8), none⟩,
    ⟨(some 12), .bin .mul (.c (.int .i64 2)) (.t 11), none⟩,
    ⟨(some 13), .bin .add (.t 12) (.c (.int .i64 1)), none⟩,
    ⟨(some 9), .mov (.t 13), none⟩]⟩])
  (.seq (.seq (.region [⟨none, [], [⟨(some 14), .mov (.t 9), none⟩,
    ⟨(some 15), .mov (.t 2), none⟩,
    ⟨(some 16), .bin .geq (.t 14) (.t 15), none⟩]⟩])
  (.cond (.t 16) [9, 2, 0, 3, 8] (.exit 0)
  .skip))
  (.seq (.seq (.draw [⟨none, [], [⟨(some 17), .mov (.t 9), none⟩,
    ⟨(some 18), .bin .add (.t 17) (.c (.int .i64 1)), none⟩,
    ⟨(some 19), .mov (.t 2), none⟩,
    ⟨(some 20), .bin .lss (.t 18) (.t 19), none⟩,
    ⟨(some 21), .mov (.t 20), none⟩]⟩,
   ⟨some (21, true), [35], [⟨(some 22), .mov (.t 0), some (21, true)⟩,
    ⟨(some 23), .mov (.t 3), some (21, true)⟩,
    ⟨(some 24), .mov (.t 9), some (21, true)⟩,
    ⟨(some 25), .bin .add (.t 23) (.t 24), some (21, true)⟩,
    ⟨(some 26), .idxs 1 (.t 22) (.t 25), some (21, true)⟩,
    ⟨(some 27), .load1 (.t 26), some (21, true)⟩,
    ⟨(some 28), .mov (.t 0), some (21, true)⟩,
    ⟨(some 29), .mov (.t 3), some (21, true)⟩,
    ⟨(some 30), .mov (.t 9), some (21, true)⟩,
    ⟨(some 31), .bin .add (.t 29) (.t 30), some (21, true)⟩,
    ⟨(some 32), .bin .add (.t 31) (.c (.int .i64 1)), some (21, true)⟩,
    ⟨(some 33), .idxs 1 (.t 28) (.t 32), some (21, true)⟩,
    ⟨(some 34), .load1 (.t 33), some (21, true)⟩,
    ⟨(some 35), .call 34 [(.t 27), (.t 34)], some (21, true)⟩]⟩,
   ⟨none, [], [⟨(some 36), .pick (.t 21) (.t 35) (.c (.bool false)), none⟩]⟩] [] [])
  (.cond (.t 36) [0, 3, 8, 9, 2] (.region [⟨none, [], [⟨(some 37), .mov (.t 9), none⟩,
    ⟨(some 38), .bin .add (.t 37) (.c (.int .i64 1)), none⟩,
    ⟨(some 9), .mov (.t 38), none⟩]⟩])
  .skip))
  (.seq (.seq (.draw [⟨none, [], [⟨(some 39), .mov (.t 0), none⟩,
    ⟨(some 40), .mov (.t 3), none⟩,
    ⟨(some 41), .mov (.t 8), none⟩,
    ⟨(some 42), .bin .add (.t 40) (.t 41), none⟩,
    ⟨(some 43), .idxs 1 (.t 39) (.t 42), none⟩,
    ⟨(some 44), .load1 (.t 43), none⟩,
    ⟨(some 45), .mov (.t 0), none⟩,
    ⟨(some 46), .mov (.t 3), none⟩,
    ⟨(some 47), .mov (.t 9), none⟩,
    ⟨(some 48), .bin .add (.t 46) (.t 47), none⟩,
    ⟨(some 49), .idxs 1 (.t 45) (.t 48), none⟩,
    ⟨(some 50), .load1 (.t 49), none⟩,
    ⟨(some 51), .call 34 [(.t 44), (.t 50)], none⟩,
    ⟨(some 52), .un .not (.t 51), none⟩]⟩] [] [])
  (.cond (.t 52) [0, 3, 8, 9, 2] .ret
  .skip))
  (.seq (.draw [⟨none, [], [⟨(some 53), .mov (.t 0), none⟩,
    ⟨(some 54), .mov (.t 3), none⟩,
    ⟨(some 55), .mov (.t 8), none⟩,
    ⟨(some 56), .bin .add (.t 54) (.t 55), none⟩,
    ⟨(some 57), .mov (.t 0), none⟩,
    ⟨(some 58), .mov (.t 3), none⟩,
    ⟨(some 59), .mov (.t 9), none⟩,
    ⟨(some 60), .bin .add (.t 58) (.t 59), none⟩,
    ⟨(some 61), .mov (.t 0), none⟩,
    ⟨(some 62), .mov (.t 3), none⟩,
    ⟨(some 63), .mov (.t 9), none⟩,
    ⟨(some 64), .bin .add (.t 62) (.t 63), none⟩,
    ⟨(some 65), .idxs 1 (.t 61) (.t 64), none⟩,
    ⟨(some 66), .load1 (.t 65), none⟩,
    ⟨(some 67), .mov (.t 0), none⟩,
    ⟨(some 68), .mov (.t 3), none⟩,
    ⟨(some 69), .mov (.t 8), none⟩,
    ⟨(some 70), .bin .add (.t 68) (.t 69), none⟩,
    ⟨(some 71), .idxs 1 (.t 67) (.t 70), none⟩,
    ⟨(some 72), .load1 (.t 71), none⟩,
    ⟨(some 73), .idxs 1 (.t 53) (.t 56), none⟩,
    ⟨none, .store1 (.t 73) (.t 66), none⟩,
    ⟨(some 74), .idxs 1 (.t 57) (.t 60), none⟩,
    ⟨none, .store1 (.t 74) (.t 72), none⟩]⟩] [] [])
  (.region [⟨none, [], [⟨(some 75), .mov (.t 9), none⟩,
    ⟨(some 8), .mov (.t 75), none⟩]⟩]))))))))))
def x40 : XFunc := ⟨76, [], y40.er⟩
noncomputable def s40_k5 (_ : CallT) (_ : Nat) (A5 : AH) : Res :=
 .ret (.tuple []) A5
noncomputable def s40_k17 (_ : CallT) (_ : Nat) (n12 : J4) (v13 v14 v15 v16 : AVal) (A17 : AH) : Res :=
 n12 v13 v14 v15 v16 A17
noncomputable def s40_k61 (_ : CallT) (_ : Nat) (j18 : J4) (v56 v57 v58 v59 v60 : AVal) (A61 : AH) : Res :=
 letA (A61.bump 24) fun A63 =>
 bindO (addR v57 v58) fun v64 =>
 bindO (addR v57 v59) fun v65 =>
 bindO (addR v57 v59) fun v66 =>
 bindO (idxsR 1 v56 v66) fun v67 =>
 bindO (load1R A63 v67) fun v68 =>
 bindO (addR v57 v58) fun v69 =>
 bindO (idxsR 1 v56 v69) fun v70 =>
 bindO (load1R A63 v70) fun v71 =>
 bindO (idxsR 1 v56 v64) fun v72 =>
 bindP (store1R A63 v72 v68) fun _ A74 =>
 bindO (idxsR 1 v56 v65) fun v75 =>
 bindP (store1R A74 v75 v71) fun _ A77 =>
 j18 v59 v60 v56 v57 A77
noncomputable def s40_k42 (call : CallT) (n : Nat) (j18 : J4) (v37 v38 v39 v40 v41 : AVal) (A42 : AH) : Res :=
 letA (A42.bump 14) fun A44 =>
 bindO (addR v38 v39) fun v45 =>
 bindO (idxsR 1 v37 v45) fun v46 =>
 bindO (load1R A44 v46) fun v47 =>
 bindO (addR v38 v40) fun v48 =>
 bindO (idxsR 1 v37 v48) fun v49 =>
 bindO (load1R A44 v49) fun v50 =>
 bindR (call 34 [v47, v50] A44) (fun v51 A52 =>
 bindO (notR v51) fun v55 =>
 joinV (s40_k61 call n j18) fun j62 => boolK (some v55) (
 .ret (.tuple []) A52) (
 j62 v37 v38 v39 v40 v41 A52)) fun u53 B54 => .pan u53 B54
noncomputable def s40_k27 (call : CallT) (n : Nat) (j18 : J4) (v22 v23 v24 v25 v26 : AVal) (A27 : AH) : Res :=
 letA (A27.bump 20) fun A29 =>
 bindO (addR v22 (.int .i64 1)) fun v30 =>
 bindO (lssR v30 v23) fun v31 =>
 joinV (fun (v32 : AVal) (A33 : AH) (_ : AH) =>
 bindO (pickR v31 v32 (.bool false)) fun v36 =>
 joinV (s40_k42 call n j18) fun j43 => boolK (some v36) (
 bindO (addR v22 (.int .i64 1)) fun v78 =>
 j43 v24 v25 v26 v78 v23 A33) (
 j43 v24 v25 v26 v22 v23 A33)) fun j34 => wantK v31 true (
 bindO (addR v25 v22) fun v79 =>
 bindO (idxsR 1 v24 v79) fun v80 =>
 bindO (load1R A29 v80) fun v81 =>
 bindO (addR v25 v22) fun v82 =>
 bindO (addR v82 (.int .i64 1)) fun v83 =>
 bindO (idxsR 1 v24 v83) fun v84 =>
 bindO (load1R A29 v84) fun v85 =>
 bindR (call 34 [v81, v85] A29) (fun v86 A87 =>
 j34 v86 A87 A29) fun u88 B89 => .pan u88 B89) (j34 (.tuple []) A29 A29)
noncomputable def s40_l11 (call : CallT) (n : Nat) (j6 : J0) (n12 : J4) (v7 v8 v9 v10 : AVal) (A11 : AH) : Res :=
 joinV (s40_k17 call n n12) fun j18 =>
 bindO (mulR (.int .i64 2) v7) fun v19 =>
 bindO (addR v19 (.int .i64 1)) fun v20 =>
 bindO (geqR v20 v8) fun v21 =>
 joinV (s40_k27 call n j18) fun j28 => boolK (some v21) (
 j6 A11) (
 j28 v20 v8 v9 v10 v7 A11)
noncomputable def s40_b (call : CallT) (n : Nat) (v0 v1 v2 v3 : AVal) (A4 : AH) : Res :=
 joinV (s40_k5 call n) fun j6 =>
 loopK zJ4 n (s40_l11 call n j6) v1 v2 v0 v3 A4
noncomputable def s40 (call : CallT) (n : Nat) (as : List AVal) (A : AH) : Res := apL 4 (s40_b call n) as A
theorem s40_eq (call : CallT) (n : Nat) (as : List AVal) (A : AH) : fnK call n 76 [] y40 4 as A = s40 call n as A := by kernel_rfl
/-- slices.nextPowerOfTwo -/
def y41 : YCode := (.seq (.region [⟨none, [], [⟨(some 2), .mov (.c (.int .u64 0)), none⟩]⟩])
  (.seq (.region [⟨none, [], [⟨(some 3), .mov (.t 0), none⟩,
    ⟨(some 4), .cvi .u64 (.t 3), none⟩,
    ⟨(some 5), .call 22 [(.t 4)], none⟩,
    ⟨(some 6), .bin .shl (.c (.int .u64 1)) (.t 5), none⟩,
    ⟨(some 2), .mov (.t 6), none⟩]⟩])
  .ret))
def x41 : XFunc := ⟨7, [.tmp 2], y41.er⟩
noncomputable def s41_b (call : CallT) (_ : Nat) (v0 : AVal) (A1 : AH) : Res :=
 bindO (cviR .u64 v0) fun v2 =>
 bindR (call 22 [v2] A1) (fun v3 A4 =>
 bindO (abinR .shl (.int .u64 1) v3) fun v7 =>
 .ret v7 A4) fun u5 B6 => .pan u5 B6
noncomputable def s41 (call : CallT) (n : Nat) (as : List AVal) (A : AH) : Res := apL 1 (s41_b call n) as A
theorem s41_eq (call : CallT) (n : Nat) (as : List AVal) (A : AH) : fnK call n 7 [.tmp 2] y41 1 as A = s41 call n as A := by kernel_rfl
/-- (*slices.xorshift).Next -/
def y42 : YCode := (.seq (.region [⟨none, [], [⟨(some 2), .mov (.c (.int .u64 0)), none⟩]⟩])
  (.seq (.draw [⟨none, [], [⟨(some 3), .mov (.t 0), none⟩,
    ⟨(some 4), .nilc (.t 3), none⟩,
    ⟨(some 5), .load1 (.t 4), none⟩,
    ⟨(some 6), .mov (.t 0), none⟩,
    ⟨(some 7), .nilc (.t 6), none⟩,
    ⟨(some 8), .load1 (.t 7), none⟩,
    ⟨(some 9), .bin .shl (.t 8) (.c (.int .u64 13)), none⟩,
    ⟨(some 10), .bin .xor (.t 5) (.t 9), none⟩,
    ⟨(some 11), .nilc (.t 3), none⟩,
    ⟨none, .store1 (.t 11) (.t 10), none⟩]⟩] [] [])
  (.cut [0] (.seq (.draw [⟨none, [], [⟨(some 12), .mov (.t 0), none⟩,
    ⟨(some 13), .nilc (.t 12), none⟩,
    ⟨(some 14), .load1 (.t 13), none⟩,
    ⟨(some 15), .mov (.t 0), none⟩,
    ⟨(some 16), .nilc (.t 15), none⟩,
    ⟨(some 17), .load1 (.t 16), none⟩,
    ⟨(some 18), .bin .shr (.t 17) (.c (.int .u64 7)), none⟩,
    ⟨(some 19), .bin .xor (.t 14) (.t 18), none⟩,
    ⟨(some 20), .nilc (.t 12), none⟩,
    ⟨none, .store1 (.t 20) (.t 19), none⟩]⟩] [] [])
  (.seq (.draw [⟨none, [], [⟨(some 21), .mov (.t 0), none⟩,
    ⟨(some 22), .nilc (.t 21), none⟩,
    ⟨(some 23), .load1 (.t 22), none⟩,
    ⟨(some 24), .mov (.t 0), none⟩,
    ⟨(some 25), .nilc (.t 24), none⟩,
    ⟨(some 26), .load1 (.t 25), none⟩,
    ⟨(some 27), .bin .shl (.t 26) (.c (.int .u64 17)), none⟩,
    ⟨(some 28), .bin .xor (.t 23) (.t 27), none⟩,
    ⟨(some 29), .nilc (.t 21), none⟩,
    ⟨none, .store1 (.t 29) (.t 28), none⟩]⟩] [] [])
  (.seq (.region [⟨none, [], [⟨(some 30), .mov (.t 0), none⟩,
    ⟨(some 31), .nilc (.t 30), none⟩,
    ⟨(some 32), .load1 (.t 31), none⟩,
    ⟨(some 2), .mov (.t 32), none⟩]⟩])
  .ret))))))
def x42 : XFunc := ⟨33, [.tmp 2], y42.er⟩
noncomputable def s42_c13 (_ : CallT) (_ : Nat) (v12 : AVal) (A13 : AH) : Res :=
 letA (A13.bump 10) fun A15 =>
 bindO (nilcR v12) fun v16 =>
 bindO (load1R A15 v16) fun v17 =>
 bindO (nilcR v12) fun v18 =>
 bindO (load1R A15 v18) fun v19 =>
 bindO (abinR .shr v19 (.int .u64 7)) fun v20 =>
 bindO (abinR .xor v17 v20) fun v21 =>
 bindO (nilcR v12) fun v22 =>
 bindP (store1R A15 v22 v21) fun _ A24 =>
 letA (A24.bump 10) fun A25 =>
 bindO (nilcR v12) fun v26 =>
 bindO (load1R A25 v26) fun v27 =>
 bindO (nilcR v12) fun v28 =>
 bindO (load1R A25 v28) fun v29 =>
 bindO (abinR .shl v29 (.int .u64 17)) fun v30 =>
 bindO (abinR .xor v27 v30) fun v31 =>
 bindO (nilcR v12) fun v32 =>
 bindP (store1R A25 v32 v31) fun _ A34 =>
 bindO (nilcR v12) fun v35 =>
 bindO (load1R A34 v35) fun v36 =>
 .ret v36 A34
noncomputable def s42_b (call : CallT) (n : Nat) (v0 : AVal) (A1 : AH) : Res :=
 letA (A1.bump 10) fun A2 =>
 bindO (nilcR v0) fun v3 =>
 bindO (load1R A2 v3) fun v4 =>
 bindO (nilcR v0) fun v5 =>
 bindO (load1R A2 v5) fun v6 =>
 bindO (abinR .shl v6 (.int .u64 13)) fun v7 =>
 bindO (abinR .xor v4 v7) fun v8 =>
 bindO (nilcR v0) fun v9 =>
 bindP (store1R A2 v9 v8) fun _ A11 =>
 joinV (s42_c13 call n) fun j14 => j14 v0 A11
noncomputable def s42 (call : CallT) (n : Nat) (as : List AVal) (A : AH) : Res := apL 1 (s42_b call n) as A
theorem s42_eq (call : CallT) (n : Nat) (as : List AVal) (A : AH) : fnK call n 33 [.tmp 2] y42 1 as A = s42 call n as A := by kernel_rfl
/-- slices.medianAdjacentOrdered[int] -/
def y43 : YCode := (.seq (.region [⟨none, [], [⟨(some 6), .mov (.c (.int .i64 0)), none⟩]⟩])
  (.seq (.region [⟨none, [], [⟨(some 7), .mov (.t 0), none⟩,
    ⟨(some 8), .mov (.t 1), none⟩,
    ⟨(some 9), .bin .sub (.t 8) (.c (.int .i64 1)), none⟩,
    ⟨(some 10), .mov (.t 1), none⟩,
    ⟨(some 11), .mov (.t 1), none⟩,
    ⟨(some 12), .bin .add (.t 11) (.c (.int .i64 1)), none⟩,
    ⟨(some 13), .mov (.t 2), none⟩,
    ⟨(some 14), .call 44 [(.t 7), (.t 9), (.t 10), (.t 12), (.t 13)], none⟩,
    ⟨(some 6), .mov (.t 14), none⟩]⟩])
  .ret))
def x43 : XFunc := ⟨15, [.tmp 6], y43.er⟩
noncomputable def s43_b (call : CallT) (_ : Nat) (v0 v1 v2 : AVal) (A3 : AH) : Res :=
 bindO (subR v1 (.int .i64 1)) fun v4 =>
 bindO (addR v1 (.int .i64 1)) fun v5 =>
 bindR (call 44 [v0, v4, v1, v5, v2] A3) (fun v6 A7 =>
 .ret v6 A7) fun u8 B9 => .pan u8 B9
noncomputable def s43 (call : CallT) (n : Nat) (as : List AVal) (A : AH) : Res := apL 3 (s43_b call n) as A
theorem s43_eq (call : CallT) (n : Nat) (as : List AVal) (A : AH) : fnK call n 15 [.tmp 6] y43 3 as A = s43 call n as A := by kernel_rfl
/-- slices.medianOrdered[int] -/
def y44 : YCode := (.seq (.region [⟨none, [], [⟨(some 10), .mov (.c (.int .i64 0)), none⟩]⟩])
  (.seq (.region [⟨none, [], [⟨(some 12), .mov (.t 0), none⟩,
    ⟨(some 13), .mov (.t 1), none⟩,
    ⟨(some 14), .mov (.t 2), none⟩,
    ⟨(some 15), .mov (.t 4), none⟩,
    ⟨(some 16), .call 46 [(.t 12), (.t 13), (.t 14), (.t 15)], none⟩,
    ⟨(some 11), .mov (.t 16), none⟩,
    ⟨(some 17), .ext 0 (.t 11), none⟩,
    ⟨(some 18), .ext 1 (.t 11), none⟩,
    ⟨(some 1), .mov (.t 17), none⟩,
    ⟨(some 2), .mov (.t 18), none⟩]⟩])
  (.seq (.region [⟨none, [], [⟨(some 20), .mov (.t 0), none⟩,
    ⟨(some 21), .mov (.t 2), none⟩,
    ⟨(some 22), .mov (.t 3), none⟩,
    ⟨(some 23), .mov (.t 4), none⟩,
    ⟨(some 24), .call 46 [(.t 20), (.t 21), (.t 22), (.t 23)], none⟩,
    ⟨(some 19), .mov (.t 24), none⟩,
    ⟨(some 25), .ext 0 (.t 19), none⟩,
    ⟨(some 26), .ext 1 (.t 19), none⟩,
    ⟨(some 2), .mov (.t 25), none⟩,
    ⟨(some 3), .mov (.t 26), none⟩]⟩])
  (.seq (.region [⟨none, [], [⟨(some 28), .mov (.t 0), none⟩,
    ⟨(some 29), .mov (.t 1), none⟩,
    ⟨(some 30), .mov (.t 2), none⟩,
    ⟨(some 31), .mov (.t 4), none⟩,
    ⟨(some 32), .call 46 [(.t 28), (.t 29), (.t 30), (.t 31)], none⟩,
    ⟨(some 27), .mov (.t 32), none⟩,
    ⟨(some 33), .ext 0 (.t 27), none⟩,
    ⟨(some 34), .ext 1 (.t 27), none⟩,
    ⟨(some 1), .mov (.t 33), none⟩,
    ⟨(some 2), .mov (.t 34), none⟩]⟩])
  (.seq (.region [⟨none, [], [⟨(some 35), .mov (.t 2), none⟩,
    ⟨(some 10), .mov (.t 35), none⟩]⟩])
  .ret)))))
def x44 : XFunc := ⟨36, [.tmp 10], y44.er⟩
noncomputable def s44_b (call : CallT) (_ : Nat) (v0 v1 v2 v3 v4 : AVal) (A5 : AH) : Res :=
 bindR (call 46 [v0, v1, v2, v4] A5) (fun v6 A7 =>
 bindO (extR 0 v6) fun v10 =>
 bindO (extR 1 v6) fun v11 =>
 bindR (call 46 [v0, v11, v3, v4] A7) (fun v12 A13 =>
 bindO (extR 0 v12) fun v16 =>
 bindO (extR 1 v12) fun _ =>
 bindR (call 46 [v0, v10, v16, v4] A13) (fun v18 A19 =>
 bindO (extR 0 v18) fun _ =>
 bindO (extR 1 v18) fun v23 =>
 .ret v23 A19) fun u20 B21 => .pan u20 B21) fun u14 B15 => .pan u14 B15) fun u8 B9 => .pan u8 B9
noncomputable def s44 (call : CallT) (n : Nat) (as : List AVal) (A : AH) : Res := apL 5 (s44_b call n) as A
theorem s44_eq (call : CallT) (n : Nat) (as : List AVal) (A : AH) : fnK call n 36 [.tmp 10] y44 5 as A = s44 call n as A := by kernel_rfl
/-- slices.swapRangeCmpFunc[int] -/
def y45 : YCode := (.seq (.region [⟨none, [], [⟨(some 10), .mov (.c (.int .i64 0)), none⟩]⟩])
  (.block 0 [] (.loop [10, 3, 0, 1, 2] (.seq (.seq (.region [⟨none, [], [⟨(some 11), .mov (.t 10), none⟩,
    ⟨(some 12), .mov (.t 3), none⟩,
    ⟨(some 13), .bin .lss (.t 11) (.t 12), none⟩]⟩])
  (.cond (.t 13) [0, 1, 10, 2, 3] .skip
  (.exit 0)))
  (.seq (.block 1 [10, 3, 0, 1, 2] (.draw [⟨none, [], [⟨(some 16), .mov (.t 0), none⟩,
    ⟨(some 17), .mov (.t 1), none⟩,
    ⟨(some 18), .mov (.t 10), none⟩,
    ⟨(some 19), .bin .add (.t 17) (.t 18), none⟩,
    ⟨(some 20), .mov (.t 0), none⟩,
    ⟨(some 21), .mov (.t 2), none⟩,
    ⟨(some 22), .mov (.t 10), none⟩,
    ⟨(some 23), .bin .add (.t 21) (.t 22), none⟩,
    ⟨(some 24), .mov (.t 0), none⟩,
    ⟨(some 25), .mov (.t 2), none⟩,
    ⟨(some 26), .mov (.t 10), none⟩,
    ⟨(some 27), .bin .add (.t 25) (.t 26), none⟩,
    ⟨(some 28), .idxs 1 (.t 24) (.t 27), none⟩,
    ⟨(some 29), .load1 (.t 28), none⟩,
    ⟨(some 30), .mov (.t 0), none⟩,
    ⟨(some 31), .mov (.t 1), none⟩,
    ⟨(some 32), .mov (.t 10), none⟩,
    ⟨(some 33), .bin .add (.t 31) (.t 32), none⟩,
    ⟨(some 34), .idxs 1 (.t 30) (.t 33), none⟩,
    ⟨(some 35), .load1 (.t 34), none⟩,
    ⟨(some 36), .idxs 1 (.t 16) (.t 19), none⟩,
    ⟨none, .store1 (.t 36) (.t 29), none⟩,
    ⟨(some 37), .idxs 1 (.t 20) (.t 23), none⟩,
    ⟨none, .store1 (.t 37) (.t 35), none⟩]⟩] [] []))
  (.region [⟨none, [], [⟨(some 14), .mov (.t 10), none⟩,
    ⟨(some 15), .bin .add (.t 14) (.c (.int .i64 1)), none⟩,
    ⟨(some 10), .mov (.t 15), none⟩]⟩]))))))
def x45 : XFunc := ⟨38, [], y45.er⟩
noncomputable def s45_k6 (_ : CallT) (_ : Nat) (A6 : AH) : Res :=
 .ret (.tuple []) A6
noncomputable def s45_k28 (_ : CallT) (_ : Nat) (n14 : J5) (v23 v24 v25 v26 v27 : AVal) (A28 : AH) : Res :=
 bindO (addR v23 (.int .i64 1)) fun v30 =>
 n14 v30 v24 v25 v26 v27 A28
noncomputable def s45_k21 (call : CallT) (n : Nat) (n14 : J5) (v16 v17 v18 v19 v20 : AVal) (A21 : AH) : Res :=
 joinV (s45_k28 call n n14) fun j29 =>
 letA (A21.bump 24) fun A31 =>
 bindO (addR v17 v18) fun v32 =>
 bindO (addR v19 v18) fun v33 =>
 bindO (addR v19 v18) fun v34 =>
 bindO (idxsR 1 v16 v34) fun v35 =>
 bindO (load1R A31 v35) fun v36 =>
 bindO (addR v17 v18) fun v37 =>
 bindO (idxsR 1 v16 v37) fun v38 =>
 bindO (load1R A31 v38) fun v39 =>
 bindO (idxsR 1 v16 v32) fun v40 =>
 bindP (store1R A31 v40 v36) fun _ A42 =>
 bindO (idxsR 1 v16 v33) fun v43 =>
 bindP (store1R A42 v43 v39) fun _ A45 =>
 j29 v18 v20 v16 v17 v19 A45
noncomputable def s45_l13 (call : CallT) (n : Nat) (j7 : J0) (n14 : J5) (v8 v9 v10 v11 v12 : AVal) (A13 : AH) : Res :=
 bindO (lssR v8 v9) fun v15 =>
 joinV (s45_k21 call n n14) fun j22 => boolK (some v15) (
 j22 v10 v11 v8 v12 v9 A13) (
 j7 A13)
noncomputable def s45_b (call : CallT) (n : Nat) (v0 v1 v2 v3 _ : AVal) (A5 : AH) : Res :=
 joinV (s45_k6 call n) fun j7 =>
 loopK zJ5 n (s45_l13 call n j7) (.int .i64 0) v3 v0 v1 v2 A5
noncomputable def s45 (call : CallT) (n : Nat) (as : List AVal) (A : AH) : Res := apL 5 (s45_b call n) as A
theorem s45_eq (call : CallT) (n : Nat) (as : List AVal) (A : AH) : fnK call n 38 [] y45 5 as A = s45 call n as A := by kernel_rfl
/-- slices.order2Ordered[int] -/
def y46 : YCode := (.seq (.region [⟨none, [], [⟨(some 8), .mov (.c (.int .i64 0)), none⟩,
    ⟨(some 9), .mov (.c (.int .i64 0)), none⟩]⟩])
  (.seq (.seq (.draw [⟨none, [], [⟨(some 10), .mov (.t 0), none⟩,
    ⟨(some 11), .mov (.t 2), none⟩,
    ⟨(some 12), .idxs 1 (.t 10) (.t 11), none⟩,
    ⟨(some 13), .load1 (.t 12), none⟩,
    ⟨(some 14), .mov (.t 0), none⟩,
    ⟨(some 15), .mov (.t 1), none⟩,
    ⟨(some 16), .idxs 1 (.t 14) (.t 15), none⟩,
    ⟨(some 17), .load1 (.t 16), none⟩,
    ⟨(some 18), .call 34 [(.t 13), (.t 17)], none⟩]⟩] [] [])
  (.cond (.t 18) [1, 2] (.seq (.region [⟨none, [], [⟨(some 19), .mov (.t 3), none⟩,
    ⟨(some 20), .nilc (.t 19), none⟩,
    ⟨(some 21), .load1 (.t 20), none⟩,
    ⟨(some 22), .bin .add (.t 21) (.c (.int .i64 1)), none⟩,
    ⟨(some 23), .nilc (.t 19), none⟩,
    ⟨none, .store1 (.t 23) (.t 22), none⟩]⟩])
  (.seq (.region [⟨none, [], [⟨(some 24), .mov (.t 2), none⟩,
    ⟨(some 25), .mov (.t 1), none⟩,
    ⟨(some 8), .mov (.t 24), none⟩,
    ⟨(some 9), .mov (.t 25), none⟩]⟩])
  .ret))
  .skip))
  (.seq (.region [⟨none, [], [⟨(some 26), .mov (.t 1), none⟩,
    ⟨(some 27), .mov (.t 2), none⟩,
    ⟨(some 8), .mov (.t 26), none⟩,
    ⟨(some 9), .mov (.t 27), none⟩]⟩])
  .ret)))
def x46 : XFunc := ⟨28, [.tmp 8, .tmp 9], y46.er⟩
noncomputable def s46_k16 (_ : CallT) (_ : Nat) (v14 v15 : AVal) (A16 : AH) : Res :=
 .ret (.tuple [v14, v15]) A16
noncomputable def s46_b (call : CallT) (n : Nat) (v0 v1 v2 v3 : AVal) (A4 : AH) : Res :=
 letA (A4.bump 9) fun A5 =>
 bindO (idxsR 1 v0 v2) fun v6 =>
 bindO (load1R A5 v6) fun v7 =>
 bindO (idxsR 1 v0 v1) fun v8 =>
 bindO (load1R A5 v8) fun v9 =>
 bindR (call 34 [v7, v9] A5) (fun v10 A11 =>
 joinV (s46_k16 call n) fun j17 => boolK (some v10) (
 bindO (nilcR v3) fun v18 =>
 bindO (load1R A11 v18) fun v19 =>
 bindO (addR v19 (.int .i64 1)) fun v20 =>
 bindO (nilcR v3) fun v21 =>
 bindP (store1R A11 v21 v20) fun _ A23 =>
 .ret (.tuple [v2, v1]) A23) (
 j17 v1 v2 A11)) fun u12 B13 => .pan u12 B13
noncomputable def s46 (call : CallT) (n : Nat) (as : List AVal) (A : AH) : Res := apL 4 (s46_b call n) as A
theorem s46_eq (call : CallT) (n : Nat) (as : List AVal) (A : AH) : fnK call n 28 [.tmp 8, .tmp 9] y46 4 as A = s46 call n as A := by kernel_rfl
/-- (concertina/depth.trees).Less -/
def y63 : YCode := (.seq (.region [⟨none, [], [⟨(some 6), .mov (.c (.bool false)), none⟩]⟩])
  (.cut [0, 1, 2] (.seq (.draw [⟨none, [], [⟨(some 7), .mov (.t 0), none⟩,
    ⟨(some 8), .mov (.t 1), none⟩,
    ⟨(some 9), .idxs 3 (.t 7) (.t 8), none⟩,
    ⟨(some 10), .fadr 0 (.t 9), none⟩,
    ⟨(some 11), .load1 (.t 10), none⟩,
    ⟨(some 12), .mov (.t 0), none⟩,
    ⟨(some 13), .mov (.t 2), none⟩,
    ⟨(some 14), .idxs 3 (.t 12) (.t 13), none⟩,
    ⟨(some 15), .fadr 0 (.t 14), none⟩,
    ⟨(some 16), .load1 (.t 15), none⟩,
    ⟨(some 17), .call 11 [(.t 11), (.t 16)], none⟩,
    ⟨(some 18), .mov (.t 0), none⟩,
    ⟨(some 19), .mov (.t 1), none⟩,
    ⟨(some 20), .idxs 3 (.t 18) (.t 19), none⟩,
    ⟨(some 21), .fadr 1 (.t 20), none⟩,
    ⟨(some 22), .load1 (.t 21), none⟩,
    ⟨(some 23), .mov (.t 0), none⟩,
    ⟨(some 24), .mov (.t 2), none⟩,
    ⟨(some 25), .idxs 3 (.t 23) (.t 24), none⟩,
    ⟨(some 26), .fadr 1 (.t 25), none⟩,
    ⟨(some 27), .load1 (.t 26), none⟩,
    ⟨(some 28), .call 11 [(.t 22), (.t 27)], none⟩,
    ⟨(some 29), .bslice 2 [(.int .i64 0), (.int .i64 0)] [(0, 1, (.t 17)), (1, 1, (.t 28))], none⟩,
    ⟨(some 30), .call 67 [(.t 29)], none⟩,
    ⟨(some 31), .bin .lss (.t 30) (.c (.int .i64 0)), none⟩,
    ⟨(some 6), .mov (.t 31), none⟩]⟩] [(15, 0, 1), (20, 0, 1)] [10])
  .ret)))
def x63 : XFunc := ⟨32, [.tmp 6], y63.er⟩
noncomputable def s63_c7 (call : CallT) (_ : Nat) (v4 v5 v6 : AVal) (A7 : AH) : Res :=
 letA (A7.bump 26) fun A9 =>
 bindO (idxsR 3 v4 v5) fun v10 =>
 bindO (fadrR 0 v10) fun v11 =>
 bindO (load1R A9 v11) fun v12 =>
 bindO (idxsR 3 v4 v6) fun v13 =>
 bindO (fadrR 0 v13) fun v14 =>
 bindO (load1R A9 v14) fun v15 =>
 bindR (call 11 [v12, v15] A9) (fun v16 A17 =>
 bindO (idxsR 3 v4 v5) fun v20 =>
 bindO (fadrR 1 v20) fun v21 =>
 bindO (load1R A17 v21) fun v22 =>
 bindO (idxsR 3 v4 v6) fun v23 =>
 bindO (fadrR 1 v23) fun v24 =>
 bindO (load1R A17 v24) fun v25 =>
 bindR (call 11 [v22, v25] A17) (fun v26 A27 =>
 bindF (afree [] (.bslice 2 [(.int .i64 0), (.int .i64 0)] [(0, 1, (.c v16)), (1, 1, (.c v26))])) fun x30 f31 => forceV (f31 ((Nat.add A7.next 22))) fun v33 => letA (setR A27 (Nat.add A7.next 22) x30) fun A32 =>
 bindR (call 67 [v33] A32) (fun v34 A35 =>
 bindO (lssR v34 (.int .i64 0)) fun v38 =>
 agK (load1R A9 v21) v22 (
 agK (load1R A17 v21) v22 (
 agK (load1R A9 v24) v25 (
 agK (load1R A17 v24) v25 (
 .ret v38 A35))))) fun u36 B37 => agK (load1R A9 v21) v22 (
 agK (load1R A17 v21) v22 (
 agK (load1R A9 v24) v25 (
 agK (load1R A17 v24) v25 (
 .pan u36 B37))))) fun u28 B29 => agK (load1R A9 v21) v22 (
 agK (load1R A17 v21) v22 (
 agK (load1R A9 v24) v25 (
 agK (load1R A17 v24) v25 (
 .pan u28 B29))))) fun _ _ => .stuck
noncomputable def s63_b (call : CallT) (n : Nat) (v0 v1 v2 : AVal) (A3 : AH) : Res :=
 joinV (s63_c7 call n) fun j8 => j8 v0 v1 v2 A3
noncomputable def s63 (call : CallT) (n : Nat) (as : List AVal) (A : AH) : Res := apL 3 (s63_b call n) as A
theorem s63_eq (call : CallT) (n : Nat) (as : List AVal) (A : AH) : fnK call n 32 [.tmp 6] y63 3 as A = s63 call n as A := by kernel_rfl
/-- (*concertina/depth.trees).Pop -/
def y64 : YCode := (.seq (.region [⟨none, [], [⟨(some 2), .mov (.c .nilIface), none⟩]⟩])
  (.seq (.region [⟨none, [], [⟨(some 5), .mov (.t 0), none⟩,
    ⟨(some 6), .nilc (.t 5), none⟩,
    ⟨(some 7), .load1 (.t 6), none⟩,
    ⟨(some 8), .blen (.t 7), none⟩,
    ⟨(some 9), .bin .sub (.t 8) (.c (.int .i64 1)), none⟩,
    ⟨(some 3), .mov (.t 9), none⟩]⟩])
  (.seq (.region [⟨none, [], [⟨(some 10), .mov (.t 0), none⟩,
    ⟨(some 11), .nilc (.t 10), none⟩,
    ⟨(some 12), .load1 (.t 11), none⟩,
    ⟨(some 13), .mov (.t 3), none⟩,
    ⟨(some 14), .idxs 3 (.t 12) (.t 13), none⟩,
    ⟨(some 15), .loadN 3 (.t 14), none⟩,
    ⟨(some 4), .alloc [(.int .i64 0), (.int .i64 0), .nilslice], none⟩,
    ⟨none, .storeN 3 (.t 4) (.t 15), none⟩]⟩])
  (.seq (.region [⟨none, [], [⟨(some 16), .mov (.t 0), none⟩,
    ⟨(some 17), .mov (.t 0), none⟩,
    ⟨(some 18), .nilc (.t 17), none⟩,
    ⟨(some 19), .load1 (.t 18), none⟩,
    ⟨(some 20), .mov (.t 3), none⟩,
    ⟨(some 21), .slc 3 (.t 19) none (some (.t 20)) none, none⟩,
    ⟨(some 22), .nilc (.t 16), none⟩,
    ⟨none, .store1 (.t 22) (.t 21), none⟩]⟩])
  (.seq (.region [⟨none, [], [⟨(some 23), .loadN 3 (.t 4), none⟩,
    ⟨(some 24), .mki 43 (.t 23), none⟩,
    ⟨(some 2), .mov (.t 24), none⟩]⟩])
  .ret)))))
def x64 : XFunc := ⟨25, [.tmp 2], y64.er⟩
noncomputable def s64_b (_ : CallT) (_ : Nat) (v0 : AVal) (A1 : AH) : Res :=
 bindO (nilcR v0) fun v2 =>
 bindO (load1R A1 v2) fun v3 =>
 bindO (blenR v3) fun v4 =>
 bindO (subR v4 (.int .i64 1)) fun v5 =>
 bindO (nilcR v0) fun v6 =>
 bindO (load1R A1 v6) fun v7 =>
 bindO (idxsR 3 v7 v5) fun v8 =>
 bindO (loadNR 3 A1 v8) fun v9 =>
 bindF (afree [] (.alloc [(.int .i64 0), (.int .i64 0), .nilslice])) fun x10 f11 => forceV (f11 (A1.next)) fun v13 => letA (newR A1 x10) fun A12 =>
 bindP (storeNR 3 A12 v13 v9) fun _ A15 =>
 bindO (nilcR v0) fun v16 =>
 bindO (load1R A15 v16) fun v17 =>
 bindO (apure [] (.slc 3 (.c v17) none (some (.c v5)) none)) fun v18 =>
 bindO (nilcR v0) fun v19 =>
 bindP (store1R A15 v19 v18) fun _ A21 =>
 bindO (loadNR 3 A21 v13) fun v22 =>
 bindO (apure [] (.mki 43 (.c v22))) fun v23 =>
 .ret v23 A21
noncomputable def s64 (call : CallT) (n : Nat) (as : List AVal) (A : AH) : Res := apL 1 (s64_b call n) as A
theorem s64_eq (call : CallT) (n : Nat) (as : List AVal) (A : AH) : fnK call n 25 [.tmp 2] y64 1 as A = s64 call n as A := by kernel_rfl
/-- (*concertina/depth.trees).Push -/
def y65 : YCode := (.draw [⟨none, [], [⟨(some 4), .mov (.t 0), none⟩,
    ⟨(some 5), .mov (.t 0), none⟩,
    ⟨(some 6), .nilc (.t 5), none⟩,
    ⟨(some 7), .load1 (.t 6), none⟩,
    ⟨(some 8), .mov (.t 1), none⟩,
    ⟨(some 9), .tassert 43 false (.agg [(.int .i64 0), (.int .i64 0), .nilslice]) (.t 8), none⟩,
    ⟨(some 10), .bslice 1 [(.int .i64 0), (.int .i64 0), .nilslice] [(0, 3, (.t 9))], none⟩,
    ⟨(some 11), .append 3 40 (.t 7) (.t 10), none⟩,
    ⟨(some 12), .nilc (.t 4), none⟩,
    ⟨none, .store1 (.t 12) (.t 11), none⟩]⟩] [] [])
def x65 : XFunc := ⟨13, [], y65.er⟩
noncomputable def s65_b (_ : CallT) (_ : Nat) (v0 v1 : AVal) (A2 : AH) : Res :=
 letA (A2.bump 10) fun A3 =>
 bindO (nilcR v0) fun v4 =>
 bindO (load1R A3 v4) fun v5 =>
 bindO (apure [] (.tassert 43 false (.agg [(.int .i64 0), (.int .i64 0), .nilslice]) (.c v1))) fun v6 =>
 bindF (afree [] (.bslice 1 [(.int .i64 0), (.int .i64 0), .nilslice] [(0, 3, (.c v6))])) fun x7 f8 => forceV (f8 ((Nat.add A2.next 6))) fun v10 => letA (setR A3 (Nat.add A2.next 6) x7) fun A9 =>
 bindP (achain [] A9 (.append 3 40 (.c v5) (.c v10))) fun v11 A12 =>
 bindO (nilcR v0) fun v13 =>
 bindP (store1R A12 v13 v11) fun _ A15 =>
 .ret (.tuple []) A15
noncomputable def s65 (call : CallT) (n : Nat) (as : List AVal) (A : AH) : Res := apL 2 (s65_b call n) as A
theorem s65_eq (call : CallT) (n : Nat) (as : List AVal) (A : AH) : fnK call n 13 [] y65 2 as A = s65 call n as A := by kernel_rfl
/-- (concertina/depth.trees).Swap -/
def y66 : YCode := (.draw [⟨none, [], [⟨(some 6), .mov (.t 0), none⟩,
    ⟨(some 7), .mov (.t 1), none⟩,
    ⟨(some 8), .mov (.t 0), none⟩,
    ⟨(some 9), .mov (.t 2), none⟩,
    ⟨(some 10), .mov (.t 0), none⟩,
    ⟨(some 11), .mov (.t 2), none⟩,
    ⟨(some 12), .idxs 3 (.t 10) (.t 11), none⟩,
    ⟨(some 13), .loadN 3 (.t 12), none⟩,
    ⟨(some 14), .mov (.t 0), none⟩,
    ⟨(some 15), .mov (.t 1), none⟩,
    ⟨(some 16), .idxs 3 (.t 14) (.t 15), none⟩,
    ⟨(some 17), .loadN 3 (.t 16), none⟩,
    ⟨(some 18), .idxs 3 (.t 6) (.t 7), none⟩,
    ⟨none, .storeN 3 (.t 18) (.t 13), none⟩,
    ⟨(some 19), .idxs 3 (.t 8) (.t 9), none⟩,
    ⟨none, .storeN 3 (.t 19) (.t 17), none⟩]⟩] [] [])
def x66 : XFunc := ⟨20, [], y66.er⟩
noncomputable def s66_b (_ : CallT) (_ : Nat) (v0 v1 v2 : AVal) (A3 : AH) : Res :=
 letA (A3.bump 16) fun A4 =>
 bindO (idxsR 3 v0 v2) fun v5 =>
 bindO (loadNR 3 A4 v5) fun v6 =>
 bindO (idxsR 3 v0 v1) fun v7 =>
 bindO (loadNR 3 A4 v7) fun v8 =>
 bindO (idxsR 3 v0 v1) fun v9 =>
 bindP (storeNR 3 A4 v9 v6) fun _ A11 =>
 bindO (idxsR 3 v0 v2) fun v12 =>
 bindP (storeNR 3 A11 v12 v8) fun _ A14 =>
 .ret (.tuple []) A14
noncomputable def s66 (call : CallT) (n : Nat) (as : List AVal) (A : AH) : Res := apL 3 (s66_b call n) as A
theorem s66_eq (call : CallT) (n : Nat) (as : List AVal) (A : AH) : fnK call n 20 [] y66 3 as A = s66 call n as A := by kernel_rfl
/-- cmp.Or[int] -/
def y67 : YCode := (.seq (.region [⟨none, [], [⟨(some 2), .mov (.c (.int .i64 0)), none⟩]⟩])
  (.seq (.region [⟨none, [], [⟨(some 3), .mov (.c (.int .i64 0)), none⟩]⟩])
  (.seq (.seq (.region [⟨none, [], [⟨(some 6), .mov (.t 0), none⟩,
    ⟨(some 7), .blen (.t 6), none⟩,
    ⟨(some 8), .mov (.c (.int .i64 0)), none⟩]⟩])
  (.block 0 [3] (.loop [8, 7, 6, 3] (.seq (.region [⟨none, [], [⟨(some 9), .bin .lss (.t 8) (.t 7), none⟩]⟩])
  (.seq (.cond (.t 9) [6, 8, 3, 7] .skip
  (.exit 0))
  (.seq (.block 1 [8, 7, 6, 3] (.seq (.region [⟨none, [], [⟨(some 10), .idxs 1 (.t 6) (.t 8), none⟩,
    ⟨(some 11), .load1 (.t 10), none⟩,
    ⟨(some 5), .mov (.t 11), none⟩]⟩])
  (.seq (.region [⟨none, [], [⟨(some 12), .mov (.t 5), none⟩,
    ⟨(some 13), .mov (.t 3), none⟩,
    ⟨(some 14), .bin .neq (.t 12) (.t 13), none⟩]⟩])
  (.cond (.t 14) [8, 7, 6, 3] (.seq (.region [⟨none, [], [⟨(some 15), .mov (.t 5), none⟩,
    ⟨(some 2), .mov (.t 15), none⟩]⟩])
  .ret)
  .skip))))
  (.region [⟨none, [], [⟨(some 16), .bin .add (.t 8) (.c (.int .i64 1)), none⟩,
    ⟨(some 8), .mov (.t 16), none⟩]⟩])))))))
  (.seq (.region [⟨none, [], [⟨(some 17), .mov (.t 3), none⟩,
    ⟨(some 2), .mov (.t 17), none⟩]⟩])
  .ret))))
def x67 : XFunc := ⟨18, [.tmp 2], y67.er⟩
noncomputable def s67_k4 (_ : CallT) (_ : Nat) (v3 : AVal) (A4 : AH) : Res :=
 .ret v3 A4
noncomputable def s67_k23 (_ : CallT) (_ : Nat) (n11 : J4) (v19 v20 v21 v22 : AVal) (A23 : AH) : Res :=
 bindO (addR v19 (.int .i64 1)) fun v25 =>
 n11 v25 v20 v21 v22 A23
noncomputable def s67_k33 (_ : CallT) (_ : Nat) (j24 : J4) (v29 v30 v31 v32 : AVal) (A33 : AH) : Res :=
 j24 v29 v30 v31 v32 A33
noncomputable def s67_k17 (call : CallT) (n : Nat) (n11 : J4) (v13 v14 v15 v16 : AVal) (A17 : AH) : Res :=
 joinV (s67_k23 call n n11) fun j24 =>
 bindO (idxsR 1 v13 v14) fun v26 =>
 bindO (load1R A17 v26) fun v27 =>
 bindO (neqR v27 v15) fun v28 =>
 joinV (s67_k33 call n j24) fun j34 => boolK (some v28) (
 .ret v27 A17) (
 j34 v14 v16 v13 v15 A17)
noncomputable def s67_l10 (call : CallT) (n : Nat) (j5 : J1) (n11 : J4) (v6 v7 v8 v9 : AVal) (A10 : AH) : Res :=
 bindO (lssR v6 v7) fun v12 =>
 joinV (s67_k17 call n n11) fun j18 => boolK (some v12) (
 j18 v8 v6 v9 v7 A10) (
 j5 v9 A10)
noncomputable def s67_b (call : CallT) (n : Nat) (v0 : AVal) (A1 : AH) : Res :=
 bindO (blenR v0) fun v2 =>
 joinV (s67_k4 call n) fun j5 =>
 loopK zJ4 n (s67_l10 call n j5) (.int .i64 0) v2 v0 (.int .i64 0) A1
noncomputable def s67 (call : CallT) (n : Nat) (as : List AVal) (A : AH) : Res := apL 1 (s67_b call n) as A
theorem s67_eq (call : CallT) (n : Nat) (as : List AVal) (A : AH) : fnK call n 18 [.tmp 2] y67 1 as A = s67 call n as A := by kernel_rfl
/-- The functions. -/
def xtree : BT XFunc := (.node 27 x27 (.node 15 x15 (.node 9 x9 (.node 6 x6 (.node 4 x4 (.node 3 x3 .leaf .leaf) (.node 5 x5 .leaf .leaf)) (.node 8 x8 (.node 7 x7 .leaf .leaf) .leaf)) (.node 12 x12 (.node 11 x11 (.node 10 x10 .leaf .leaf) .leaf) (.node 14 x14 (.node 13 x13 .leaf .leaf) .leaf))) (.node 21 x21 (.node 18 x18 (.node 17 x17 (.node 16 x16 .leaf .leaf) .leaf) (.node 20 x20 (.node 19 x19 .leaf .leaf) .leaf)) (.node 24 x24 (.node 23 x23 (.node 22 x22 .leaf .leaf) .leaf) (.node 26 x26 (.node 25 x25 .leaf .leaf) .leaf)))) (.node 40 x40 (.node 34 x34 (.node 31 x31 (.node 29 x29 (.node 28 x28 .leaf .leaf) (.node 30 x30 .leaf .leaf)) (.node 33 x33 (.node 32 x32 .leaf .leaf) .leaf)) (.node 37 x37 (.node 36 x36 (.node 35 x35 .leaf .leaf) .leaf) (.node 39 x39 (.node 38 x38 .leaf .leaf) .leaf))) (.node 46 x46 (.node 43 x43 (.node 42 x42 (.node 41 x41 .leaf .leaf) .leaf) (.node 45 x45 (.node 44 x44 .leaf .leaf) .leaf)) (.node 65 x65 (.node 64 x64 (.node 63 x63 .leaf .leaf) .leaf) (.node 67 x67 (.node 66 x66 .leaf .leaf) .leaf)))))
noncomputable abbrev env (pr : PrT) : XEnv := envOf xtree pr
noncomputable def stree (_pr : PrT) : BT FnT := (.node 27 s27 (.node 15 s15 (.node 9 s9 (.node 6 s6 (.node 4 s4 (.node 3 s3 .leaf .leaf) (.node 5 s5 .leaf .leaf)) (.node 8 s8 (.node 7 s7 .leaf .leaf) .leaf)) (.node 12 s12 (.node 11 s11 (.node 10 s10 .leaf .leaf) .leaf) (.node 14 s14 (.node 13 s13 .leaf .leaf) .leaf))) (.node 21 s21 (.node 18 s18 (.node 17 s17 (.node 16 s16 .leaf .leaf) .leaf) (.node 20 s20 (.node 19 s19 .leaf .leaf) .leaf)) (.node 24 s24 (.node 23 s23 (.node 22 s22 .leaf .leaf) .leaf) (.node 26 s26 (.node 25 s25 .leaf .leaf) .leaf)))) (.node 40 s40 (.node 34 s34 (.node 31 s31 (.node 29 s29 (.node 28 s28 .leaf .leaf) (.node 30 s30 .leaf .leaf)) (.node 33 s33 (.node 32 s32 .leaf .leaf) .leaf)) (.node 37 s37 (.node 36 s36 (.node 35 s35 .leaf .leaf) .leaf) (.node 39 s39 (.node 38 s38 .leaf .leaf) .leaf))) (.node 46 s46 (.node 43 s43 (.node 42 s42 (.node 41 s41 .leaf .leaf) .leaf) (.node 45 s45 (.node 44 s44 .leaf .leaf) .leaf)) (.node 65 s65 (.node 64 s64 (.node 63 s63 .leaf .leaf) .leaf) (.node 67 s67 (.node 66 s66 .leaf .leaf) .leaf)))))
theorem stree_ok (pr : PrT) : BT.All (FnOk (env pr)) (stree pr) := (.node (fn_of (y := y27) rfl s27_eq) (.node (fn_of (y := y15) rfl s15_eq) (.node (fn_of (y := y9) rfl s9_eq) (.node (fn_of (y := y6) rfl s6_eq) (.node (fn_of (y := y4) rfl s4_eq) (.node (fn_of (y := y3) rfl s3_eq) .leaf .leaf) (.node (fn_of (y := y5) rfl s5_eq) .leaf .leaf)) (.node (fn_of (y := y8) rfl s8_eq) (.node (fn_of (y := y7) rfl s7_eq) .leaf .leaf) .leaf)) (.node (fn_of (y := y12) rfl s12_eq) (.node (fn_of (y := y11) rfl s11_eq) (.node (fn_of (y := y10) rfl s10_eq) .leaf .leaf) .leaf) (.node (fn_of (y := y14) rfl s14_eq) (.node (fn_of (y := y13) rfl s13_eq) .leaf .leaf) .leaf))) (.node (fn_of (y := y21) rfl s21_eq) (.node (fn_of (y := y18) rfl s18_eq) (.node (fn_of (y := y17) rfl s17_eq) (.node (fn_of (y := y16) rfl s16_eq) .leaf .leaf) .leaf) (.node (fn_of (y := y20) rfl s20_eq) (.node (fn_of (y := y19) rfl s19_eq) .leaf .leaf) .leaf)) (.node (fn_of (y := y24) rfl s24_eq) (.node (fn_of (y := y23) rfl s23_eq) (.node (fn_of (y := y22) rfl s22_eq) .leaf .leaf) .leaf) (.node (fn_of (y := y26) rfl s26_eq) (.node (fn_of (y := y25) rfl s25_eq) .leaf .leaf) .leaf)))) (.node (fn_of (y := y40) rfl s40_eq) (.node (fn_of (y := y34) rfl s34_eq) (.node (fn_of (y := y31) rfl s31_eq) (.node (fn_of (y := y29) rfl s29_eq) (.node (fn_of (y := y28) rfl s28_eq) .leaf .leaf) (.node (fn_of (y := y30) rfl s30_eq) .leaf .leaf)) (.node (fn_of (y := y33) rfl s33_eq) (.node (fn_of (y := y32) rfl s32_eq) .leaf .leaf) .leaf)) (.node (fn_of (y := y37) rfl s37_eq) (.node (fn_of (y := y36) rfl s36_eq) (.node (fn_of (y := y35) rfl s35_eq) .leaf .leaf) .leaf) (.node (fn_of (y := y39) rfl s39_eq) (.node (fn_of (y := y38) rfl s38_eq) .leaf .leaf) .leaf))) (.node (fn_of (y := y46) rfl s46_eq) (.node (fn_of (y := y43) rfl s43_eq) (.node (fn_of (y := y42) rfl s42_eq) (.node (fn_of (y := y41) rfl s41_eq) .leaf .leaf) .leaf) (.node (fn_of (y := y45) rfl s45_eq) (.node (fn_of (y := y44) rfl s44_eq) .leaf .leaf) .leaf)) (.node (fn_of (y := y65) rfl s65_eq) (.node (fn_of (y := y64) rfl s64_eq) (.node (fn_of (y := y63) rfl s63_eq) .leaf .leaf) .leaf) (.node (fn_of (y := y67) rfl s67_eq) (.node (fn_of (y := y66) rfl s66_eq) .leaf .leaf) .leaf)))))
noncomputable def run (pr : PrT) (n : Nat) (f : FuncId) (as : List AVal) (A : AH) : Res := runT (tabOf (stree pr) pr) n f as A
theorem run_ok (pr : PrT) (n : Nat) : Le0 (run pr n) (acall (env pr) n) := runT_ok (tabOf_ok (stree_ok pr)) n
theorem r3 (pr : PrT) (n : Nat) (as : List AVal) (A : AH) (h : pr 3 = none) : run pr (n + 1) 3 as A = s3 (run pr n) n as A := run_at rfl h rfl
theorem r4 (pr : PrT) (n : Nat) (as : List AVal) (A : AH) (h : pr 4 = none) : run pr (n + 1) 4 as A = s4 (run pr n) n as A := run_at rfl h rfl
theorem r5 (pr : PrT) (n : Nat) (as : List AVal) (A : AH) (h : pr 5 = none) : run pr (n + 1) 5 as A = s5 (run pr n) n as A := run_at rfl h rfl
theorem r6 (pr : PrT) (n : Nat) (as : List AVal) (A : AH) (h : pr 6 = none) : run pr (n + 1) 6 as A = s6 (run pr n) n as A := run_at rfl h rfl
theorem r7 (pr : PrT) (n : Nat) (as : List AVal) (A : AH) (h : pr 7 = none) : run pr (n + 1) 7 as A = s7 (run pr n) n as A := run_at rfl h rfl
theorem r8 (pr : PrT) (n : Nat) (as : List AVal) (A : AH) (h : pr 8 = none) : run pr (n + 1) 8 as A = s8 (run pr n) n as A := run_at rfl h rfl
theorem r9 (pr : PrT) (n : Nat) (as : List AVal) (A : AH) (h : pr 9 = none) : run pr (n + 1) 9 as A = s9 (run pr n) n as A := run_at rfl h rfl
theorem r10 (pr : PrT) (n : Nat) (as : List AVal) (A : AH) (h : pr 10 = none) : run pr (n + 1) 10 as A = s10 (run pr n) n as A := run_at rfl h rfl
theorem r11 (pr : PrT) (n : Nat) (as : List AVal) (A : AH) (h : pr 11 = none) : run pr (n + 1) 11 as A = s11 (run pr n) n as A := run_at rfl h rfl
theorem r12 (pr : PrT) (n : Nat) (as : List AVal) (A : AH) (h : pr 12 = none) : run pr (n + 1) 12 as A = s12 (run pr n) n as A := run_at rfl h rfl
theorem r13 (pr : PrT) (n : Nat) (as : List AVal) (A : AH) (h : pr 13 = none) : run pr (n + 1) 13 as A = s13 (run pr n) n as A := run_at rfl h rfl
theorem r14 (pr : PrT) (n : Nat) (as : List AVal) (A : AH) (h : pr 14 = none) : run pr (n + 1) 14 as A = s14 (run pr n) n as A := run_at rfl h rfl
theorem r15 (pr : PrT) (n : Nat) (as : List AVal) (A : AH) (h : pr 15 = none) : run pr (n + 1) 15 as A = s15 (run pr n) n as A := run_at rfl h rfl
theorem r16 (pr : PrT) (n : Nat) (as : List AVal) (A : AH) (h : pr 16 = none) : run pr (n + 1) 16 as A = s16 (run pr n) n as A := run_at rfl h rfl
theorem r17 (pr : PrT) (n : Nat) (as : List AVal) (A : AH) (h : pr 17 = none) : run pr (n + 1) 17 as A = s17 (run pr n) n as A := run_at rfl h rfl
theorem r18 (pr : PrT) (n : Nat) (as : List AVal) (A : AH) (h : pr 18 = none) : run pr (n + 1) 18 as A = s18 (run pr n) n as A := run_at rfl h rfl
theorem r19 (pr : PrT) (n : Nat) (as : List AVal) (A : AH) (h : pr 19 = none) : run pr (n + 1) 19 as A = s19 (run pr n) n as A := run_at rfl h rfl
theorem r20 (pr : PrT) (n : Nat) (as : List AVal) (A : AH) (h : pr 20 = none) : run pr (n + 1) 20 as A = s20 (run pr n) n as A := run_at rfl h rfl
theorem r21 (pr : PrT) (n : Nat) (as : List AVal) (A : AH) (h : pr 21 = none) : run pr (n + 1) 21 as A = s21 (run pr n) n as A := run_at rfl h rfl
theorem r22 (pr : PrT) (n : Nat) (as : List AVal) (A : AH) (h : pr 22 = none) : run pr (n + 1) 22 as A = s22 (run pr n) n as A := run_at rfl h rfl
theorem r23 (pr : PrT) (n : Nat) (as : List AVal) (A : AH) (h : pr 23 = none) : run pr (n + 1) 23 as A = s23 (run pr n) n as A := run_at rfl h rfl
theorem r24 (pr : PrT) (n : Nat) (as : List AVal) (A : AH) (h : pr 24 = none) : run pr (n + 1) 24 as A = s24 (run pr n) n as A := run_at rfl h rfl
theorem r25 (pr : PrT) (n : Nat) (as : List AVal) (A : AH) (h : pr 25 = none) : run pr (n + 1) 25 as A = s25 (run pr n) n as A := run_at rfl h rfl
theorem r26 (pr : PrT) (n : Nat) (as : List AVal) (A : AH) (h : pr 26 = none) : run pr (n + 1) 26 as A = s26 (run pr n) n as A := run_at rfl h rfl
theorem r27 (pr : PrT) (n : Nat) (as : List AVal) (A : AH) (h : pr 27 = none) : run pr (n + 1) 27 as A = s27 (run pr n) n as A := run_at rfl h rfl
theorem r28 (pr : PrT) (n : Nat) (as : List AVal) (A : AH) (h : pr 28 = none) : run pr (n + 1) 28 as A = s28 (run pr n) n as A := run_at rfl h rfl
theorem r29 (pr : PrT) (n : Nat) (as : List AVal) (A : AH) (h : pr 29 = none) : run pr (n + 1) 29 as A = s29 (run pr n) n as A := run_at rfl h rfl
theorem r30 (pr : PrT) (n : Nat) (as : List AVal) (A : AH) (h : pr 30 = none) : run pr (n + 1) 30 as A = s30 (run pr n) n as A := run_at rfl h rfl
theorem r31 (pr : PrT) (n : Nat) (as : List AVal) (A : AH) (h : pr 31 = none) : run pr (n + 1) 31 as A = s31 (run pr n) n as A := run_at rfl h rfl
theorem r32 (pr : PrT) (n : Nat) (as : List AVal) (A : AH) (h : pr 32 = none) : run pr (n + 1) 32 as A = s32 (run pr n) n as A := run_at rfl h rfl
theorem r33 (pr : PrT) (n : Nat) (as : List AVal) (A : AH) (h : pr 33 = none) : run pr (n + 1) 33 as A = s33 (run pr n) n as A := run_at rfl h rfl
theorem r34 (pr : PrT) (n : Nat) (as : List AVal) (A : AH) (h : pr 34 = none) : run pr (n + 1) 34 as A = s34 (run pr n) n as A := run_at rfl h rfl
theorem r35 (pr : PrT) (n : Nat) (as : List AVal) (A : AH) (h : pr 35 = none) : run pr (n + 1) 35 as A = s35 (run pr n) n as A := run_at rfl h rfl
theorem r36 (pr : PrT) (n : Nat) (as : List AVal) (A : AH) (h : pr 36 = none) : run pr (n + 1) 36 as A = s36 (run pr n) n as A := run_at rfl h rfl
theorem r37 (pr : PrT) (n : Nat) (as : List AVal) (A : AH) (h : pr 37 = none) : run pr (n + 1) 37 as A = s37 (run pr n) n as A := run_at rfl h rfl
theorem r38 (pr : PrT) (n : Nat) (as : List AVal) (A : AH) (h : pr 38 = none) : run pr (n + 1) 38 as A = s38 (run pr n) n as A := run_at rfl h rfl
theorem r39 (pr : PrT) (n : Nat) (as : List AVal) (A : AH) (h : pr 39 = none) : run pr (n + 1) 39 as A = s39 (run pr n) n as A := run_at rfl h rfl
theorem r40 (pr : PrT) (n : Nat) (as : List AVal) (A : AH) (h : pr 40 = none) : run pr (n + 1) 40 as A = s40 (run pr n) n as A := run_at rfl h rfl
theorem r41 (pr : PrT) (n : Nat) (as : List AVal) (A : AH) (h : pr 41 = none) : run pr (n + 1) 41 as A = s41 (run pr n) n as A := run_at rfl h rfl
theorem r42 (pr : PrT) (n : Nat) (as : List AVal) (A : AH) (h : pr 42 = none) : run pr (n + 1) 42 as A = s42 (run pr n) n as A := run_at rfl h rfl
theorem r43 (pr : PrT) (n : Nat) (as : List AVal) (A : AH) (h : pr 43 = none) : run pr (n + 1) 43 as A = s43 (run pr n) n as A := run_at rfl h rfl
theorem r44 (pr : PrT) (n : Nat) (as : List AVal) (A : AH) (h : pr 44 = none) : run pr (n + 1) 44 as A = s44 (run pr n) n as A := run_at rfl h rfl
theorem r45 (pr : PrT) (n : Nat) (as : List AVal) (A : AH) (h : pr 45 = none) : run pr (n + 1) 45 as A = s45 (run pr n) n as A := run_at rfl h rfl
theorem r46 (pr : PrT) (n : Nat) (as : List AVal) (A : AH) (h : pr 46 = none) : run pr (n + 1) 46 as A = s46 (run pr n) n as A := run_at rfl h rfl
theorem r63 (pr : PrT) (n : Nat) (as : List AVal) (A : AH) (h : pr 63 = none) : run pr (n + 1) 63 as A = s63 (run pr n) n as A := run_at rfl h rfl
theorem r64 (pr : PrT) (n : Nat) (as : List AVal) (A : AH) (h : pr 64 = none) : run pr (n + 1) 64 as A = s64 (run pr n) n as A := run_at rfl h rfl
theorem r65 (pr : PrT) (n : Nat) (as : List AVal) (A : AH) (h : pr 65 = none) : run pr (n + 1) 65 as A = s65 (run pr n) n as A := run_at rfl h rfl
theorem r66 (pr : PrT) (n : Nat) (as : List AVal) (A : AH) (h : pr 66 = none) : run pr (n + 1) 66 as A = s66 (run pr n) n as A := run_at rfl h rfl
theorem r67 (pr : PrT) (n : Nat) (as : List AVal) (A : AH) (h : pr 67 = none) : run pr (n + 1) 67 as A = s67 (run pr n) n as A := run_at rfl h rfl
end Ab.TD
