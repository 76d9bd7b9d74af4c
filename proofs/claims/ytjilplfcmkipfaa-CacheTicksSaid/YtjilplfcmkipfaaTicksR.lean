/-
  The statement CacheTicks: the test of a tick, by itself.
-/
import Derived.Test.YtjilplfcmkipfaaTk
namespace Go.Proofs.Ytjilplfcmkipfaa.Cache
open Go.RowKit Go.Shelf Go.Proofs.Ytjilplfcmkipfaa.Bits Go.Proofs.Ytjilplfcmkipfaa.Sys Go.Proofs.Ytjilplfcmkipfaa.Box

/-- The region of this number. -/
def regionOf (n : Nat) : Code → Option Code
  | .region k ops d => if k == n then some (.region k ops d) else none
  | .seq a b => match regionOf n a with
    | some c => some c
    | none => regionOf n b
  | .block _ c => regionOf n c
  | .loop c => regionOf n c
  | .scope c => regionOf n c
  | .cond _ a b => match regionOf n a with
    | some c => some c
    | none => regionOf n b
  | _ => none
noncomputable def reg18 : Code := ((Try.f4.body.bind (regionOf 18)).getD .skip)
set_option maxHeartbeats 16000000 in
set_option maxRecDepth 1000000 in
theorem reg18_a (b2 b4 xb kk : Nat) (R xm ke : Int) (wd : World) (Q : Exit → Act → World → Prop) (u0 u1 u2 u3 u4 u5 u7 u9 u15 u16 u17 u18 u19 u20 u21 u22 u23 u24 u25 u26 u27 u28 u29 u30 u31 u32 u33 u34 u35 u36 u37 u38 u39 u40 u41 u42 u43 u44 u45 u46 u47 u48 u49 u50 u51 u52 u53 u54 u55 u56 u57 u58 u59 u60 u61 u62 u63 u64 u65 u66 u67 u68 u69 u70 u71 u72 u73 u74 u75 u76 u77 u78 u79 u80 u81 u82 u83 u84 u85 u86 u87 u88 u89 u90 u91 u92 u93 u94 u95 u96 u97 u98 u99 u100 u101 u102 u103 u104 u105 u106 u107 u108 u109 u110 u111 u112 u113 u114 u115 u116 u117 u118 u119 u120 u121 u122 u123 u124 u125 u126 u127 u128 u129 u130 u131 u132 u133 u134 u135 u136 u137 u138 u139 u140 u141 u142 u143 u144 u145 u146 u147 u148 u149 u150 u151 u152 u153 u154 u155 u156 u157 u158 u159 : Value)
    (HX : Hid (∀ w, Below wd.heap.size wd w → w.cell? ⟨b2, 1, none⟩ = some (.int .i64 R))) (HC : Hid (∀ w, Below wd.heap.size wd w → w.cell? ⟨xb, 1, none⟩ = some (.int .i64 xm) ∧ w.cell? ⟨xb, 2, none⟩ = some (.int .i64 (0))))
    (HM : Hid (∀ w, Below wd.heap.size wd w → w.cell? ⟨b4, kk * 8 + 1, none⟩ = some (.int .i64 xm) ∧ w.cell? ⟨b4, kk * 8 + 2, none⟩ = some (.int .i64 (ke)))) (q0 : (0 : Int) ≤ (kk : Int)) (q1 : (kk : Int) < 2)
    (d0 : decide (R < 0) = false)
    (hQ : Hid (∀ (v85 v86 v87 v88 v89 v90 v91 v92 v93 v94 v95 v96 v97 v98 v99 v100 v101 v102 v103 v104 v105 v106 v107 v108 v109 v110 v111 v112 v113 v114 v115 v116 v117 v118 v119 v120 v121 v122 v123 v124 v125 v126 v127 v128 v129 v130 v131 v132 v133 v134 v135 v136 v137 v138 v139 v140 v141 v142 v143 v144 v145 v146 v147 v148 v149 v150 v151 v152 v153 v154 : Value) w9, Below wd.heap.size wd w9 → Q .normal ⟨#[u0, u1, u2, u3, u4, u5, .pointer (some ⟨b2, 0, none⟩), u7, .pointer (some ⟨b4, 0, none⟩), u9, .int .i64 (kk : Int), .pointer (some ⟨xb, 0, none⟩), .bool false, .int .i64 1, .int .i64 0, u15, u16, u17, u18, u19, u20, u21, u22, u23, u24, u25, u26, u27, u28, u29, u30, u31, u32, u33, u34, u35, u36, u37, u38, u39, u40, u41, u42, u43, u44, u45, u46, u47, u48, u49, u50, u51, u52, u53, u54, u55, u56, u57, u58, u59, u60, u61, u62, u63, u64, u65, u66, u67, u68, u69, u70, u71, u72, u73, u74, u75, u76, u77, u78, u79, u80, u81, u82, u83, u84, v85, v86, v87, v88, v89, v90, v91, v92, v93, v94, v95, v96, v97, v98, v99, v100, v101, v102, v103, v104, v105, v106, v107, v108, v109, v110, v111, v112, v113, v114, v115, v116, v117, v118, v119, v120, v121, v122, v123, v124, v125, v126, v127, v128, v129, v130, v131, v132, v133, v134, v135, v136, v137, v138, v139, v140, v141, v142, v143, v144, v145, v146, v147, v148, v149, v150, v151, v152, v153, v154, .bool false, u156, u157, u158, u159], []⟩ w9)) :
    Code.wp Try.prog reg18 Q ⟨#[u0, u1, u2, u3, u4, u5, .pointer (some ⟨b2, 0, none⟩), u7, .pointer (some ⟨b4, 0, none⟩), u9, .int .i64 (kk : Int), .pointer (some ⟨xb, 0, none⟩), .bool false, .int .i64 1, .int .i64 0, u15, u16, u17, u18, u19, u20, u21, u22, u23, u24, u25, u26, u27, u28, u29, u30, u31, u32, u33, u34, u35, u36, u37, u38, u39, u40, u41, u42, u43, u44, u45, u46, u47, u48, u49, u50, u51, u52, u53, u54, u55, u56, u57, u58, u59, u60, u61, u62, u63, u64, u65, u66, u67, u68, u69, u70, u71, u72, u73, u74, u75, u76, u77, u78, u79, u80, u81, u82, u83, u84, u85, u86, u87, u88, u89, u90, u91, u92, u93, u94, u95, u96, u97, u98, u99, u100, u101, u102, u103, u104, u105, u106, u107, u108, u109, u110, u111, u112, u113, u114, u115, u116, u117, u118, u119, u120, u121, u122, u123, u124, u125, u126, u127, u128, u129, u130, u131, u132, u133, u134, u135, u136, u137, u138, u139, u140, u141, u142, u143, u144, u145, u146, u147, u148, u149, u150, u151, u152, u153, u154, u155, u156, u157, u158, u159], []⟩ wd := by
  conv => arg 2; whnf
  dsimp only [List.append]
  refine Calm.wp_region_calm (B := wd.heap.size) (W := wd) (by kernel_rfl) (by kernel_rfl) (by kernel_rfl) (Nat.le_refl _) (Below.refl _ _).drew ?_
  apply Exists.intro
  repeat (first
    | (apply Calm.calm_skip
       · rfl
       intro N hN
       go_simp
       apply hN.out
       clear hN N)
    | (apply Calm.calm_val
       · rfl
       · intro w hB hF K hK
         unfold Calm.opAt
         obtain ⟨c1, c2⟩ := HC.out w hB
         obtain ⟨m1, m2⟩ := HM.out w hB
         have x1 := HX.out w hB
         go_simp
         first
           | (simp only [Calm.upon_value]
              exact hK.out _ _ rfl (Below.refl _ _))
       intro N hN
       go_simp
       apply hN.out
       clear hN N))
  apply Calm.calm_nil
  intro w9 hB9 _
  exact hQ.out _ _ _ _ _ _ _ _ _ _ _ _ _ _ _ _ _ _ _ _ _ _ _ _ _ _ _ _ _ _ _ _ _ _ _ _ _ _ _ _ _ _ _ _ _ _ _ _ _ _ _ _ _ _ _ _ _ _ _ _ _ _ _ _ _ _ _ _ _ _ w9 hB9
set_option maxHeartbeats 16000000 in
set_option maxRecDepth 1000000 in
theorem reg18_b (b2 b4 xb kk : Nat) (R xm ke : Int) (wd : World) (Q : Exit → Act → World → Prop) (u0 u1 u2 u3 u4 u5 u7 u9 u15 u16 u17 u18 u19 u20 u21 u22 u23 u24 u25 u26 u27 u28 u29 u30 u31 u32 u33 u34 u35 u36 u37 u38 u39 u40 u41 u42 u43 u44 u45 u46 u47 u48 u49 u50 u51 u52 u53 u54 u55 u56 u57 u58 u59 u60 u61 u62 u63 u64 u65 u66 u67 u68 u69 u70 u71 u72 u73 u74 u75 u76 u77 u78 u79 u80 u81 u82 u83 u84 u85 u86 u87 u88 u89 u90 u91 u92 u93 u94 u95 u96 u97 u98 u99 u100 u101 u102 u103 u104 u105 u106 u107 u108 u109 u110 u111 u112 u113 u114 u115 u116 u117 u118 u119 u120 u121 u122 u123 u124 u125 u126 u127 u128 u129 u130 u131 u132 u133 u134 u135 u136 u137 u138 u139 u140 u141 u142 u143 u144 u145 u146 u147 u148 u149 u150 u151 u152 u153 u154 u155 u156 u157 u158 u159 : Value)
    (HX : Hid (∀ w, Below wd.heap.size wd w → w.cell? ⟨b2, 1, none⟩ = some (.int .i64 R))) (HC : Hid (∀ w, Below wd.heap.size wd w → w.cell? ⟨xb, 1, none⟩ = some (.int .i64 xm) ∧ w.cell? ⟨xb, 2, none⟩ = some (.int .i64 (ke - 1))))
    (HM : Hid (∀ w, Below wd.heap.size wd w → w.cell? ⟨b4, kk * 8 + 1, none⟩ = some (.int .i64 xm) ∧ w.cell? ⟨b4, kk * 8 + 2, none⟩ = some (.int .i64 (ke)))) (q0 : (0 : Int) ≤ (kk : Int)) (q1 : (kk : Int) < 2)
    (d0 : (R == 0) = false) (d1 : decide (R < ke - 1) = false) (d2 : decide (0 < ke) = true) (d3 : IntKind.i64.wrap (ke - 1) = ke - 1)
    (hQ : Hid (∀ (v85 v86 v87 v88 v89 v90 v91 v92 v93 v94 v95 v96 v97 v98 v99 v100 v101 v102 v103 v104 v105 v106 v107 v108 v109 v110 v111 v112 v113 v114 v115 v116 v117 v118 v119 v120 v121 v122 v123 v124 v125 v126 v127 v128 v129 v130 v131 v132 v133 v134 v135 v136 v137 v138 v139 v140 v141 v142 v143 v144 v145 v146 v147 v148 v149 v150 v151 v152 v153 v154 : Value) w9, Below wd.heap.size wd w9 → Q .normal ⟨#[u0, u1, u2, u3, u4, u5, .pointer (some ⟨b2, 0, none⟩), u7, .pointer (some ⟨b4, 0, none⟩), u9, .int .i64 (kk : Int), .pointer (some ⟨xb, 0, none⟩), .bool true, .int .i64 0, .int .i64 1, u15, u16, u17, u18, u19, u20, u21, u22, u23, u24, u25, u26, u27, u28, u29, u30, u31, u32, u33, u34, u35, u36, u37, u38, u39, u40, u41, u42, u43, u44, u45, u46, u47, u48, u49, u50, u51, u52, u53, u54, u55, u56, u57, u58, u59, u60, u61, u62, u63, u64, u65, u66, u67, u68, u69, u70, u71, u72, u73, u74, u75, u76, u77, u78, u79, u80, u81, u82, u83, u84, v85, v86, v87, v88, v89, v90, v91, v92, v93, v94, v95, v96, v97, v98, v99, v100, v101, v102, v103, v104, v105, v106, v107, v108, v109, v110, v111, v112, v113, v114, v115, v116, v117, v118, v119, v120, v121, v122, v123, v124, v125, v126, v127, v128, v129, v130, v131, v132, v133, v134, v135, v136, v137, v138, v139, v140, v141, v142, v143, v144, v145, v146, v147, v148, v149, v150, v151, v152, v153, v154, .bool false, u156, u157, u158, u159], []⟩ w9)) :
    Code.wp Try.prog reg18 Q ⟨#[u0, u1, u2, u3, u4, u5, .pointer (some ⟨b2, 0, none⟩), u7, .pointer (some ⟨b4, 0, none⟩), u9, .int .i64 (kk : Int), .pointer (some ⟨xb, 0, none⟩), .bool true, .int .i64 0, .int .i64 1, u15, u16, u17, u18, u19, u20, u21, u22, u23, u24, u25, u26, u27, u28, u29, u30, u31, u32, u33, u34, u35, u36, u37, u38, u39, u40, u41, u42, u43, u44, u45, u46, u47, u48, u49, u50, u51, u52, u53, u54, u55, u56, u57, u58, u59, u60, u61, u62, u63, u64, u65, u66, u67, u68, u69, u70, u71, u72, u73, u74, u75, u76, u77, u78, u79, u80, u81, u82, u83, u84, u85, u86, u87, u88, u89, u90, u91, u92, u93, u94, u95, u96, u97, u98, u99, u100, u101, u102, u103, u104, u105, u106, u107, u108, u109, u110, u111, u112, u113, u114, u115, u116, u117, u118, u119, u120, u121, u122, u123, u124, u125, u126, u127, u128, u129, u130, u131, u132, u133, u134, u135, u136, u137, u138, u139, u140, u141, u142, u143, u144, u145, u146, u147, u148, u149, u150, u151, u152, u153, u154, u155, u156, u157, u158, u159], []⟩ wd := by
  conv => arg 2; whnf
  dsimp only [List.append]
  refine Calm.wp_region_calm (B := wd.heap.size) (W := wd) (by kernel_rfl) (by kernel_rfl) (by kernel_rfl) (Nat.le_refl _) (Below.refl _ _).drew ?_
  apply Exists.intro
  repeat (first
    | (apply Calm.calm_skip
       · rfl
       intro N hN
       go_simp
       apply hN.out
       clear hN N)
    | (apply Calm.calm_val
       · rfl
       · intro w hB hF K hK
         unfold Calm.opAt
         obtain ⟨c1, c2⟩ := HC.out w hB
         obtain ⟨m1, m2⟩ := HM.out w hB
         have x1 := HX.out w hB
         go_simp
         first
           | (simp only [Calm.upon_value]
              exact hK.out _ _ rfl (Below.refl _ _))
       intro N hN
       go_simp
       apply hN.out
       clear hN N))
  apply Calm.calm_nil
  intro w9 hB9 _
  exact hQ.out _ _ _ _ _ _ _ _ _ _ _ _ _ _ _ _ _ _ _ _ _ _ _ _ _ _ _ _ _ _ _ _ _ _ _ _ _ _ _ _ _ _ _ _ _ _ _ _ _ _ _ _ _ _ _ _ _ _ _ _ _ _ _ _ _ _ _ _ _ _ w9 hB9
set_option maxHeartbeats 16000000 in
set_option maxRecDepth 1000000 in
theorem reg18_c (b2 b4 xb kk : Nat) (R xm xe : Int) (wd : World) (Q : Exit → Act → World → Prop) (u0 u1 u2 u3 u4 u5 u7 u9 u15 u16 u17 u18 u19 u20 u21 u22 u23 u24 u25 u26 u27 u28 u29 u30 u31 u32 u33 u34 u35 u36 u37 u38 u39 u40 u41 u42 u43 u44 u45 u46 u47 u48 u49 u50 u51 u52 u53 u54 u55 u56 u57 u58 u59 u60 u61 u62 u63 u64 u65 u66 u67 u68 u69 u70 u71 u72 u73 u74 u75 u76 u77 u78 u79 u80 u81 u82 u83 u84 u85 u86 u87 u88 u89 u90 u91 u92 u93 u94 u95 u96 u97 u98 u99 u100 u101 u102 u103 u104 u105 u106 u107 u108 u109 u110 u111 u112 u113 u114 u115 u116 u117 u118 u119 u120 u121 u122 u123 u124 u125 u126 u127 u128 u129 u130 u131 u132 u133 u134 u135 u136 u137 u138 u139 u140 u141 u142 u143 u144 u145 u146 u147 u148 u149 u150 u151 u152 u153 u154 u155 u156 u157 u158 u159 : Value)
    (HX : Hid (∀ w, Below wd.heap.size wd w → w.cell? ⟨b2, 1, none⟩ = some (.int .i64 R))) (HC : Hid (∀ w, Below wd.heap.size wd w → w.cell? ⟨xb, 1, none⟩ = some (.int .i64 xm) ∧ w.cell? ⟨xb, 2, none⟩ = some (.int .i64 (xe))))
    (HM : Hid (∀ w, Below wd.heap.size wd w → w.cell? ⟨b4, kk * 8 + 1, none⟩ = some (.int .i64 xm) ∧ w.cell? ⟨b4, kk * 8 + 2, none⟩ = some (.int .i64 (0)))) (q0 : (0 : Int) ≤ (kk : Int)) (q1 : (kk : Int) < 2)
    (d0 : (R == 0) = false) (d1 : decide (R < xe) = false)
    (hQ : Hid (∀ (v85 v86 v87 v88 v89 v90 v91 v92 v93 v94 v95 v96 v97 v98 v99 v100 v101 v102 v103 v104 v105 v106 v107 v108 v109 v110 v111 v112 v113 v114 v115 v116 v117 v118 v119 v120 v121 v122 v123 v124 v125 v126 v127 v128 v129 v130 v131 v132 v133 v134 v135 v136 v137 v138 v139 v140 v141 v142 v143 v144 v145 v146 v147 v148 v149 v150 v151 v152 v153 v154 : Value) w9, Below wd.heap.size wd w9 → Q .normal ⟨#[u0, u1, u2, u3, u4, u5, .pointer (some ⟨b2, 0, none⟩), u7, .pointer (some ⟨b4, 0, none⟩), u9, .int .i64 (kk : Int), .pointer (some ⟨xb, 0, none⟩), .bool true, .int .i64 0, .int .i64 1, u15, u16, u17, u18, u19, u20, u21, u22, u23, u24, u25, u26, u27, u28, u29, u30, u31, u32, u33, u34, u35, u36, u37, u38, u39, u40, u41, u42, u43, u44, u45, u46, u47, u48, u49, u50, u51, u52, u53, u54, u55, u56, u57, u58, u59, u60, u61, u62, u63, u64, u65, u66, u67, u68, u69, u70, u71, u72, u73, u74, u75, u76, u77, u78, u79, u80, u81, u82, u83, u84, v85, v86, v87, v88, v89, v90, v91, v92, v93, v94, v95, v96, v97, v98, v99, v100, v101, v102, v103, v104, v105, v106, v107, v108, v109, v110, v111, v112, v113, v114, v115, v116, v117, v118, v119, v120, v121, v122, v123, v124, v125, v126, v127, v128, v129, v130, v131, v132, v133, v134, v135, v136, v137, v138, v139, v140, v141, v142, v143, v144, v145, v146, v147, v148, v149, v150, v151, v152, v153, v154, .bool false, u156, u157, u158, u159], []⟩ w9)) :
    Code.wp Try.prog reg18 Q ⟨#[u0, u1, u2, u3, u4, u5, .pointer (some ⟨b2, 0, none⟩), u7, .pointer (some ⟨b4, 0, none⟩), u9, .int .i64 (kk : Int), .pointer (some ⟨xb, 0, none⟩), .bool true, .int .i64 0, .int .i64 1, u15, u16, u17, u18, u19, u20, u21, u22, u23, u24, u25, u26, u27, u28, u29, u30, u31, u32, u33, u34, u35, u36, u37, u38, u39, u40, u41, u42, u43, u44, u45, u46, u47, u48, u49, u50, u51, u52, u53, u54, u55, u56, u57, u58, u59, u60, u61, u62, u63, u64, u65, u66, u67, u68, u69, u70, u71, u72, u73, u74, u75, u76, u77, u78, u79, u80, u81, u82, u83, u84, u85, u86, u87, u88, u89, u90, u91, u92, u93, u94, u95, u96, u97, u98, u99, u100, u101, u102, u103, u104, u105, u106, u107, u108, u109, u110, u111, u112, u113, u114, u115, u116, u117, u118, u119, u120, u121, u122, u123, u124, u125, u126, u127, u128, u129, u130, u131, u132, u133, u134, u135, u136, u137, u138, u139, u140, u141, u142, u143, u144, u145, u146, u147, u148, u149, u150, u151, u152, u153, u154, u155, u156, u157, u158, u159], []⟩ wd := by
  conv => arg 2; whnf
  dsimp only [List.append]
  refine Calm.wp_region_calm (B := wd.heap.size) (W := wd) (by kernel_rfl) (by kernel_rfl) (by kernel_rfl) (Nat.le_refl _) (Below.refl _ _).drew ?_
  apply Exists.intro
  repeat (first
    | (apply Calm.calm_skip
       · rfl
       intro N hN
       go_simp
       apply hN.out
       clear hN N)
    | (apply Calm.calm_val
       · rfl
       · intro w hB hF K hK
         unfold Calm.opAt
         obtain ⟨c1, c2⟩ := HC.out w hB
         obtain ⟨m1, m2⟩ := HM.out w hB
         have x1 := HX.out w hB
         go_simp
         first
           | (simp only [Calm.upon_value]
              exact hK.out _ _ rfl (Below.refl _ _))
       intro N hN
       go_simp
       apply hN.out
       clear hN N))
  apply Calm.calm_nil
  intro w9 hB9 _
  exact hQ.out _ _ _ _ _ _ _ _ _ _ _ _ _ _ _ _ _ _ _ _ _ _ _ _ _ _ _ _ _ _ _ _ _ _ _ _ _ _ _ _ _ _ _ _ _ _ _ _ _ _ _ _ _ _ _ _ _ _ _ _ _ _ _ _ _ _ _ _ _ _ w9 hB9
end Go.Proofs.Ytjilplfcmkipfaa.Cache
