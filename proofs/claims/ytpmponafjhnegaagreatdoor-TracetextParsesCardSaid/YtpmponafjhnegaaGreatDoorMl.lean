/-
  Parse's region that appends an event to the last process, walked by itself.
  Conditions: as each theorem says.
-/
import Derived.Test.YtpmponafjhnegaaGreatDoorMj
import Derived.Test.YtpmponafjhnegaaGreatDoorYf
import Derived.BigRegion
import Derived.Deep.RegionLaw
import Derived.RegionTactic
import Derived.ChangeAlike
namespace Go.Proofs.YtpmponafjhnegaaGreatDoor
open Go.RowKit Nu
/-- a region of a body, by its number -/
def findRegion (n : Nat) : Code → Option Code
  | .region k ops b => if k = n then some (.region k ops b) else none
  | .loop c => findRegion n c
  | .seq a b => match findRegion n a with
    | some c => some c
    | none => findRegion n b
  | .block _ c => findRegion n c
  | .scope c => findRegion n c
  | .cond _ a b => match findRegion n a with
    | some c => some c
    | none => findRegion n b
  | _ => none
noncomputable def reg23 : Code := ((Tryz.f20.body.bind (findRegion 23)).getD .skip)
theorem infoEvt : (Tryz.prog.info? 38).map (fun i => (i.zero, i.size, i.bytes)) = some (some (.agg #[.int .i64 0, .int .i64 0, .int .i64 0, .int .i64 0, .slice none 0 0]), 5, 56) := by kernel_rfl
theorem Blk.new' (X : World) {g : Nat} (hg : g = X.heap.size) (t : Nat) (cs : List Value) : Blk (X.alloc (.cells cs.toArray t)) g t cs := by rw [hg]; exact Blk.new X t cs
set_option maxRecDepth 1000000 in
set_option maxHeartbeats 12800000 in
theorem reg23_c {w W5 : World} {rb pb tb eb j ga oa ac lc qc : Nat} {ln : List Nat} {L Q : Option Addr} {m0 : List PM} {m : PM} {rows : List Sl} {k0 k1 k2 k3 : Int} {al : List (Int × Int)} {B : Option Addr} {bc : Nat} {K0 K1 K2 K3 K4 : Act → World → Prop} {R : Ending → World → Prop}
    {u0 u1 u2 u3 u4 u5 u7 u8 u9 u10 u11 u12 u14 u15 u16 u18 u19 u20 u21 u22 u23 u24 u25 u26 u27 u28 u29 u30 u31 u32 u33 u34 u35 u36 u37 u38 u39 u40 u41 u42 u43 u44 u45 u46 u47 u48 u49 u50 u51 u52 u53 u54 u55 u56 u57 u58 u59 u60 u61 u62 u63 u64 u65 u66 u67 u68 u69 u70 u71 u72 u73 u74 u75 u76 u77 u78 u79 u80 u81 u82 u83 u84 u85 u86 u87 u88 u89 u90 u91 u92 u93 u94 u95 u96 u97 u98 u99 u100 u101 u102 u103 u104 u105 u106 u107 u108 u109 u110 u111 u112 u113 u114 u115 u116 u117 u118 u119 u120 u121 u122 u123 u124 u125 u126 u127 u128 u129 u130 u131 u132 u133 u134 u135 u136 u137 u138 u139 u140 u141 u142 u143 u144 u145 u146 u147 u148 u149 u150 u151 u152 u153 u154 u155 u156 u157 u158 u159 u160 u161 u162 u163 u164 u165 u166 u167 u168 u169 u170 u171 u172 u173 u174 u175 u176 u177 u178 u179 u180 u181 u182 u183 u184 u185 u186 u187 u188 u189 u190 u191 u192 u193 u194 u195 u196 u197 u198 u199 u200 u201 u202 u203 u204 u205 u206 u207 u208 u209 u210 u211 u212 u213 u214 u215 u216 u217 u218 u219 u220 u221 u222 u223 u224 u225 u226 u227 u228 u229 u230 u231 u232 u233 u234 u235 u236 u237 u238 u239 u240 u241 u242 u243 u244 u245 u246 u247 u248 u249 u250 u251 u252 u253 u254 u255 u256 u257 u258 u259 u260 u261 u262 u263 u264 u265 u266 u267 u268 u269 u270 u271 u272 u273 u274 u275 u276 u277 u278 u279 u280 u281 u282 u283 u284 u285 u286 u287 u288 u289 u290 : Value}
    (hW : PW w rb pb tb ln L lc Q qc W5 (some ⟨ga, oa, none⟩) ac (m0 ++ [m]) rows) (hj : m0.length = j) (hmm : m.mes.length ≤ 1000000) (hjl : j ≤ 100000)
    (hB : Blk W5 eb 38 [.int .i64 k0, .int .i64 k1, .int .i64 k2, .int .i64 k3, .slice B al.length bc]) (hO : OwnO W5 rb 102 2 (.slice B al.length bc) al.length (asgV al))
    (hK : ∀ (E5 : Option Addr) (c5 : Nat) (wx : World) (v112 v113 v114 v115 v116 v117 v118 v119 v120 v121 v122 v123 v124 v125 : Value), PW w rb pb tb ln L lc Q qc wx (some ⟨ga, oa, none⟩) ac (m0 ++ [{ m with mes := m.mes ++ [⟨⟨k0, k1, k2, k3, al⟩, B, bc⟩], E := E5, ec := c5 }]) rows → K0 ⟨#[u0, u1, u2, u3, u4, u5, .pointer (some ⟨tb, 0, none⟩), u7, u8, u9, u10, u11, u12, .int .i64 (j : Int), u14, u15, u16, .pointer (some ⟨eb, 0, none⟩), u18, u19, u20, u21, u22, u23, u24, u25, u26, u27, u28, u29, u30, u31, u32, u33, u34, u35, u36, u37, u38, u39, u40, u41, u42, u43, u44, u45, u46, u47, u48, u49, u50, u51, u52, u53, u54, u55, u56, u57, u58, u59, u60, u61, u62, u63, u64, u65, u66, u67, u68, u69, u70, u71, u72, u73, u74, u75, u76, u77, u78, u79, u80, u81, u82, u83, u84, u85, u86, u87, u88, u89, u90, u91, u92, u93, u94, u95, u96, u97, u98, u99, u100, u101, u102, u103, u104, u105, u106, u107, u108, u109, u110, u111, v112, v113, v114, v115, v116, v117, v118, v119, v120, v121, v122, v123, v124, v125, u126, u127, u128, u129, u130, u131, u132, u133, u134, u135, u136, u137, u138, u139, u140, u141, u142, u143, u144, u145, u146, u147, u148, u149, u150, u151, u152, u153, u154, u155, u156, u157, u158, u159, u160, u161, u162, u163, u164, u165, u166, u167, u168, u169, u170, u171, u172, u173, u174, u175, u176, u177, u178, u179, u180, u181, u182, u183, u184, u185, u186, u187, u188, u189, u190, u191, u192, u193, u194, u195, u196, u197, u198, u199, u200, u201, u202, u203, u204, u205, u206, u207, u208, u209, u210, u211, u212, u213, u214, u215, u216, u217, u218, u219, u220, u221, u222, u223, u224, u225, u226, u227, u228, u229, u230, u231, u232, u233, u234, u235, u236, u237, u238, u239, u240, u241, u242, u243, u244, u245, u246, u247, u248, u249, u250, u251, u252, u253, u254, u255, u256, u257, u258, u259, u260, u261, u262, u263, u264, u265, u266, u267, u268, u269, u270, u271, u272, u273, u274, u275, u276, u277, u278, u279, u280, u281, u282, u283, u284, u285, u286, u287, u288, u289, u290], []⟩ wx) :
    Code.wp Tryz.prog reg23 (Exit.then K0 (Exit.then K1 (Exit.inBlock 1 (Exit.then K2 (Exit.then K3 (Exit.inBlock 0 (Exit.then K4 (bodyPost Tryz.prog Tryz.f20 R)))))))) ⟨#[u0, u1, u2, u3, u4, u5, .pointer (some ⟨tb, 0, none⟩), u7, u8, u9, u10, u11, u12, .int .i64 (j : Int), u14, u15, u16, .pointer (some ⟨eb, 0, none⟩), u18, u19, u20, u21, u22, u23, u24, u25, u26, u27, u28, u29, u30, u31, u32, u33, u34, u35, u36, u37, u38, u39, u40, u41, u42, u43, u44, u45, u46, u47, u48, u49, u50, u51, u52, u53, u54, u55, u56, u57, u58, u59, u60, u61, u62, u63, u64, u65, u66, u67, u68, u69, u70, u71, u72, u73, u74, u75, u76, u77, u78, u79, u80, u81, u82, u83, u84, u85, u86, u87, u88, u89, u90, u91, u92, u93, u94, u95, u96, u97, u98, u99, u100, u101, u102, u103, u104, u105, u106, u107, u108, u109, u110, u111, u112, u113, u114, u115, u116, u117, u118, u119, u120, u121, u122, u123, u124, u125, u126, u127, u128, u129, u130, u131, u132, u133, u134, u135, u136, u137, u138, u139, u140, u141, u142, u143, u144, u145, u146, u147, u148, u149, u150, u151, u152, u153, u154, u155, u156, u157, u158, u159, u160, u161, u162, u163, u164, u165, u166, u167, u168, u169, u170, u171, u172, u173, u174, u175, u176, u177, u178, u179, u180, u181, u182, u183, u184, u185, u186, u187, u188, u189, u190, u191, u192, u193, u194, u195, u196, u197, u198, u199, u200, u201, u202, u203, u204, u205, u206, u207, u208, u209, u210, u211, u212, u213, u214, u215, u216, u217, u218, u219, u220, u221, u222, u223, u224, u225, u226, u227, u228, u229, u230, u231, u232, u233, u234, u235, u236, u237, u238, u239, u240, u241, u242, u243, u244, u245, u246, u247, u248, u249, u250, u251, u252, u253, u254, u255, u256, u257, u258, u259, u260, u261, u262, u263, u264, u265, u266, u267, u268, u269, u270, u271, u272, u273, u274, u275, u276, u277, u278, u279, u280, u281, u282, u283, u284, u285, u286, u287, u288, u289, u290], []⟩ W5 := by
  have HW5 := Lib.hid hW
  have HJ1 := Lib.hid hj
  have HK := Lib.hid hK
  have HO5 := Lib.hid hO
  have hml : (m0 ++ [m]).length = j + 1 := by simp [hj]
  have x0 : W5.cell? ⟨tb, 0, none⟩ = some (.slice (some ⟨ga, oa, none⟩) (j + 1) ac) := by rw [← hml]; exact hW.px.cell.cell 0
  have xl := hW.px.cell.lt
  obtain ⟨_, _, e9, kgl, -, -, -, -, -, q2, -, -⟩ := hW.px.last
  cases e9
  rw [hj] at q2
  have HEo : Hid (OwnO W5 rb 38 5 (.slice m.E m.mes.length m.ec) m.mes.length (evsV m.mes)) := hW.px.tp.evs m (by simp)
  have i0 : (0 : Int) ≤ (j : Int) := by omega
  have i1 : (j : Int) < ((j + 1 : Nat) : Int) := by omega
  have i2 : (j : Int) < (j : Int) + 1 := by omega
  have hsz : rb ≤ W5.heap.size := by have := hW.res.lt; omega
  have d0 := hB.cell 0
  have d1 := hB.cell 1
  have d2 := hB.cell 2
  have d3 := hB.cell 3
  have d4 := hB.cell 4
  have dl := hB.lt
  obtain ⟨ie, hie, ie0, ie1, ie2⟩ := info_parts infoEvt
  have HMl := Lib.hid hml
  clear hW hj hK hO hB hml
  conv => arg 2; whnf
  go_region_law (refine step_append_one _ (by rfl) _ _ 33 (by rfl) rb 38 ie _ 5 56 Tryz.underlying33 hie ie0 ie1 ie2 (by rfl) (.slice m.E m.mes.length m.ec) m.mes.length (evsV m.mes) (by rfl) (OwnO.ex HEo.out (by repeat (first | exact Ex.refl _ | apply Ex.alloc | apply Ex.drew))) _ [.int .i64 k0, .int .i64 k1, .int .i64 k2, .int .i64 k3, .slice B al.length bc] (by rfl) (by rfl) (by first | (intro j u h; refine ((Blk.new' _ ?_ _ _).cell j).trans h; (simp; done)) | (intro j u h; refine ((Blk.new' _ ?_ _ _).drew.cell j).trans h; (simp; done)) | (intro j u h; refine ((Blk.new' _ ?_ _ _).drew.drew.cell j).trans h; (simp; done))) (by intro u hu; simp only [List.mem_cons, List.not_mem_nil, or_false] at hu; rcases hu with rfl | rfl | rfl | rfl | rfl <;> rfl) (by omega) (by omega) (by first | exact hsz | (simp; omega)) ?_; intro E5 c5 w6 ho6 hg6 hat6 hEx6; have hN6 := PW.ev (x := ME.mk ⟨k0, k1, k2, k3, al⟩ B bc) (HW5.out.exx (by repeat (first | exact Ex.refl _ | apply Ex.alloc | apply Ex.drew))) hg6 ho6 (hat6.imp id fun h => h) (OwnO.ex HO5.out (by repeat (first | exact Ex.refl _ | apply Ex.alloc | apply Ex.drew))); have hA6 := PW.evAt (HW5.out.exx (by repeat (first | exact Ex.refl _ | apply Ex.alloc | apply Ex.drew))) hg6; have y2 := hA6.1; have yf := hA6.2.1 (oa + j * 3 + 2); have yl := hA6.2.2.1; have y0 := hA6.2.2.2.1; have yt := hA6.2.2.2.2; rw [HJ1.out] at y2; rw [HMl.out] at y0; clear hA6)
  all_goals
    try go_wp2_with fail
    rw [HJ1.out, ← Nat.add_assoc] at hN6
    first
      | exact HK.out E5 c5 _ _ _ _ _ _ _ _ _ _ _ _ _ _ _ hN6
      | exact HK.out E5 c5 _ _ _ _ _ _ _ _ _ _ _ _ _ _ _ (hN6.exx (Ex.refl _).drew)
end Go.Proofs.YtpmponafjhnegaaGreatDoor
