/-
  what stands behind PosPlays' switch (printed by play_gen.py). Conditions: none.
-/
import Derived.Test.YtelgbigpfiohfaaPlayIn
namespace Go.Proofs.Ytelgbigpfiohfaa
open Go.RowKit Go.Extern.Stop Go.Stop Go.Extern Go.Lib Go.Maps
set_option maxRecDepth 1000000

set_option maxHeartbeats 16000000 in
theorem tail_bad {wx : World} {P : Nat → Prop} {sb x n N' dd c5 : Nat} {a5 : Option Addr} {L' : List Int} {c sd f : Int} {K : Act → World → Prop} {R : Exit → Act → World → Prop} {u0 u1 u2 u5 u9 u10 u13 u14 u15 u16 u17 u18 u19 u20 u21 u22 u23 u24 u25 u26 u27 u28 u29 u30 u31 u32 u33 u34 u35 u36 u37 u38 u39 u40 u41 u42 u43 u44 u45 u46 u47 u48 u49 u50 u51 u52 u53 u54 u55 u56 u57 u58 u59 u60 u61 u62 u63 u64 u65 u66 u67 u68 u69 u70 u71 u72 u73 u74 u75 u76 u77 u78 u79 u80 u81 u82 u83 u84 u85 u86 u87 u88 u89 u90 u91 u92 u93 u94 u95 u96 u97 u98 u99 u100 u101 u102 u103 u104 u105 u106 u107 u108 u109 u110 u111 u112 u113 u114 u115 u116 u117 u118 u119 u120 u121 u122 u123 u124 u125 u126 u127 u128 u129 u130 u131 u132 u133 u134 u135 u136 u137 u138 u139 u140 u141 u142 u143 u144 u145 u146 u147 u148 u149 u150 u151 u152 u153 u154 u155 u156 u157 u158 u159 u160 u161 u162 u163 u164 u165 u166 u167 u168 u169 u170 u171 u172 u173 u174 u175 u176 u177 u178 u179 u180 u181 u182 u183 u184 u185 u186 u187 u188 u189 u190 u191 u192 u193 u194 u195 u196 u197 u198 u199 u200 u201 u202 u203 u204 u205 u206 u207 u208 u209 u210 u211 u212 u213 u214 u215 u216 u217 u218 u219 u220 u221 u222 u223 u224 u225 u226 u227 u228 u229 u230 u231 u232 u233 u234 u235 u236 u237 u238 u239 u240 u241 u242 u243 u244 u245 u246 u247 u248 u249 u250 u251 u252 u253 u254 u255 u256 u257 u258 u259 u260 u261 u262 u263 u264 u265 u266 u267 u268 u269 u270 u271 u272 u273 u274 u275 u276 u277 u278 u279 u280 u281 u282 u283 u284 u285 u286 u287 u288 u289 u290 u291 u292 u293 u294 u295 u296 u297 u298 u299 : Value}
    (ho : wx.ownsRow 0 2 1 (.slice a5 L'.length c5) L'.length (intsV L')) (hx : IxAt 62 wx P x L' (c + dd) N') (hn : n ≤ 80) (hL : L'.length ≤ 81) (hdd : dd ≤ 2 * Most n) (hsd : I64 sd) (d3 : wx.cell? ⟨sb, 3, none⟩ = some (.int .i64 sd)) (hsb : sb < wx.heap.size) (hf0 : f ≠ 0) (hd0 : dd = 0)
    (hK : ∀ s2 s18 s19 s20 s21 s22 s23 s24 s25 s205 s206 s207 s208 s209 s210 s211 s212 s213 s214 s215 s216 s217 s218 s219 s220 s221 s222 s223 s224 s225 s226 s227 s228 s229 s230 s231 s232 s233 s234 s235 s236 s237 s238 s239 s240 s241 s242 s243 s244 s245 s246 s247 s248 s249 s250 s251 s252 s253 s254 s255 s256 s257 s258 s259 s260 s261 s262 s263 s264 s265 s266 s267 s268 s269 s270 s271 s272 s273 s274 s275 s276 s277 s278 s279 s280 s281 s282 s283 s284 s285 s286 s287 s288 s289 s290 s291 s292 s293 s294 s295 s296 s297 s298 s299 w', Same (fun _ => False) wx w' → K ⟨#[u0, u1, s2, .pointer (some ⟨x, 0, none⟩), .slice a5 L'.length c5, u5, .pointer (some ⟨sb, 0, none⟩), .int .i64 n, .int .i64 c, u9, u10, .int .i64 f, .int .i64 f, u13, u14, u15, u16, u17, s18, s19, s20, s21, s22, s23, s24, s25, u26, u27, u28, u29, u30, u31, u32, u33, u34, u35, u36, u37, u38, u39, u40, u41, u42, u43, u44, u45, u46, u47, u48, u49, u50, u51, u52, u53, u54, u55, u56, u57, u58, u59, u60, u61, u62, u63, u64, u65, u66, u67, u68, u69, u70, u71, u72, u73, u74, u75, u76, u77, u78, u79, u80, u81, u82, u83, u84, u85, u86, u87, u88, u89, u90, u91, u92, u93, u94, u95, u96, u97, u98, u99, u100, u101, u102, u103, u104, u105, u106, u107, u108, u109, u110, u111, u112, u113, u114, u115, u116, u117, u118, u119, u120, u121, u122, u123, u124, u125, u126, u127, u128, u129, u130, u131, u132, u133, u134, u135, u136, u137, u138, u139, u140, u141, u142, u143, u144, u145, u146, u147, u148, u149, u150, u151, u152, u153, u154, u155, u156, u157, u158, u159, u160, u161, u162, u163, u164, u165, u166, u167, u168, u169, u170, u171, u172, u173, u174, u175, u176, u177, u178, u179, u180, u181, u182, u183, u184, u185, u186, u187, u188, u189, u190, u191, u192, u193, u194, u195, u196, u197, u198, u199, u200, u201, u202, u203, u204, s205, s206, s207, s208, s209, s210, s211, s212, s213, s214, s215, s216, s217, s218, s219, s220, s221, s222, s223, s224, s225, s226, s227, s228, s229, s230, s231, s232, s233, s234, s235, s236, s237, s238, s239, s240, s241, s242, s243, s244, s245, s246, s247, s248, s249, s250, s251, s252, s253, s254, s255, s256, s257, s258, s259, s260, s261, s262, s263, s264, s265, s266, s267, s268, s269, s270, s271, s272, s273, s274, s275, s276, s277, s278, s279, s280, s281, s282, s283, s284, s285, s286, s287, s288, s289, s290, s291, s292, s293, s294, s295, s296, s297, s298, s299], []⟩ w') :
    Code.wp Try.prog tailCode (Exit.inBlock 1 (Exit.then K R)) ⟨#[u0, u1, u2, .pointer (some ⟨x, 0, none⟩), .slice a5 L'.length c5, u5, .pointer (some ⟨sb, 0, none⟩), .int .i64 n, .int .i64 c, u9, u10, .int .i64 f, .int .i64 f, u13, u14, u15, u16, u17, u18, u19, u20, u21, u22, u23, u24, u25, u26, u27, u28, u29, u30, u31, u32, u33, u34, u35, u36, u37, u38, u39, u40, u41, u42, u43, u44, u45, u46, u47, u48, u49, u50, u51, u52, u53, u54, u55, u56, u57, u58, u59, u60, u61, u62, u63, u64, u65, u66, u67, u68, u69, u70, u71, u72, u73, u74, u75, u76, u77, u78, u79, u80, u81, u82, u83, u84, u85, u86, u87, u88, u89, u90, u91, u92, u93, u94, u95, u96, u97, u98, u99, u100, u101, u102, u103, u104, u105, u106, u107, u108, u109, u110, u111, u112, u113, u114, u115, u116, u117, u118, u119, u120, u121, u122, u123, u124, u125, u126, u127, u128, u129, u130, u131, u132, u133, u134, u135, u136, u137, u138, u139, u140, u141, u142, u143, u144, u145, u146, u147, u148, u149, u150, u151, u152, u153, u154, u155, u156, u157, u158, u159, u160, u161, u162, u163, u164, u165, u166, u167, u168, u169, u170, u171, u172, u173, u174, u175, u176, u177, u178, u179, u180, u181, u182, u183, u184, u185, u186, u187, u188, u189, u190, u191, u192, u193, u194, u195, u196, u197, u198, u199, u200, u201, u202, u203, u204, u205, u206, u207, u208, u209, u210, u211, u212, u213, u214, u215, u216, u217, u218, u219, u220, u221, u222, u223, u224, u225, u226, u227, u228, u229, u230, u231, u232, u233, u234, u235, u236, u237, u238, u239, u240, u241, u242, u243, u244, u245, u246, u247, u248, u249, u250, u251, u252, u253, u254, u255, u256, u257, u258, u259, u260, u261, u262, u263, u264, u265, u266, u267, u268, u269, u270, u271, u272, u273, u274, u275, u276, u277, u278, u279, u280, u281, u282, u283, u284, u285, u286, u287, u288, u289, u290, u291, u292, u293, u294, u295, u296, u297, u298, u299], []⟩ wx := by
  have HK := Lib.hid hK
  subst hd0
  obtain ⟨lg, hlg⟩ : ∃ lg, Nat.log2 (n + 1 + 1) + 1 = lg := ⟨_, rfl⟩
  have hen := logs_enough n
  rw [hlg] at hen
  have hlg9 : lg ≤ 100 := by
    have : Nat.log2 (n + 1 + 1) ≤ n + 1 + 1 := by
      have h := Nat.log2_self_le (show n + 1 + 1 ≠ 0 by omega)
      have h2 := @Nat.lt_two_pow_self (Nat.log2 (n + 1 + 1))
      omega
    omega
  have hdl2 : ¬ (16 * (lg : Int) < (0 : Int)) := by omega
  have hdd0 : ¬ ((0 : Int) < 0) := by omega
  have hcw : IntKind.i64.wrap (0 : Int) = (0 : Int) := by rw [IntKind.wrap_i64]; omega
  have hlw : IntKind.i64.wrap (16 * (lg : Int)) = 16 * (lg : Int) := by rw [IntKind.wrap_i64]; omega
  have hnw : IntKind.i64.wrap ((n : Int) + 1) = (n : Int) + 1 := by rw [IntKind.wrap_i64]; omega
  have HW5 := Lib.hid (pos_writes hx)
  have HLG := Lib.hid (fun (w' : World) => by
    have h9 := logs_any w' (n := n + 1) (by omega)
    rw [hlg] at h9
    exact (show Calls Try.prog 25 #[.int .i64 ((n : Int) + 1)] w' fun e w'' => e = .returned (.int .i64 (lg : Int)) ∧ w' = w'' from h9))
  have HLEN := Lib.hid (pos_len hx)
  have HALL := Lib.hid (pos_all hx (by omega))
  have HX5 := Lib.hid hx
  have HRO := Lib.hid (ownsRow_read ho)
  have HIDS := Lib.hid (fun (w' : World) (v7 : Value) (h7 : w'.ownsRow wx.heap.size 2 1 v7 L'.length (intsV L')) (hs7 : Same (fun _ => False) wx w') => ids_any (ownsRow_read h7) ((ownsRow_read ho).kept hs7 (fun _ _ h => h)) (by omega))
  have HSD := Lib.hid hsd
  clear ho hx hdd hlg hen hsd hK
  conv => arg 2; whnf
  go_wp2_with (first
    | (go_at_call 21; refine HW5.out.mono ?_; rintro e wz ⟨rfl, rfl⟩)
    | (go_at_call 25; refine (HLG.out _).mono ?_; rintro e wz ⟨rfl, rfl⟩)
    | (go_at_call 26; refine HLEN.out.mono ?_; rintro e wz ⟨rfl, rfl⟩)
    | (go_at_call 28; refine HALL.out.mono ?_; rintro e w7 ⟨v7, rfl, h7, hs7⟩; have HI7 := Lib.hid (HIDS.out w7 v7 h7 hs7); have HS7 := Lib.hid hs7; clear h7 hs7)
    | (go_at_call 27; refine HI7.out.mono ?_; rintro e w8 ⟨rfl, hs8⟩; have HS8 := Lib.hid (HS7.out.trans hs8 (fun _ _ h => h)); clear hs8))
  go_loopg [19, 20, 21, 22, 23] L'.length (fun rr v19 _ _ _ _ w9 => ∃ (k : Nat), k + rr = L'.length ∧ v19 = .int .i64 k ∧ Same (fun _ => False) wx w9)
  case atStart => exact ⟨0, by omega, rfl, HS8.out⟩
  case round =>
    obtain ⟨k, hk, rfl, hs9⟩ := hrel
    by_cases hkl : k < L'.length
    · have hkl' : (k : Int) < (L'.length : Int) := by omega
      have hkb : (k : Int) < 82 := by omega
      have ra := HRO.out.kept hs9 (fun _ _ h => h)
      obtain ⟨mb, mo, mc, mcs, mfr, ea, hmb, _⟩ := ra.where (by simpa using (by omega : 0 < L'.length))
      simp only [Value.slice.injEq] at ea
      obtain ⟨rfl, -, -⟩ := ea
      have hmx := ra.cell (j := k) (x := .int .i64 L'[k]) (by simp [hkl])
      have hml := lt_of_block hmb
      have hx9 := HX5.out.keep hs9 (fun _ h => h.elim)
      have hpl := pos_place hx9 (by omega) (List.getElem_mem hkl)
      rw [(IxAt.nodup hx9).idxOf_getElem k hkl] at hpl
      have HPL := Lib.hid hpl
      have HAT := Lib.hid (fun (w' : World) (h : Same (fun _ => False) wr w') => pos_at (hx9.keep h (fun _ h => h.elim)) (by omega) hkl)
      have HS9 := Lib.hid hs9
      generalize L'[k] = y at *
      clear ra hmb hs9 hx9 hpl
      go_wp2_with fail
      refine HPL.out.mono ?_
      rintro e w10 ⟨rfl, hs10⟩
      have HAT10 := Lib.hid (HAT.out w10 hs10)
      have hmx10 : w10.cell? ⟨mb, mo + k, none⟩ = some (.int .i64 y) := (World.cell?_of_block (a := ⟨mb, mo + k, none⟩) (hs10.block mb hml id)).trans hmx
      have hml10 : mb < w10.heap.size := by have := hs10.size; omega
      have HS10 := Lib.hid (HS9.out.trans hs10 (fun _ _ h => h))
      clear hs10 hmx
      go_wp2_with fail
      refine HAT10.out.mono ?_
      rintro e w11 ⟨rfl, rfl⟩
      go_wp2_with fail
      go_roundg (gk - 1)
      case measure => omega
      case rel => exact ⟨k + 1, by omega, by go_num, HS10.out⟩
    · have hkl' : ¬ (k : Int) < (L'.length : Int) := by omega
      have d9 : wr.cell? ⟨sb, 3, none⟩ = some (.int .i64 sd) := (World.cell?_of_block (a := ⟨sb, 3, none⟩) (hs9.block sb hsb id)).trans d3
      have hx9 := HX5.out.keep hs9 (fun _ h => h.elim)
      have hsb9 : sb < wr.heap.size := by have := hs9.size; omega
      have HR9 := Lib.hid (fun (w' : World) (h : Same (fun _ => False) wr w') => find14_any (y := sd) ((HRO.out.kept hs9 (fun _ _ h => h)).kept h (fun _ _ h => h)) (by omega))
      have HS9 := Lib.hid hs9
      by_cases hy : sd ∈ L'
      · have HPL := Lib.hid (pos_place hx9 (by omega) hy)
        have hf0 : 0 ≤ fnd L' sd := by rw [fnd_yes hy]; omega
        clear hx9 hs9 hy
        go_wp2_with fail
        refine HPL.out.mono ?_
        rintro e w10 ⟨rfl, hs10⟩
        have HF10 := Lib.hid (HR9.out w10 hs10)
        have d10 := (World.cell?_of_block (a := ⟨sb, 3, none⟩) (hs10.block sb hsb9 id)).trans d9
        have hsb10 : sb < w10.heap.size := by have := hs10.size; omega
        have HS10 := Lib.hid (HS9.out.trans hs10 (fun _ _ h => h))
        clear hs10 d9
        go_wp2_with fail
        refine HF10.out.mono ?_
        rintro e w11 ⟨rfl, rfl⟩
        go_wp2_with fail
        exact HK.out _ _ _ _ _ _ _ _ _ _ _ _ _ _ _ _ _ _ _ _ _ _ _ _ _ _ _ _ _ _ _ _ _ _ _ _ _ _ _ _ _ _ _ _ _ _ _ _ _ _ _ _ _ _ _ _ _ _ _ _ _ _ _ _ _ _ _ _ _ _ _ _ _ _ _ _ _ _ _ _ _ _ _ _ _ _ _ _ _ _ _ _ _ _ _ _ _ _ _ _ _ _ _ _ _ HS10.out
      · have HPL := Lib.hid (pos_place_no hx9 hy HSD.out)
        have hf0 : ¬ 0 ≤ fnd L' sd := by rw [fnd_no hy]; omega
        clear hx9 hs9 hy
        go_wp2_with fail
        refine HPL.out.mono ?_
        rintro e w10 ⟨rfl, hs10⟩
        have HF10 := Lib.hid (HR9.out w10 hs10)
        have d10 := (World.cell?_of_block (a := ⟨sb, 3, none⟩) (hs10.block sb hsb9 id)).trans d9
        have hsb10 : sb < w10.heap.size := by have := hs10.size; omega
        have HS10 := Lib.hid (HS9.out.trans hs10 (fun _ _ h => h))
        clear hs10 d9
        go_wp2_with fail
        refine HF10.out.mono ?_
        rintro e w11 ⟨rfl, rfl⟩
        go_wp2_with fail
        exact HK.out _ _ _ _ _ _ _ _ _ _ _ _ _ _ _ _ _ _ _ _ _ _ _ _ _ _ _ _ _ _ _ _ _ _ _ _ _ _ _ _ _ _ _ _ _ _ _ _ _ _ _ _ _ _ _ _ _ _ _ _ _ _ _ _ _ _ _ _ _ _ _ _ _ _ _ _ _ _ _ _ _ _ _ _ _ _ _ _ _ _ _ _ _ _ _ _ _ _ _ _ _ _ _ _ _ HS10.out


set_option maxHeartbeats 16000000 in
theorem tail_ok {wx : World} {P : Nat → Prop} {sb x n N' dd c5 : Nat} {a5 : Option Addr} {L' : List Int} {c sd f : Int} {K : Act → World → Prop} {R : Exit → Act → World → Prop} {u0 u1 u2 u5 u9 u10 u13 u14 u15 u16 u17 u18 u19 u20 u21 u22 u23 u24 u25 u26 u27 u28 u29 u30 u31 u32 u33 u34 u35 u36 u37 u38 u39 u40 u41 u42 u43 u44 u45 u46 u47 u48 u49 u50 u51 u52 u53 u54 u55 u56 u57 u58 u59 u60 u61 u62 u63 u64 u65 u66 u67 u68 u69 u70 u71 u72 u73 u74 u75 u76 u77 u78 u79 u80 u81 u82 u83 u84 u85 u86 u87 u88 u89 u90 u91 u92 u93 u94 u95 u96 u97 u98 u99 u100 u101 u102 u103 u104 u105 u106 u107 u108 u109 u110 u111 u112 u113 u114 u115 u116 u117 u118 u119 u120 u121 u122 u123 u124 u125 u126 u127 u128 u129 u130 u131 u132 u133 u134 u135 u136 u137 u138 u139 u140 u141 u142 u143 u144 u145 u146 u147 u148 u149 u150 u151 u152 u153 u154 u155 u156 u157 u158 u159 u160 u161 u162 u163 u164 u165 u166 u167 u168 u169 u170 u171 u172 u173 u174 u175 u176 u177 u178 u179 u180 u181 u182 u183 u184 u185 u186 u187 u188 u189 u190 u191 u192 u193 u194 u195 u196 u197 u198 u199 u200 u201 u202 u203 u204 u205 u206 u207 u208 u209 u210 u211 u212 u213 u214 u215 u216 u217 u218 u219 u220 u221 u222 u223 u224 u225 u226 u227 u228 u229 u230 u231 u232 u233 u234 u235 u236 u237 u238 u239 u240 u241 u242 u243 u244 u245 u246 u247 u248 u249 u250 u251 u252 u253 u254 u255 u256 u257 u258 u259 u260 u261 u262 u263 u264 u265 u266 u267 u268 u269 u270 u271 u272 u273 u274 u275 u276 u277 u278 u279 u280 u281 u282 u283 u284 u285 u286 u287 u288 u289 u290 u291 u292 u293 u294 u295 u296 u297 u298 u299 : Value}
    (ho : wx.ownsRow 0 2 1 (.slice a5 L'.length c5) L'.length (intsV L')) (hx : IxAt 62 wx P x L' (c + dd) N') (hn : n ≤ 80) (hL : L'.length ≤ 81) (hdd : dd ≤ 2 * Most n) (hsd : I64 sd) (d3 : wx.cell? ⟨sb, 3, none⟩ = some (.int .i64 sd)) (hsb : sb < wx.heap.size) (hf0 : f = 0)
    (hK : ∀ s2 s18 s19 s20 s21 s22 s23 s24 s25 s205 s206 s207 s208 s209 s210 s211 s212 s213 s214 s215 s216 s217 s218 s219 s220 s221 s222 s223 s224 s225 s226 s227 s228 s229 s230 s231 s232 s233 s234 s235 s236 s237 s238 s239 s240 s241 s242 s243 s244 s245 s246 s247 s248 s249 s250 s251 s252 s253 s254 s255 s256 s257 s258 s259 s260 s261 s262 s263 s264 s265 s266 s267 s268 s269 s270 s271 s272 s273 s274 s275 s276 s277 s278 s279 s280 s281 s282 s283 s284 s285 s286 s287 s288 s289 s290 s291 s292 s293 s294 s295 s296 s297 s298 s299 w', Same (fun _ => False) wx w' → K ⟨#[u0, u1, s2, .pointer (some ⟨x, 0, none⟩), .slice a5 L'.length c5, u5, .pointer (some ⟨sb, 0, none⟩), .int .i64 n, .int .i64 c, u9, u10, .int .i64 f, .int .i64 f, u13, u14, u15, u16, u17, s18, s19, s20, s21, s22, s23, s24, s25, u26, u27, u28, u29, u30, u31, u32, u33, u34, u35, u36, u37, u38, u39, u40, u41, u42, u43, u44, u45, u46, u47, u48, u49, u50, u51, u52, u53, u54, u55, u56, u57, u58, u59, u60, u61, u62, u63, u64, u65, u66, u67, u68, u69, u70, u71, u72, u73, u74, u75, u76, u77, u78, u79, u80, u81, u82, u83, u84, u85, u86, u87, u88, u89, u90, u91, u92, u93, u94, u95, u96, u97, u98, u99, u100, u101, u102, u103, u104, u105, u106, u107, u108, u109, u110, u111, u112, u113, u114, u115, u116, u117, u118, u119, u120, u121, u122, u123, u124, u125, u126, u127, u128, u129, u130, u131, u132, u133, u134, u135, u136, u137, u138, u139, u140, u141, u142, u143, u144, u145, u146, u147, u148, u149, u150, u151, u152, u153, u154, u155, u156, u157, u158, u159, u160, u161, u162, u163, u164, u165, u166, u167, u168, u169, u170, u171, u172, u173, u174, u175, u176, u177, u178, u179, u180, u181, u182, u183, u184, u185, u186, u187, u188, u189, u190, u191, u192, u193, u194, u195, u196, u197, u198, u199, u200, u201, u202, u203, u204, s205, s206, s207, s208, s209, s210, s211, s212, s213, s214, s215, s216, s217, s218, s219, s220, s221, s222, s223, s224, s225, s226, s227, s228, s229, s230, s231, s232, s233, s234, s235, s236, s237, s238, s239, s240, s241, s242, s243, s244, s245, s246, s247, s248, s249, s250, s251, s252, s253, s254, s255, s256, s257, s258, s259, s260, s261, s262, s263, s264, s265, s266, s267, s268, s269, s270, s271, s272, s273, s274, s275, s276, s277, s278, s279, s280, s281, s282, s283, s284, s285, s286, s287, s288, s289, s290, s291, s292, s293, s294, s295, s296, s297, s298, s299], []⟩ w') :
    Code.wp Try.prog tailCode (Exit.inBlock 1 (Exit.then K R)) ⟨#[u0, u1, u2, .pointer (some ⟨x, 0, none⟩), .slice a5 L'.length c5, u5, .pointer (some ⟨sb, 0, none⟩), .int .i64 n, .int .i64 c, u9, u10, .int .i64 f, .int .i64 f, u13, u14, u15, u16, u17, u18, u19, u20, u21, u22, u23, u24, u25, u26, u27, u28, u29, u30, u31, u32, u33, u34, u35, u36, u37, u38, u39, u40, u41, u42, u43, u44, u45, u46, u47, u48, u49, u50, u51, u52, u53, u54, u55, u56, u57, u58, u59, u60, u61, u62, u63, u64, u65, u66, u67, u68, u69, u70, u71, u72, u73, u74, u75, u76, u77, u78, u79, u80, u81, u82, u83, u84, u85, u86, u87, u88, u89, u90, u91, u92, u93, u94, u95, u96, u97, u98, u99, u100, u101, u102, u103, u104, u105, u106, u107, u108, u109, u110, u111, u112, u113, u114, u115, u116, u117, u118, u119, u120, u121, u122, u123, u124, u125, u126, u127, u128, u129, u130, u131, u132, u133, u134, u135, u136, u137, u138, u139, u140, u141, u142, u143, u144, u145, u146, u147, u148, u149, u150, u151, u152, u153, u154, u155, u156, u157, u158, u159, u160, u161, u162, u163, u164, u165, u166, u167, u168, u169, u170, u171, u172, u173, u174, u175, u176, u177, u178, u179, u180, u181, u182, u183, u184, u185, u186, u187, u188, u189, u190, u191, u192, u193, u194, u195, u196, u197, u198, u199, u200, u201, u202, u203, u204, u205, u206, u207, u208, u209, u210, u211, u212, u213, u214, u215, u216, u217, u218, u219, u220, u221, u222, u223, u224, u225, u226, u227, u228, u229, u230, u231, u232, u233, u234, u235, u236, u237, u238, u239, u240, u241, u242, u243, u244, u245, u246, u247, u248, u249, u250, u251, u252, u253, u254, u255, u256, u257, u258, u259, u260, u261, u262, u263, u264, u265, u266, u267, u268, u269, u270, u271, u272, u273, u274, u275, u276, u277, u278, u279, u280, u281, u282, u283, u284, u285, u286, u287, u288, u289, u290, u291, u292, u293, u294, u295, u296, u297, u298, u299], []⟩ wx := by
  have HK := Lib.hid hK
  subst hf0
  obtain ⟨lg, hlg⟩ : ∃ lg, Nat.log2 (n + 1 + 1) + 1 = lg := ⟨_, rfl⟩
  have hen := logs_enough n
  rw [hlg] at hen
  have hlg9 : lg ≤ 100 := by
    have : Nat.log2 (n + 1 + 1) ≤ n + 1 + 1 := by
      have h := Nat.log2_self_le (show n + 1 + 1 ≠ 0 by omega)
      have h2 := @Nat.lt_two_pow_self (Nat.log2 (n + 1 + 1))
      omega
    omega
  have hdl2 : ¬ (16 * (lg : Int) < (dd : Int)) := by omega
  have hdd0 : ¬ ((dd : Int) < 0) := by omega
  have hcw : IntKind.i64.wrap (dd : Int) = (dd : Int) := by rw [IntKind.wrap_i64]; omega
  have hlw : IntKind.i64.wrap (16 * (lg : Int)) = 16 * (lg : Int) := by rw [IntKind.wrap_i64]; omega
  have hnw : IntKind.i64.wrap ((n : Int) + 1) = (n : Int) + 1 := by rw [IntKind.wrap_i64]; omega
  have HW5 := Lib.hid (pos_writes hx)
  have HLG := Lib.hid (fun (w' : World) => by
    have h9 := logs_any w' (n := n + 1) (by omega)
    rw [hlg] at h9
    exact (show Calls Try.prog 25 #[.int .i64 ((n : Int) + 1)] w' fun e w'' => e = .returned (.int .i64 (lg : Int)) ∧ w' = w'' from h9))
  have HLEN := Lib.hid (pos_len hx)
  have HALL := Lib.hid (pos_all hx (by omega))
  have HX5 := Lib.hid hx
  have HRO := Lib.hid (ownsRow_read ho)
  have HIDS := Lib.hid (fun (w' : World) (v7 : Value) (h7 : w'.ownsRow wx.heap.size 2 1 v7 L'.length (intsV L')) (hs7 : Same (fun _ => False) wx w') => ids_any (ownsRow_read h7) ((ownsRow_read ho).kept hs7 (fun _ _ h => h)) (by omega))
  have HSD := Lib.hid hsd
  clear ho hx hdd hlg hen hsd hK
  conv => arg 2; whnf
  go_wp2_with (first
    | (go_at_call 21; refine HW5.out.mono ?_; rintro e wz ⟨rfl, rfl⟩)
    | (go_at_call 25; refine (HLG.out _).mono ?_; rintro e wz ⟨rfl, rfl⟩)
    | (go_at_call 26; refine HLEN.out.mono ?_; rintro e wz ⟨rfl, rfl⟩)
    | (go_at_call 28; refine HALL.out.mono ?_; rintro e w7 ⟨v7, rfl, h7, hs7⟩; have HI7 := Lib.hid (HIDS.out w7 v7 h7 hs7); have HS7 := Lib.hid hs7; clear h7 hs7)
    | (go_at_call 27; refine HI7.out.mono ?_; rintro e w8 ⟨rfl, hs8⟩; have HS8 := Lib.hid (HS7.out.trans hs8 (fun _ _ h => h)); clear hs8))
  go_loopg [19, 20, 21, 22, 23] L'.length (fun rr v19 _ _ _ _ w9 => ∃ (k : Nat), k + rr = L'.length ∧ v19 = .int .i64 k ∧ Same (fun _ => False) wx w9)
  case atStart => exact ⟨0, by omega, rfl, HS8.out⟩
  case round =>
    obtain ⟨k, hk, rfl, hs9⟩ := hrel
    by_cases hkl : k < L'.length
    · have hkl' : (k : Int) < (L'.length : Int) := by omega
      have hkb : (k : Int) < 82 := by omega
      have ra := HRO.out.kept hs9 (fun _ _ h => h)
      obtain ⟨mb, mo, mc, mcs, mfr, ea, hmb, _⟩ := ra.where (by simpa using (by omega : 0 < L'.length))
      simp only [Value.slice.injEq] at ea
      obtain ⟨rfl, -, -⟩ := ea
      have hmx := ra.cell (j := k) (x := .int .i64 L'[k]) (by simp [hkl])
      have hml := lt_of_block hmb
      have hx9 := HX5.out.keep hs9 (fun _ h => h.elim)
      have hpl := pos_place hx9 (by omega) (List.getElem_mem hkl)
      rw [(IxAt.nodup hx9).idxOf_getElem k hkl] at hpl
      have HPL := Lib.hid hpl
      have HAT := Lib.hid (fun (w' : World) (h : Same (fun _ => False) wr w') => pos_at (hx9.keep h (fun _ h => h.elim)) (by omega) hkl)
      have HS9 := Lib.hid hs9
      generalize L'[k] = y at *
      clear ra hmb hs9 hx9 hpl
      go_wp2_with fail
      refine HPL.out.mono ?_
      rintro e w10 ⟨rfl, hs10⟩
      have HAT10 := Lib.hid (HAT.out w10 hs10)
      have hmx10 : w10.cell? ⟨mb, mo + k, none⟩ = some (.int .i64 y) := (World.cell?_of_block (a := ⟨mb, mo + k, none⟩) (hs10.block mb hml id)).trans hmx
      have hml10 : mb < w10.heap.size := by have := hs10.size; omega
      have HS10 := Lib.hid (HS9.out.trans hs10 (fun _ _ h => h))
      clear hs10 hmx
      go_wp2_with fail
      refine HAT10.out.mono ?_
      rintro e w11 ⟨rfl, rfl⟩
      go_wp2_with fail
      go_roundg (gk - 1)
      case measure => omega
      case rel => exact ⟨k + 1, by omega, by go_num, HS10.out⟩
    · have hkl' : ¬ (k : Int) < (L'.length : Int) := by omega
      have d9 : wr.cell? ⟨sb, 3, none⟩ = some (.int .i64 sd) := (World.cell?_of_block (a := ⟨sb, 3, none⟩) (hs9.block sb hsb id)).trans d3
      have hx9 := HX5.out.keep hs9 (fun _ h => h.elim)
      have hsb9 : sb < wr.heap.size := by have := hs9.size; omega
      have HR9 := Lib.hid (fun (w' : World) (h : Same (fun _ => False) wr w') => find14_any (y := sd) ((HRO.out.kept hs9 (fun _ _ h => h)).kept h (fun _ _ h => h)) (by omega))
      have HS9 := Lib.hid hs9
      by_cases hy : sd ∈ L'
      · have HPL := Lib.hid (pos_place hx9 (by omega) hy)
        have hf0 : 0 ≤ fnd L' sd := by rw [fnd_yes hy]; omega
        clear hx9 hs9 hy
        go_wp2_with fail
        refine HPL.out.mono ?_
        rintro e w10 ⟨rfl, hs10⟩
        have HF10 := Lib.hid (HR9.out w10 hs10)
        have d10 := (World.cell?_of_block (a := ⟨sb, 3, none⟩) (hs10.block sb hsb9 id)).trans d9
        have hsb10 : sb < w10.heap.size := by have := hs10.size; omega
        have HS10 := Lib.hid (HS9.out.trans hs10 (fun _ _ h => h))
        clear hs10 d9
        go_wp2_with fail
        refine HF10.out.mono ?_
        rintro e w11 ⟨rfl, rfl⟩
        go_wp2_with fail
        exact HK.out _ _ _ _ _ _ _ _ _ _ _ _ _ _ _ _ _ _ _ _ _ _ _ _ _ _ _ _ _ _ _ _ _ _ _ _ _ _ _ _ _ _ _ _ _ _ _ _ _ _ _ _ _ _ _ _ _ _ _ _ _ _ _ _ _ _ _ _ _ _ _ _ _ _ _ _ _ _ _ _ _ _ _ _ _ _ _ _ _ _ _ _ _ _ _ _ _ _ _ _ _ _ _ _ _ HS10.out
      · have HPL := Lib.hid (pos_place_no hx9 hy HSD.out)
        have hf0 : ¬ 0 ≤ fnd L' sd := by rw [fnd_no hy]; omega
        clear hx9 hs9 hy
        go_wp2_with fail
        refine HPL.out.mono ?_
        rintro e w10 ⟨rfl, hs10⟩
        have HF10 := Lib.hid (HR9.out w10 hs10)
        have d10 := (World.cell?_of_block (a := ⟨sb, 3, none⟩) (hs10.block sb hsb9 id)).trans d9
        have hsb10 : sb < w10.heap.size := by have := hs10.size; omega
        have HS10 := Lib.hid (HS9.out.trans hs10 (fun _ _ h => h))
        clear hs10 d9
        go_wp2_with fail
        refine HF10.out.mono ?_
        rintro e w11 ⟨rfl, rfl⟩
        go_wp2_with fail
        exact HK.out _ _ _ _ _ _ _ _ _ _ _ _ _ _ _ _ _ _ _ _ _ _ _ _ _ _ _ _ _ _ _ _ _ _ _ _ _ _ _ _ _ _ _ _ _ _ _ _ _ _ _ _ _ _ _ _ _ _ _ _ _ _ _ _ _ _ _ _ _ _ _ _ _ _ _ _ _ _ _ _ _ _ _ _ _ _ _ _ _ _ _ _ _ _ _ _ _ _ _ _ _ _ _ _ _ HS10.out


end Go.Proofs.Ytelgbigpfiohfaa
