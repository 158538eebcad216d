/-
  PosPlays' switch, a row that goes, two rows that change places (printed by play_gen.py). Conditions: none.
-/
import Derived.Test.YtelgbigpfiohfaaPlayIn
import Derived.BigRegion
namespace Go.Proofs.Ytelgbigpfiohfaa
open Go.RowKit Go.Extern.Stop Go.Stop Go.Extern Go.Lib Go.Maps
set_option maxRecDepth 1000000

theorem ints_at {L : List Int} {u : Nat} (h : u < L.length) : (intsV L)[u]? = some (.int .i64 (L.getD u 0)) := by simp [h, List.getD_eq_getElem?_getD]

set_option maxHeartbeats 8000000 in
theorem arm_erase_ok {w0 w : World} {B sb x n N c4 : Nat} {a4 : Option Addr} {L : List Int} {c sw si sk sd : Int} {inb : Bool} {K : Act → World → Prop} {K1 K2 K3 : Act → World → Prop} {u0 u1 u2 u5 u13 u14 u15 u16 u17 u18 u19 u20 u21 u22 u23 u24 u25 u26 u27 u28 u29 u30 u31 u32 u33 u34 u35 u36 u37 u38 u39 u40 u41 u42 u43 u44 u45 u46 u47 u48 u49 u50 u51 u52 u53 u54 u55 u56 u57 u58 u59 u61 u62 u63 u64 u65 u66 u67 u68 u69 u70 u71 u72 u73 u74 u75 u76 u77 u78 u79 u80 u81 u82 u83 u84 u85 u86 u87 u88 u89 u90 u91 u92 u93 u94 u95 u96 u97 u98 u99 u100 u101 u102 u103 u104 u105 u106 u107 u108 u109 u110 u111 u112 u113 u114 u115 u116 u117 u118 u119 u120 u121 u122 u123 u124 u125 u126 u127 u128 u129 u130 u131 u132 u133 u134 u135 u136 u137 u138 u139 u140 u141 u142 u143 u144 u145 u146 u147 u148 u149 u150 u151 u152 u153 u154 u155 u156 u157 u158 u159 u160 u161 u162 u163 u164 u165 u166 u167 u168 u169 u170 u171 u172 u173 u174 u175 u176 u177 u178 u179 u180 u181 u182 u183 u184 u185 u186 u187 u188 u189 u190 u191 u192 u193 u194 u195 u196 u197 u198 u199 u200 u201 u202 u203 u204 u205 u206 u207 u208 u209 u210 u211 u212 u213 u214 u215 u216 u217 u218 u219 u220 u221 u222 u223 u224 u225 u226 u227 u228 u229 u230 u231 u232 u233 u234 u235 u236 u237 u238 u239 u240 u241 u242 u243 u244 u245 u246 u247 u248 u249 u250 u251 u252 u253 u254 u255 u256 u257 u258 u259 u260 u261 u262 u263 u264 u265 u266 u267 u268 u269 u270 u271 u272 u273 u274 u275 u276 u277 u278 u279 u280 u281 u282 u283 u284 u285 u286 u287 u288 u289 u290 u291 u292 u293 u294 u295 u296 u297 u298 u299 : Value}
    (hin : ArmIn w0 w B sb x n c4 a4 L c N sw si sk sd) {u g : Nat} (ha : a4 = some ⟨g, 0, none⟩) (hcap : n ≤ c4) (hw : sw = 3) (hib : inb = true) (hi : si = (u : Int)) (hu : u < n)
    (hK : ∀ s4 s11 s12 s13 s14 s15 s16 s17 s32 s33 s34 s35 s36 s37 s38 s39 s40 s41 s42 s43 s44 s45 s46 s47 s48 s49 s50 s51 s52 s53 s54 s55 s56 s57 s58 s59 s60 s61 s62 s63 s64 s65 s66 s67 s68 s69 s70 s71 s72 s73 s74 s75 s76 s77 s78 s79 s80 s81 s82 s83 s84 s85 s86 s87 s88 s89 s90 s91 s92 s93 s94 s95 s96 s97 s98 s99 s100 s101 s102 s103 s104 s105 s106 s107 s108 s109 s110 s111 s112 s113 s114 s115 s116 s117 s118 s119 s120 s121 s122 s123 s124 s125 s126 s127 s128 s129 s130 s131 s132 s133 s134 s135 s136 s137 s138 s139 s140 s141 s142 s143 s144 s145 s146 s147 s148 s149 s150 s151 s152 s153 s154 s155 s156 s157 s158 s159 s160 s161 s162 s163 s164 s165 s166 s167 s168 s169 s170 s171 s172 s173 s174 s175 s176 s177 s178 s179 s180 s181 s182 s183 s184 s185 s186 s187 s188 s189 s190 s191 s192 s193 s194 s195 s196 s197 s198 s199 s200 s201 s202 s203 s204 s205 s206 s207 s208 s209 s210 s211 s212 s213 s214 s215 s216 s217 s218 s219 s220 s221 s222 s223 s224 s225 s226 s227 s228 s229 s230 s231 s232 s233 s234 s235 s236 s237 s238 s239 s240 s241 s242 s243 s244 s245 s246 s247 s248 s249 s250 s251 s252 s253 s254 s255 s256 s257 s258 s259 s260 s261 s262 s263 s264 s265 s266 s267 s268 s269 s270 s271 s272 s273 s274 s275 s276 s277 s278 s279 s280 s281 s282 s283 s284 s285 s286 s287 s288 s289 s290 s291 s292 s293 s294 s295 s296 s297 s298 s299 w', PlayCut w0 B sb x sd L c N s4 s11 s12 w' → K ⟨#[u0, u1, u2, .pointer (some ⟨x, 0, none⟩), s4, u5, .pointer (some ⟨sb, 0, none⟩), .int .i64 n, .int .i64 c, .int .i64 (fnd L sd), .bool inb, s11, s12, s13, s14, s15, s16, s17, u18, u19, u20, u21, u22, u23, u24, u25, u26, u27, u28, u29, u30, u31, s32, s33, s34, s35, s36, s37, s38, s39, s40, s41, s42, s43, s44, s45, s46, s47, s48, s49, s50, s51, s52, s53, s54, s55, s56, s57, s58, s59, s60, s61, s62, s63, s64, s65, s66, s67, s68, s69, s70, s71, s72, s73, s74, s75, s76, s77, s78, s79, s80, s81, s82, s83, s84, s85, s86, s87, s88, s89, s90, s91, s92, s93, s94, s95, s96, s97, s98, s99, s100, s101, s102, s103, s104, s105, s106, s107, s108, s109, s110, s111, s112, s113, s114, s115, s116, s117, s118, s119, s120, s121, s122, s123, s124, s125, s126, s127, s128, s129, s130, s131, s132, s133, s134, s135, s136, s137, s138, s139, s140, s141, s142, s143, s144, s145, s146, s147, s148, s149, s150, s151, s152, s153, s154, s155, s156, s157, s158, s159, s160, s161, s162, s163, s164, s165, s166, s167, s168, s169, s170, s171, s172, s173, s174, s175, s176, s177, s178, s179, s180, s181, s182, s183, s184, s185, s186, s187, s188, s189, s190, s191, s192, s193, s194, s195, s196, s197, s198, s199, s200, s201, s202, s203, s204, s205, s206, s207, s208, s209, s210, s211, s212, s213, s214, s215, s216, s217, s218, s219, s220, s221, s222, s223, s224, s225, s226, s227, s228, s229, s230, s231, s232, s233, s234, s235, s236, s237, s238, s239, s240, s241, s242, s243, s244, s245, s246, s247, s248, s249, s250, s251, s252, s253, s254, s255, s256, s257, s258, s259, s260, s261, s262, s263, s264, s265, s266, s267, s268, s269, s270, s271, s272, s273, s274, s275, s276, s277, s278, s279, s280, s281, s282, s283, s284, s285, s286, s287, s288, s289, s290, s291, s292, s293, s294, s295, s296, s297, s298, s299], []⟩ w') :
    Code.wp Try.prog swCode (Exit.then K (Exit.inBlock 1 (Exit.then K1 (Exit.then K2 (Exit.inBlock 0 (Exit.then K3 (bodyPost Try.prog Try.f6 (fun e w' => e = .returned (.bool true) ∧ Same (fun _ => False) w0 w')))))))) ⟨#[u0, u1, u2, .pointer (some ⟨x, 0, none⟩), .slice a4 n c4, u5, .pointer (some ⟨sb, 0, none⟩), .int .i64 n, .int .i64 c, .int .i64 (fnd L sd), .bool inb, .int .i64 0, .int .i64 0, u13, u14, u15, u16, u17, u18, u19, u20, u21, u22, u23, u24, u25, u26, u27, u28, u29, u30, u31, u32, u33, u34, u35, u36, u37, u38, u39, u40, u41, u42, u43, u44, u45, u46, u47, u48, u49, u50, u51, u52, u53, u54, u55, u56, u57, u58, u59, .int .i64 sw, u61, u62, u63, u64, u65, u66, u67, u68, u69, u70, u71, u72, u73, u74, u75, u76, u77, u78, u79, u80, u81, u82, u83, u84, u85, u86, u87, u88, u89, u90, u91, u92, u93, u94, u95, u96, u97, u98, u99, u100, u101, u102, u103, u104, u105, u106, u107, u108, u109, u110, u111, u112, u113, u114, u115, u116, u117, u118, u119, u120, u121, u122, u123, u124, u125, u126, u127, u128, u129, u130, u131, u132, u133, u134, u135, u136, u137, u138, u139, u140, u141, u142, u143, u144, u145, u146, u147, u148, u149, u150, u151, u152, u153, u154, u155, u156, u157, u158, u159, u160, u161, u162, u163, u164, u165, u166, u167, u168, u169, u170, u171, u172, u173, u174, u175, u176, u177, u178, u179, u180, u181, u182, u183, u184, u185, u186, u187, u188, u189, u190, u191, u192, u193, u194, u195, u196, u197, u198, u199, u200, u201, u202, u203, u204, u205, u206, u207, u208, u209, u210, u211, u212, u213, u214, u215, u216, u217, u218, u219, u220, u221, u222, u223, u224, u225, u226, u227, u228, u229, u230, u231, u232, u233, u234, u235, u236, u237, u238, u239, u240, u241, u242, u243, u244, u245, u246, u247, u248, u249, u250, u251, u252, u253, u254, u255, u256, u257, u258, u259, u260, u261, u262, u263, u264, u265, u266, u267, u268, u269, u270, u271, u272, u273, u274, u275, u276, u277, u278, u279, u280, u281, u282, u283, u284, u285, u286, u287, u288, u289, u290, u291, u292, u293, u294, u295, u296, u297, u298, u299], []⟩ w := by
  have HIN := Lib.hid hin; have HK := Lib.hid hK
  subst hi ha hib
  obtain ⟨c0, c1, c2, c3⟩ := hin.cells
  have hul : u < L.length := by rw [hin.len]; exact hu
  have hc := pos_erase hin.ix hin.up (by have := hin.len; have := hin.few; omega) (by have := hin.few; omega) hul
  have hr := ownsRow_read hin.own
  have HLE := Lib.hid hin.len
  obtain ⟨hf80, _, _, _⟩ := hin.few
  have hui : (u : Int) ≤ (n : Int) := by omega
  have huj : (u : Int) < (n : Int) := by omega
  have hun : (u : Int) + 1 ≤ (n : Int) := by omega
  have hub : (u : Int) < 81 := by omega
  have hu4 : u ≤ c4 := by omega
  have hun1 : u + 1 ≤ n := hu
  have hup0 : 0 ≤ (u : Int) + 1 := by omega
  have hwr : IntKind.i64.wrap ((u : Int) + 1) = (u : Int) + 1 := by rw [IntKind.wrap_i64]; omega
  have hgl := (hin.own.lt g rfl).2
  obtain ⟨y, hy⟩ : ∃ y, L[u] = y := ⟨_, rfl⟩
  have hcell := hr.cell (j := u) (x := .int .i64 y) (by simp [hul, hy])
  rw [Nat.zero_add] at hcell
  rw [hy] at hc
  have HC := Lib.hid hc; have HCELL := Lib.hid hcell
  clear hc hr hul hy hcell
  clear hin hK
  conv => arg 2; whnf
  subst hw
  go_wp2_with fail
  refine HC.out.mono ?_
  rintro e w1 ⟨rfl, hg⟩
  obtain ⟨g0, g1, g2, g3⟩ := HIN.out.cells_at hg.2 (fun h => h.2 rfl)
  have gm := (World.cell?_of_block (a := ⟨g, u, none⟩) (hg.2.block g hgl (fun h => h.1.2 rfl))).trans HCELL.out
  have hgl1 : g < w1.heap.size := by have := hg.2.size; omega
  have hsl : sb < w1.heap.size := by have h1 := lt_of_block HIN.out.blk; have h2 := hg.2.size; omega
  have hr1 := (ownsRow_read HIN.out.own).kept hg.2 (fun q hq hF => hF.1.2 hq)
  have hd : Same (fun _ => False) w1 w1.drew := (Same.refl (fun _ => False) w1).drew
  have HRT := Lib.hid (ints_take (hr1.kept hd (fun _ _ h => h)) (Nat.le_of_lt hu))
  have HRR := Lib.hid (fun (w4 : World) (h : Same (fun _ => False) w1 w4) => ints_rest (u := u + 1) (hr1.kept h (fun _ _ h => h)) HLE.out hcap hu)
  have HKC := Lib.hid (fun (w4 : World) (h : Same (fun _ => False) w1 w4) => (World.cell?_of_block (a := ⟨sb, 1, none⟩) (h.block sb hsl id)).trans g1)
  have HG := Lib.hid hg; have HD := Lib.hid hd
  clear hg hr1 hd
  dsimp only
  go_wp2_with fail
  go_region_law (first
    | (refine step_append_ints (w := w1.drew) rfl (.const (.slice none 0 0)) (.tmp 160) rfl w1.heap.size (.slice none 0 0) [] (by first | rfl | simp [Act.eval]) (World.ownsRow_nil _ _ _ _) (.slice (some ⟨g, 0, none⟩) u c4) (L.take u) (by first | rfl | simp [Act.eval]) HRT.out (by have := HLE.out; simp; omega) (Nat.le_refl _) ?_; intro v4 w4 ho4 hs4 hb4; have hsx := HD.out.trans hs4 (fun i hi hq => by cases hq); have q1 := HKC.out w4 hsx; have HRD4 := Lib.hid (HRR.out w4 hsx); have HO4 := Lib.hid ho4; have HS4 := Lib.hid hsx; have HU4 := Lib.hid hsx.size; clear ho4 hs4 hb4 hsx)
    | (refine step_append_ints (w := w4) rfl (.tmp 161) (.tmp 166) rfl w1.heap.size v4 ([] ++ L.take u) (by first | rfl | simp [Act.eval]) HO4.out (.slice (if c4 = u + 1 then some ⟨g, 0, none⟩ else some ⟨g, u + 1, none⟩) (n - (u + 1)) (c4 - (u + 1))) (L.drop (u + 1)) (by first | rfl | simp [Act.eval]) HRD4.out (by have := HLE.out; simp; omega) HU4.out ?_; intro v5 w5 ho5 hs5 hb5; have HO5 := Lib.hid ho5; have HS5 := Lib.hid (HS4.out.trans hs5 (fun i hi hq => by have := (HO4.out.lt i hq).1; omega)); clear ho5 hs5 hb5))
  all_goals (go_wp2_with fail)
  all_goals exact HK.out _ _ _ _ _ _ _ _ _ _ _ _ _ _ _ _ _ _ _ _ _ _ _ _ _ _ _ _ _ _ _ _ _ _ _ _ _ _ _ _ _ _ _ _ _ _ _ _ _ _ _ _ _ _ _ _ _ _ _ _ _ _ _ _ _ _ _ _ _ _ _ _ _ _ _ _ _ _ _ _ _ _ _ _ _ _ _ _ _ _ _ _ _ _ _ _ _ _ _ _ _ _ _ _ _ _ _ _ _ _ _ _ _ _ _ _ _ _ _ _ _ _ _ _ _ _ _ _ _ _ _ _ _ _ _ _ _ _ _ _ _ _ _ _ _ _ _ _ _ _ _ _ _ _ _ _ _ _ _ _ _ _ _ _ _ _ _ _ _ _ _ _ _ _ _ _ _ _ _ _ _ _ _ _ _ _ _ _ _ _ _ _ _ _ _ _ _ _ _ _ _ _ _ _ _ _ _ _ _ _ _ _ _ _ _ _ _ _ _ _ _ _ _ _ _ _ _ _ _ _ _ _ _ _ _ _ _ _ _ _ _ _ _ _ _ _ _ _ _ _ _ _ _ _ _ _ _ _ _ _ _ _ _ _ _ _ _ _ _ _ _ _ _ _ _ _ _ (PlayCut.turned HIN.out HG.out (by omega) (by simp; omega) (HS5.out.weaken (fun _ _ h => h.elim)) (fun q e => (HO5.out.lt q e).1) (own_down (by simpa using HO5.out) (by have h1 := HIN.out.base; have h2 := HG.out.2.size; omega)))


set_option maxHeartbeats 8000000 in
theorem arm_swap_ok {w0 w : World} {B sb x n N c4 : Nat} {a4 : Option Addr} {L : List Int} {c sw si sk sd : Int} {inb : Bool} {K : Act → World → Prop} {K1 K2 K3 : Act → World → Prop} {u0 u1 u2 u5 u13 u14 u15 u16 u17 u18 u19 u20 u21 u22 u23 u24 u25 u26 u27 u28 u29 u30 u31 u32 u33 u34 u35 u36 u37 u38 u39 u40 u41 u42 u43 u44 u45 u46 u47 u48 u49 u50 u51 u52 u53 u54 u55 u56 u57 u58 u59 u61 u62 u63 u64 u65 u66 u67 u68 u69 u70 u71 u72 u73 u74 u75 u76 u77 u78 u79 u80 u81 u82 u83 u84 u85 u86 u87 u88 u89 u90 u91 u92 u93 u94 u95 u96 u97 u98 u99 u100 u101 u102 u103 u104 u105 u106 u107 u108 u109 u110 u111 u112 u113 u114 u115 u116 u117 u118 u119 u120 u121 u122 u123 u124 u125 u126 u127 u128 u129 u130 u131 u132 u133 u134 u135 u136 u137 u138 u139 u140 u141 u142 u143 u144 u145 u146 u147 u148 u149 u150 u151 u152 u153 u154 u155 u156 u157 u158 u159 u160 u161 u162 u163 u164 u165 u166 u167 u168 u169 u170 u171 u172 u173 u174 u175 u176 u177 u178 u179 u180 u181 u182 u183 u184 u185 u186 u187 u188 u189 u190 u191 u192 u193 u194 u195 u196 u197 u198 u199 u200 u201 u202 u203 u204 u205 u206 u207 u208 u209 u210 u211 u212 u213 u214 u215 u216 u217 u218 u219 u220 u221 u222 u223 u224 u225 u226 u227 u228 u229 u230 u231 u232 u233 u234 u235 u236 u237 u238 u239 u240 u241 u242 u243 u244 u245 u246 u247 u248 u249 u250 u251 u252 u253 u254 u255 u256 u257 u258 u259 u260 u261 u262 u263 u264 u265 u266 u267 u268 u269 u270 u271 u272 u273 u274 u275 u276 u277 u278 u279 u280 u281 u282 u283 u284 u285 u286 u287 u288 u289 u290 u291 u292 u293 u294 u295 u296 u297 u298 u299 : Value}
    (hin : ArmIn w0 w B sb x n c4 a4 L c N sw si sk sd) (h0 : ¬ sw = 0) (h1 : ¬ sw = 1) (h2 : ¬ sw = 2) (h3 : ¬ sw = 3) (h4 : ¬ sw = 4) (h5 : ¬ sw = 5) {u k : Nat} (hib : inb = true) (hi : si = (u : Int)) (hu : u < n) (hk : sk = (k : Int)) (hkn : k < n)
    (hK : ∀ s4 s11 s12 s13 s14 s15 s16 s17 s32 s33 s34 s35 s36 s37 s38 s39 s40 s41 s42 s43 s44 s45 s46 s47 s48 s49 s50 s51 s52 s53 s54 s55 s56 s57 s58 s59 s60 s61 s62 s63 s64 s65 s66 s67 s68 s69 s70 s71 s72 s73 s74 s75 s76 s77 s78 s79 s80 s81 s82 s83 s84 s85 s86 s87 s88 s89 s90 s91 s92 s93 s94 s95 s96 s97 s98 s99 s100 s101 s102 s103 s104 s105 s106 s107 s108 s109 s110 s111 s112 s113 s114 s115 s116 s117 s118 s119 s120 s121 s122 s123 s124 s125 s126 s127 s128 s129 s130 s131 s132 s133 s134 s135 s136 s137 s138 s139 s140 s141 s142 s143 s144 s145 s146 s147 s148 s149 s150 s151 s152 s153 s154 s155 s156 s157 s158 s159 s160 s161 s162 s163 s164 s165 s166 s167 s168 s169 s170 s171 s172 s173 s174 s175 s176 s177 s178 s179 s180 s181 s182 s183 s184 s185 s186 s187 s188 s189 s190 s191 s192 s193 s194 s195 s196 s197 s198 s199 s200 s201 s202 s203 s204 s205 s206 s207 s208 s209 s210 s211 s212 s213 s214 s215 s216 s217 s218 s219 s220 s221 s222 s223 s224 s225 s226 s227 s228 s229 s230 s231 s232 s233 s234 s235 s236 s237 s238 s239 s240 s241 s242 s243 s244 s245 s246 s247 s248 s249 s250 s251 s252 s253 s254 s255 s256 s257 s258 s259 s260 s261 s262 s263 s264 s265 s266 s267 s268 s269 s270 s271 s272 s273 s274 s275 s276 s277 s278 s279 s280 s281 s282 s283 s284 s285 s286 s287 s288 s289 s290 s291 s292 s293 s294 s295 s296 s297 s298 s299 w', PlayCut w0 B sb x sd L c N s4 s11 s12 w' → K ⟨#[u0, u1, u2, .pointer (some ⟨x, 0, none⟩), s4, u5, .pointer (some ⟨sb, 0, none⟩), .int .i64 n, .int .i64 c, .int .i64 (fnd L sd), .bool inb, s11, s12, s13, s14, s15, s16, s17, u18, u19, u20, u21, u22, u23, u24, u25, u26, u27, u28, u29, u30, u31, s32, s33, s34, s35, s36, s37, s38, s39, s40, s41, s42, s43, s44, s45, s46, s47, s48, s49, s50, s51, s52, s53, s54, s55, s56, s57, s58, s59, s60, s61, s62, s63, s64, s65, s66, s67, s68, s69, s70, s71, s72, s73, s74, s75, s76, s77, s78, s79, s80, s81, s82, s83, s84, s85, s86, s87, s88, s89, s90, s91, s92, s93, s94, s95, s96, s97, s98, s99, s100, s101, s102, s103, s104, s105, s106, s107, s108, s109, s110, s111, s112, s113, s114, s115, s116, s117, s118, s119, s120, s121, s122, s123, s124, s125, s126, s127, s128, s129, s130, s131, s132, s133, s134, s135, s136, s137, s138, s139, s140, s141, s142, s143, s144, s145, s146, s147, s148, s149, s150, s151, s152, s153, s154, s155, s156, s157, s158, s159, s160, s161, s162, s163, s164, s165, s166, s167, s168, s169, s170, s171, s172, s173, s174, s175, s176, s177, s178, s179, s180, s181, s182, s183, s184, s185, s186, s187, s188, s189, s190, s191, s192, s193, s194, s195, s196, s197, s198, s199, s200, s201, s202, s203, s204, s205, s206, s207, s208, s209, s210, s211, s212, s213, s214, s215, s216, s217, s218, s219, s220, s221, s222, s223, s224, s225, s226, s227, s228, s229, s230, s231, s232, s233, s234, s235, s236, s237, s238, s239, s240, s241, s242, s243, s244, s245, s246, s247, s248, s249, s250, s251, s252, s253, s254, s255, s256, s257, s258, s259, s260, s261, s262, s263, s264, s265, s266, s267, s268, s269, s270, s271, s272, s273, s274, s275, s276, s277, s278, s279, s280, s281, s282, s283, s284, s285, s286, s287, s288, s289, s290, s291, s292, s293, s294, s295, s296, s297, s298, s299], []⟩ w') :
    Code.wp Try.prog swCode (Exit.then K (Exit.inBlock 1 (Exit.then K1 (Exit.then K2 (Exit.inBlock 0 (Exit.then K3 (bodyPost Try.prog Try.f6 (fun e w' => e = .returned (.bool true) ∧ Same (fun _ => False) w0 w')))))))) ⟨#[u0, u1, u2, .pointer (some ⟨x, 0, none⟩), .slice a4 n c4, u5, .pointer (some ⟨sb, 0, none⟩), .int .i64 n, .int .i64 c, .int .i64 (fnd L sd), .bool inb, .int .i64 0, .int .i64 0, u13, u14, u15, u16, u17, u18, u19, u20, u21, u22, u23, u24, u25, u26, u27, u28, u29, u30, u31, u32, u33, u34, u35, u36, u37, u38, u39, u40, u41, u42, u43, u44, u45, u46, u47, u48, u49, u50, u51, u52, u53, u54, u55, u56, u57, u58, u59, .int .i64 sw, u61, u62, u63, u64, u65, u66, u67, u68, u69, u70, u71, u72, u73, u74, u75, u76, u77, u78, u79, u80, u81, u82, u83, u84, u85, u86, u87, u88, u89, u90, u91, u92, u93, u94, u95, u96, u97, u98, u99, u100, u101, u102, u103, u104, u105, u106, u107, u108, u109, u110, u111, u112, u113, u114, u115, u116, u117, u118, u119, u120, u121, u122, u123, u124, u125, u126, u127, u128, u129, u130, u131, u132, u133, u134, u135, u136, u137, u138, u139, u140, u141, u142, u143, u144, u145, u146, u147, u148, u149, u150, u151, u152, u153, u154, u155, u156, u157, u158, u159, u160, u161, u162, u163, u164, u165, u166, u167, u168, u169, u170, u171, u172, u173, u174, u175, u176, u177, u178, u179, u180, u181, u182, u183, u184, u185, u186, u187, u188, u189, u190, u191, u192, u193, u194, u195, u196, u197, u198, u199, u200, u201, u202, u203, u204, u205, u206, u207, u208, u209, u210, u211, u212, u213, u214, u215, u216, u217, u218, u219, u220, u221, u222, u223, u224, u225, u226, u227, u228, u229, u230, u231, u232, u233, u234, u235, u236, u237, u238, u239, u240, u241, u242, u243, u244, u245, u246, u247, u248, u249, u250, u251, u252, u253, u254, u255, u256, u257, u258, u259, u260, u261, u262, u263, u264, u265, u266, u267, u268, u269, u270, u271, u272, u273, u274, u275, u276, u277, u278, u279, u280, u281, u282, u283, u284, u285, u286, u287, u288, u289, u290, u291, u292, u293, u294, u295, u296, u297, u298, u299], []⟩ w := by
  have HIN := Lib.hid hin; have HK := Lib.hid hK
  subst hi hk hib
  obtain ⟨c0, c1, c2, c3⟩ := hin.cells
  have hul : u < L.length := by rw [hin.len]; exact hu
  have hkl : k < L.length := by rw [hin.len]; exact hkn
  have HC := Lib.hid (pos_swap hin.ix hin.up (by have := hin.len; have := hin.few; omega) (by have := hin.few; omega) hul hkl)
  have HLE := Lib.hid hin.len
  obtain ⟨hf80, _, _, _⟩ := hin.few
  have hk0 : ¬ (k : Int) < 0 := by omega
  have hk1 : ¬ (n : Int) ≤ (k : Int) := by omega
  have hui : (u : Int) < (n : Int) := by omega
  have hki : (k : Int) < (n : Int) := by omega
  have HUL := Lib.hid hul; have HKL := Lib.hid hkl
  clear hul hkl
  clear hin hK
  conv => arg 2; whnf
  go_wp2_with fail
  refine HC.out.mono ?_
  rintro e w1 ⟨rfl, hg⟩
  obtain ⟨g0, g1, g2, g3⟩ := HIN.out.cells_at hg.2 (fun h => h.2 rfl)
  have HR1 := Lib.hid ((ownsRow_read HIN.out.own).kept hg.2 (fun q hq hF => hF.1.2 hq))
  have HG := Lib.hid hg
  clear hg
  dsimp only
  go_wp2_with (first
    | (at_builtin; refine wpList_append_ints w1 rfl (.const (.slice none 0 0)) (.tmp 80) rfl w1.heap.size (.slice none 0 0) [] rfl (World.ownsRow_nil _ _ _ _) _ L rfl HR1.out (by have := HLE.out; simp; omega) (Nat.le_refl _) ?_))
  intro v3 w3 ho3 hs3 hb3
  have ho3 : w3.ownsRow w1.heap.size 2 1 v3 n (intsV L) := by have h := ho3; rw [List.nil_append, HLE.out] at h; exact h
  have hs3 : Same (fun _ => False) w1 w3 := hs3.weaken (fun k _ h => by cases h)
  obtain ⟨gb, p3, rfl⟩ : ∃ gb p3, v3 = .slice (some ⟨gb, 0, none⟩) n p3 := by
    rcases ho3.2 with ⟨_, h0⟩ | ⟨gb, p3, cur, e, _⟩
    · omega
    · exact ⟨gb, p3, e⟩
  have hc1 := (World.cell?_of_block (a := ⟨sb, 1, none⟩) (hs3.block sb (by have h1 := lt_of_block HIN.out.blk; have h2 := HG.out.2.size; omega) id)).trans g1
  have hc2 := (World.cell?_of_block (a := ⟨sb, 2, none⟩) (hs3.block sb (by have h1 := lt_of_block HIN.out.blk; have h2 := HG.out.2.size; omega) id)).trans g2
  have hg3 : w1.heap.size ≤ gb := (ho3.lt gb rfl).1
  have hbb : B ≤ gb := by have h1 := HIN.out.base; have h2 := HG.out.2.size; omega
  have hne : sb ≠ gb := by have h1 := (ho3.lt gb rfl).1; have h2 := lt_of_block HIN.out.blk; have h3 := HG.out.2.size; omega
  obtain ⟨k1, k2, k3⟩ := row_cell (j := u) (u := .int .i64 (L.getD u 0)) ho3 (ints_at HUL.out)
  obtain ⟨k4, k5, _⟩ := row_cell (j := k) (u := .int .i64 (L.getD k 0)) ho3 (ints_at HKL.out)
  have ho4 := row_set (j := u) ho3 (.int .i64 (L.getD k 0))
  obtain ⟨k6, k7, k8⟩ := row_cell (j := k) (u := .int .i64 ((L.set u (L.getD k 0)).getD k 0)) ho4 (by rw [← List.map_set]; exact ints_at (by rw [List.length_set]; exact HKL.out))
  have ho5 := row_set (j := k) ho4 (.int .i64 (L.getD u 0))
  rw [← List.map_set, ← List.map_set] at ho5
  have hs5 : Same (fun q => B ≤ q ∧ w1.heap.size ≤ q) w3 ((w3.setCell ⟨gb, u, none⟩ (.int .i64 (L.getD k 0))).setCell ⟨gb, k, none⟩ (.int .i64 (L.getD u 0))) := ((Same.refl _ w3).setCell (p := ⟨gb, u, none⟩) (fun _ => ⟨hbb, hg3⟩) _).setCell (p := ⟨gb, k, none⟩) (fun _ => ⟨hbb, hg3⟩) _
  generalize hvc : (L.set u (L.getD k 0)).getD k 0 = vc at *
  generalize hva : L.getD u 0 = va at *
  generalize hvb : L.getD k 0 = vb at *
  have HO5 := Lib.hid ho5; have HS3 := Lib.hid hs3; have HS5 := Lib.hid hs5; have HVA := Lib.hid hva; have HVB := Lib.hid hvb
  clear ho3 hs3 hb3 ho4 ho5 hs5 hva hvb hvc g1 g2 g3
  dsimp only
  go_wp2_with fail
  go_region
  all_goals (go_wp2_with fail)
  all_goals refine HK.out _ _ _ _ _ _ _ _ _ _ _ _ _ _ _ _ _ _ _ _ _ _ _ _ _ _ _ _ _ _ _ _ _ _ _ _ _ _ _ _ _ _ _ _ _ _ _ _ _ _ _ _ _ _ _ _ _ _ _ _ _ _ _ _ _ _ _ _ _ _ _ _ _ _ _ _ _ _ _ _ _ _ _ _ _ _ _ _ _ _ _ _ _ _ _ _ _ _ _ _ _ _ _ _ _ _ _ _ _ _ _ _ _ _ _ _ _ _ _ _ _ _ _ _ _ _ _ _ _ _ _ _ _ _ _ _ _ _ _ _ _ _ _ _ _ _ _ _ _ _ _ _ _ _ _ _ _ _ _ _ _ _ _ _ _ _ _ _ _ _ _ _ _ _ _ _ _ _ _ _ _ _ _ _ _ _ _ _ _ _ _ _ _ _ _ _ _ _ _ _ _ _ _ _ _ _ _ _ _ _ _ _ _ _ _ _ _ _ _ _ _ _ _ _ _ _ _ _ _ _ _ _ _ _ _ _ _ _ _ _ _ _ _ _ _ _ _ _ _ _ _ _ _ _ _ _ _ _ _ _ _ _ _ _ _ _ _ _ _ _ _ _ _ _ _ _ _ ?_
  all_goals (
    have hsw : (L.set u vb).set k va = swapped L u k := by unfold swapped; rw [HVA.out, HVB.out]
    have hln : (swapped L u k).length = n := by rw [swapped_length]; exact HLE.out
    refine PlayCut.turned HIN.out HG.out (Nat.le_refl _) (by rw [swapped_length]; omega) ((HS3.out.weaken (fun _ _ h => h.elim)).trans HS5.out.drew (fun _ _ h => h)) (fun q e => ?_) ?_
    · simp only [Value.ownBlock, Option.some.injEq] at e
      rw [← e]
      exact hg3
    · rw [hln, ← hsw]
      exact own_down (((Same.refl (fun _ => False) _).drew).row HO5.out (fun _ _ h => h)) (by have h1 := HIN.out.base; have h2 := HG.out.2.size; omega))

end Go.Proofs.Ytelgbigpfiohfaa
