/-
  PosPlays' switch, an insert that goes (printed by play_gen.py). Conditions: none.
-/
import Derived.Test.YtelgbigpfiohfaaPlayIn
namespace Go.Proofs.Ytelgbigpfiohfaa
open Go.RowKit Go.Extern.Stop Go.Stop Go.Extern Go.Lib Go.Maps
set_option maxRecDepth 1000000

set_option maxHeartbeats 8000000 in
theorem arm_insert_ok1 {w0 w : World} {B sb x n N c4 : Nat} {a4 : Option Addr} {L : List Int} {c sw si sk sd : Int} {inb : Bool} {K : Act → World → Prop} {K1 K2 K3 : Act → World → Prop} {u0 u1 u2 u5 u13 u14 u15 u16 u17 u18 u19 u20 u21 u22 u23 u24 u25 u26 u27 u28 u29 u30 u31 u32 u33 u34 u35 u36 u37 u38 u39 u40 u41 u42 u43 u44 u45 u46 u47 u48 u49 u50 u51 u52 u53 u54 u55 u56 u57 u58 u59 u61 u62 u63 u64 u65 u66 u67 u68 u69 u70 u71 u72 u73 u74 u75 u76 u77 u78 u79 u80 u81 u82 u83 u84 u85 u86 u87 u88 u89 u90 u91 u92 u93 u94 u95 u96 u97 u98 u99 u100 u101 u102 u103 u104 u105 u106 u107 u108 u109 u110 u111 u112 u113 u114 u115 u116 u117 u118 u119 u120 u121 u122 u123 u124 u125 u126 u127 u128 u129 u130 u131 u132 u133 u134 u135 u136 u137 u138 u139 u140 u141 u142 u143 u144 u145 u146 u147 u148 u149 u150 u151 u152 u153 u154 u155 u156 u157 u158 u159 u160 u161 u162 u163 u164 u165 u166 u167 u168 u169 u170 u171 u172 u173 u174 u175 u176 u177 u178 u179 u180 u181 u182 u183 u184 u185 u186 u187 u188 u189 u190 u191 u192 u193 u194 u195 u196 u197 u198 u199 u200 u201 u202 u203 u204 u205 u206 u207 u208 u209 u210 u211 u212 u213 u214 u215 u216 u217 u218 u219 u220 u221 u222 u223 u224 u225 u226 u227 u228 u229 u230 u231 u232 u233 u234 u235 u236 u237 u238 u239 u240 u241 u242 u243 u244 u245 u246 u247 u248 u249 u250 u251 u252 u253 u254 u255 u256 u257 u258 u259 u260 u261 u262 u263 u264 u265 u266 u267 u268 u269 u270 u271 u272 u273 u274 u275 u276 u277 u278 u279 u280 u281 u282 u283 u284 u285 u286 u287 u288 u289 u290 u291 u292 u293 u294 u295 u296 u297 u298 u299 : Value}
    (hin : ArmIn w0 w B sb x n c4 a4 L c N sw si sk sd) {u g : Nat} (ha : a4 = some ⟨g, 0, none⟩) (hcap : n ≤ c4) (hw : sw = 1) (hy : sd ∉ L) (hi : si = (u : Int)) (hu : u ≤ n)
    (hK : ∀ s4 s11 s12 s13 s14 s15 s16 s17 s32 s33 s34 s35 s36 s37 s38 s39 s40 s41 s42 s43 s44 s45 s46 s47 s48 s49 s50 s51 s52 s53 s54 s55 s56 s57 s58 s59 s60 s61 s62 s63 s64 s65 s66 s67 s68 s69 s70 s71 s72 s73 s74 s75 s76 s77 s78 s79 s80 s81 s82 s83 s84 s85 s86 s87 s88 s89 s90 s91 s92 s93 s94 s95 s96 s97 s98 s99 s100 s101 s102 s103 s104 s105 s106 s107 s108 s109 s110 s111 s112 s113 s114 s115 s116 s117 s118 s119 s120 s121 s122 s123 s124 s125 s126 s127 s128 s129 s130 s131 s132 s133 s134 s135 s136 s137 s138 s139 s140 s141 s142 s143 s144 s145 s146 s147 s148 s149 s150 s151 s152 s153 s154 s155 s156 s157 s158 s159 s160 s161 s162 s163 s164 s165 s166 s167 s168 s169 s170 s171 s172 s173 s174 s175 s176 s177 s178 s179 s180 s181 s182 s183 s184 s185 s186 s187 s188 s189 s190 s191 s192 s193 s194 s195 s196 s197 s198 s199 s200 s201 s202 s203 s204 s205 s206 s207 s208 s209 s210 s211 s212 s213 s214 s215 s216 s217 s218 s219 s220 s221 s222 s223 s224 s225 s226 s227 s228 s229 s230 s231 s232 s233 s234 s235 s236 s237 s238 s239 s240 s241 s242 s243 s244 s245 s246 s247 s248 s249 s250 s251 s252 s253 s254 s255 s256 s257 s258 s259 s260 s261 s262 s263 s264 s265 s266 s267 s268 s269 s270 s271 s272 s273 s274 s275 s276 s277 s278 s279 s280 s281 s282 s283 s284 s285 s286 s287 s288 s289 s290 s291 s292 s293 s294 s295 s296 s297 s298 s299 w', PlayCut w0 B sb x sd L c N s4 s11 s12 w' → K ⟨#[u0, u1, u2, .pointer (some ⟨x, 0, none⟩), s4, u5, .pointer (some ⟨sb, 0, none⟩), .int .i64 n, .int .i64 c, .int .i64 (fnd L sd), .bool inb, s11, s12, s13, s14, s15, s16, s17, u18, u19, u20, u21, u22, u23, u24, u25, u26, u27, u28, u29, u30, u31, s32, s33, s34, s35, s36, s37, s38, s39, s40, s41, s42, s43, s44, s45, s46, s47, s48, s49, s50, s51, s52, s53, s54, s55, s56, s57, s58, s59, s60, s61, s62, s63, s64, s65, s66, s67, s68, s69, s70, s71, s72, s73, s74, s75, s76, s77, s78, s79, s80, s81, s82, s83, s84, s85, s86, s87, s88, s89, s90, s91, s92, s93, s94, s95, s96, s97, s98, s99, s100, s101, s102, s103, s104, s105, s106, s107, s108, s109, s110, s111, s112, s113, s114, s115, s116, s117, s118, s119, s120, s121, s122, s123, s124, s125, s126, s127, s128, s129, s130, s131, s132, s133, s134, s135, s136, s137, s138, s139, s140, s141, s142, s143, s144, s145, s146, s147, s148, s149, s150, s151, s152, s153, s154, s155, s156, s157, s158, s159, s160, s161, s162, s163, s164, s165, s166, s167, s168, s169, s170, s171, s172, s173, s174, s175, s176, s177, s178, s179, s180, s181, s182, s183, s184, s185, s186, s187, s188, s189, s190, s191, s192, s193, s194, s195, s196, s197, s198, s199, s200, s201, s202, s203, s204, s205, s206, s207, s208, s209, s210, s211, s212, s213, s214, s215, s216, s217, s218, s219, s220, s221, s222, s223, s224, s225, s226, s227, s228, s229, s230, s231, s232, s233, s234, s235, s236, s237, s238, s239, s240, s241, s242, s243, s244, s245, s246, s247, s248, s249, s250, s251, s252, s253, s254, s255, s256, s257, s258, s259, s260, s261, s262, s263, s264, s265, s266, s267, s268, s269, s270, s271, s272, s273, s274, s275, s276, s277, s278, s279, s280, s281, s282, s283, s284, s285, s286, s287, s288, s289, s290, s291, s292, s293, s294, s295, s296, s297, s298, s299], []⟩ w') :
    Code.wp Try.prog swCode (Exit.then K (Exit.inBlock 1 (Exit.then K1 (Exit.then K2 (Exit.inBlock 0 (Exit.then K3 (bodyPost Try.prog Try.f6 (fun e w' => e = .returned (.bool true) ∧ Same (fun _ => False) w0 w')))))))) ⟨#[u0, u1, u2, .pointer (some ⟨x, 0, none⟩), .slice a4 n c4, u5, .pointer (some ⟨sb, 0, none⟩), .int .i64 n, .int .i64 c, .int .i64 (fnd L sd), .bool inb, .int .i64 0, .int .i64 0, u13, u14, u15, u16, u17, u18, u19, u20, u21, u22, u23, u24, u25, u26, u27, u28, u29, u30, u31, u32, u33, u34, u35, u36, u37, u38, u39, u40, u41, u42, u43, u44, u45, u46, u47, u48, u49, u50, u51, u52, u53, u54, u55, u56, u57, u58, u59, .int .i64 sw, u61, u62, u63, u64, u65, u66, u67, u68, u69, u70, u71, u72, u73, u74, u75, u76, u77, u78, u79, u80, u81, u82, u83, u84, u85, u86, u87, u88, u89, u90, u91, u92, u93, u94, u95, u96, u97, u98, u99, u100, u101, u102, u103, u104, u105, u106, u107, u108, u109, u110, u111, u112, u113, u114, u115, u116, u117, u118, u119, u120, u121, u122, u123, u124, u125, u126, u127, u128, u129, u130, u131, u132, u133, u134, u135, u136, u137, u138, u139, u140, u141, u142, u143, u144, u145, u146, u147, u148, u149, u150, u151, u152, u153, u154, u155, u156, u157, u158, u159, u160, u161, u162, u163, u164, u165, u166, u167, u168, u169, u170, u171, u172, u173, u174, u175, u176, u177, u178, u179, u180, u181, u182, u183, u184, u185, u186, u187, u188, u189, u190, u191, u192, u193, u194, u195, u196, u197, u198, u199, u200, u201, u202, u203, u204, u205, u206, u207, u208, u209, u210, u211, u212, u213, u214, u215, u216, u217, u218, u219, u220, u221, u222, u223, u224, u225, u226, u227, u228, u229, u230, u231, u232, u233, u234, u235, u236, u237, u238, u239, u240, u241, u242, u243, u244, u245, u246, u247, u248, u249, u250, u251, u252, u253, u254, u255, u256, u257, u258, u259, u260, u261, u262, u263, u264, u265, u266, u267, u268, u269, u270, u271, u272, u273, u274, u275, u276, u277, u278, u279, u280, u281, u282, u283, u284, u285, u286, u287, u288, u289, u290, u291, u292, u293, u294, u295, u296, u297, u298, u299], []⟩ w := by
  have HIN := Lib.hid hin; have HK := Lib.hid hK
  subst hi ha
  obtain ⟨c0, c1, c2, c3⟩ := hin.cells
  have hul : u ≤ L.length := by rw [hin.len]; exact hu
  have HC := Lib.hid (pos_insert hin.ix hin.up (by have := hin.len; have := hin.few; omega) (by have := hin.few; omega) (by have := hin.few; omega) hul hy hin.num.2.2.2)
  have HY := Lib.hid hy; have HUL := Lib.hid hul
  have hf0 : fnd L sd < 0 := by rw [fnd_no hy]; omega
  have hf1 : ¬ 0 ≤ fnd L sd := by omega
  have hfew := hin.few
  have hlen := hin.len
  have hui : (u : Int) ≤ (n : Int) := by omega
  have hui2 : ¬ (n : Int) < (u : Int) := by omega
  have hu0 : ¬ (u : Int) < 0 := by omega
  have HLE := Lib.hid hlen
  obtain ⟨hf80, _, _, _⟩ := hfew
  clear hy hul hlen
  clear hin hK
  conv => arg 2; whnf
  subst hw
  go_wp2_with fail
  refine HC.out.mono ?_
  rintro e w1 ⟨rfl, hg⟩
  obtain ⟨g0, g1, g2, g3⟩ := HIN.out.cells_at hg.2 (fun h => h.2 rfl)
  have hr1 := (ownsRow_read HIN.out.own).kept hg.2 (fun q hq hF => hF.1.2 hq)
  have HR1 := Lib.hid hr1
  have HRT := Lib.hid (ints_take hr1 hu)
  have HG := Lib.hid hg
  clear hg hr1
  dsimp only
  go_wp2_with (first
    | (at_builtin; refine wpList_append_ints w1 rfl (.const (.slice none 0 0)) (.tmp 113) rfl w1.heap.size (.slice none 0 0) [] rfl (World.ownsRow_nil _ _ _ _) _ (L.take u) rfl HRT.out (by have := HLE.out; simp; omega) (Nat.le_refl _) ?_))
  intro v3 w3 ho3 hs3 hb3
  have ho3 : w3.ownsRow w1.heap.size 2 1 v3 (L.take u).length (intsV (L.take u)) := by simpa using ho3
  have hs3 : Same (fun _ => False) w1 w3 := hs3.weaken (fun k _ h => by cases h)
  have hb3 : ∀ k, v3.ownBlock = some k → w1.heap.size ≤ k := fun k hk => (ho3.lt k hk).1
  have hup3 : w1.heap.size ≤ w3.heap.size := hs3.size
  have hgl : g < w1.heap.size := by have h1 := (HIN.out.own.lt g rfl).2; have h2 := HG.out.2.size; omega
  have hsl : sb < w1.heap.size := by have h1 := lt_of_block HIN.out.blk; have h2 := HG.out.2.size; omega
  obtain ⟨k0, k1, k2, k3⟩ := HIN.out.cells_at (HG.out.2.trans hs3 (fun _ _ h => h.elim)) (fun h => h.2 rfl)
  have HRR := Lib.hid (fun (w4 : World) (h : Same (fun k => v3.ownBlock = some k) w3 w4) => ints_rest ((HR1.out.kept hs3 (fun _ _ h => h)).kept h (fun q hq hF => by simp only [Value.ownBlock, Option.some.injEq] at hq; have := hb3 q hF; omega)) HLE.out hcap hu)
  have HKC := Lib.hid (fun (w4 : World) (h : Same (fun k => v3.ownBlock = some k) w3 w4) => (World.cell?_of_block (a := ⟨sb, 1, none⟩) (h.block sb (by omega) (fun e => by have := hb3 sb e; omega))).trans k1)
  have hs0 : Same (fun _ => False) w3 (w3.drew.alloc (.cells #[.int .i64 sd] 2)) := ((Same.refl (fun _ => False) w3).drew).alloc _
  have hsl3 : sb < w3.heap.size := by omega
  have k1a := (World.cell?_of_block (a := ⟨sb, 1, none⟩) (hs0.block sb hsl3 id)).trans k1
  have k3a := (World.cell?_of_block (a := ⟨sb, 3, none⟩) (hs0.block sb hsl3 id)).trans k3
  have HOA := Lib.hid (hs0.row ho3 (fun _ _ h => h))
  have HRD := Lib.hid (ownsRow_read (one_row (w := w3.drew) (B := w1.heap.size) hup3 sd))
  have HUA := Lib.hid (show w1.heap.size ≤ (w3.drew.alloc (.cells #[.int .i64 sd] 2)).heap.size by have := hs0.size; omega)
  have HSA := Lib.hid hs0
  have HS3 := Lib.hid hs3
  clear ho3 hs3 hb3 hs0
  go_wp2_with fail
  go_region_law (first
    | (refine step_append_ints (w := w3.drew.alloc (.cells #[.int .i64 sd] 2)) rfl (.tmp 115) (.tmp 118) rfl w1.heap.size v3 (L.take u) (by first | rfl | simp [Act.eval]) HOA.out (.slice (some ⟨w3.heap.size, 0, none⟩) 1 1) [sd] (by first | rfl | simp [Act.eval]) HRD.out (by have := HLE.out; simp; omega) HUA.out ?_; intro v4 w4 ho4 hs4 hb4; have hsx := ((HSA.out.weaken (F' := fun k => v3.ownBlock = some k) (fun _ _ h => h.elim)).trans hs4 (fun _ _ h => h)); have q1 := HKC.out w4 hsx; have HRD4 := Lib.hid (HRR.out w4 hsx); have HO4 := Lib.hid ho4; have HS4 := Lib.hid ((HS3.out.trans HSA.out (fun _ _ h => h)).trans hs4 (fun i hi hq => by have := (HOA.out.lt i hq).1; omega)); have HU4 := Lib.hid (Nat.le_trans HUA.out hs4.size); clear ho4 hs4 hb4 hsx)
    | (refine step_append_ints (w := w4) rfl (.tmp 119) (.tmp 123) rfl w1.heap.size v4 (L.take u ++ [sd]) (by first | rfl | simp [Act.eval]) HO4.out (.slice (if c4 = u then some ⟨g, 0, none⟩ else some ⟨g, u, none⟩) (n - u) (c4 - u)) (L.drop u) (by first | rfl | simp [Act.eval]) HRD4.out (by have := HLE.out; simp; omega) HU4.out ?_; intro v5 w5 ho5 hs5 hb5; have HO5 := Lib.hid ho5; have HS5 := Lib.hid (HS4.out.trans hs5 (fun i hi hq => by have := (HO4.out.lt i hq).1; omega)); clear ho5 hs5 hb5))
  all_goals (go_wp2_with fail)
  all_goals exact HK.out _ _ _ _ _ _ _ _ _ _ _ _ _ _ _ _ _ _ _ _ _ _ _ _ _ _ _ _ _ _ _ _ _ _ _ _ _ _ _ _ _ _ _ _ _ _ _ _ _ _ _ _ _ _ _ _ _ _ _ _ _ _ _ _ _ _ _ _ _ _ _ _ _ _ _ _ _ _ _ _ _ _ _ _ _ _ _ _ _ _ _ _ _ _ _ _ _ _ _ _ _ _ _ _ _ _ _ _ _ _ _ _ _ _ _ _ _ _ _ _ _ _ _ _ _ _ _ _ _ _ _ _ _ _ _ _ _ _ _ _ _ _ _ _ _ _ _ _ _ _ _ _ _ _ _ _ _ _ _ _ _ _ _ _ _ _ _ _ _ _ _ _ _ _ _ _ _ _ _ _ _ _ _ _ _ _ _ _ _ _ _ _ _ _ _ _ _ _ _ _ _ _ _ _ _ _ _ _ _ _ _ _ _ _ _ _ _ _ _ _ _ _ _ _ _ _ _ _ _ _ _ _ _ _ _ _ _ _ _ _ _ _ _ _ _ _ _ _ _ _ _ _ _ _ _ _ _ _ _ _ _ _ _ _ _ _ _ _ _ _ _ _ _ _ _ _ _ (PlayCut.turned HIN.out HG.out (by omega) (by simp; omega) (HS5.out.weaken (fun _ _ h => h.elim)) (fun q e => (HO5.out.lt q e).1) (own_down (by simpa using HO5.out) (by have h1 := HIN.out.base; have h2 := HG.out.2.size; omega)))

end Go.Proofs.Ytelgbigpfiohfaa
