/-
  The statement UndoPlays: the walk: it answers true and turns nothing that was there. Conditions: the argument is a slice of int16 that can be read.
-/
import Derived.Test.YthofmccpfknjnaaUndoPlays
namespace Go.Proofs.Ythofmccpfknjnaa
open Go.RowKit

/-- What the loop holds at its head. -/
def PlaysAt (w0 : World) (B p gb : Nat) (k : Nat) (wv mv : Value) (wr : World) : Prop :=
  ∃ X M G ao mc, mv = .slice ao M.length mc ∧ M.length ≤ mc ∧ mc ≤ maxLen ∧ (0 < M.length → ∃ g, ao = some ⟨g, 0, none⟩) ∧ (ao = none → mc = 0) ∧ PInv w0 B p gb wv mv M G X M G wr ∧ LogAt wr B p (X.map (playF gb)) ∧ M.length + G.length ≤ k

theorem mark_bound (z : Int) (h : z ≤ 0) (h2 : -100000 ≤ z) : -1 ≤ wrap64 (-z.tmod 8 - 1) ∧ wrap64 (-z.tmod 8 - 1) ≤ 6 := by
  obtain ⟨n, rfl⟩ : ∃ n : Nat, z = -(n : Int) := ⟨(-z).toNat, by omega⟩
  rw [Int.neg_tmod, Int.tmod_eq_emod_of_nonneg (by omega), Int.neg_neg]
  rw [IntWalk.wrap64_in _ ⟨by omega, by omega⟩]
  omega

theorem own_cap {w : World} {B : Nat} {e : TypeId} {g n cap : Nat} {xs : List Value} (h : w.ownsRow B e 1 (.slice (some ⟨g, 0, none⟩) n cap) n xs) : n ≤ cap ∧ cap ≤ maxLen := by
  rcases h.2 with ⟨h1, _⟩ | ⟨g', cap', cur, h1, _, _, h3, h4, _⟩
  · cases h1
  · cases h1
    exact ⟨h3, h4⟩

theorem own_shape0 {w : World} {B : Nat} {e : TypeId} {ao : Option Addr} {n cap : Nat} {xs : List Value} (h : w.ownsRow B e 1 (.slice ao n cap) n xs) : (ao = none ∧ n = 0 ∧ cap = 0) ∨ ∃ g, ao = some ⟨g, 0, none⟩ := by
  rcases h.2 with ⟨h1, _⟩ | ⟨g', cap', cur, h1, _⟩
  · cases h1
    exact Or.inl ⟨rfl, rfl, rfl⟩
  · cases h1
    exact Or.inr ⟨_, rfl⟩

theorem own_func {w : World} {B : Nat} {v : Value} {n : Nat} {xs : List Value} (h : w.ownsRow B 2 1 v n xs) {k : Nat} {cur : Array Value} (hk : w.heap[k]? = some (.cells cur 1 (0, 0))) : v.ownBlock ≠ some k := by
  intro e
  rcases h.2 with ⟨rfl, _⟩ | ⟨g, cap, cur', rfl, _, hh, _⟩
  · cases e
  · simp only [Value.ownBlock, Option.some.injEq] at e
    subst e
    have := hk.symm.trans hh
    simp at this

theorem plays_stab {w0 : World} {B p gb : Nat} {wv mv : Value} {N W K : List Int} {gs : List Value} {w w' : World} (hJ : PlaysJ w0 B p gb wv mv N W K gs w) (hk : LogKept B p w w') : PlaysJ w0 B p gb wv mv N W K gs w' :=
  let ⟨X, M, G, e, hP, hK⟩ := hJ
  ⟨X, M, G, e, hP.kept hk, hK⟩

/-- What was called when the log has gone back to a mark. -/
theorem plays_back {w0 : World} {B p gb : Nat} {wv mv : Value} {N W : List Int} {X : List Nat} {M G : List Int} {w : World} {m : Nat} (hl : X.length = M.length) (hm : m ≤ M.length)
    (h : PlaysJ w0 B p gb wv mv N W (G ++ M.reverse) ((X.map (playF gb)).take m) w) :
    ∃ X', (X.map (playF gb)).take m = X'.map (playF gb) ∧ PInv w0 B p gb wv mv N W X' (M.take m) (G ++ (M.drop m).reverse) w := by
  obtain ⟨X', M', G', e, hP, hK⟩ := h
  have hlen : M'.length = m := by
    have h1 := congrArg List.length e
    simp only [List.length_take, List.length_map] at h1
    have := hP.len
    omega
  have h2 : M' ++ G'.reverse = M ++ G.reverse := by simpa using congrArg List.reverse hK
  have h3 : M' = M.take m := by
    have := congrArg (List.take m) h2
    rwa [List.take_append_of_le_length (by omega), List.take_of_length_le (by omega), List.take_append_of_le_length hm] at this
  have h4 : G'.reverse = M.drop m ++ G.reverse := by
    have := congrArg (List.drop m) h2
    rwa [← hlen, List.drop_left, hlen, List.drop_append_of_le_length hm] at this
  have h5 : G' = G ++ (M.drop m).reverse := by simpa using congrArg List.reverse h4
  subst h3; subst h5
  exact ⟨X', e, hP⟩

set_option maxRecDepth 100000 in
set_option maxHeartbeats 4000000 in
theorem undoPlays_any (a0 : Option Addr) (len cap : Nat) (w : World) (_hcap : cap ≤ maxLen) (_hlc : len ≤ cap)
    (hsteps : 0 < len → ∃ b off, a0 = some ⟨b, off, none⟩ ∧ b < w.heap.size ∧ ∀ k, k < len → ∃ z : Int, w.cell? ⟨b, off + k, none⟩ = some (.int .i16 z) ∧ -32768 ≤ z ∧ z ≤ 32767) :
    Calls Try.prog 3 #[.slice a0 len cap] w fun e w' => e = .returned (.bool true) ∧ Below w.heap.size w w' := by
  have HST := Lib.hid hsteps; clear hsteps
  unfold maxLen at _hcap
  by_cases h120 : 120 < len
  · go_enter Try.func3, Try.ntmps3
    go_wp2_with fail
    refine (known_any w).mono ?_
    rintro e w1 ⟨rfl, hb1⟩
    have HB1 := Lib.hid hb1; clear hb1
    go_wp2_with fail
    go_ret
    exact ⟨rfl, HB1.out⟩
  · go_enter Try.func3, Try.ntmps3
    go_wp2_with fail
    refine (known_any w).mono ?_
    rintro e w1 ⟨rfl, hb1⟩
    have hs1 := hb1.size
    have HB1 := Lib.hid hb1; clear hb1
    go_wp2_with fail
    refine (new_any w1).mono ?_
    rintro e w2 ⟨rfl, rfl⟩
    go_wp2_with fail
    have hp0 : PInv w w.heap.size w1.heap.size (w1.heap.size + 1) (.slice none 0 0) (.slice none 0 0) [] [] [] [] [] ((w1.alloc (.cells #[.slice none 0 0] 43)).alloc (.cells #[.slice none 0 0] 26)) := by
      have := PInv.start (w0 := w) (w := w1.alloc (.cells #[.slice none 0 0] 43)) (B := w.heap.size) (p := w1.heap.size) (HB1.out.alloc hs1 _) (by simp; omega) (by simp) hs1
      simpa using this
    have hl0 : LogAt ((w1.alloc (.cells #[.slice none 0 0] 43)).alloc (.cells #[.slice none 0 0] 26)) w.heap.size w1.heap.size [] := (log_new w1 hs1).alloc _
    have HP0 := Lib.hid hp0; have HL0 := Lib.hid hl0
    clear hp0 hl0
    go_loopg [5, 6, 7] len (fun r wv mv i wr => ∃ k : Nat, k + r = len ∧ i = .int .i64 k ∧ PlaysAt w w.heap.size w1.heap.size (w1.heap.size + 1) k wv mv wr)
    case atStart => exact ⟨0, by omega, rfl, [], [], [], none, 0, rfl, Nat.zero_le _, Nat.zero_le _, fun h => by simp at h, fun _ => rfl, HP0.out, HL0.out, by simp⟩
    case round =>
      obtain ⟨k, hk, rfl, X, M, G, ao, mc, rfl, hmc, hmx, hao, hao2, hP, hL, hroom⟩ := hrel
      have HP := Lib.hid hP; have HL := Lib.hid hL; have HAO := Lib.hid hao
      clear hP hL hao
      have hmx' := hmx
      unfold maxLen at hmx
      by_cases hlt : k < len
      · obtain ⟨sb, soff, ha0, hsb, hcells⟩ := HST.out (by omega)
        subst ha0
        obtain ⟨z, hz, hz1, hz2⟩ := hcells k hlt
        have hz' : wr.cell? ⟨sb, soff + k, none⟩ = some (.int .i16 z) := (HP.out.below.cell (p := ⟨sb, soff + k, none⟩) hsb).trans hz
        clear hcells hz
        obtain ⟨r, rfl⟩ : ∃ r, gk = r + 1 := ⟨gk - 1, by omega⟩
        have HK := Lib.hid hk; clear hk
        by_cases hz0 : 0 ≤ z
        · go_wp2_with fail
          have hs2 := HP.out.size
          have hpu := HP.out.push (k : Int) (by omega)
          have HPU := Lib.hid hpu; clear hpu
          refine (add_any (HL.out.alloc _) (by simp; omega) (by simp [HP.out.len]; omega) _ _).mono ?_
          rintro e w3 ⟨rfl, hl3, hk3⟩
          have hp3 := HPU.out.kept hk3
          have c3 := (hp3.xs X.length wr.heap.size (k : Int) (by simp) (by rw [HP.out.len]; simp)).cell
          have hm3 := hp3.m
          have hs3 := hp3.size
          have HP3 := Lib.hid hp3; have HL3 := Lib.hid hl3; have HM3 := Lib.hid hm3
          clear hp3 hl3 hm3 hk3
          go_wp2_with (at_builtin; refine wpList_append_elem w3 rfl _ _ 26 rfl w.heap.size 2 (.int .i64 0) 1 8 Try.underlying26 int64_info rfl (by decide) (.slice ao M.length mc) M.length (ints M) rfl HM3.out [.int .i64 k] _ rfl rfl ?c1 ?c2 ?c3 ?c4 ?_)
          case c1 => intro u hu; simp at hu; subst hu; rfl
          case c2 => unfold maxLen; omega
          case c3 => omega
          case c4 => exact hs3
          intro g cp we hown hgrow hwhere hgl hsl
          have hpe := HP3.out.mApp hown hgrow hwhere
          have hle : LogAt we w.heap.size w1.heap.size ((X ++ [wr.heap.size]).map (playF (w1.heap.size + 1))) := by
            have hl4 := HL3.out.kept (w' := we) (fun c hc hcp => hgrow.block c hc (fun e => by
              rcases hcp with rfl | ⟨cur, hcur⟩
              · exact HP3.out.xm _ (by simp) e.symm
              · exact own_func HM3.out hcur e.symm))
            simpa [playF] using hl4
          obtain ⟨hcp1, hcp2⟩ := own_cap hown
          have HPE := Lib.hid hpe; have HLe := Lib.hid hle
          have HPe : Hid (PInv w w.heap.size w1.heap.size (w1.heap.size + 1) u5 (.slice (some ⟨g, 0, none⟩) (M.length + 1) cp) (M ++ [(k : Int)]) G (X ++ [wr.heap.size]) (M ++ [(k : Int)]) G we) := by have := HPE.out; rw [show (M ++ [(k : Int)]).length = M.length + 1 by simp] at this; exact this
          have hml : (M ++ [(k : Int)]).length = M.length + 1 := by simp
          have HML := Lib.hid hml
          clear hown hgrow hwhere hpe hle c3 HPE hml HP3 HL3 HM3 HPU
          have hcp2' := hcp2
          unfold maxLen at hcp2
          go_wp2_with fail
          have hlen : ((X ++ [wr.heap.size]).map (playF (w1.heap.size + 1))).length = M.length + 1 := by rw [List.length_map]; exact HPe.out.len.trans HML.out
          obtain ⟨gv, go1, go2, _⟩ := HPe.out.got
          have cg := go1.cell
          have GO2 := Lib.hid go2; have GO3 := Lib.hid HPe.out.want; have HROOM := Lib.hid HPe.out.room
          clear go1 go2
          refine (len_any HLe.out).mono ?_
          rintro e w9 ⟨rfl, rfl⟩
          rw [hlen]
          go_wp2_with fail
          refine (mark_any HLe.out).mono ?_
          rintro e w9 ⟨rfl, rfl⟩
          rw [hlen]
          clear hlen
          go_wp2_with fail
          refine (ids_any GO2.out GO3.out (by have := HROOM.out; omega)).mono ?_
          rintro e w9 ⟨rfl, n9, hn9⟩
          have hse : Same (fun _ => False) we w9 := by rw [hn9]; exact (Same.refl _ we).drewN n9
          have HSE := Lib.hid hse
          clear hn9 hse cg
          go_wp2_with fail
          go_roundg r
          case measure => omega
          case rel => exact ⟨k + 1, by have := HK.out; omega, by go_num, X ++ [wr.heap.size], M ++ [(k : Int)], G, some ⟨g, 0, none⟩, cp, by rw [HML.out], by rw [HML.out]; exact hcp1, hcp2', fun _ => ⟨g, rfl⟩, fun h => (by cases h), HPe.out.same HSE.out, HLe.out.kept (fun c hc _ => HSE.out.block c hc id), by rw [HML.out]; omega⟩
        · by_cases hz200 : -200 ≤ z
          · obtain ⟨mk, hmk⟩ : ∃ mk, wrap64 (-z.tmod 8 - 1) = mk := ⟨_, rfl⟩
            have hmb := mark_bound z (by omega) (by omega)
            rw [hmk] at hmb
            obtain ⟨hmb1, hmb2⟩ := hmb
            by_cases hm0 : 0 ≤ mk ∧ mk ≤ M.length
            · obtain ⟨hm1, hm2⟩ := hm0
              obtain ⟨m, rfl⟩ := Int.eq_ofNat_of_zero_le hm1
              go_wp2_with fail
              have hjs : PlaysJ w w.heap.size w1.heap.size (w1.heap.size + 1) u5 (.slice ao M.length mc) M G (G ++ M.reverse) (X.map (playF (w1.heap.size + 1))) wr := ⟨X, M, G, rfl, HP.out, rfl⟩
              have hlx : (X.map (playF (w1.heap.size + 1))).length = M.length := by rw [List.length_map]; exact HP.out.len
              have HJS := Lib.hid hjs; have HLX := Lib.hid hlx
              clear hjs hlx
              refine (back_yes (PlaysJ w w.heap.size w1.heap.size (w1.heap.size + 1) u5 (.slice ao M.length mc) M G (G ++ M.reverse)) m _ (fun gs f w3 _ _ hJ hl => plays_step gs f w3 hJ hl) (fun gs w3 w4 hJ hk => plays_stab hJ hk) wr HJS.out HL.out (by rw [HLX.out]; omega) (by rw [HLX.out]; omega)).mono ?_
              rintro e w3 ⟨rfl, hJ3, hl3⟩
              obtain ⟨X', hX', hP3⟩ := plays_back HP.out.len (by omega) hJ3
              rw [hX'] at hl3
              have HP3 := Lib.hid hP3; have HL3 := Lib.hid hl3
              clear hJ3 hP3 hl3 hX'
              go_wp2_with fail
              go_loopg [5, 6] (M.length - m) (fun r2 wv mv w4 => m + r2 ≤ M.length ∧ mv = .slice ao (m + r2) mc ∧ PInv w w.heap.size w1.heap.size (w1.heap.size + 1) wv mv (M.take (m + r2)) (G ++ (M.drop (m + r2)).reverse) X' (M.take m) (G ++ (M.drop m).reverse) w4 ∧ LogAt w4 w.heap.size w1.heap.size (X'.map (playF (w1.heap.size + 1))))
              case atStart =>
                refine ⟨by omega, by rw [show m + (M.length - m) = M.length by omega], ?_, HL3.out⟩
                rw [show m + (M.length - m) = M.length by omega, List.take_length, List.drop_length, List.reverse_nil, List.append_nil]
                exact HP3.out
              case round =>
                obtain ⟨hr1, rfl, hp4, hl4⟩ := hrel
                have HP4 := Lib.hid hp4; have HL4 := Lib.hid hl4
                clear hp4 hl4
                by_cases hg0 : gk = 0
                · subst hg0
                  have hpe : PInv w w.heap.size w1.heap.size (w1.heap.size + 1) u5 (.slice ao m mc) (M.take m) (G ++ (M.drop m).reverse) X' (M.take m) (G ++ (M.drop m).reverse) wr := HP4.out
                  have hle : LogAt wr w.heap.size w1.heap.size (X'.map (playF (w1.heap.size + 1))) := HL4.out
                  have HPe := Lib.hid hpe; have HLe := Lib.hid hle
                  have hml : (M.take m).length = m := by rw [List.length_take]; omega
                  have HML := Lib.hid hml
                  have hgl : (G ++ (M.drop m).reverse).length + m = M.length + G.length := by simp; omega
                  have HGL := Lib.hid hgl
                  clear hpe hle hml HP4 HL4 hgl
                  go_wp2_with fail
                  have hlen : ((X').map (playF (w1.heap.size + 1))).length = m := by rw [List.length_map]; exact HPe.out.len.trans HML.out
                  obtain ⟨gv, go1, go2, _⟩ := HPe.out.got
                  have cg := go1.cell
                  have GO2 := Lib.hid go2; have GO3 := Lib.hid HPe.out.want; have HROOM := Lib.hid HPe.out.room
                  clear go1 go2
                  refine (len_any HLe.out).mono ?_
                  rintro e w9 ⟨rfl, rfl⟩
                  rw [hlen]
                  go_wp2_with fail
                  refine (mark_any HLe.out).mono ?_
                  rintro e w9 ⟨rfl, rfl⟩
                  rw [hlen]
                  clear hlen
                  go_wp2_with fail
                  refine (ids_any GO2.out GO3.out (by have := HROOM.out; omega)).mono ?_
                  rintro e w9 ⟨rfl, n9, hn9⟩
                  have hse : Same (fun _ => False) wr w9 := by rw [hn9]; exact (Same.refl _ wr).drewN n9
                  have HSE := Lib.hid hse
                  clear hn9 hse cg
                  go_wp2_with fail
                  go_roundg r
                  case measure => omega
                  case rel => exact ⟨k + 1, by have := HK.out; omega, by go_num, X', M.take m, G ++ (M.drop m).reverse, ao, mc, by rw [HML.out], by rw [HML.out]; omega, hmx', fun _ => HAO.out (by have := HML.out; omega), hao2, HPe.out.same HSE.out, HLe.out.kept (fun c hc _ => HSE.out.block c hc id), by rw [HML.out]; have := HGL.out; omega⟩
                · obtain ⟨r2, rfl⟩ : ∃ r2, gk = r2 + 1 := ⟨gk - 1, by omega⟩
                  obtain ⟨g, hg⟩ := HAO.out (by omega)
                  subst hg
                  have hn : m + r2 < M.length := by omega
                  have hm4 := HP4.out.m
                  have hlt4 : (M.take (m + (r2 + 1))).length = m + r2 + 1 := by rw [List.length_take]; omega
                  have c4 : wr.cell? ⟨g, m + r2, none⟩ = some (.int .i64 M[m + r2]) := by
                    have hm5 : wr.ownsRow w.heap.size 2 1 (.slice (some ⟨g, 0, none⟩) (M.take (m + (r2 + 1))).length mc) (M.take (m + (r2 + 1))).length (ints (M.take (m + (r2 + 1)))) := by
                      rw [hlt4] at hm4 ⊢
                      exact hm4
                    have := own_cell hm5 (m + r2) (by rw [hlt4]; omega)
                    rw [this]
                    simp
                  have hw4 := HP4.out.want
                  have hs4 := HP4.out.size
                  have hgw : (G ++ (M.drop (m + (r2 + 1))).reverse).length ≤ 200 := by have := HP.out.room; simp; omega
                  have hdrop : G ++ (M.drop (m + r2)).reverse = (G ++ (M.drop (m + (r2 + 1))).reverse) ++ [M[m + r2]] := by
                    rw [List.drop_eq_getElem_cons hn, List.reverse_cons, List.append_assoc, Nat.add_assoc]
                  have HD := Lib.hid hdrop
                  have HW4 := Lib.hid hw4
                  have HLT4 := Lib.hid hlt4
                  clear hm4 hw4 hdrop hlt4
                  have hnc : ¬ mc = 0 := by omega
                  obtain ⟨y, hy⟩ : ∃ y, y = M[m + r2] := ⟨_, rfl⟩
                  rw [← hy] at c4
                  have HY := Lib.hid hy
                  clear hy hg0
                  obtain ⟨L, hL⟩ : ∃ L, L = G ++ (M.drop (m + (r2 + 1))).reverse := ⟨_, rfl⟩
                  rw [← hL] at hgw
                  have HWL : Hid (wr.ownsRow w.heap.size 2 1 u5 L.length (ints L)) := by have := HW4.out; rw [← hL] at this; exact this
                  have HLL := Lib.hid hL
                  clear hL HW4
                  go_wp2_with (at_builtin; refine wpList_append_elem wr rfl _ _ 26 rfl w.heap.size 2 (.int .i64 0) 1 8 Try.underlying26 int64_info rfl (by decide) u5 L.length (ints L) rfl HWL.out [.int .i64 y] _ rfl rfl ?d1 ?d2 ?d3 ?d4 ?_)
                  case d1 => intro u hu; simp at hu; subst hu; rfl
                  case d2 => unfold maxLen; omega
                  case d3 => omega
                  case d4 => exact hs4
                  intro g2 cp2 w5 hown hgrow hwhere hgl hsl
                  have hp5 : PInv w w.heap.size w1.heap.size (w1.heap.size + 1) (.slice (some ⟨g2, 0, none⟩) (L.length + 1) cp2) (.slice (some ⟨g, 0, none⟩) (m + r2) mc) (M.take (m + r2)) (G ++ (M.drop (m + r2)).reverse) X' (M.take m) (G ++ (M.drop m).reverse) w5 := by
                    have h1 : PInv w w.heap.size w1.heap.size (w1.heap.size + 1) u5 (.slice (some ⟨g, 0, none⟩) (M.take (m + (r2 + 1))).length mc) (M.take (m + (r2 + 1))) L X' (M.take m) (G ++ (M.drop m).reverse) wr := by
                      rw [HLT4.out, HLL.out]
                      exact HP4.out
                    have h2 := h1.wApp hown hgrow hwhere
                    have h3 := h2.mCut (m + r2) (by rw [HLT4.out]; omega)
                    rw [List.take_take, Nat.min_eq_left (by omega), List.length_append] at h3
                    rw [HD.out, ← HLL.out, ← HY.out]
                    exact h3
                  have hl5 : LogAt w5 w.heap.size w1.heap.size (X'.map (playF (w1.heap.size + 1))) := HL4.out.kept (fun c hc hcp => hgrow.block c hc (fun e => by
                    rcases hcp with rfl | ⟨cur, hcur⟩
                    · exact HP4.out.xw _ (by simp) e.symm
                    · exact own_func HWL.out hcur e.symm))
                  have HP5 := Lib.hid hp5; have HL5 := Lib.hid hl5
                  clear hown hgrow hwhere hp5 hl5 c4
                  go_wp2_with fail
                  go_roundg r2
                  case measure => omega
                  case rel => exact ⟨by omega, rfl, HP5.out, HL5.out⟩
            · have HM0 := Lib.hid hm0
              by_cases hm1 : 0 ≤ mk
              · have hm2 : ¬ mk ≤ M.length := by omega
                clear hm0
                go_wp2_with fail
                refine (back_no HL.out mk (by rw [List.length_map, HP.out.len]; exact HM0.out)).mono ?_
                rintro e w3 ⟨rfl, rfl⟩
                go_wp2_with fail
                refine wp_loop_rounds 1 ?_
                rw [rounds_succ]
                go_wp2_with fail
                have hlen : ((X).map (playF (w1.heap.size + 1))).length = (M).length := by rw [List.length_map]; exact HP.out.len
                obtain ⟨gv, go1, go2, _⟩ := HP.out.got
                have cg := go1.cell
                have GO2 := Lib.hid go2; have GO3 := Lib.hid HP.out.want; have HROOM := Lib.hid HP.out.room
                clear go1 go2
                refine (len_any HL.out).mono ?_
                rintro e w9 ⟨rfl, rfl⟩
                rw [hlen]
                go_wp2_with fail
                refine (mark_any HL.out).mono ?_
                rintro e w9 ⟨rfl, rfl⟩
                rw [hlen]
                clear hlen
                go_wp2_with fail
                refine (ids_any GO2.out GO3.out (by have := HROOM.out; omega)).mono ?_
                rintro e w9 ⟨rfl, n9, hn9⟩
                have hse : Same (fun _ => False) wr w9 := by rw [hn9]; exact (Same.refl _ wr).drewN n9
                have HSE := Lib.hid hse
                clear hn9 hse cg
                go_wp2_with fail
                go_roundg r
                case measure => omega
                case rel => exact ⟨k + 1, by have := HK.out; omega, by go_num, X, M, G, ao, mc, rfl, hmc, hmx', HAO.out, hao2, HP.out.same HSE.out, HL.out.kept (fun c hc _ => HSE.out.block c hc id), by omega⟩
              · clear hm0
                go_wp2_with fail
                refine (back_no HL.out mk (by rw [List.length_map, HP.out.len]; exact HM0.out)).mono ?_
                rintro e w3 ⟨rfl, rfl⟩
                go_wp2_with fail
                refine wp_loop_rounds 1 ?_
                rw [rounds_succ]
                go_wp2_with fail
                have hlen : ((X).map (playF (w1.heap.size + 1))).length = (M).length := by rw [List.length_map]; exact HP.out.len
                obtain ⟨gv, go1, go2, _⟩ := HP.out.got
                have cg := go1.cell
                have GO2 := Lib.hid go2; have GO3 := Lib.hid HP.out.want; have HROOM := Lib.hid HP.out.room
                clear go1 go2
                refine (len_any HL.out).mono ?_
                rintro e w9 ⟨rfl, rfl⟩
                rw [hlen]
                go_wp2_with fail
                refine (mark_any HL.out).mono ?_
                rintro e w9 ⟨rfl, rfl⟩
                rw [hlen]
                clear hlen
                go_wp2_with fail
                refine (ids_any GO2.out GO3.out (by have := HROOM.out; omega)).mono ?_
                rintro e w9 ⟨rfl, n9, hn9⟩
                have hse : Same (fun _ => False) wr w9 := by rw [hn9]; exact (Same.refl _ wr).drewN n9
                have HSE := Lib.hid hse
                clear hn9 hse cg
                go_wp2_with fail
                go_roundg r
                case measure => omega
                case rel => exact ⟨k + 1, by have := HK.out; omega, by go_num, X, M, G, ao, mc, rfl, hmc, hmx', HAO.out, hao2, HP.out.same HSE.out, HL.out.kept (fun c hc _ => HSE.out.block c hc id), by omega⟩
          · obtain ⟨mk, hmk⟩ : ∃ mk, wrap64 (-(z + 200).tmod 8 - 1) = mk := ⟨_, rfl⟩
            have hmb := mark_bound (z + 200) (by omega) (by omega)
            rw [hmk] at hmb
            obtain ⟨hmb1, hmb2⟩ := hmb
            by_cases hm0 : 0 ≤ mk ∧ mk ≤ M.length
            · obtain ⟨hm1, hm2⟩ := hm0
              obtain ⟨m, rfl⟩ := Int.eq_ofNat_of_zero_le hm1
              rcases own_shape0 HP.out.m with ⟨hs1', hs2', hs3'⟩ | ⟨g, hs1'⟩
              · subst hs1'
                subst hs3'
                have hnm : M = [] := List.length_eq_zero_iff.1 hs2'
                have HNM := Lib.hid hnm
                clear hnm hs2'
                go_wp2_with fail
                have hlx : (X.map (playF (w1.heap.size + 1))).length = M.length := by rw [List.length_map]; exact HP.out.len
                have HLX := Lib.hid hlx; clear hlx
                refine (keep_yes HL.out m (by rw [HLX.out]; omega) (by rw [HLX.out]; omega)).mono ?_
                rintro e we ⟨rfl, hl3, hk3⟩
                have hpe := ((HP.out.kept hk3).forget m).mCut m (by omega)
                rw [← List.map_take] at hl3
                have HPe := Lib.hid hpe; have HLe := Lib.hid hl3
                have hml : (M.take m).length = m := by rw [List.length_take]; omega
                have HML := Lib.hid hml
                clear hpe hl3 hk3 hml
                go_wp2_with fail
                have hlen : ((X.take m).map (playF (w1.heap.size + 1))).length = m := by rw [List.length_map]; exact HPe.out.len.trans HML.out
                obtain ⟨gv, go1, go2, _⟩ := HPe.out.got
                have cg := go1.cell
                have GO2 := Lib.hid go2; have GO3 := Lib.hid HPe.out.want; have HROOM := Lib.hid HPe.out.room
                clear go1 go2
                refine (len_any HLe.out).mono ?_
                rintro e w9 ⟨rfl, rfl⟩
                rw [hlen]
                go_wp2_with fail
                refine (mark_any HLe.out).mono ?_
                rintro e w9 ⟨rfl, rfl⟩
                rw [hlen]
                clear hlen
                go_wp2_with fail
                refine (ids_any GO2.out GO3.out (by have := HROOM.out; omega)).mono ?_
                rintro e w9 ⟨rfl, n9, hn9⟩
                have hse : Same (fun _ => False) we w9 := by rw [hn9]; exact (Same.refl _ we).drewN n9
                have HSE := Lib.hid hse
                clear hn9 hse cg
                go_wp2_with fail
                go_roundg r
                case measure => omega
                case rel => exact ⟨k + 1, by have := HK.out; omega, by go_num, X.take m, M.take m, G, none, 0, by rw [HML.out], by rw [HML.out]; omega, hmx', fun _ => HAO.out (by have := HML.out; omega), (fun _ => rfl), HPe.out.same HSE.out, HLe.out.kept (fun c hc _ => HSE.out.block c hc id), by rw [HML.out]; omega⟩
              · subst hs1'
                skip
                go_wp2_with fail
                have hlx : (X.map (playF (w1.heap.size + 1))).length = M.length := by rw [List.length_map]; exact HP.out.len
                have HLX := Lib.hid hlx; clear hlx
                refine (keep_yes HL.out m (by rw [HLX.out]; omega) (by rw [HLX.out]; omega)).mono ?_
                rintro e we ⟨rfl, hl3, hk3⟩
                have hpe := ((HP.out.kept hk3).forget m).mCut m (by omega)
                rw [← List.map_take] at hl3
                have HPe := Lib.hid hpe; have HLe := Lib.hid hl3
                have hml : (M.take m).length = m := by rw [List.length_take]; omega
                have HML := Lib.hid hml
                clear hpe hl3 hk3 hml
                go_wp2_with fail
                have hlen : ((X.take m).map (playF (w1.heap.size + 1))).length = m := by rw [List.length_map]; exact HPe.out.len.trans HML.out
                obtain ⟨gv, go1, go2, _⟩ := HPe.out.got
                have cg := go1.cell
                have GO2 := Lib.hid go2; have GO3 := Lib.hid HPe.out.want; have HROOM := Lib.hid HPe.out.room
                clear go1 go2
                refine (len_any HLe.out).mono ?_
                rintro e w9 ⟨rfl, rfl⟩
                rw [hlen]
                go_wp2_with fail
                refine (mark_any HLe.out).mono ?_
                rintro e w9 ⟨rfl, rfl⟩
                rw [hlen]
                clear hlen
                go_wp2_with fail
                refine (ids_any GO2.out GO3.out (by have := HROOM.out; omega)).mono ?_
                rintro e w9 ⟨rfl, n9, hn9⟩
                have hse : Same (fun _ => False) we w9 := by rw [hn9]; exact (Same.refl _ we).drewN n9
                have HSE := Lib.hid hse
                clear hn9 hse cg
                go_wp2_with fail
                go_roundg r
                case measure => omega
                case rel => exact ⟨k + 1, by have := HK.out; omega, by go_num, X.take m, M.take m, G, some ⟨g, 0, none⟩, mc, by rw [HML.out], by rw [HML.out]; omega, hmx', fun _ => HAO.out (by have := HML.out; omega), hao2, HPe.out.same HSE.out, HLe.out.kept (fun c hc _ => HSE.out.block c hc id), by rw [HML.out]; omega⟩
            · have HM0 := Lib.hid hm0
              by_cases hm1 : 0 ≤ mk
              · have hm2 : ¬ mk ≤ M.length := by omega
                clear hm0
                go_wp2_with fail
                refine (keep_no HL.out mk (by rw [List.length_map, HP.out.len]; exact HM0.out)).mono ?_
                rintro e w3 ⟨rfl, rfl⟩
                go_wp2_with fail
                have hlen : ((X).map (playF (w1.heap.size + 1))).length = (M).length := by rw [List.length_map]; exact HP.out.len
                obtain ⟨gv, go1, go2, _⟩ := HP.out.got
                have cg := go1.cell
                have GO2 := Lib.hid go2; have GO3 := Lib.hid HP.out.want; have HROOM := Lib.hid HP.out.room
                clear go1 go2
                refine (len_any HL.out).mono ?_
                rintro e w9 ⟨rfl, rfl⟩
                rw [hlen]
                go_wp2_with fail
                refine (mark_any HL.out).mono ?_
                rintro e w9 ⟨rfl, rfl⟩
                rw [hlen]
                clear hlen
                go_wp2_with fail
                refine (ids_any GO2.out GO3.out (by have := HROOM.out; omega)).mono ?_
                rintro e w9 ⟨rfl, n9, hn9⟩
                have hse : Same (fun _ => False) wr w9 := by rw [hn9]; exact (Same.refl _ wr).drewN n9
                have HSE := Lib.hid hse
                clear hn9 hse cg
                go_wp2_with fail
                go_roundg r
                case measure => omega
                case rel => exact ⟨k + 1, by have := HK.out; omega, by go_num, X, M, G, ao, mc, rfl, hmc, hmx', HAO.out, hao2, HP.out.same HSE.out, HL.out.kept (fun c hc _ => HSE.out.block c hc id), by omega⟩
              · clear hm0
                go_wp2_with fail
                refine (keep_no HL.out mk (by rw [List.length_map, HP.out.len]; exact HM0.out)).mono ?_
                rintro e w3 ⟨rfl, rfl⟩
                go_wp2_with fail
                have hlen : ((X).map (playF (w1.heap.size + 1))).length = (M).length := by rw [List.length_map]; exact HP.out.len
                obtain ⟨gv, go1, go2, _⟩ := HP.out.got
                have cg := go1.cell
                have GO2 := Lib.hid go2; have GO3 := Lib.hid HP.out.want; have HROOM := Lib.hid HP.out.room
                clear go1 go2
                refine (len_any HL.out).mono ?_
                rintro e w9 ⟨rfl, rfl⟩
                rw [hlen]
                go_wp2_with fail
                refine (mark_any HL.out).mono ?_
                rintro e w9 ⟨rfl, rfl⟩
                rw [hlen]
                clear hlen
                go_wp2_with fail
                refine (ids_any GO2.out GO3.out (by have := HROOM.out; omega)).mono ?_
                rintro e w9 ⟨rfl, n9, hn9⟩
                have hse : Same (fun _ => False) wr w9 := by rw [hn9]; exact (Same.refl _ wr).drewN n9
                have HSE := Lib.hid hse
                clear hn9 hse cg
                go_wp2_with fail
                go_roundg r
                case measure => omega
                case rel => exact ⟨k + 1, by have := HK.out; omega, by go_num, X, M, G, ao, mc, rfl, hmc, hmx', HAO.out, hao2, HP.out.same HSE.out, HL.out.kept (fun c hc _ => HSE.out.block c hc id), by omega⟩
      · have hke : k = len := by have := hk; omega
        have HKE := Lib.hid hke
        clear hk hke
        go_wp2_with fail
        go_ret
        exact ⟨rfl, HP.out.below⟩

end Go.Proofs.Ythofmccpfknjnaa
