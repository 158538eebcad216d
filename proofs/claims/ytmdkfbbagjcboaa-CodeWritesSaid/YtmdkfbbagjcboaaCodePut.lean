/-
  Package code, told of memory: Put tells a row's bytes. Conditions: none on inputs but small lengths.
-/
import Derived.Test.YtmdkfbbagjcboaaCodeText
namespace Go.Proofs.Ytmdkfbbagjcboaa
open Go.RowKit

/-- A slice of values that can be read. -/
def ReadV (w : World) (v : Value) (L : List V) : Prop :=
  ∃ ao cap, v = .slice ao L.length cap ∧ ∀ j x, L[j]? = some x → ∃ b off, ao = some ⟨b, off, none⟩ ∧ b < w.heap.size ∧
    w.cell? ⟨b, off + j * 4, none⟩ = some (.int .i64 x.k) ∧ w.cell? ⟨b, off + j * 4 + 1, none⟩ = some (.int .i64 x.i) ∧ w.cell? ⟨b, off + j * 4 + 2, none⟩ = some (.string x.s) ∧ w.cell? ⟨b, off + j * 4 + 3, none⟩ = some (.float .f64 x.f)

/-- The body of a value's bytes. -/
def encBody (v : V) : List UInt8 :=
  if v.k = 1 then be8 (v.i + 9223372036854775808).toNat
  else if v.k = 2 then [UInt8.ofNat v.i.toNat]
  else if v.k = 5 then be8 (ord v.f)
  else esc v.s.data.toList ++ [0, 1]

def encV (v : V) : List UInt8 := UInt8.ofNat v.k.toNat :: encBody v

def encL (L : List V) : List UInt8 := L.flatMap encV

theorem isV_kinds {x : V} (h : isV x = true) : x.k = 1 ∨ x.k = 2 ∨ x.k = 3 ∨ x.k = 4 ∨ x.k = 5 := by
  unfold isV at h
  split at h
  · omega
  · split at h
    · omega
    · split at h
      · omega
      · split at h
        · omega
        · cases h

theorem size_of_empty {s : ByteArray} (h : s.toList = []) : s.size = 0 := by
  rw [Go.ByteArray.toList_eq] at h
  have := congrArg List.length h
  simpa using this

theorem isV_size {x : V} (h : isV x = true) : x.s.size ≤ 60 := by
  unfold isV at h
  split at h
  · simp at h
    have := size_of_empty h.1
    omega
  · split at h
    · simp at h
      have := size_of_empty h.1.2
      omega
    · split at h
      · simp at h
        omega
      · split at h
        · simp at h
          have := size_of_empty h.2
          omega
        · cases h

theorem isV_bool {x : V} (h : isV x = true) : x.k = 2 → x.i = 0 ∨ x.i = 1 := by
  intro hk
  simp [isV, hk] at h
  exact h.1.1

theorem be8_length (n : Nat) : (be8 n).length = 8 := rfl

theorem encV_length (x : V) (h : x.s.size ≤ 60) : (encV x).length ≤ 123 := by
  unfold encV encBody
  have := esc_length x.s.data.toList
  have hl : x.s.data.toList.length = x.s.data.size := Array.length_toList
  have hs : x.s.data.size ≤ 60 := h
  split
  · simp [be8_length]
  · split
    · simp
    · split
      · simp [be8_length]
      · simp; omega

theorem encL_length (L : List V) (h : ∀ x ∈ L, x.s.size ≤ 60) : (encL L).length ≤ 123 * L.length := by
  induction L with
  | nil => simp [encL]
  | cons x r ih =>
    have h1 := encV_length x (h x (by simp))
    have h2 := ih (fun y hy => h y (by simp [hy]))
    simp only [encL, List.flatMap_cons, List.length_append, List.length_cons] at h2 ⊢
    omega

theorem obj_cells {w : World} {b : Nat} {x : V} (h : w.heap[b]? = some x.obj) :
    w.cell? ⟨b, 0, none⟩ = some (.int .i64 x.k) ∧ w.cell? ⟨b, 1, none⟩ = some (.int .i64 x.i) ∧ w.cell? ⟨b, 2, none⟩ = some (.string x.s) ∧ w.cell? ⟨b, 3, none⟩ = some (.float .f64 x.f) := by
  simp [World.cell?, h]

theorem u64_key (x : Int) (h : -9223372036854775808 ≤ x) (h2 : x ≤ 9223372036854775807) : IntKind.u64.wrap (IntKind.u64.wrap x + 9223372036854775808) = ((x + 9223372036854775808).toNat : Int) := by
  rw [IntKind.wrap_u64, IntKind.wrap_u64]
  omega

theorem ord_lt {f : Nat} (h : f < 18446744073709551616) : ord f < 18446744073709551616 := by
  unfold ord
  split <;> omega

theorem encL_snoc (L : List V) (x : V) : encL (L ++ [x]) = encL L ++ encV x := by simp [encL]

theorem all_snoc {L : List V} {k : Nat} {x : V} (h : L.take (k + 1) = L.take k ++ [x]) (ha : (L.take k).all isV = true) (hx : isV x = true) : (L.take (k + 1)).all isV = true := by
  rw [h, List.all_append, ha]
  simp [hx]

set_option maxHeartbeats 1000000 in
theorem put_any {w : World} {v : Value} {L : List V} (h : ReadV w v L) (hok : ∀ x ∈ L, x.ok) (hn : L.length ≤ 1000) :
    Calls Try.prog 10 #[v] w fun e w' =>
      (L.all isV = true → ∃ v', e = .returned (.tuple #[v', .int .i64 0]) ∧ w'.ownsRow w.heap.size 5 1 v' (encL L).length (bytesV (encL L))) ∧
      (L.all isV = false → e = .returned (.tuple #[.slice none 0 0, .int .i64 20])) ∧ Below w.heap.size w w' := by
  obtain ⟨ao, cap, rfl, hc⟩ := h
  have HC := Lib.hid hc; have HOK := Lib.hid hok
  clear hc hok
  go_enter Try.func10, Try.ntmps10
  go_wp2_with fail
  go_loopg [4, 9] L.length (fun r b i wr => ∃ k : Nat, k + r = L.length ∧ i = .int .i64 k ∧ (L.take k).all isV = true ∧ Below w.heap.size w wr ∧ wr.ownsRow w.heap.size 5 1 b (encL (L.take k)).length (bytesV (encL (L.take k))))
  case atStart => exact ⟨0, by omega, rfl, rfl, Below.refl _ _, World.ownsRow_nil _ _ _ _⟩
  case round =>
    obtain ⟨k, hk, rfl, hall, hb, ho⟩ := hrel
    by_cases h0 : gk = 0
    · subst h0
      obtain rfl : k = L.length := by omega
      rw [List.take_length] at hall ho
      have HA := Lib.hid hall; have HB := Lib.hid hb; have HO := Lib.hid ho
      clear hk hall hb ho
      go_wp2_with fail
      go_ret2
      exact ⟨fun _ => ⟨_, rfl, HO.out⟩, fun hf => (by rw [HA.out] at hf; cases hf), HB.out⟩
    · obtain ⟨r, rfl⟩ : ∃ r, gk = r + 1 := ⟨gk - 1, by omega⟩
      have hkl : k < L.length := by omega
      obtain ⟨b, off, hao, hbl, c0, c1, c2, c3⟩ := HC.out k L[k] (by simp [hkl])
      subst hao
      have d0 := (hb.cell (p := ⟨b, off + k * 4, none⟩) hbl).trans c0
      have d1 := (hb.cell (p := ⟨b, off + k * 4 + 1, none⟩) hbl).trans c1
      have d2 := (hb.cell (p := ⟨b, off + k * 4 + 2, none⟩) hbl).trans c2
      have d3 := (hb.cell (p := ⟨b, off + k * 4 + 3, none⟩) hbl).trans c3
      have HA := Lib.hid hall; have HB := Lib.hid hb; have HO := Lib.hid ho; have HK := Lib.hid hk
      clear hk hall hb ho c0 c1 c2 c3 h0
      obtain ⟨x, hx⟩ : ∃ x, x = L[k] := ⟨_, rfl⟩
      rw [← hx] at d0 d1 d2 d3
      have HX := Lib.hid hx; clear hx
      have hxm : x ∈ L := by rw [HX.out]; exact List.getElem_mem _
      have hxo := HOK.out x hxm
      have HXO := Lib.hid hxo
      have hsz := HB.out.size
      have htake : L.take (k + 1) = L.take k ++ [x] := by rw [List.take_succ_eq_append_getElem hkl, ← HX.out]
      have HTK := Lib.hid htake
      clear hxm hxo htake
      by_cases hv : isV x = true
      · have hkind := isV_kinds hv
        have hsize := isV_size hv
        have hb0 := isV_bool hv
        have HV := Lib.hid hv
        have HB0 := Lib.hid hb0
        clear hv hb0
        obtain ⟨xk, xi, xs, xf⟩ := x
        simp only at d0 d1 d2 d3 hkind hsize
        have hxi := HXO.out.i0
        have hxi2 := HXO.out.i1
        have hxf := HXO.out.f1
        simp only at hxi hxi2 hxf
        go_wp2_with fail
        refine (is_any ⟨xk, xi, xs, xf⟩ HXO.out _).mono ?_
        rintro e W2 ⟨rfl, hW2⟩
        rw [HV.out]
        have hs2 : W2.heap.size = wr.heap.size + 2 := by rw [hW2]; simp
        have hsame : Same (fun _ => False) wr W2 := by rw [hW2]; exact ((Same.refl _ wr).alloc _).alloc _
        have hobj : W2.heap[wr.heap.size]? = some (V.obj ⟨xk, xi, xs, xf⟩) := by
          rw [hW2, Below.heap_alloc _ _ _ (by simp)]
          exact heap_alloc_new _ _
        obtain ⟨e0, e1, e2, e3⟩ := obj_cells hobj
        obtain ⟨P0, hP0⟩ : ∃ P0, P0 = encL (L.take k) := ⟨_, rfl⟩
        have hown2 : W2.ownsRow w.heap.size 5 1 u4 P0.length (bytesV P0) := by
          rw [hP0]
          exact hsame.row HO.out (fun _ _ => id)
        have hune : u4.ownBlock ≠ some wr.heap.size := fun e => by
          have := own_lt HO.out e
          omega
        have hplen : P0.length ≤ 130000 := by
          have := encL_length (L.take k) (fun y hy => isV_size (List.all_eq_true.1 HA.out y hy))
          rw [List.length_take] at this
          rw [hP0]
          omega
        have hbelow : Below w.heap.size w W2 := hsame.below HB.out hsz (fun _ h => h.elim)
        have HP0 := Lib.hid hP0; have HOW := Lib.hid hown2; have HOB := Lib.hid hobj; have HUN := Lib.hid hune; have HBW := Lib.hid hbelow
        have hs2' : w.heap.size ≤ W2.heap.size := hbelow.size
        have hs2'' : wr.heap.size < W2.heap.size := by omega
        clear hP0 hown2 hobj hune hW2 hs2 hsame hbelow d0 d1 d2 d3
        rcases hkind with rfl | rfl | rfl | rfl | rfl
        · go_wp2_with (at_builtin; refine wpList_append_elem W2 rfl (.tmp 16) (.tmp 20) 23 rfl w.heap.size 5 (.int .u8 0) 1 1 Try.underlying23 byte_info rfl (by decide) u4 P0.length (bytesV P0) rfl HOW.out [.int .u8 1] _ rfl rfl ?a1 ?a2 ?a3 ?a4 ?_)
          case a1 => intro u hu; simp at hu; subst hu; rfl
          case a2 => unfold maxLen; omega
          case a3 => omega
          case a4 => omega
          intro g cp W3 hown hgrow hwhere hgl hsl
          have hby := Bytes.app (b := 1) hown hgrow hwhere
          have hob3 := grownBy_one hgrow HOB.out HUN.out
          obtain ⟨f0, f1, f2, f3⟩ := obj_cells hob3
          have hsz3 : w.heap.size ≤ W3.heap.size := by omega
          have hl3 : (P0 ++ [(1 : UInt8)]).length ≤ 130001 := by simp; omega
          have HBY := Lib.hid hby
          clear hown hgrow hwhere hby hob3 e0 e1 e2 e3
          go_wp2_with fail
          rw [u64_key xi hxi hxi2]
          refine (number_any (l := P0 ++ [1]) HBY.out.own hsz3 (by omega) (xi + 9223372036854775808).toNat (by omega)).mono ?_
          rintro e W4 ⟨v', rfl, hb4⟩
          have hfin := HBY.out.next hb4
          have henc : P0 ++ [(1 : UInt8)] ++ be8 (xi + 9223372036854775808).toNat = encL (L.take (k + 1)) := by
            rw [HTK.out, encL_snoc, ← HP0.out, List.append_assoc]
            rfl
          rw [henc] at hfin
          have HF := Lib.hid hfin
          clear hfin henc hb4 f0 f1 f2 f3
          go_wp2_with fail
          go_roundg r
          case measure => omega
          case rel => exact ⟨k + 1, by have := HK.out; omega, by go_num, all_snoc HTK.out HA.out HV.out, HF.out.same.below HBW.out hs2' (fun c hc => (HOW.out.lt c hc).1), HF.out.own⟩
        · go_wp2_with (at_builtin; refine wpList_append_elem W2 rfl (.tmp 16) (.tmp 20) 23 rfl w.heap.size 5 (.int .u8 0) 1 1 Try.underlying23 byte_info rfl (by decide) u4 P0.length (bytesV P0) rfl HOW.out [.int .u8 2] _ rfl rfl ?b1 ?b2 ?b3 ?b4 ?_)
          case b1 => intro u hu; simp at hu; subst hu; rfl
          case b2 => unfold maxLen; omega
          case b3 => omega
          case b4 => omega
          intro g cp W3 hown hgrow hwhere hgl hsl
          have hby := Bytes.app (b := 2) hown hgrow hwhere
          have hob3 := grownBy_one hgrow HOB.out HUN.out
          obtain ⟨f0, f1, f2, f3⟩ := obj_cells hob3
          have hsz3 : w.heap.size ≤ W3.heap.size := by omega
          have hl3 : (P0 ++ [(2 : UInt8)]).length ≤ 130001 := by simp; omega
          have HBY := Lib.hid hby
          clear hown hgrow hwhere hby hob3 e0 e1 e2 e3
          rcases HB0.out (by simp) with hxi0 | hxi0
          · subst hxi0
            go_wp2_with (at_builtin; refine wpList_append_elem W3 rfl (.tmp 38) (.tmp 42) 23 rfl w.heap.size 5 (.int .u8 0) 1 1 Try.underlying23 byte_info rfl (by decide) (.slice (some ⟨g, 0, none⟩) (P0.length + 1) cp) (P0 ++ [2]).length (bytesV (P0 ++ [2])) rfl HBY.out.own [.int .u8 0] _ rfl rfl ?p1 ?p2 ?p3 ?p4 ?_)
            case p1 => first | rfl | (intro u hu; simp at hu; subst hu; rfl)
            case p2 => unfold maxLen; omega
            case p3 => omega
            first
              | (case p4 => omega)
              | skip
            intro g4 cp4 W4 hown hgrow hwhere hgl4 hsl4
            have hown' : W4.ownsRow w.heap.size 5 1 (.slice (some ⟨g4, 0, none⟩) ((P0 ++ [(2 : UInt8)]).length + 1) cp4) ((P0 ++ [(2 : UInt8)]).length + 1) (bytesV (P0 ++ [(2 : UInt8)]) ++ [.int .u8 ((0 : UInt8).toNat : Int)]) := by simpa using hown
            have hb4 := Bytes.app (b := 0) (v := .slice (some ⟨g, 0, none⟩) (P0.length + 1) cp) hown' hgrow hwhere
            rw [show (P0 ++ [(2 : UInt8)]).length = P0.length + 1 by simp] at hb4
            clear hown'
            clear hown hgrow hwhere
            have hfin := HBY.out.next hb4
            have henc : P0 ++ [(2 : UInt8)] ++ [(0 : UInt8)] = encL (L.take (k + 1)) := by
              rw [HTK.out, encL_snoc, ← HP0.out, List.append_assoc]
              rfl
            rw [henc] at hfin
            have HF := Lib.hid hfin
            clear hfin henc hb4 f0 f1 f2 f3
            go_wp2_with fail
            go_roundg r
            case measure => omega
            case rel => exact ⟨k + 1, by have := HK.out; omega, by go_num, all_snoc HTK.out HA.out HV.out, HF.out.same.below HBW.out hs2' (fun c hc => (HOW.out.lt c hc).1), HF.out.own⟩
          · subst hxi0
            go_wp2_with (at_builtin; refine wpList_append_elem W3 rfl (.tmp 38) (.tmp 42) 23 rfl w.heap.size 5 (.int .u8 0) 1 1 Try.underlying23 byte_info rfl (by decide) (.slice (some ⟨g, 0, none⟩) (P0.length + 1) cp) (P0 ++ [2]).length (bytesV (P0 ++ [2])) rfl HBY.out.own [.int .u8 1] _ rfl rfl ?q1 ?q2 ?q3 ?q4 ?_)
            case q1 => first | rfl | (intro u hu; simp at hu; subst hu; rfl)
            case q2 => unfold maxLen; omega
            case q3 => omega
            first
              | (case q4 => omega)
              | skip
            intro g4 cp4 W4 hown hgrow hwhere hgl4 hsl4
            have hown' : W4.ownsRow w.heap.size 5 1 (.slice (some ⟨g4, 0, none⟩) ((P0 ++ [(2 : UInt8)]).length + 1) cp4) ((P0 ++ [(2 : UInt8)]).length + 1) (bytesV (P0 ++ [(2 : UInt8)]) ++ [.int .u8 ((1 : UInt8).toNat : Int)]) := by simpa using hown
            have hb4 := Bytes.app (b := 1) (v := .slice (some ⟨g, 0, none⟩) (P0.length + 1) cp) hown' hgrow hwhere
            rw [show (P0 ++ [(2 : UInt8)]).length = P0.length + 1 by simp] at hb4
            clear hown'
            clear hown hgrow hwhere
            have hfin := HBY.out.next hb4
            have henc : P0 ++ [(2 : UInt8)] ++ [(1 : UInt8)] = encL (L.take (k + 1)) := by
              rw [HTK.out, encL_snoc, ← HP0.out, List.append_assoc]
              rfl
            rw [henc] at hfin
            have HF := Lib.hid hfin
            clear hfin henc hb4 f0 f1 f2 f3
            go_wp2_with fail
            go_roundg r
            case measure => omega
            case rel => exact ⟨k + 1, by have := HK.out; omega, by go_num, all_snoc HTK.out HA.out HV.out, HF.out.same.below HBW.out hs2' (fun c hc => (HOW.out.lt c hc).1), HF.out.own⟩
        · go_wp2_with (at_builtin; refine wpList_append_elem W2 rfl (.tmp 16) (.tmp 20) 23 rfl w.heap.size 5 (.int .u8 0) 1 1 Try.underlying23 byte_info rfl (by decide) u4 P0.length (bytesV P0) rfl HOW.out [.int .u8 3] _ rfl rfl ?c1 ?c2 ?c3 ?c4 ?_)
          case c1 => intro u hu; simp at hu; subst hu; rfl
          case c2 => unfold maxLen; omega
          case c3 => omega
          case c4 => omega
          intro g cp W3 hown hgrow hwhere hgl hsl
          have hby := Bytes.app (b := 3) hown hgrow hwhere
          have hob3 := grownBy_one hgrow HOB.out HUN.out
          obtain ⟨f0, f1, f2, f3⟩ := obj_cells hob3
          have hsz3 : w.heap.size ≤ W3.heap.size := by omega
          have hl3 : (P0 ++ [(3 : UInt8)]).length ≤ 130001 := by simp; omega
          have HBY := Lib.hid hby
          clear hown hgrow hwhere hby hob3 e0 e1 e2 e3
          go_wp2_with fail
          refine (text_any (l := P0 ++ [3]) HBY.out.own hsz3 (by omega) xs (by omega)).mono ?_
          rintro e W4 ⟨v', rfl, hb4⟩
          have hfin := HBY.out.next hb4
          have henc : P0 ++ [(3 : UInt8)] ++ (esc xs.data.toList ++ [0, 1]) = encL (L.take (k + 1)) := by
            rw [HTK.out, encL_snoc, ← HP0.out, List.append_assoc]
            rfl
          rw [henc] at hfin
          have HF := Lib.hid hfin
          clear hfin henc hb4 f0 f1 f2 f3
          go_wp2_with fail
          go_roundg r
          case measure => omega
          case rel => exact ⟨k + 1, by have := HK.out; omega, by go_num, all_snoc HTK.out HA.out HV.out, HF.out.same.below HBW.out hs2' (fun c hc => (HOW.out.lt c hc).1), HF.out.own⟩
        · go_wp2_with (at_builtin; refine wpList_append_elem W2 rfl (.tmp 16) (.tmp 20) 23 rfl w.heap.size 5 (.int .u8 0) 1 1 Try.underlying23 byte_info rfl (by decide) u4 P0.length (bytesV P0) rfl HOW.out [.int .u8 4] _ rfl rfl ?d1 ?d2 ?d3 ?d4 ?_)
          case d1 => intro u hu; simp at hu; subst hu; rfl
          case d2 => unfold maxLen; omega
          case d3 => omega
          case d4 => omega
          intro g cp W3 hown hgrow hwhere hgl hsl
          have hby := Bytes.app (b := 4) hown hgrow hwhere
          have hob3 := grownBy_one hgrow HOB.out HUN.out
          obtain ⟨f0, f1, f2, f3⟩ := obj_cells hob3
          have hsz3 : w.heap.size ≤ W3.heap.size := by omega
          have hl3 : (P0 ++ [(4 : UInt8)]).length ≤ 130001 := by simp; omega
          have HBY := Lib.hid hby
          clear hown hgrow hwhere hby hob3 e0 e1 e2 e3
          go_wp2_with fail
          refine (text_any (l := P0 ++ [4]) HBY.out.own hsz3 (by omega) xs (by omega)).mono ?_
          rintro e W4 ⟨v', rfl, hb4⟩
          have hfin := HBY.out.next hb4
          have henc : P0 ++ [(4 : UInt8)] ++ (esc xs.data.toList ++ [0, 1]) = encL (L.take (k + 1)) := by
            rw [HTK.out, encL_snoc, ← HP0.out, List.append_assoc]
            rfl
          rw [henc] at hfin
          have HF := Lib.hid hfin
          clear hfin henc hb4 f0 f1 f2 f3
          go_wp2_with fail
          go_roundg r
          case measure => omega
          case rel => exact ⟨k + 1, by have := HK.out; omega, by go_num, all_snoc HTK.out HA.out HV.out, HF.out.same.below HBW.out hs2' (fun c hc => (HOW.out.lt c hc).1), HF.out.own⟩
        · go_wp2_with (at_builtin; refine wpList_append_elem W2 rfl (.tmp 16) (.tmp 20) 23 rfl w.heap.size 5 (.int .u8 0) 1 1 Try.underlying23 byte_info rfl (by decide) u4 P0.length (bytesV P0) rfl HOW.out [.int .u8 5] _ rfl rfl ?e1 ?e2 ?e3 ?e4 ?_)
          case e1 => intro u hu; simp at hu; subst hu; rfl
          case e2 => unfold maxLen; omega
          case e3 => omega
          case e4 => omega
          intro g cp W3 hown hgrow hwhere hgl hsl
          have hby := Bytes.app (b := 5) hown hgrow hwhere
          have hob3 := grownBy_one hgrow HOB.out HUN.out
          obtain ⟨f0, f1, f2, f3⟩ := obj_cells hob3
          have hsz3 : w.heap.size ≤ W3.heap.size := by omega
          have hl3 : (P0 ++ [(5 : UInt8)]).length ≤ 130001 := by simp; omega
          have HBY := Lib.hid hby
          clear hown hgrow hwhere hby hob3 e0 e1 e2 e3
          go_wp2_with fail
          refine (order_any xf hxf _).mono ?_
          rintro e W3' ⟨rfl, rfl⟩
          go_wp2_with fail
          refine (number_any (l := P0 ++ [5]) HBY.out.own hsz3 (by omega) (ord xf) (ord_lt hxf)).mono ?_
          rintro e W4 ⟨v', rfl, hb4⟩
          have hfin := HBY.out.next hb4
          have henc : P0 ++ [(5 : UInt8)] ++ be8 (ord xf) = encL (L.take (k + 1)) := by
            rw [HTK.out, encL_snoc, ← HP0.out, List.append_assoc]
            rfl
          rw [henc] at hfin
          have HF := Lib.hid hfin
          clear hfin henc hb4 f0 f1 f2 f3
          go_wp2_with fail
          go_roundg r
          case measure => omega
          case rel => exact ⟨k + 1, by have := HK.out; omega, by go_num, all_snoc HTK.out HA.out HV.out, HF.out.same.below HBW.out hs2' (fun c hc => (HOW.out.lt c hc).1), HF.out.own⟩
      · have hvf : isV x = false := by simpa using hv
        have HV := Lib.hid hvf
        clear hv hvf
        go_wp2_with fail
        refine (is_any x HXO.out _).mono ?_
        rintro e W2 ⟨rfl, hW2⟩
        rw [HV.out]
        have hbelow : Below w.heap.size w W2 := by rw [hW2]; exact (HB.out.alloc hsz _).alloc (by simp; omega) _
        have HBW := Lib.hid hbelow
        clear hbelow hW2
        go_wp2_with fail
        go_ret2
        refine ⟨fun hf => ?_, fun _ => rfl, HBW.out⟩
        have := List.all_eq_true.1 hf x (by rw [HX.out]; exact List.getElem_mem _)
        rw [HV.out] at this
        cases this

end Go.Proofs.Ytmdkfbbagjcboaa
