/-
  rialtoref7.Extract: the walk. Conditions: few values, short texts. (Printed by wip/tools/ref7x_gen.py.)
-/
import Derived.Test.YtcbapmkipcffgaaDoorRef7E
import Derived.Deep.QuietTactic
import Derived.BigQuiet
namespace Go.Proofs.YtcbapmkipcffgaaDoor
open Go.RowKit Go.Lib
set_option maxRecDepth 1000000

/-- What lies in memory while the loop runs. -/
structure ExI (w : World) (st : ExS) (wr : World) : Prop where
  same : Same (fun _ => False) w wr
  res : wr.heap[w.heap.size]? = some V.nil.obj
  low : wr.heap[w.heap.size + 1]? = some st.low.obj

theorem ExI.start (w : World) : ExI w exInit ((w.alloc V.nil.obj).alloc V.nil.obj) := by
  refine ⟨((Same.refl _ w).alloc _).alloc _, ((Same.refl (fun _ => False) (w.alloc V.nil.obj)).alloc V.nil.obj).obj (heap_alloc_new w V.nil.obj) id, ?_⟩
  have h := heap_alloc_new (w.alloc V.nil.obj) V.nil.obj
  rw [show (w.alloc V.nil.obj).heap.size = w.heap.size + 1 by simp] at h
  exact h

theorem ExI.alloc {w wr : World} {st st' : ExS} (h : ExI w st wr) (o : Obj) (hl : st'.low = st.low) : ExI w st' (wr.alloc o) :=
  ⟨h.same.alloc o, ((Same.refl (fun _ => False) wr).alloc o).obj h.res id, by rw [hl]; exact ((Same.refl (fun _ => False) wr).alloc o).obj h.low id⟩

theorem ExI.lay {w wr : World} {st st' : ExS} (h : ExI w st wr) (o : Obj) (x : V) (hl : st'.low = x) : ExI w st' (vset4 (wr.alloc o) (w.heap.size + 1) x) := by
  have h1 : ExI w st (wr.alloc o) := h.alloc o rfl
  refine ⟨vset4_same h1.same (fun hh => by omega) x, (vset4_same (Same.refl (fun k => k = w.heap.size + 1) _) (fun _ => rfl) x).obj h1.res (by omega), ?_⟩
  rw [hl]
  exact vset4_obj h1.low x

theorem ExI.lay2 {w wr : World} {st st' : ExS} (h : ExI w st wr) (o : Obj) (x : V) (hl : st'.low = x) : ExI w st' ((vset4 wr (w.heap.size + 1) x).alloc o) := by
  have h1 : ExI w st' (vset4 wr (w.heap.size + 1) x) := by
    refine ⟨vset4_same h.same (fun hh => by omega) x, (vset4_same (Same.refl (fun k => k = w.heap.size + 1) _) (fun _ => rfl) x).obj h.res (by omega), ?_⟩
    rw [hl]
    exact vset4_obj h.low x
  exact h1.alloc o rfl

/-- What the loop's slots hold. -/
structure ExSl (st : ExS) (v5 v6 v8 v9 v10 v11 v12 : Value) : Prop where
  e5 : v5 = .int .i64 st.sum
  e6 : v6 = .string st.first
  e8 : v8 = .float .f64 st.f
  e9 : v9 = .bool st.hs
  e10 : v10 = .bool st.hf
  e11 : v11 = .bool st.hi
  e12 : v12 = .int .i64 st.bit

theorem i64_and1' (n : Int) : bits .and .i64 n 1 = n % 2 := by
  have h1 : (BitVec.ofInt 64 1).toNat = 2 ^ 1 - 1 := by decide
  have key : (BitVec.ofInt 64 n &&& BitVec.ofInt 64 1).toNat = (n % ((2 ^ 64 : Nat) : Int)).toNat % 2 ^ 1 := by
    rw [BitVec.toNat_and, BitVec.toNat_ofInt, h1, Nat.and_two_pow_sub_one_eq_mod]
  show IntKind.i64.wrap ((BitVec.ofInt 64 n &&& BitVec.ofInt 64 1).toNat : Nat) = n % 2
  rw [key, IntKind.wrap_i64]
  omega

theorem u64_mod (x : Int) : IntKind.u64.wrap x = x % 18446744073709551616 := rfl

theorem sum_wrap (s i : Int) : IntKind.i64.wrap (IntKind.u64.wrap (IntKind.u64.wrap s + IntKind.u64.wrap i)) = IntKind.i64.wrap (s + i) := by
  rw [u64_mod, u64_mod, u64_mod, IntKind.wrap_i64, IntKind.wrap_i64]
  omega

theorem ret_val {fn : Func} {p : Tmp} {a : Act} {W : World} {x : V} {b : Nat} {R : Ending → World → Prop} (hres : fn.results = #[.cell p 38]) (hp : a.tmps.getD p undef = .pointer (some ⟨b, 0, none⟩)) (hb : W.heap[b]? = some x.obj)
    (hd : a.defers = []) (hR : R (.returned x.val) W) : bodyPost Tryd.prog fn R .ret a W := by
  obtain ⟨e0, e1, e2, e3⟩ := obj_cells hb
  refine bodyPost_ret ?_ hd hR
  have hp' : a.tmps[p]?.getD undef = .pointer (some ⟨b, 0, none⟩) := by simpa using hp
  simp [results, hres, hp', go_sem, e0, e1, e2, e3]

set_option maxHeartbeats 40000000 in
theorem ref7ex_any {w : World} {v : Value} {L : List V} (n : Int) (hr : ReadV w v L) (hok : ∀ x ∈ L, x.ok) (hs : ∀ x ∈ L, x.s.size ≤ 200) (hn : L.length ≤ 1000) :
    Calls Tryd.prog 38 #[.int .i64 n, v] w fun e w' => e = .returned (exV n L).val ∧ Same (fun _ => False) w w' := by
  obtain ⟨ao, cap, rfl, hc⟩ := hr
  have HC := Lib.hid hc; have HOK := Lib.hid hok; have HS := Lib.hid hs
  have HI0 := Lib.hid (ExI.start w)
  clear hc hok hs
  go_enter Tryd.func38, Tryd.ntmps38
  go_wp2_with fail
  go_loopg [5, 6, 8, 9, 10, 11, 12, 13] L.length (fun r v5 v6 v8 v9 v10 v11 v12 i wr => ∃ j : Nat, j + r = L.length ∧ i = .int .i64 j ∧ ExSl (exAt L j) v5 v6 v8 v9 v10 v11 v12 ∧ ExI w (exAt L j) wr)
  case atStart => exact ⟨0, by omega, rfl, ⟨rfl, rfl, rfl, rfl, rfl, rfl, rfl⟩, HI0.out⟩
  case round =>
    obtain ⟨j, hj, rfl, ⟨rfl, rfl, rfl, rfl, rfl, rfl, rfl⟩, hI⟩ := hrel
    have HI := Lib.hid hI
    obtain ⟨l0, l1, l2, l3⟩ := obj_cells hI.low
    have lf := vobj_free hI.low
    have ll := lt_of_block hI.low
    have hst := exAt_ok HOK.out HS.out j
    have HST := Lib.hid hst
    clear hI hst HI0
    by_cases hlt : j < L.length
    · obtain ⟨r, rfl⟩ : ∃ r, gk = r + 1 := ⟨gk - 1, by omega⟩
      have HJ := Lib.hid hj
      have hx : L[j]? = some L[j] := List.getElem?_eq_getElem hlt
      obtain ⟨b, off, rfl, hb, c0, c1, c2, c3⟩ := HC.out j _ hx
      have d0 := ocell HI.out.same c0 id
      have d1 := ocell HI.out.same c1 id
      have d2 := ocell HI.out.same c2 id
      have d3 := ocell HI.out.same c3 id
      have hsucc := exAt_succ hx
      generalize L[j] = x at *
      have HSUCC := Lib.hid hsucc
      clear hj c0 c1 c2 c3 hx hsucc hb
      obtain ⟨st, hst⟩ : ∃ st, st = exAt L j := ⟨_, rfl⟩
      rw [← hst] at HI l0 l1 l2 l3 HST HSUCC
      simp only [← hst]
      clear hst
      obtain ⟨sum, first, f, hS, hF, hI', bit, low⟩ := st
      obtain ⟨k, i, s, fl⟩ := x
      simp only at l0 l1 l2 l3 d0 d1 d2 d3 ⊢
      have hsw := sum_wrap sum i
      have hand := i64_and1' i
      have hj0 : j = 0 ∨ j ≠ 0 := by omega
      by_cases h1 : k = 1
      · subst h1
        cases hI'
        · rcases hj0 with hj0 | hj0
          · clear HST
            have hj0e : ((j : Int) == 0) = true := by simp [hj0]
            have HJ0 := Lib.hid hj0
            clear hj0
            go_wp2_with fail
            go_roundg r
            case measure => omega
            case rel => exact ⟨j + 1, by have := HJ.out; omega, by go_num, by rw [HSUCC.out]; constructor <;> simp [exStep], by rw [HSUCC.out]; (first | exact HI.out.lay _ ⟨1, i, s, fl⟩ (by simp only [exStep]; rw [if_pos HJ0.out]) | exact HI.out.lay2 _ ⟨1, i, s, fl⟩ (by simp only [exStep]; rw [if_pos HJ0.out]))⟩
          · clear HST
            have hj0e : ((j : Int) == 0) = false := by simp [hj0]
            have HJ0 := Lib.hid hj0
            clear hj0
            go_wp2_with fail
            go_roundg r
            case measure => omega
            case rel => exact ⟨j + 1, by have := HJ.out; omega, by go_num, by rw [HSUCC.out]; constructor <;> simp [exStep], by rw [HSUCC.out]; (exact HI.out.alloc _ (by simp only [exStep]; rw [if_neg HJ0.out]))⟩
        · rcases hj0 with hj0 | hj0
          · clear HST
            have hj0e : ((j : Int) == 0) = true := by simp [hj0]
            have HJ0 := Lib.hid hj0
            clear hj0
            go_wp2_with fail
            go_roundg r
            case measure => omega
            case rel => exact ⟨j + 1, by have := HJ.out; omega, by go_num, by rw [HSUCC.out]; constructor <;> simp [exStep], by rw [HSUCC.out]; (first | exact HI.out.lay _ ⟨1, i, s, fl⟩ (by simp only [exStep]; rw [if_pos HJ0.out]) | exact HI.out.lay2 _ ⟨1, i, s, fl⟩ (by simp only [exStep]; rw [if_pos HJ0.out]))⟩
          · clear HST
            have hj0e : ((j : Int) == 0) = false := by simp [hj0]
            have HJ0 := Lib.hid hj0
            clear hj0
            go_wp2_with fail
            go_roundg r
            case measure => omega
            case rel => exact ⟨j + 1, by have := HJ.out; omega, by go_num, by rw [HSUCC.out]; constructor <;> simp [exStep], by rw [HSUCC.out]; (exact HI.out.alloc _ (by simp only [exStep]; rw [if_neg HJ0.out]))⟩
      · by_cases h3 : k = 3
        · subst h3
          cases hS
          · rcases hj0 with hj0 | hj0
            · clear HST
              have hj0e : ((j : Int) == 0) = true := by simp [hj0]
              have HJ0 := Lib.hid hj0
              clear hj0
              go_wp2_with fail
              go_roundg r
              case measure => omega
              case rel => exact ⟨j + 1, by have := HJ.out; omega, by go_num, by rw [HSUCC.out]; constructor <;> simp [exStep], by rw [HSUCC.out]; (first | exact HI.out.lay _ ⟨3, i, s, fl⟩ (by simp only [exStep]; rw [if_pos HJ0.out]) | exact HI.out.lay2 _ ⟨3, i, s, fl⟩ (by simp only [exStep]; rw [if_pos HJ0.out]))⟩
            · clear HST
              have hj0e : ((j : Int) == 0) = false := by simp [hj0]
              have HJ0 := Lib.hid hj0
              clear hj0
              go_wp2_with fail
              go_roundg r
              case measure => omega
              case rel => exact ⟨j + 1, by have := HJ.out; omega, by go_num, by rw [HSUCC.out]; constructor <;> simp [exStep], by rw [HSUCC.out]; (exact HI.out.alloc _ (by simp only [exStep]; rw [if_neg HJ0.out]))⟩
          · rcases hj0 with hj0 | hj0
            · clear HST
              have hj0e : ((j : Int) == 0) = true := by simp [hj0]
              have HJ0 := Lib.hid hj0
              clear hj0
              go_wp2_with fail
              go_roundg r
              case measure => omega
              case rel => exact ⟨j + 1, by have := HJ.out; omega, by go_num, by rw [HSUCC.out]; constructor <;> simp [exStep], by rw [HSUCC.out]; (first | exact HI.out.lay _ ⟨3, i, s, fl⟩ (by simp only [exStep]; rw [if_pos HJ0.out]) | exact HI.out.lay2 _ ⟨3, i, s, fl⟩ (by simp only [exStep]; rw [if_pos HJ0.out]))⟩
            · clear HST
              have hj0e : ((j : Int) == 0) = false := by simp [hj0]
              have HJ0 := Lib.hid hj0
              clear hj0
              go_wp2_with fail
              go_roundg r
              case measure => omega
              case rel => exact ⟨j + 1, by have := HJ.out; omega, by go_num, by rw [HSUCC.out]; constructor <;> simp [exStep], by rw [HSUCC.out]; (exact HI.out.alloc _ (by simp only [exStep]; rw [if_neg HJ0.out]))⟩
        · by_cases h5 : k = 5
          · subst h5
            cases hF
            · rcases hj0 with hj0 | hj0
              · clear HST
                have hj0e : ((j : Int) == 0) = true := by simp [hj0]
                have HJ0 := Lib.hid hj0
                clear hj0
                go_wp2_with fail
                go_roundg r
                case measure => omega
                case rel => exact ⟨j + 1, by have := HJ.out; omega, by go_num, by rw [HSUCC.out]; constructor <;> simp [exStep], by rw [HSUCC.out]; (first | exact HI.out.lay _ ⟨5, i, s, fl⟩ (by simp only [exStep]; rw [if_pos HJ0.out]) | exact HI.out.lay2 _ ⟨5, i, s, fl⟩ (by simp only [exStep]; rw [if_pos HJ0.out]))⟩
              · clear HST
                have hj0e : ((j : Int) == 0) = false := by simp [hj0]
                have HJ0 := Lib.hid hj0
                clear hj0
                go_wp2_with fail
                go_roundg r
                case measure => omega
                case rel => exact ⟨j + 1, by have := HJ.out; omega, by go_num, by rw [HSUCC.out]; constructor <;> simp [exStep], by rw [HSUCC.out]; (exact HI.out.alloc _ (by simp only [exStep]; rw [if_neg HJ0.out]))⟩
            · rcases hj0 with hj0 | hj0
              · clear HST
                have hj0e : ((j : Int) == 0) = true := by simp [hj0]
                have HJ0 := Lib.hid hj0
                clear hj0
                go_wp2_with fail
                go_roundg r
                case measure => omega
                case rel => exact ⟨j + 1, by have := HJ.out; omega, by go_num, by rw [HSUCC.out]; constructor <;> simp [exStep], by rw [HSUCC.out]; (first | exact HI.out.lay _ ⟨5, i, s, fl⟩ (by simp only [exStep]; rw [if_pos HJ0.out]) | exact HI.out.lay2 _ ⟨5, i, s, fl⟩ (by simp only [exStep]; rw [if_pos HJ0.out]))⟩
              · clear HST
                have hj0e : ((j : Int) == 0) = false := by simp [hj0]
                have HJ0 := Lib.hid hj0
                clear hj0
                go_wp2_with fail
                go_roundg r
                case measure => omega
                case rel => exact ⟨j + 1, by have := HJ.out; omega, by go_num, by rw [HSUCC.out]; constructor <;> simp [exStep], by rw [HSUCC.out]; (exact HI.out.alloc _ (by simp only [exStep]; rw [if_neg HJ0.out]))⟩
          · have g1 : (k == 1) = false := by simp [h1]
            have g3 : (k == 3) = false := by simp [h3]
            have g5 : (k == 5) = false := by simp [h5]
            have HK := Lib.hid (show ¬ k = 1 ∧ ¬ k = 3 ∧ ¬ k = 5 from ⟨h1, h3, h5⟩)
            clear h1 h3 h5
            rcases hj0 with hj0 | hj0
            · clear HST
              have hj0e : ((j : Int) == 0) = true := by simp [hj0]
              have HJ0 := Lib.hid hj0
              clear hj0
              go_wp2_with fail
              go_roundg r
              case measure => omega
              case rel => exact ⟨j + 1, by have := HJ.out; omega, by go_num, by rw [HSUCC.out]; constructor <;> simp [exStep, HK.out.1, HK.out.2.1, HK.out.2.2], by rw [HSUCC.out]; (first | exact HI.out.lay _ ⟨k, i, s, fl⟩ (by simp only [exStep]; rw [if_pos HJ0.out]) | exact HI.out.lay2 _ ⟨k, i, s, fl⟩ (by simp only [exStep]; rw [if_pos HJ0.out]))⟩
            · clear HST
              have hj0e : ((j : Int) == 0) = false := by simp [hj0]
              have HJ0 := Lib.hid hj0
              clear hj0
              go_wp2_with fail
              go_roundg r
              case measure => omega
              case rel => exact ⟨j + 1, by have := HJ.out; omega, by go_num, by rw [HSUCC.out]; constructor <;> simp [exStep, HK.out.1, HK.out.2.1, HK.out.2.2], by rw [HSUCC.out]; (exact HI.out.alloc _ (by simp only [exStep]; rw [if_neg HJ0.out]))⟩
    · obtain rfl : j = L.length := by omega
      have hL : ExS := exAt L L.length
      clear hj hlt
      obtain ⟨r0, r1, r2, r3⟩ := obj_cells HI.out.res
      have rf := vobj_free HI.out.res
      have rl := lt_of_block HI.out.res
      have hV : exV n L = exV n L := rfl
      conv at hV => rhs; unfold exV
      simp only at hV
      generalize exAt L L.length = st at *
      obtain ⟨sum, first, f, hS, hF, hI', bit, low⟩ := st
      simp only at hV l0 l1 l2 l3
      clear hL
      have HV := Lib.hid hV
      clear hV
      have hend : ∀ (W : World) (x : V), Same (fun _ => False) w W → W.heap[w.heap.size]? = some V.nil.obj → Same (fun _ => False) w (vset4 W w.heap.size x) ∧ (vset4 W w.heap.size x).heap[w.heap.size]? = some x.obj :=
        fun W x h1 h2 => ⟨vset4_same h1 (fun hh => by omega) x, vset4_obj h2 x⟩
      have HEND := Lib.hid hend
      clear hend
      have HI2 := HI
      have hres := HI.out.res
      have hsam := HI.out.same
      by_cases n0 : n = 0
      · have q := HEND.out wr ⟨1, sum, ⟨#[]⟩, 0⟩ hsam hres
        have hv : exV n L = ⟨1, sum, ⟨#[]⟩, 0⟩ := by rw [HV.out, if_pos n0]
        have Q := Lib.hid q; have HV2 := Lib.hid hv
        subst n0
        clear q hv hres hsam
        go_wp2_with fail
        exact ret_val (x := ⟨1, sum, ⟨#[]⟩, 0⟩) rfl rfl Q.out.2 rfl ⟨by rw [HV2.out], Q.out.1⟩
      · by_cases n1 : n = 1
        · have hv : exV n L = ⟨3, 0, lowerS first, 0⟩ := by rw [HV.out, if_neg n0, if_pos n1]
          have HV2 := Lib.hid hv
          have hsz := HST.out.sz
          subst n1
          have HSM := Lib.hid hsam; have HRS := Lib.hid hres
          clear hv n0 hres hsam r0 r1 r2 r3 rf l0 l1 l2 l3 lf
          go_wp2_with fail
          refine (lower_any first (Nat.le_trans hsz (by omega)) wr).mono ?_
          rintro e w2 ⟨rfl, hs2⟩
          have hr2 := hs2.obj HRS.out id
          obtain ⟨r0, r1, r2, r3⟩ := obj_cells hr2
          have rf := vobj_free hr2
          have rl := lt_of_block hr2
          have q := HEND.out w2 ⟨3, 0, lowerS first, 0⟩ (HSM.out.trans hs2 (fun _ _ h => h)) hr2
          have Q := Lib.hid q
          clear q hr2 hs2
          go_wp2_with fail
          exact ret_val (x := ⟨3, 0, lowerS first, 0⟩) rfl rfl Q.out.2 rfl ⟨by rw [HV2.out], Q.out.1⟩
        · by_cases n2 : n = 2
          · cases hF with
            | false =>
              have q := HEND.out wr ⟨5, 0, ⟨#[]⟩, 0⟩ hsam hres
              have hv : exV n L = ⟨5, 0, ⟨#[]⟩, 0⟩ := by rw [HV.out, if_neg n0, if_neg n1, if_pos n2]; rfl
              have Q := Lib.hid q; have HV2 := Lib.hid hv
              subst n2
              clear q hv hres hsam n0 n1
              go_wp2_with fail
              exact ret_val (x := ⟨5, 0, ⟨#[]⟩, 0⟩) rfl rfl Q.out.2 rfl ⟨by rw [HV2.out], Q.out.1⟩
            | true =>
              have q := HEND.out wr ⟨5, 0, ⟨#[]⟩, ofF (18446744073709551615 - ord f)⟩ hsam hres
              have hv : exV n L = ⟨5, 0, ⟨#[]⟩, ofF (18446744073709551615 - ord f)⟩ := by rw [HV.out, if_neg n0, if_neg n1, if_pos n2]; rfl
              have Q := Lib.hid q; have HV2 := Lib.hid hv
              have hfl := HST.out.f1
              have hol := ord_lt hfl
              have hnot := bits_not hol
              subst n2
              clear q hv hres hsam n0 n1
              go_wp2_with fail
              refine (rorder_any f hfl wr).mono ?_
              rintro e w2 ⟨rfl, rfl⟩
              go_wp2_with fail
              refine (rof_any (18446744073709551615 - ord f) (by omega) wr).mono ?_
              rintro e w2 ⟨rfl, rfl⟩
              go_wp2_with fail
              exact ret_val (x := ⟨5, 0, ⟨#[]⟩, ofF (18446744073709551615 - ord f)⟩) rfl rfl Q.out.2 rfl ⟨by rw [HV2.out], Q.out.1⟩
          · by_cases n3 : n = 3
            · have q := HEND.out wr ⟨1, bits .xor .i64 L.length bit, ⟨#[]⟩, 0⟩ hsam hres
              have hv : exV n L = ⟨1, bits .xor .i64 L.length bit, ⟨#[]⟩, 0⟩ := by rw [HV.out, if_neg n0, if_neg n1, if_neg n2, if_pos n3]
              have Q := Lib.hid q; have HV2 := Lib.hid hv
              subst n3
              clear q hv hres hsam n0 n1 n2
              go_wp2_with fail
              exact ret_val (x := ⟨1, bits .xor .i64 L.length bit, ⟨#[]⟩, 0⟩) rfl rfl Q.out.2 rfl ⟨by rw [HV2.out], Q.out.1⟩
            · have q := HEND.out wr low hsam hres
              have hv : exV n L = low := by rw [HV.out, if_neg n0, if_neg n1, if_neg n2, if_neg n3]
              have g0 : (n == 0) = false := by simp [n0]
              have g1 : (n == 1) = false := by simp [n1]
              have g2 : (n == 2) = false := by simp [n2]
              have g3 : (n == 3) = false := by simp [n3]
              have Q := Lib.hid q; have HV2 := Lib.hid hv
              clear q hv hres hsam n0 n1 n2 n3
              go_wp2_with fail
              exact ret_val (x := low) rfl rfl Q.out.2 rfl ⟨by rw [HV2.out], Q.out.1⟩

end Go.Proofs.YtcbapmkipcffgaaDoor
