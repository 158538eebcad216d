/-
  tree's Search, by what the asked function does: the first place from which on it says yes; or it has failed. Conditions: few elements; the answers are no, then yes.
-/
import Derived.Test.YtgfmemggfbgjeaaGreatDoorM26
namespace Go.Proofs.YtgfmemggfbgjeaaGreatDoor
open Go.RowKit Go.Extern.Stop Go.Stop Go.Extern Go.Lib
set_option maxRecDepth 1000000

theorem search_fork {so : En → Bool} {L A B : List En} {ks : List Kid} {k : Nat} {c : Kid} (hm : L.Pairwise (fun x y => so x = true → so y = true)) (hL : L = A ++ (kidsL ks ++ B)) (hc : ks[k]? = some c) (hpos : ∀ x ∈ ks, 0 < x.L.length)
    (hA : ∀ y ∈ A, so y = false) (hB : ∀ y ∈ B, so y = true) (hlo : ∀ j x y, j < k → ks[j + 1]? = some x → x.L[0]? = some y → so y = false) (hhi : ∀ j x y, k ≤ j → ks[j + 1]? = some x → x.L[0]? = some y → so y = true) :
    (∀ y ∈ A ++ kidsL (ks.take k), so y = false) ∧ ∀ y ∈ kidsL (ks.drop (k + 1)) ++ B, so y = true := by
  have hsp := kids_split hc
  obtain ⟨z, c', hz⟩ : ∃ z c', c.L = z :: c' := by
    have := hpos c (List.mem_of_getElem? hc)
    match h : c.L with
    | [] => rw [h] at this; simp at this
    | z :: c' => exact ⟨z, c', rfl⟩
  constructor
  · intro y hy
    rcases List.mem_append.1 hy with h | h
    · exact hA y h
    · have hk : 0 < k := by
        rcases Nat.eq_zero_or_pos k with rfl | h0
        · rw [List.take_zero, kidsL_nil] at h; cases h
        · exact h0
      have hzf := hlo (k - 1) c z (by omega) (by rw [Nat.sub_add_cancel hk]; exact hc) (by rw [hz]; rfl)
      have h2 := hm
      rw [hL, hsp, hz] at h2
      have h3 := (List.pairwise_append.1 h2).2.1
      rw [List.append_assoc] at h3
      have h4 := (List.pairwise_append.1 h3).2.2 y h z (by simp)
      cases hq : so y with
      | false => rfl
      | true => rw [h4 hq] at hzf; cases hzf
  · intro y hy
    rcases List.mem_append.1 hy with h | h
    · match hd : ks.drop (k + 1), h with
      | d :: ds, h =>
        have hdk : ks[k + 1]? = some d := by
          have : (ks.drop (k + 1))[0]? = some d := by rw [hd]; rfl
          rwa [List.getElem?_drop, Nat.add_zero] at this
        obtain ⟨u, d', hu⟩ : ∃ u d', d.L = u :: d' := by
          have := hpos d (List.mem_of_getElem? hdk)
          match h : d.L with
          | [] => rw [h] at this; simp at this
          | u :: d' => exact ⟨u, d', rfl⟩
        have hut := hhi k d u (Nat.le_refl _) hdk (by rw [hu]; rfl)
        rw [kidsL_cons, hu, List.cons_append] at h
        rcases List.mem_cons.1 h with rfl | h
        · exact hut
        · have h2 := hm
          rw [hL, hsp, hd, kidsL_cons, hu] at h2
          have h3 := (List.pairwise_append.1 h2).2.1
          have h4 := (List.pairwise_append.1 h3).1
          have h5 := (List.pairwise_append.1 h4).2.1
          have h6 := (List.pairwise_append.1 h5).2.1
          rw [List.cons_append] at h6
          exact (List.pairwise_cons.1 h6).1 y h hut
    · exact hB y h

/-- What Search answers. -/
def FoundAt (a : Nat) (G : Nat → Bool → World → Prop) (L : List En) (so : En → Bool) (r : Ending) (w' : World) : Prop :=
  ∃ (i m : Nat) (st : Bool), r = .returned (.int .i64 i) ∧ i ≤ L.length ∧ G m st w' ∧ a ≤ m ∧ m ≤ w'.heap.size ∧ (st = false → (∀ y ∈ L.take i, so y = false) ∧ ∀ y ∈ L.drop i, so y = true)

/-- A question by its place. -/
def soAt (so : En → Bool) (M : List En) (i : Nat) : Bool := match M[i]? with
  | some y => so y
  | none => true
def soKid (so : En → Bool) (ks : List Kid) (i : Nat) : Bool := match ks[i + 1]? with
  | some c => soAt so c.L 0
  | none => true

theorem soAt_some {so : En → Bool} {M : List En} {i : Nat} {y : En} (h : M[i]? = some y) : soAt so M i = so y := by simp [soAt, h]
theorem soKid_some {so : En → Bool} {ks : List Kid} {i : Nat} {c : Kid} {y : En} (h : ks[i + 1]? = some c) (hy : c.L[0]? = some y) : soKid so ks i = so y := by simp [soKid, h, soAt, hy]

theorem soAt_mono {so : En → Bool} {M : List En} (hm : M.Pairwise (fun x y => so x = true → so y = true)) {i j : Nat} (hij : i ≤ j) (hj : j < M.length) (h : soAt so M i = true) : soAt so M j = true := by
  rcases Nat.eq_or_lt_of_le hij with rfl | hlt
  · exact h
  · have hi : i < M.length := by omega
    rw [soAt_some (List.getElem?_eq_getElem hi)] at h
    rw [soAt_some (List.getElem?_eq_getElem hj)]
    exact List.pairwise_iff_getElem.1 hm i j hi hj hlt h

theorem soKid_mono {so : En → Bool} {L A B : List En} {ks : List Kid} (hm : L.Pairwise (fun x y => so x = true → so y = true)) (hL : L = A ++ (kidsL ks ++ B)) (hpos : ∀ x ∈ ks, 0 < x.L.length) {i j : Nat} (hij : i ≤ j) (hj : j + 1 < ks.length) (h : soKid so ks i = true) : soKid so ks j = true := by
  rcases Nat.eq_or_lt_of_le hij with rfl | hlt
  · exact h
  · have hi : i + 1 < ks.length := by omega
    have hc : ks[i + 1]? = some ks[i + 1] := List.getElem?_eq_getElem hi
    have hd : ks[j + 1]? = some ks[j + 1] := List.getElem?_eq_getElem hj
    have hcp := hpos _ (List.getElem_mem hi)
    have hdp := hpos _ (List.getElem_mem hj)
    have hu : ks[i + 1].L[0]? = some (ks[i + 1].L[0]) := List.getElem?_eq_getElem hcp
    have hv : ks[j + 1].L[0]? = some (ks[j + 1].L[0]) := List.getElem?_eq_getElem hdp
    rw [soKid_some hc hu] at h
    rw [soKid_some hd hv]
    have h2 := hm
    rw [hL, kids_split hc] at h2
    have h3 := (List.pairwise_append.1 h2).2.1
    have h4 := (List.pairwise_append.1 h3).1
    have h5 := (List.pairwise_append.1 h4).2.1
    refine (List.pairwise_append.1 h5).2.2 _ (List.getElem_mem hcp) _ ?_ h
    refine List.mem_flatMap.2 ⟨ks[j + 1], ?_, List.getElem_mem hdp⟩
    have : (ks.drop (i + 1 + 1))[j - i - 1]? = some ks[j + 1] := by
      rw [List.getElem?_drop, show i + 1 + 1 + (j - i - 1) = j + 1 by omega]
      exact hd
    exact List.mem_of_getElem? this

/-- Where the search stands: below one node. -/
def At (a : Nat) (w0 : World) (P : Nat → Prop) (G : Nat → Bool → World → Prop) (pb px pk ps : Nat) (L : List En) (so : En → Bool) (rr : Nat) (v : Value) (wr : World) : Prop :=
  ∃ (x s : Nat) (A M B : List En) (st : Bool), v = .int .i64 A.length ∧ L = A ++ (M ++ B) ∧ NodeAt w0 P rr x s M ∧ 0 < s ∧ Between a (a + 2) G a (a + 1) x pb px pk ps st wr ∧ (st = false → (∀ y ∈ A, so y = false) ∧ ∀ y ∈ B, so y = true)

set_option maxHeartbeats 16000000 in
theorem tree_search {a t pb px pk ps : Nat} {w0 : World} {P : Nat → Prop} {L : List En} {c : Int} {so : En → Bool} {G : Nat → Bool → World → Prop} (hA : Asks a w0 P pb px pk ps L so G) (hG : G a false w0) (hT : TreeIs w0 P t L c) (hL : L.length ≤ 90000) (hm : L.Pairwise (fun x y => so x = true → so y = true)) :
    Calls Tryz.prog 65 #[.pointer (some ⟨t, 0, none⟩), askV pb px pk ps] w0 fun r w' => FoundAt a G L so r w' := by
  obtain rfl := hA.size
  have HA := Lib.hid hA; have HM := Lib.hid hm; have HL := Lib.hid hL
  rcases hT.2 with ⟨rfl, hh⟩ | ⟨n, b, s, hh, hn, h0, h2⟩
  · obtain ⟨g0, g1, gf⟩ := head_cells hh
    have hlt := lt_of_block hh
    have HG := Lib.hid hG
    clear hA hG hT hh gf g1 hm
    go_enter Tryz.func65, Tryz.ntmps65
    go_wp2_with fail
    go_ret
    refine ⟨0, w0.heap.size, false, rfl, Nat.le_refl _, HA.out.stab HG.out (((Same.refl (fun _ => False) w0).alloc _).weaken (fun _ _ h => h.elim)), Nat.le_refl _, by simp, fun _ => ⟨fun y hy => by simp at hy, fun y hy => by simp at hy⟩⟩
  · obtain ⟨g0, g1, gf⟩ := head_cells hh
    have hlt := lt_of_block hh
    obtain ⟨wb, hwb⟩ : ∃ wb, wb = (w0.alloc (.cells #[askV pb px pk ps] 138)).alloc (.cells #[.pointer (some ⟨b, 0, none⟩)] 109) := ⟨_, rfl⟩
    have hsb : Same (fun _ => False) w0 wb := by rw [hwb]; exact ((Same.refl _ w0).alloc _).alloc _
    have hszb : wb.heap.size = w0.heap.size + 2 := by rw [hwb]; simp
    have hfb : wb.heap[w0.heap.size]? = some (.cells #[askV pb px pk ps] 138 (0, 0)) := by rw [hwb]; exact ((Same.refl (fun _ => False) _).alloc _).obj (heap_alloc_new _ _) id
    have hxb : wb.heap[w0.heap.size + 1]? = some (.cells #[.pointer (some ⟨b, 0, none⟩)] 109 (0, 0)) := by
      rw [hwb]
      have := heap_alloc_new (w0.alloc (.cells #[askV pb px pk ps] 138)) (.cells #[.pointer (some ⟨b, 0, none⟩)] 109)
      simpa using this
    have hGb : G (w0.heap.size + 2) false wb := by
      have h1 := hA.grow (hA.stab hG (hsb.weaken (fun _ _ h => h.elim))) (by omega)
      rwa [hszb] at h1
    have hbt : Between w0.heap.size (w0.heap.size + 2) G w0.heap.size (w0.heap.size + 1) b pb px pk ps false wb := ⟨hGb, by simp [World.cell?, hfb], hxb, by omega, by omega, by omega, by omega⟩
    have HBT := Lib.hid hbt; have HN := Lib.hid hn; have HWB := Lib.hid hwb; have HXT := Lib.hid (show ∃ fr, wb.heap[w0.heap.size + 1]? = some (.cells #[.pointer (some ⟨b, 0, none⟩)] 109 fr) from ⟨_, hxb⟩)
    clear hA hG hT hh gf g1 hm hwb hsb hfb hxb hGb hbt hn h2 hL
    have eg2 := Lib.hid (Go.Proofs.enters_of (P := Tryz.prog) Tryz.func89 (by kernel_rfl) rfl)
    have eg1 := Lib.hid (Go.Proofs.enters_of (P := Tryz.prog) Tryz.func87 (by kernel_rfl) rfl)
    go_enter Tryz.func65, Tryz.ntmps65
    go_upto_region 5 with fail
    rw [← HWB.out]
    go_loopg [5] n (fun rr va wr => At w0.heap.size w0 P G pb px pk ps L so rr va wr)
    case atStart => exact ⟨b, s, [], L, [], false, rfl, by simp, HN.out, h0, HBT.out, fun _ => ⟨fun y hy => (by cases hy), fun y hy => (by cases hy)⟩⟩
    case round =>
      obtain ⟨x, s, A, M, B, st, rfl, hLe, hn, hs0, hbt, hst⟩ := hrel
      have c0 := hbt.cx.1
      have hbl : w0.heap.size + 1 < wr.heap.size := by have := hbt.hm; omega
      have hlen : A.length + (M.length + B.length) ≤ 90000 := by have := HL.out; rw [hLe, List.length_append, List.length_append] at this; exact this
      cases gk with
      | zero =>
        obtain ⟨e, h8, _, l, hb, hr, _⟩ := hn.keep (HA.out.kept hbt.hst) (fun k h => Or.inr h)
        obtain ⟨lo, lc, rfl, _⟩ := ReadE.shape hr
        obtain ⟨n0, n1, _, _⟩ := node_cells hb
        have hlb := lt_of_block hb
        have HSS := Lib.hid (sort_search (R := fun st w => Between w0.heap.size (w0.heap.size + 2) G w0.heap.size (w0.heap.size + 1) x pb px pk ps st w) (so := soAt so M) (n := M.length) (st0 := st) eg2.out
          (fun st w i hB hi => by
            rw [soAt_some (List.getElem?_eq_getElem hi)]
            exact search2_any HA.out hB hn (fun y hy => by rw [hLe]; simp [hy]) (List.getElem?_eq_getElem hi))
          (fun i j hij hj => soAt_mono (by have h2 := HM.out; rw [hLe] at h2; exact (List.pairwise_append.1 (List.pairwise_append.1 h2).2.1).1) hij hj) (by omega) hbt)
        have HST := Lib.hid hst; have HLE := Lib.hid hLe
        clear hn hb hr hbt hst hLe
        go_wp2_with fail
        refine HSS.out.mono ?_
        rintro r w1 ⟨i, st1, rfl, hi, hB1, hp⟩
        have hwr : IntKind.i64.wrap ((A.length : Int) + (i : Int)) = (A.length : Int) + (i : Int) := by rw [IntKind.wrap_i64]; omega
        have HB1 := Lib.hid hB1; have HP := Lib.hid hp
        clear hB1 hp
        go_wp2_with fail
        go_ret
        refine ⟨A.length + i, w0.heap.size + 2, st1, by rw [Int.natCast_add]; rfl, ?_, HB1.out.hst, by omega, HB1.out.hm, fun hf => ?_⟩
        · rw [HLE.out, List.length_append, List.length_append]; omega
        · obtain ⟨e1, f1, f2⟩ := HP.out hf
          obtain ⟨g1, g2⟩ := HST.out e1
          have ht : L.take (A.length + i) = A ++ M.take i := by rw [HLE.out, List.take_length_add_append, List.take_append_of_le_length hi]
          have hd : L.drop (A.length + i) = M.drop i ++ B := by rw [HLE.out, List.drop_length_add_append, List.drop_append_of_le_length hi]
          constructor
          · intro y hy
            rw [ht] at hy
            rcases List.mem_append.1 hy with h | h
            · exact g1 y h
            · obtain ⟨k, hk⟩ := List.mem_iff_getElem?.1 h
              rw [List.getElem?_take] at hk
              split at hk
              · rw [← soAt_some (so := so) hk]; exact f1 k (by assumption)
              · cases hk
          · intro y hy
            rw [hd] at hy
            rcases List.mem_append.1 hy with h | h
            · obtain ⟨k, hk⟩ := List.mem_iff_getElem?.1 h
              rw [List.getElem?_drop] at hk
              have := (List.getElem?_eq_some_iff.1 hk).1
              rw [← soAt_some (so := so) hk]; exact f2 (i + k) (by omega) this
            · exact g2 y h
      | succ h =>
        have hn9 := hn
        obtain ⟨h8, _, hpx, kv, ks, hs, hb0, hr0, hkP, hMe, hk⟩ := hn
        subst hs
        subst hMe
        have hkp := HA.out.kept hbt.hst
        have hb := hkp.obj hb0 (fun h => h hpx)
        have hr := hr0.kept hkp (fun k hk h => h (hkP k hk).1)
        have hpos : ∀ c ∈ ks, 0 < c.L.length := fun c hc => (hk c hc).2.pos (by have := (hk c hc).1; omega)
        have hlV : (kidsV ks).length = ks.length := by simp
        obtain ⟨kb, ko, kc, kcs, kfr, rfl, hkb, hkc⟩ := hr.where (by omega)
        have hb0' := hb0; have hr0' := hr0
        rw [hlV] at hr hb hkc hb0' hr0'
        obtain ⟨n0, n1, _, _⟩ := node_cells hb
        have hlb := lt_of_block hb
        have HSS := Lib.hid (sort_search (R := fun st w => Between w0.heap.size (w0.heap.size + 2) G w0.heap.size (w0.heap.size + 1) x pb px pk ps st w) (so := soKid so ks) (n := ks.length - 1) (st0 := st) eg1.out
          (fun st w i hB hi => by
            have hc : ks[i + 1]? = some (ks[i + 1]'(by omega)) := List.getElem?_eq_getElem _
            have hcm := List.getElem_mem (l := ks) (n := i + 1) (by omega)
            have hcp := hpos _ hcm
            rw [soKid_some hc (List.getElem?_eq_getElem hcp)]
            exact search1_any HA.out hB hb0 hpx hr0 hkP h8 hc (hk _ hcm).2 (hk _ hcm).1 (List.getElem?_eq_getElem hcp) (by rw [hLe]; exact List.mem_append_right _ (List.mem_append_left _ (List.mem_flatMap.2 ⟨_, hcm, List.getElem_mem hcp⟩))))
          (fun i j hij hj => soKid_mono HM.out hLe hpos hij (by omega)) (by omega) hbt)
        have e1 : ((ks.length - 1 : Nat) : Int) = (ks.length : Int) - 1 := by omega
        rw [e1] at HSS
        have hkn : (0 : Int) < (ks.length : Int) := by omega
        have hk9 : (ks.length : Int) ≤ 8 := by omega
        have HST := Lib.hid hst; have HLE := Lib.hid hLe; have HK := Lib.hid hk; have HPOS := Lib.hid hpos; have HB0 := Lib.hid hb0'; have HR0 := Lib.hid hr0'; have HPX := Lib.hid hpx; have HKP := Lib.hid hkP
        clear hb hr hkb hbt hst hLe hk hpos hb0 hr0 hb0' hr0' hkp e1 hpx hkP hn9 n0
        go_wp2_with fail
        refine HSS.out.mono ?_
        rintro r w1 ⟨i, st1, rfl, hi, hB1, hp⟩
        have hkp1 := HA.out.kept hB1.hst
        have hb1 := hkp1.obj HB0.out (fun h => h HPX.out)
        have hr1 := HR0.out.kept hkp1 (fun k hk h => h (HKP.out k hk).1)
        obtain ⟨_, m1, _, _⟩ := node_cells hb1
        have hlb1 := lt_of_block hb1
        obtain ⟨d0, d1, dl⟩ := hB1.cx
        have hmx : max (i : Int) 0 = (i : Int) := by omega
        have hik : i ≤ kc := by omega
        have hikl : (i : Int) ≤ (ks.length : Int) := by omega
        have hi9 : (i : Int) ≤ 8 := by omega
        have HB1 := Lib.hid hB1; have HP := Lib.hid hp; have HR1 := Lib.hid hr1
        have HCNT := Lib.hid (fun (j : Nat) (c : Kid) (hc : ks[j]? = some c) => (((HK.out c (List.mem_of_getElem? hc)).2.keep hkp1 (fun k h => Or.inr h))).count)
        clear hkp1 hb1 hB1 hp
        go_wp2_with fail
        go_loopg [5, 9, 41] i (fun rr va _ vi wq => ∃ (j : Nat), j + rr = i ∧ vi = .int .i64 j ∧ va = .int .i64 ((A.length : Int) + (kidsL (ks.take j)).length) ∧ w1 = wq)
        case atStart => exact ⟨0, by omega, rfl, by simp [kidsL_nil], rfl⟩
        case round =>
          obtain ⟨j, hj, rfl, rfl, rfl⟩ := hrel
          by_cases hji : j < i
          · have hji' : (j : Int) < (i : Int) := by omega
            have hj9 : (j : Int) ≤ 8 := by omega
            have hkj : ks[j]? = some (ks[j]'(by omega)) := List.getElem?_eq_getElem _
            obtain ⟨lk, kk, hcd⟩ := HCNT.out j _ hkj
            obtain ⟨_, _, q2, _⟩ := node_cells hcd
            have hlc := lt_of_block hcd
            have hx := HR1.out.cell (j := j) (x := .pointer (some ⟨(ks[j]'(by omega)).b, 0, none⟩)) (by simp [hkj])
            have hkbl : kb < w1.heap.size := by
              obtain ⟨_, _, _, _, _, e, hq, _⟩ := HR1.out.where (by simp; omega)
              simp only [Value.slice.injEq, Option.some.injEq, Addr.mk.injEq] at e
              obtain ⟨⟨rfl, _⟩, _⟩ := e
              exact lt_of_block hq
            have hsum := kids_take hkj
            have hle := kids_le ks (j + 1)
            have HSUM := Lib.hid hsum
            have hwr : IntKind.i64.wrap ((A.length : Int) + ((kidsL (ks.take j)).length : Int) + (((ks[j]'(by omega)).L.length : Nat) : Int)) = (A.length : Int) + ((kidsL (ks.take j)).length : Int) + (((ks[j]'(by omega)).L.length : Nat) : Int) := by rw [IntKind.wrap_i64]; omega
            generalize ks[j]'(by omega) = cj at *
            generalize hsj : (kidsL (ks.take j)).length = sj at *
            clear hkj hcd hsum hle hsj
            go_wp2_with fail
            go_roundg (gk - 1)
            case measure => omega
            case rel => exact ⟨j + 1, by omega, by go_num, by rw [HSUM.out, Int.natCast_add, ← Int.add_assoc], rfl⟩
          · have hji' : ¬ (j : Int) < (i : Int) := by omega
            obtain rfl : j = i := by omega
            have hil : j < ks.length := by omega
            have hii : (j : Int) < (ks.length : Int) := by omega
            have hkj : ks[j]? = some ks[j] := List.getElem?_eq_getElem hil
            have hx := HR1.out.cell (j := j) (x := .pointer (some ⟨ks[j].b, 0, none⟩)) (by simp [hkj])
            have hkbl : kb < w1.heap.size := by
              obtain ⟨_, _, _, _, _, e, hq, _⟩ := HR1.out.where (by simp; omega)
              simp only [Value.slice.injEq, Option.some.injEq, Addr.mk.injEq] at e
              obtain ⟨⟨rfl, _⟩, _⟩ := e
              exact lt_of_block hq
            have hs2 : Same (fun k => w0.heap.size ≤ k ∧ k < w0.heap.size + 2) w1 (w1.setCell ⟨w0.heap.size + 1, 0, none⟩ (.pointer (some ⟨ks[j].b, 0, none⟩))) := (Same.refl _ w1).setCell (p := ⟨w0.heap.size + 1, 0, none⟩) (fun _ => ⟨by show w0.heap.size ≤ w0.heap.size + 1; omega, by show w0.heap.size + 1 < w0.heap.size + 2; omega⟩) _
            have hbt2 : Between w0.heap.size (w0.heap.size + 2) G w0.heap.size (w0.heap.size + 1) ks[j].b pb px pk ps st1 (w1.setCell ⟨w0.heap.size + 1, 0, none⟩ (.pointer (some ⟨ks[j].b, 0, none⟩))) :=
              ⟨HA.out.stab HB1.out.hst hs2, (World.cell?_of_block (a := ⟨w0.heap.size, 0, none⟩) (Below.heap_setCell _ _ _ _ (by show w0.heap.size ≠ w0.heap.size + 1; omega))).trans HB1.out.hf, by have := set_at (o := 0) (u := .pointer (some ⟨ks[j].b, 0, none⟩)) HB1.out.hx; simpa using this, Nat.le_trans HB1.out.hm hs2.size, by omega, by omega, by omega⟩
            have hat : At w0.heap.size w0 P G pb px pk ps L so h (.int .i64 ((A.length : Int) + (kidsL (ks.take j)).length)) (w1.setCell ⟨w0.heap.size + 1, 0, none⟩ (.pointer (some ⟨ks[j].b, 0, none⟩))) := by
              refine ⟨ks[j].b, ks[j].s, A ++ kidsL (ks.take j), ks[j].L, kidsL (ks.drop (j + 1)) ++ B, st1, by rw [List.length_append, Int.natCast_add], by rw [HLE.out, kids_split hkj]; simp only [List.append_assoc], (HK.out _ (List.getElem_mem hil)).2, by have := (HK.out _ (List.getElem_mem hil)).1; omega, hbt2, fun hf => ?_⟩
              obtain ⟨e1, f1, f2⟩ := HP.out hf
              obtain ⟨q1, q2⟩ := HST.out e1
              exact search_fork HM.out HLE.out hkj HPOS.out q1 q2 (fun p x y hp hx hy => by rw [← soKid_some (so := so) hx hy]; exact f1 p hp) (fun p x y hp hx hy => by
                have := (List.getElem?_eq_some_iff.1 hx).1
                rw [← soKid_some (so := so) hx hy]; exact f2 p hp (by omega))
            have HAT := Lib.hid hat
            generalize ks[j].b = cb at *
            clear hs2 hbt2 hat hkj
            go_wp2_with fail
            go_roundg h
            case measure => omega
            case rel => exact HAT.out

end Go.Proofs.YtgfmemggfbgjeaaGreatDoor
