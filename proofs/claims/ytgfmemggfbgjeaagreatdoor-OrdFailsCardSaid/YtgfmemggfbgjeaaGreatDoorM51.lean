/-
  ordidx: Place, All; rialtohelp.Entries of rows that are the same. Conditions: few entries.
-/
import Derived.Test.YtgfmemggfbgjeaaGreatDoorM40
import Derived.BigQuiet
import Derived.Deep.RegionHeld3
import Derived.Deep.CutRange
namespace Go.Proofs.YtgfmemggfbgjeaaGreatDoor
open Go.RowKit Go.Extern.Stop Go.Stop Go.Extern Go.Lib
set_option maxRecDepth 1000000

theorem xlen_any {w : World} {P : Nat → Prop} {x t bm bn : Nat} {uq : Bool} {mp : Value} {n a c : Int} {L : List En} (h : OxAt w P x t bm bn uq mp n a L c) : Calls Tryz.prog 15 #[.pointer (some ⟨x, 0, none⟩)] w fun e w' => e = .returned (.int .i64 L.length) ∧ Same (fun _ => False) w w' := by
  have HL := Lib.hid (tree_len h.tree)
  obtain ⟨i0, i1, i2, il⟩ := idx_cells h.idx
  clear h
  go_enter Tryz.func15, Tryz.ntmps15
  go_wp2_with fail
  refine HL.out.mono ?_
  rintro e w1 ⟨rfl, rfl⟩
  go_wp2_with fail
  go_ret
  exact ⟨rfl, Same.refl _ _⟩

theorem ReadE.at {w : World} {ao : Option Addr} {n cap : Nat} {L : List En} (h : ReadE w (.slice ao n cap) L) {j : Nat} {e : En} (hj : L[j]? = some e) : ∃ b off, ao = some ⟨b, off, none⟩ ∧ b < w.heap.size ∧ w.cell? ⟨b, off + j * 2, none⟩ = some (.slice e.ao e.n e.cap) ∧ w.cell? ⟨b, off + j * 2 + 1, none⟩ = some (.int .i64 e.id) := by
  obtain ⟨h1, h2⟩ := entsV_key hj
  obtain ⟨ao', m, c, hn, e0, hc, _⟩ := h
  simp only [Value.slice.injEq] at e0
  obtain ⟨rfl, rfl, rfl⟩ := e0
  obtain ⟨b, off, cs, fr, rfl, hb, q0⟩ := hc _ _ h1
  obtain ⟨b', off', _, _, e1, _, q1⟩ := hc _ _ h2
  simp only [Option.some.injEq, Addr.mk.injEq] at e1
  obtain ⟨rfl, rfl, _⟩ := e1
  exact ⟨b, off, rfl, lt_of_block hb, q0, by rw [← Nat.add_assoc] at q1; exact q1⟩

theorem ReadE.kept {F : Nat → Prop} {w w' : World} {v : Value} {L : List En} (h : ReadE w v L) (hs : Same F w w') (hF : ∀ k, v.ownBlock = some k → ¬ F k) : ReadE w' v L := by
  obtain ⟨ao, m, c, hn, rfl, hc, hcap⟩ := h
  refine ⟨ao, m, c, hn, rfl, fun j x hj => ?_, hcap⟩
  obtain ⟨b, off, cs, fr, rfl, hb, q0⟩ := hc j x hj
  have hb' := hs.obj hb (hF b rfl)
  exact ⟨b, off, cs, fr, rfl, hb', (World.cell?_of_block (a := ⟨b, _, none⟩) (hs.block b (lt_of_block hb) (hF b rfl))).trans q0⟩

/-- What Place answers. -/
def PlaceEnd (L : List En) (rid : Int) (r : Ending) : Prop :=
  (∃ (i : Nat) (y : En), L[i]? = some y ∧ y.id = rid ∧ (∀ z ∈ L.take i, z.id ≠ rid) ∧ r = .returned (.tuple #[.int .i64 i, .bool true])) ∨ ((∀ z ∈ L, z.id ≠ rid) ∧ r = .returned (.tuple #[.int .i64 0, .bool false]))

set_option maxHeartbeats 16000000 in
theorem iplace_any {w0 : World} {P : Nat → Prop} {x t bm bn : Nat} {uq : Bool} {mp : Value} {L : List En} {n a c cc h s rid : Int} (hO : OxAt w0 P x t bm bn uq mp n a L c) (hm : MAt w0 mp cc a h s) (hL : L.length ≤ 80000) :
    Calls Tryz.prog 23 #[.pointer (some ⟨x, 0, none⟩), .int .i64 rid] w0 fun r w' => PlaceEnd L rid r ∧ Same (fun _ => False) w0 w' := by
  have hdr : Same (fun _ => False) w0 w0.drew := (Same.refl (fun _ => False) w0).drew
  have HLEN := Lib.hid (xlen_any (hO.kept hm (hdr.weaken (fun _ _ h => h.elim))))
  have HALL := Lib.hid (fun (W : World) (hs : Same (fun _ => False) w0 W) => tree_all (hO.tree.keep hs (fun _ h => h.elim)) (by omega))
  have HID := Lib.hid (fun (W : World) (hs : Same (fun _ => False) w0 W) => idx_cells (hs.obj hO.idx id))
  obtain ⟨i0, i1, i2, il⟩ := idx_cells hO.idx
  have HDR := Lib.hid hdr
  clear hO hm hdr
  go_enter Tryz.func23, Tryz.ntmps23
  go_upto_region 1 with fail
  go_cut [14, 15, 16] from 8 to 17 (fun s14 s15 s16 wx => ∃ vo vc, s14 = .slice vo L.length vc ∧ s15 = .int .i64 L.length ∧ s16 = .int .i64 0 ∧ ReadE wx (.slice vo L.length vc) L ∧ Same (fun _ => False) w0 wx)
  case first =>
    go_region_with (first
      | (go_at_call 15; refine HLEN.out.mono ?_; rintro r w1 ⟨rfl, hs1⟩; have HS1 := Lib.hid (HDR.out.trans hs1 (fun _ _ h => h)); obtain ⟨q0, _, _, ql⟩ := HID.out w1 HS1.out; clear hs1)
      | (go_at_call 46; refine (HALL.out w1 HS1.out).mono ?_; rintro r w2 ⟨v, rfl, ho, hs2⟩; obtain ⟨vo, vc, rfl, _⟩ := ReadE.shape (ownsRow_readZ ho); have HRD := Lib.hid (ownsRow_readZ ho); have HS2 := Lib.hid (HS1.out.trans hs2 (fun _ _ h => h)); clear ho hs2))
    all_goals go_wp2_with fail
    all_goals go_meet
    all_goals exact ⟨vo, vc, rfl, rfl, rfl, HRD.out, HS2.out⟩
  case rest =>
    obtain ⟨vo, vc, rfl, rfl, rfl, hrd, hsc⟩ := hcut
    have HRD := Lib.hid hrd; have HSC := Lib.hid hsc
    clear hrd hsc
    go_wp2_with fail
    go_loopg [16] L.length (fun rr v16 wr => ∃ j : Nat, j + rr = L.length ∧ v16 = .int .i64 j ∧ (∀ z ∈ L.take j, z.id ≠ rid) ∧ Same (fun _ => False) wc wr)
    case atStart => exact ⟨0, by omega, rfl, by simp, Same.refl _ _⟩
    case round =>
      obtain ⟨j, hj, rfl, hno, hsr⟩ := hrel
      have HSR := Lib.hid hsr; have HNO := Lib.hid hno
      by_cases hlast : j < L.length
      · have hl' : (j : Int) < (L.length : Int) := by omega
        obtain ⟨ab, ao2, rfl, hla, hx0, hx1⟩ := (HRD.out.kept hsr (fun _ _ => id)).at (List.getElem?_eq_getElem hlast)
        have HY := Lib.hid (List.getElem?_eq_getElem hlast)
        generalize L[j] = y at *
        obtain ⟨yo, yn, yc, yi, yk⟩ := y
        obtain ⟨q0, q1, _, _⟩ := ent_cells (heap_alloc_new wr (entObj (⟨yo, yn, yc, yi, yk⟩ : En)))
        have hql := lt_of_block (heap_alloc_new wr (entObj (⟨yo, yn, yc, yi, yk⟩ : En)))
        have HS4 := Lib.hid (HSR.out.alloc (entObj (⟨yo, yn, yc, yi, yk⟩ : En)))
        clear hsr hno
        by_cases hid : yi = rid
        · subst hid
          go_wp2_with fail
          go_ret2
          exact ⟨Or.inl ⟨j, ⟨yo, yn, yc, yi, yk⟩, HY.out, rfl, HNO.out, rfl⟩, HSC.out.trans HS4.out (fun _ _ h => h)⟩
        · have HI := Lib.hid hid
          go_wp2_with fail
          go_roundg (L.length - (j + 1))
          case measure => omega
          case rel =>
            refine ⟨j + 1, by omega, by go_num, fun z hz => ?_, HS4.out⟩
            rw [List.take_add_one, HY.out] at hz
            rcases List.mem_append.1 hz with h | h
            · exact HNO.out z h
            · have : z = ⟨yo, yn, yc, yi, yk⟩ := by simpa using h
              rw [this]
              exact HI.out
      · have hl' : ¬ (j : Int) < (L.length : Int) := by omega
        have HJ := Lib.hid (show L.length ≤ j by omega)
        clear hsr hno hj
        go_wp2_with fail
        go_ret2
        exact ⟨Or.inr ⟨fun z hz => HNO.out z (by rw [List.take_of_length_le HJ.out]; exact hz), rfl⟩, HSC.out.trans HSR.out (fun _ _ h => h)⟩

/-- What a row of entries says: the numbers, the keys' values. -/
def kvs (L : List En) : List (Int × List V) := L.map (fun e => (e.id, e.kv))

theorem kvs_get {A B : List En} (h : kvs A = kvs B) {j : Nat} {x y : En} (hx : A[j]? = some x) (hy : B[j]? = some y) : x.id = y.id ∧ x.kv = y.kv := by
  have h1 : (kvs A)[j]? = some (x.id, x.kv) := by simp [kvs, hx]
  have h2 : (kvs B)[j]? = some (y.id, y.kv) := by simp [kvs, hy]
  rw [h, h2] at h1
  simpa using ⟨(Prod.mk.inj (Option.some.inj h1)).1.symm, (Prod.mk.inj (Option.some.inj h1)).2.symm⟩

theorem kvs_length {A B : List En} (h : kvs A = kvs B) : A.length = B.length := by
  have := congrArg List.length h
  simpa [kvs] using this

/-- A row of entries with their keys, that can be read. -/
structure EntsR (w : World) (v : Value) (L : List En) : Prop where
  row : ReadE w v L
  keys : ∀ e ∈ L, ReadV w e.key e.kv

theorem EntsR.kept {F : Nat → Prop} {w w' : World} {v : Value} {L : List En} (h : EntsR w v L) (hs : Same F w w') (h1 : ∀ k, v.ownBlock = some k → ¬ F k) (h2 : ∀ e ∈ L, ∀ k, e.key.ownBlock = some k → ¬ F k) : EntsR w' v L :=
  ⟨h.row.kept hs h1, fun e he => (h.keys e he).kept hs (h2 e he)⟩

set_option maxHeartbeats 16000000 in
theorem entries_same {w : World} {u v : Value} {A B : List En} (ha : EntsR w u A) (hb : EntsR w v B) (hok : ∀ e ∈ A, (∀ z ∈ e.kv, z.ok) ∧ e.kv.length ≤ 1000) (hAB : kvs A = kvs B) (hl : A.length ≤ 90000) :
    Calls Tryz.prog 21 #[u, v] w fun e w' => e = .returned (.bool true) ∧ Same (fun _ => False) w w' := by
  have hll := kvs_length hAB
  obtain ⟨uo, uc, rfl, _⟩ := ReadE.shape ha.row
  obtain ⟨vo, vc, rfl, _⟩ := ReadE.shape hb.row
  rw [← hll] at hb
  have HA := Lib.hid ha; have HB := Lib.hid hb; have HOK := Lib.hid hok; have HAB := Lib.hid hAB; have HLL := Lib.hid hll
  clear ha hb hok hAB
  rw [← hll]
  clear hll
  go_enter Tryz.func21, Tryz.ntmps21
  go_wp2_with fail
  go_loopg [5] A.length (fun rr v5 wr => ∃ j : Nat, j + rr = A.length ∧ v5 = .int .i64 j ∧ Same (fun _ => False) w wr)
  case atStart => exact ⟨0, by omega, rfl, Same.refl _ _⟩
  case round =>
    obtain ⟨j, hj, rfl, hsr⟩ := hrel
    have HSR := Lib.hid hsr
    by_cases hlast : j < A.length
    · have hl' : (j : Int) < (A.length : Int) := by omega
      have hlb : j < B.length := by have := HLL.out; omega
      have hga := List.getElem?_eq_getElem hlast
      have hgb := List.getElem?_eq_getElem hlb
      obtain ⟨xb, xo, e1, hxl, hx0, hx1⟩ := (HA.out.row.kept hsr (fun _ _ => id)).at hga
      obtain ⟨yb, yo, e2, hyl, hy0, hy1⟩ := (HB.out.row.kept hsr (fun _ _ => id)).at hgb
      obtain ⟨hid, hkv⟩ := kvs_get HAB.out hga hgb
      have hdr : Same (fun _ => False) w wr.drew := hsr.drew
      obtain ⟨ok1, ok2⟩ := HOK.out _ (List.getElem_mem hlast)
      have HV := Lib.hid (vals_self ((HA.out.keys _ (List.getElem_mem hlast)).kept hdr (fun _ _ => id)) (by rw [hkv]; exact (HB.out.keys _ (List.getElem_mem hlb)).kept hdr (fun _ _ => id)) ok1 (by unfold maxLen; omega))
      have HDR := Lib.hid (HSR.out.drew)
      have HCE := Lib.hid (fun (W : World) (hs : Same (fun _ => False) w W) => by
        obtain ⟨_, _, e1', _, a1, a2⟩ := (HA.out.row.kept hs (fun _ _ => id)).at hga
        obtain ⟨_, _, e2', _, a3, a4⟩ := (HB.out.row.kept hs (fun _ _ => id)).at hgb
        rw [e1] at e1'; rw [e2] at e2'
        cases e1'; cases e2'
        rw [← hid] at a4
        exact (show W.cell? ⟨xb, xo + j * 2, none⟩ = some (.slice A[j].ao A[j].n A[j].cap) ∧ W.cell? ⟨xb, xo + j * 2 + 1, none⟩ = some (.int .i64 A[j].id) ∧ W.cell? ⟨yb, yo + j * 2, none⟩ = some (.slice B[j].ao B[j].n B[j].cap) ∧ W.cell? ⟨yb, yo + j * 2 + 1, none⟩ = some (.int .i64 A[j].id) from ⟨a1, a2, a3, a4⟩))
      generalize A[j] = p at *
      generalize B[j] = q at *
      obtain ⟨po, pn, pc, pi, pk⟩ := p
      obtain ⟨qo, qn, qc, qi, qk⟩ := q
      simp only at hid
      subst hid
      subst e1; subst e2
      clear hsr hga hgb hkv hdr ok1 ok2
      go_wp2_with fail
      go_region_held3 (fun w' => w'.cell? ⟨xb, xo + j * 2, none⟩ = some (.slice po pn pc) ∧ w'.cell? ⟨xb, xo + j * 2 + 1, none⟩ = some (.int .i64 pi) ∧ w'.cell? ⟨yb, yo + j * 2, none⟩ = some (.slice qo qn qc) ∧ w'.cell? ⟨yb, yo + j * 2 + 1, none⟩ = some (.int .i64 pi))
        (first | exact ⟨hx0, hx1, hy0, hy1⟩ | exact HCE.out _ HS2.out)
        (first | (go_at_call 47; refine HV.out.mono ?_; rintro r w2 ⟨rfl, hs2⟩; have HS2 := Lib.hid (HDR.out.trans hs2 (fun _ _ h => h)); clear hs2) | fail)
      all_goals (
        go_wp2_with fail
        go_roundg (A.length - (j + 1))
        case measure => omega
        case rel => exact ⟨j + 1, by omega, by go_num, HS2.out⟩)
    · have hl' : ¬ (j : Int) < (A.length : Int) := by omega
      clear hsr hj
      go_wp2_with fail
      go_ret
      exact ⟨rfl, HSR.out⟩

theorem entsV_set : ∀ (L : List En) (j : Nat) (e : En), entsV (L.set j e) = ((entsV L).set (j * 2) (.slice e.ao e.n e.cap)).set (j * 2 + 1) (.int .i64 e.id)
  | [], j, e => rfl
  | x :: L, 0, e => rfl
  | x :: L, j + 1, e => by
    rw [List.set_cons_succ, show (j + 1) * 2 = j * 2 + 1 + 1 by omega]
    simp only [entsV, List.set_cons_succ, entsV_set L j e]

theorem own_put {w : World} {B g n cap j : Nat} {L : List En} (ho : w.ownsRow B 57 2 (.slice (some ⟨g, 0, none⟩) n cap) n (entsV L)) (e : En) :
    ((w.setCell ⟨g, j * 2, none⟩ (.slice e.ao e.n e.cap)).setCell ⟨g, j * 2 + 1, none⟩ (.int .i64 e.id)).ownsRow B 57 2 (.slice (some ⟨g, 0, none⟩) n cap) n (entsV (L.set j e)) := by
  obtain ⟨hB, hn, hc, hx, cs, hcl, hct, hg⟩ := ownsRow_open2 ho
  have h1 := set_at (o := j * 2) (u := .slice e.ao e.n e.cap) hg
  have h2 := set_at (o := j * 2 + 1) (u := .int .i64 e.id) h1
  refine ownsRow_shut2 (cs := (cs.set (j * 2) (.slice e.ao e.n e.cap)).set (j * 2 + 1) (.int .i64 e.id)) hB hn hc (by simp [hcl]) ?_ (by rw [h2]; simp)
  rw [entsV_set, ← hct, List.take_set, List.take_set]

/-- What All answers. -/
def AllEnd (w : World) (L : List En) (r : Ending) (w' : World) : Prop :=
  ∃ (v : Value) (L' : List En), r = .returned v ∧ kvs L' = kvs L ∧ w'.ownsRow w.heap.size 57 2 v L.length (entsV L') ∧ (∀ e ∈ L', ReadV w' e.key e.kv ∧ CapOk e.key ∧ ∀ k, e.key.ownBlock = some k → w.heap.size ≤ k ∧ k < w'.heap.size) ∧ Same (fun _ => False) w w'

set_option maxHeartbeats 16000000 in
theorem iall_any {w0 : World} {P : Nat → Prop} {x t bm bn : Nat} {uq : Bool} {mp : Value} {L : List En} {n a c cc h s : Int} (hO : OxAt w0 P x t bm bn uq mp n a L c) (hm : MAt w0 mp cc a h s) (hL : L.length ≤ 80000) :
    Calls Tryz.prog 19 #[.pointer (some ⟨x, 0, none⟩)] w0 fun r w' => AllEnd w0 L r w' := by
  have hdr : Same (fun _ => False) w0 w0.drew := (Same.refl (fun _ => False) w0).drew
  have HLEN := Lib.hid (xlen_any (hO.kept hm (hdr.weaken (fun _ _ h => h.elim))))
  have HALL := Lib.hid (fun (W : World) (hs : Same (fun _ => False) w0 W) => tree_all (hO.tree.keep hs (fun _ h => h.elim)) (by omega))
  have HID := Lib.hid (fun (W : World) (hs : Same (fun _ => False) w0 W) => idx_cells (hs.obj hO.idx id))
  have HKS := Lib.hid (fun (e : En) (he : e ∈ L) => And.intro (hO.keys e he).rd (hO.keys e he).few)
  obtain ⟨i0, i1, i2, il⟩ := idx_cells hO.idx
  have HDR := Lib.hid hdr
  clear hO hm hdr
  go_enter Tryz.func19, Tryz.ntmps19
  go_upto_region 1 with fail
  go_cut [3] from 6 to 13 (fun s3 wx => ∃ vo vc, s3 = .slice vo L.length vc ∧ wx.ownsRow w0.heap.size 57 2 (.slice vo L.length vc) L.length (entsV L) ∧ Same (fun _ => False) w0 wx)
  case first =>
    go_region_with (first
      | (go_at_call 15; refine HLEN.out.mono ?_; rintro r w1 ⟨rfl, hs1⟩; have HS1 := Lib.hid (HDR.out.trans hs1 (fun _ _ h => h)); obtain ⟨q0, _, _, ql⟩ := HID.out w1 HS1.out; clear hs1)
      | (go_at_call 46; refine (HALL.out w1 HS1.out).mono ?_; rintro r w2 ⟨v, rfl, ho, hs2⟩; obtain ⟨vo, vc, rfl, _⟩ := ReadE.shape (ownsRow_readZ ho); have HOW := Lib.hid ho; have HSZ := Lib.hid (HS1.out.size); have HS2 := Lib.hid (HS1.out.trans hs2 (fun _ _ h => h)); clear ho hs2))
    all_goals go_wp2_with fail
    all_goals go_meet
    all_goals exact ⟨vo, vc, rfl, own_base2 HOW.out HSZ.out, HS2.out⟩
  case rest =>
    obtain ⟨vo, vc, rfl, how, hsc⟩ := hcut
    have HOW := Lib.hid how; have HSC := Lib.hid hsc
    clear how hsc
    go_wp2_with fail
    go_loopg [15] L.length (fun rr v15 wr => ∃ (j : Nat) (L' : List En), j + rr = L.length ∧ v15 = .int .i64 j ∧ L'.length = j ∧ kvs L' = kvs (L.take j) ∧ wr.ownsRow w0.heap.size 57 2 (.slice vo L.length vc) L.length (entsV (L' ++ L.drop j)) ∧ (∀ e ∈ L', ReadV wr e.key e.kv ∧ CapOk e.key ∧ ∀ k, e.key.ownBlock = some k → w0.heap.size ≤ k ∧ k < wr.heap.size ∧ (Value.slice vo L.length vc).ownBlock ≠ some k) ∧ Same (fun _ => False) w0 wr)
    case atStart => exact ⟨0, [], by omega, rfl, rfl, rfl, HOW.out, (fun e he => by cases he), HSC.out⟩
    case round =>
      obtain ⟨j, L', hj, rfl, hl2, hkv, hrow, hks, hsr⟩ := hrel
      have HSR := Lib.hid hsr; have HROW := Lib.hid hrow; have HKV := Lib.hid hkv; have HK2 := Lib.hid hks; have HL2 := Lib.hid hl2
      clear hrow hkv hks hl2
      by_cases hlast : j < L.length
      · have hl' : (j : Int) < (L.length : Int) := by omega
        have hget : (L' ++ L.drop j)[j]? = some L[j] := by
          rw [List.getElem?_append_right (by rw [HL2.out]; omega), HL2.out, Nat.sub_self, List.getElem?_drop, Nat.add_zero, List.getElem?_eq_getElem hlast]
        obtain ⟨ab, ao2, hab, hla, hx0, hx1⟩ := ReadE.at (ownsRow_readZ HROW.out) hget
        obtain ⟨kr, kf⟩ := HKS.out _ (List.getElem_mem hlast)
        have HY := Lib.hid (List.getElem?_eq_getElem hlast)
        generalize L[j] = y at *
        obtain ⟨yo, yn, yc, yi, yk⟩ := y
        obtain rfl : ao2 = 0 := by
          rcases HROW.out.2 with ⟨e, _⟩ | ⟨g', cap', cur, e, _⟩
          · rw [hab] at e; cases e
          · rw [hab] at e; simp only [Value.slice.injEq, Option.some.injEq, Addr.mk.injEq] at e; exact e.1.2.1
        subst hab
        rw [Nat.zero_add] at hx0 hx1
        obtain ⟨w4, hw4⟩ : ∃ w4, w4 = wr.alloc (entObj (⟨yo, yn, yc, yi, yk⟩ : En)) := ⟨_, rfl⟩
        have hs4 : Same (fun _ => False) wr w4 := by rw [hw4]; exact (Same.refl _ wr).alloc _
        have hyb : w4.heap[wr.heap.size]? = some (entObj (⟨yo, yn, yc, yi, yk⟩ : En)) := by rw [hw4]; exact heap_alloc_new _ _
        obtain ⟨q0, q1, _, _⟩ := ent_cells hyb
        have hql := lt_of_block hyb
        have HCP := Lib.hid (copied_any (w0 := w4) (e := (⟨yo, yn, yc, yi, yk⟩ : En)) (kr.kept (hsr.trans hs4 (fun _ _ h => h)) (fun _ _ => id)) kf)
        have HW4 := Lib.hid hw4; have HS4 := Lib.hid hs4; have HGET := Lib.hid hget
        clear hsr hw4 hs4 hyb hget kr kf
        go_upto_region 5 with fail
        rw [← HW4.out]
        go_wp2_with fail
        refine HCP.out.mono ?_
        rintro r w5 ⟨⟨eo, en, ec, ei, ek⟩, rfl, hid', hkv', ho5, hs5⟩
        have hs45 := HS4.out.trans hs5 (fun _ _ h => h)
        have hrow5 := hs45.row HROW.out (fun _ _ => id)
        obtain ⟨hba, hnc, hcm, _, cs, hcl, _, hgb⟩ := ownsRow_open2 hrow5
        obtain ⟨_, _, e9, _, z0, z1⟩ := ReadE.at (ownsRow_readZ hrow5) HGET.out
        cases e9
        rw [Nat.zero_add] at z0 z1
        have f1 : w5.frozen? ⟨ab, j * 2, none⟩ = false := by simp [World.frozen?, hgb]
        have f2 : w5.frozen? ⟨ab, j * 2 + 1, none⟩ = false := by simp [World.frozen?, hgb]
        have hgl := lt_of_block hgb
        have HH := Lib.hid (own_put (j := j) hrow5 ⟨eo, en, ec, ei, ek⟩)
        have HEI := Lib.hid hid'; have HEK := Lib.hid hkv'; have HO5 := Lib.hid ho5; have HS5 := Lib.hid hs45
        clear hs5 hs45 hrow5 hgb hid' hkv' ho5 hcl hcm hnc
        go_wp2_with fail
        go_roundg (L.length - (j + 1))
        case measure => omega
        case rel =>
          have hst : Same (fun k => k = ab) w5 ((w5.setCell ⟨ab, j * 2, none⟩ (.slice eo en ec)).setCell ⟨ab, j * 2 + 1, none⟩ (.int .i64 ei)) := ((Same.refl (fun k => k = ab) w5).setCell (p := ⟨ab, j * 2, none⟩) (fun _ => rfl) _).setCell (p := ⟨ab, j * 2 + 1, none⟩) (fun _ => rfl) _
          have hst2 := (HS5.out.weaken (F' := fun k => k = ab) (fun _ _ h => h.elim)).trans hst (fun _ _ h => h)
          have hset : (L' ++ L.drop j).set j ⟨eo, en, ec, ei, ek⟩ = (L' ++ [⟨eo, en, ec, ei, ek⟩]) ++ L.drop (j + 1) := by
            rw [List.drop_eq_getElem_cons hlast, List.set_append_right _ _ (by rw [HL2.out]; omega), HL2.out, Nat.sub_self, List.set_cons_zero, List.append_assoc]
            rfl
          refine ⟨j + 1, L' ++ [⟨eo, en, ec, ei, ek⟩], by omega, by go_num, by rw [List.length_append, HL2.out]; rfl, ?_, by rw [← hset]; exact HH.out, fun e he => ?_, HSR.out.trans hst2 (fun i hi h => by omega)⟩
          · rw [List.take_add_one, HY.out, kvs, List.map_append, ← kvs, HKV.out, kvs, kvs, List.map_append]
            rw [show (⟨eo, en, ec, ei, ek⟩ : En) = ⟨eo, en, ec, yi, yk⟩ by rw [HEI.out, HEK.out]]
            rfl
          · rcases List.mem_append.1 he with h | h
            · obtain ⟨a1, a2, a3⟩ := HK2.out e h
              exact ⟨a1.kept hst2 (fun k hk ek => (a3 k hk).2.2 (by rw [ek]; rfl)), a2, fun k hk => ⟨(a3 k hk).1, Nat.lt_of_lt_of_le (a3 k hk).2.1 hst2.size, (a3 k hk).2.2⟩⟩
            · obtain rfl : e = ⟨eo, en, ec, ei, ek⟩ := by simpa using h
              have hek : ek = yk := HEK.out
              have h5 := HO5.out
              rw [← hek] at h5
              have hlt : ∀ k, (Value.slice eo en ec).ownBlock = some k → w4.heap.size ≤ k := fun k hk => (h5.lt k hk).1
              have hs4 := HS4.out.size
              have hs0 := HSR.out.size
              exact ⟨(ReadV.own h5).kept hst (fun k hk ek => by have := hlt k hk; omega), CapOk.own h5, fun k hk => ⟨by have := hlt k hk; omega, Nat.lt_of_lt_of_le (h5.lt k hk).2 hst.size, fun h => by have := hlt k hk; rw [show ab = k by simpa [Value.ownBlock] using h] at hla; omega⟩⟩
      · have hl' : ¬ (j : Int) < (L.length : Int) := by omega
        obtain rfl : L.length = j := by omega
        have HA := Lib.hid HROW.out
        clear hsr hj
        go_wp2_with fail
        go_ret
        have e1 : L' ++ L.drop L.length = L' := by rw [List.drop_length, List.append_nil]
        exact ⟨_, L', rfl, by rw [HKV.out, List.take_length], by rw [← e1]; exact HROW.out, fun e he => by obtain ⟨a1, a2, a3⟩ := HK2.out e he; exact ⟨a1, a2, fun k hk => ⟨(a3 k hk).1, (a3 k hk).2.1⟩⟩, HSR.out⟩

end Go.Proofs.YtgfmemggfbgjeaaGreatDoor
