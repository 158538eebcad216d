/-
  tree's inner: a node of nodes, its count. Conditions: few elements, a small count of writes.
-/
import Derived.Test.YtgfmemggfbgjeaaGreatDoorM5
namespace Go.Proofs.YtgfmemggfbgjeaaGreatDoor
open Go.RowKit Go.Extern.Stop Go.Stop Go.Extern Go.Lib
set_option maxRecDepth 1000000

theorem kids_take {ks : List Kid} {j : Nat} {c : Kid} (h : ks[j]? = some c) : (kidsL (ks.take (j + 1))).length = (kidsL (ks.take j)).length + c.L.length := by
  rw [List.take_add_one, h]
  simp [kidsL_append, kidsL_cons, kidsL_nil]

theorem kids_le (ks : List Kid) (j : Nat) : (kidsL (ks.take j)).length ≤ (kidsL ks).length := by
  have h : kidsL ks = kidsL (ks.take j) ++ kidsL (ks.drop j) := by
    rw [← kidsL_append, List.take_append_drop]
  rw [h, List.length_append]
  omega

set_option maxHeartbeats 8000000 in
theorem inner_any {w : World} {t : Nat} {r kv : Value} {c : Int} {ks : List Kid} (ht : w.heap[t]? = some (headObj r c)) (hc : 0 ≤ c ∧ c ≤ 1000000000) (hr : ReadC w 109 kv (kidsV ks)) (h0 : 0 < ks.length) (hkn : ks.length ≤ 1000000)
    (hk : ∀ x ∈ ks, ∃ l k, w.heap[x.b]? = some (nodeObj l k x.L.length)) (hL : (kidsL ks).length ≤ 1000000) :
    Calls Tryz.prog 59 #[.pointer (some ⟨t, 0, none⟩), kv] w fun e w' => ∃ b, e = .returned (.pointer (some ⟨b, 0, none⟩)) ∧ w.heap.size ≤ b ∧ w'.heap[b]? = some (nodeObj (.slice none 0 0) kv (kidsL ks).length) ∧ w'.heap[t]? = some (headObj r (c + 1)) ∧ Same (fun k => k = t) w w' := by
  obtain ⟨g0, g1, hf⟩ := head_cells ht
  have hlt := lt_of_block ht
  obtain ⟨c0, c1⟩ := hc
  have hlen : (kidsV ks).length = ks.length := by simp
  obtain ⟨kb, off, cap, kcs, kfr, rfl, hkb, _⟩ := hr.where (by omega)
  rw [hlen] at hr ⊢
  have hlkb := lt_of_block hkb
  have hs0 : Same (fun k => k = t) w ((w.setCell ⟨t, 1, none⟩ (.int .i64 (c + 1))).alloc (nodeObj (.slice none 0 0) (.slice (some ⟨kb, off, none⟩) ks.length cap) 0)) := ((Same.refl (fun k => k = t) w).setCell (p := ⟨t, 1, none⟩) (fun _ => rfl) _).alloc _
  have hsz : (w.setCell ⟨t, 1, none⟩ (.int .i64 (c + 1))).heap.size = w.heap.size := by simp
  have hb : ((w.setCell ⟨t, 1, none⟩ (.int .i64 (c + 1))).alloc (nodeObj (.slice none 0 0) (.slice (some ⟨kb, off, none⟩) ks.length cap) 0)).heap[w.heap.size]? = some (nodeObj (.slice none 0 0) (.slice (some ⟨kb, off, none⟩) ks.length cap) 0) := by
    have h := heap_alloc_new (w.setCell ⟨t, 1, none⟩ (.int .i64 (c + 1))) (nodeObj (.slice none 0 0) (.slice (some ⟨kb, off, none⟩) ks.length cap) 0)
    rwa [hsz] at h
  have hh : ((w.setCell ⟨t, 1, none⟩ (.int .i64 (c + 1))).alloc (nodeObj (.slice none 0 0) (.slice (some ⟨kb, off, none⟩) ks.length cap) 0)).heap[t]? = some (headObj r (c + 1)) :=
    ((Same.refl (fun _ => False) (w.setCell ⟨t, 1, none⟩ (.int .i64 (c + 1)))).alloc _).obj (set_at ht) id
  have HT := Lib.hid ht; have HR := Lib.hid hr; have HK := Lib.hid hk; have HLL := Lib.hid hL
  have HS0 := Lib.hid hs0; have HB0 := Lib.hid hb; have HH0 := Lib.hid hh
  clear hr hk hL hkb hlen hs0 hb hh ht g0 hsz
  go_enter Tryz.func59, Tryz.ntmps59
  go_wp2_with fail
  go_loopg [20] ks.length (fun rr vi wr => ∃ (j : Nat), j + rr = ks.length ∧ vi = .int .i64 j ∧ Same (fun k => k = t) w wr ∧ wr.heap[w.heap.size]? = some (nodeObj (.slice none 0 0) (.slice (some ⟨kb, off, none⟩) ks.length cap) (kidsL (ks.take j)).length) ∧ wr.heap[t]? = some (headObj r (c + 1)))
  case atStart => exact ⟨0, by omega, rfl, HS0.out, HB0.out, HH0.out⟩
  case round =>
    obtain ⟨j, hj, rfl, hs, hb, hh⟩ := hrel
    have HS := Lib.hid hs; have HB := Lib.hid hb; have HH := Lib.hid hh
    have hF := head_only HT.out
    have hr' := HR.out.same hs hF (by decide)
    by_cases hlast : j < ks.length
    · have hl' : (j : Int) < (ks.length : Int) := by omega
      have hkj : ks[j]? = some ks[j] := List.getElem?_eq_getElem hlast
      have hx := hr'.cell (j := j) (x := .pointer (some ⟨ks[j].b, 0, none⟩)) (by simp [hkj])
      obtain ⟨lk, kk, hcd⟩ := HK.out ks[j] (List.getElem_mem _)
      have hcd' := hs.obj hcd (fun e => by rw [e, HT.out] at hcd; simp at hcd)
      obtain ⟨n0, n1, n2, n3⟩ := node_cells hcd'
      obtain ⟨m0, m1, m2, m3⟩ := node_cells hb
      have hne : ks[j].b ≠ w.heap.size := by have := lt_of_block hcd; omega
      have hlc := lt_of_block hcd'
      have hln := lt_of_block hb
      have hlkb' : kb < wr.heap.size := by have := hs.size; omega
      have HTK := Lib.hid (kids_take hkj)
      have hle := kids_le ks (j + 1)
      have hsum := kids_take hkj
      have hL' : (kidsL (ks.take j)).length + ks[j].L.length ≤ 1000000 := by have := HLL.out; omega
      generalize ks[j].L.length = mL at *
      generalize ks[j].b = mb at *
      generalize (kidsL (ks.take j)).length = sj at *
      clear hle hsum hkj hcd hcd' hr' hF hs hb hh
      go_wp2_with fail
      go_region
      go_wp2_with fail
      go_roundg (gk - 1)
      case measure => omega
      case rel =>
        refine ⟨j + 1, by omega, by go_num, ?_, ?_, ?_⟩
        · exact (HS.out.setCell (p := ⟨w.heap.size, 2, none⟩) (fun h => absurd h (Nat.lt_irrefl _)) _).drew
        · rw [HTK.out, Int.natCast_add]
          exact set_at HB.out
        · exact (((Same.refl (fun k => k = w.heap.size) wr).setCell (p := ⟨w.heap.size, 2, none⟩) (fun _ => rfl) _).drew).obj HH.out (fun e => by omega)
    · have hl' : ¬ (j : Int) < (ks.length : Int) := by omega
      have hjl : j = ks.length := by omega
      subst hjl
      rw [List.take_length] at hb HB
      clear hr' hF hs hb hh
      go_wp2_with fail
      go_ret
      exact ⟨_, rfl, Nat.le_refl _, HB.out, HH.out, HS.out⟩

end Go.Proofs.YtgfmemggfbgjeaaGreatDoor
