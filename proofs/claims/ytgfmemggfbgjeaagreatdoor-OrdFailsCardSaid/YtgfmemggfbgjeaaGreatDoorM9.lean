/-
  Copies between rows, and that two rows don't overlap. Conditions: none.
-/
import Derived.Test.YtgfmemggfbgjeaaGreatDoorM8
import Derived.Shelf.Spec.SlicesInsertGrow
namespace Go.Proofs.YtgfmemggfbgjeaaGreatDoor
open Go.RowKit Go.Extern.Stop Go.Stop Go.Extern Go.Lib
set_option maxRecDepth 1000000

theorem cells_read {w : World} {g : Nat} {T : TypeId} {cs : List Value} {fr : Nat × Nat} (hg : w.heap[g]? = some (.cells cs.toArray T fr)) (o : Nat) : ∀ (j : Nat) (v : Value), (cs.drop o)[j]? = some v → w.cell? ((⟨g, o, none⟩ : Addr).add j) = some v := by
  intro j v hj
  rw [List.getElem?_drop] at hj
  rw [Addr.add_lit]
  simp only [World.cell?, hg]
  simpa using hj

theorem sizei : (Tryz.prog.info? 57).map (·.size) = some 2 := by
  obtain ⟨i, hi, _, hs, _⟩ := infoi
  rw [hi]
  simp [hs]

theorem sizeOfi (w : World) : (Go.sizeOf 57).run Tryz.prog w = .ok 2 w := by
  obtain ⟨i, hi, _, hs, _⟩ := infoi
  simp [Go.sizeOf, typeInfo, hi, hs]

theorem aparti {w : World} {g vb : Nat} {cs us : List Value} (hg : w.heap[g]? = some (.cells cs.toArray 57 (0, 0))) (hv : w.heap[vb]? = some (.cells us.toArray 57 (0, 0))) (h0 : cs.length ≠ 0) (hne : vb ≠ g) (vo m vc o lb cb : Nat) :
    (callFunc 98 #[.slice (some ⟨vb, vo, none⟩) m vc, .slice (some ⟨g, o, none⟩) lb cb]).run Tryz.prog w = .ok (.value (.bool false)) w := by
  rw [run_callFunc_extern Tryz.func98 (by kernel_rfl) (by kernel_rfl) (by kernel_rfl) (e := Extern.SlicesOverlaps.overlaps #[61, 61] #[4]) (by kernel_rfl),
    Lib.run_overlaps_apart w 61 4 57 (by kernel_rfl) 2 sizeOfi ⟨vb, vo, none⟩ ⟨g, o, none⟩ m vc lb cb hne 57 57 us.length cs.length (by simp [World.shape?, hv]) (by simp [World.shape?, hg]) h0 (by simp [World.frozen?, hv]) (by simp [World.frozen?, hv])]
  rfl

/-- 'copy' of elements of two cells each: all is read before anything is written. -/
theorem run_copy_cells2 {P : Program} (w : World) (dT sT ty elem : TypeId) (b o dLen dCap : Nat) (a : Addr) (sLen sCap : Nat) (cs : List Value)
    (hu : P.underlying dT = some (.slice elem)) (hs : (P.info? elem).map (·.size) = some 2) (hn : cs.length = Nat.min sLen dLen * 2)
    (hsrc : ∀ j v, cs[j]? = some v → w.cell? (a.add j) = some v) (hc : ∀ j, j < cs.length → (w.cell? ⟨b, o + j, none⟩).isSome = true) (hf : ∀ j, j < cs.length → w.frozen? ⟨b, o + j, none⟩ = false) (h1 : ∀ v ∈ cs, v.oneCell' = true) :
    (Builtin.copy_ #[dT, sT] ty #[.slice (some ⟨b, o, none⟩) dLen dCap, .slice (some a) sLen sCap]).run P w = .ok (goInt (Nat.min sLen dLen)) (w.setCells b o cs) := by
  have hl := run_loadCells_list (P := P) w a cs hsrc
  have hst := run_storeCells_cells (P := P) b o cs 0 w (by simpa using hc) (by simpa using hf) h1
  cases hq : P.info? elem with
  | none => simp [hq] at hs
  | some i =>
    have hi : i.size = 2 := by simpa [hq] using hs
    simp [Builtin.copy_, run_underlying hu, Builtin.lenOf, Builtin.firstCells, sizeOf, typeInfo, hq, hi, ← hn, hl, hst]

theorem copyi {w : World} {g : Nat} {cs : List Value} (hg : w.heap[g]? = some (.cells cs.toArray 57 (0, 0))) {o dl dc sl sc k : Nat} {a : Addr} {us : List Value} (hk : k = Nat.min sl dl) (hu : us.length = k * 2) (ho : o + us.length ≤ cs.length)
    (hsrc : ∀ j v, us[j]? = some v → w.cell? (a.add j) = some v) (h1 : ∀ v ∈ us, v.oneCell' = true) (ty : TypeId) :
    (Builtin.copy_ #[61, 61] ty #[.slice (some ⟨g, o, none⟩) dl dc, .slice (some a) sl sc]).run Tryz.prog w = .ok (goInt k) (w.setCells g o us) := by
  subst hk
  exact run_copy_cells2 w 61 61 ty 57 g o dl dc a sl sc us (by kernel_rfl) sizei hu hsrc
    (fun j hj => by simp only [World.cell?, hg]; simp; omega)
    (fun j hj => by simp [World.frozen?, hg]) h1

/-- append(s[:i], make(S, k)...), no room: a new row. -/
theorem growzi {w : World} {g i k cap : Nat} {cs : List Value} (hg : w.heap[g]? = some (.cells cs.toArray 57 (0, 0))) (hcl : cs.length = cap * 2) (hi : i ≤ cap) (hk : 0 < k) (hroom : cap < i + k) (hb : i + k ≤ 1000000) :
    ∃ (G : Nat) (zs : List Value), (∀ ty, (Builtin.append_ #[61, 3] ty #[.slice (some ⟨g, 0, none⟩) i cap, .int .i64 (k : Int)]).run Tryz.prog w = .ok (.slice (some ⟨w.heap.size, 0, none⟩) (i + k) G) (w.drew.alloc (.cells (cs.take (i * 2) ++ zs).toArray 57))) ∧
      (cs.take (i * 2) ++ zs).length = G * 2 ∧ i + k ≤ G ∧ G ≤ maxLen := by
  obtain ⟨i0, hi0, hz, hs, hby⟩ := infoi
  have hold : (Builtin.firstCells i0.size i (.slice (some ⟨g, 0, none⟩) i cap)).run Tryz.prog w.drew = .ok (cs.take (i * 2)).toArray w.drew := by
    rw [hs]
    refine run_firstCells_some w.drew 2 i ⟨g, 0, none⟩ i cap (cs.take (i * 2)) (by rw [List.length_take]; omega) (fun j v hj => ?_)
    have := cells_read (w := w.drew) (o := 0) hg j v
    rw [List.drop_zero] at this
    rw [List.getElem?_take] at hj
    split at hj
    · exact this hj
    · cases hj
  have hr := fun ty => Lib.run_append_grow_zeros w 61 3 ty 57 i0 (.agg #[.slice none 0 0, .int .i64 0]) .i64 .i64 (by kernel_rfl) (by kernel_rfl) hi0 hz (some ⟨g, 0, none⟩) i cap (cs.take (i * 2)) hold k hk (by omega) hroom (by omega) (by rw [hby]; omega) (by rw [hby]; exact growslice_fits hroom (by omega))
  have hG := grownCap_ge w (i + k) cap 57
  have hM := grownCap_le_maxLen w (i + k) cap 57 (by unfold maxLen; omega)
  generalize grownCap w (i + k) cap 57 = G at hr hG hM
  refine ⟨G, (Builtin.zeroCells (.agg #[.slice none 0 0, .int .i64 0] : Value).cells k ++ Builtin.zeroCells (.agg #[.slice none 0 0, .int .i64 0] : Value).cells (G - (i + k))).toList, fun ty => ?_, ?_, hG, hM⟩
  · rw [hr ty]
    congr 3
    apply Array.ext'
    simp
  · have hzc : ∀ m, (Builtin.zeroCells (.agg #[.slice none 0 0, .int .i64 0] : Value).cells m).size = m * 2 := fun m => by simp [Builtin.zeroCells, Value.cells]
    simp only [List.length_append, List.length_take, Array.toList_append, Array.length_toList, hzc]
    omega

theorem sizek : (Tryz.prog.info? 109).map (·.size) = some 1 := by
  obtain ⟨i, hi, _, hs, _⟩ := infok
  rw [hi]
  simp [hs]

theorem sizeOfk (w : World) : (Go.sizeOf 109).run Tryz.prog w = .ok 1 w := by
  obtain ⟨i, hi, _, hs, _⟩ := infok
  simp [Go.sizeOf, typeInfo, hi, hs]

theorem apartk {w : World} {g vb : Nat} {cs us : List Value} (hg : w.heap[g]? = some (.cells cs.toArray 109 (0, 0))) (hv : w.heap[vb]? = some (.cells us.toArray 109 (0, 0))) (h0 : cs.length ≠ 0) (hne : vb ≠ g) (vo m vc o lb cb : Nat) :
    (callFunc 102 #[.slice (some ⟨vb, vo, none⟩) m vc, .slice (some ⟨g, o, none⟩) lb cb]).run Tryz.prog w = .ok (.value (.bool false)) w := by
  rw [run_callFunc_extern Tryz.func102 (by kernel_rfl) (by kernel_rfl) (by kernel_rfl) (e := Extern.SlicesOverlaps.overlaps #[114, 114] #[4]) (by kernel_rfl),
    Lib.run_overlaps_apart w 114 4 109 (by kernel_rfl) 1 sizeOfk ⟨vb, vo, none⟩ ⟨g, o, none⟩ m vc lb cb hne 109 109 us.length cs.length (by simp [World.shape?, hv]) (by simp [World.shape?, hg]) h0 (by simp [World.frozen?, hv]) (by simp [World.frozen?, hv])]
  rfl

theorem copyk {w : World} {g : Nat} {cs : List Value} (hg : w.heap[g]? = some (.cells cs.toArray 109 (0, 0))) {o dl dc sl sc : Nat} {a : Addr} {us : List Value} (hu : us.length = Nat.min sl dl) (ho : o + us.length ≤ cs.length)
    (hsrc : ∀ j v, us[j]? = some v → w.cell? (a.add j) = some v) (h1 : ∀ v ∈ us, v.oneCell' = true) (ty : TypeId) :
    (Builtin.copy_ #[114, 114] ty #[.slice (some ⟨g, o, none⟩) dl dc, .slice (some a) sl sc]).run Tryz.prog w = .ok (goInt us.length) (w.setCells g o us) :=
  run_copy_cells w 114 114 ty 109 g o dl dc a sl sc us (by kernel_rfl) sizek hu hsrc
    (fun j hj => by simp only [World.cell?, hg]; simp; omega)
    (fun j hj => by simp [World.frozen?, hg]) h1

/-- append(s[:i], make(S, k)...), no room: a new row. -/
theorem growzk {w : World} {g i k cap : Nat} {cs : List Value} (hg : w.heap[g]? = some (.cells cs.toArray 109 (0, 0))) (hcl : cs.length = cap) (hi : i ≤ cap) (hk : 0 < k) (hroom : cap < i + k) (hb : i + k ≤ 1000000) :
    ∃ (G : Nat) (zs : List Value), (∀ ty, (Builtin.append_ #[114, 3] ty #[.slice (some ⟨g, 0, none⟩) i cap, .int .i64 (k : Int)]).run Tryz.prog w = .ok (.slice (some ⟨w.heap.size, 0, none⟩) (i + k) G) (w.drew.alloc (.cells (cs.take i ++ zs).toArray 109))) ∧
      (cs.take i ++ zs).length = G ∧ i + k ≤ G ∧ G ≤ maxLen := by
  obtain ⟨i0, hi0, hz, hs, hby⟩ := infok
  have hold : (Builtin.firstCells i0.size i (.slice (some ⟨g, 0, none⟩) i cap)).run Tryz.prog w.drew = .ok (cs.take i).toArray w.drew := by
    rw [hs]
    refine run_firstCells_some w.drew 1 i ⟨g, 0, none⟩ i cap (cs.take i) (by rw [List.length_take]; omega) (fun j v hj => ?_)
    have := cells_read (w := w.drew) (o := 0) hg j v
    rw [List.drop_zero] at this
    rw [List.getElem?_take] at hj
    split at hj
    · exact this hj
    · cases hj
  have hr := fun ty => Lib.run_append_grow_zeros w 114 3 ty 109 i0 (.pointer none) .i64 .i64 (by kernel_rfl) (by kernel_rfl) hi0 hz (some ⟨g, 0, none⟩) i cap (cs.take i) hold k hk (by omega) hroom (by omega) (by rw [hby]; omega) (by rw [hby]; exact growslice_fits hroom (by omega))
  have hG := grownCap_ge w (i + k) cap 109
  have hM := grownCap_le_maxLen w (i + k) cap 109 (by unfold maxLen; omega)
  generalize grownCap w (i + k) cap 109 = G at hr hG hM
  refine ⟨G, (Builtin.zeroCells ((.pointer none) : Value).cells k ++ Builtin.zeroCells ((.pointer none) : Value).cells (G - (i + k))).toList, fun ty => ?_, ?_, hG, hM⟩
  · rw [hr ty]
    congr 3
    apply Array.ext'
    simp
  · simp [Builtin.zeroCells, Value.cells]
    omega

/-- Where vs stands in a row from o on, what was behind o behind it. -/
theorem spl_insert {cs xs vs : List Value} {n i j : Nat} (hxs : cs.take n = xs) (hn : n ≤ cs.length) (hij : i ≤ j) (hjn : j ≤ n) (hfit : i + vs.length + (n - j) ≤ cs.length) :
    (spl (spl cs (i + vs.length) (xs.drop j)) i vs).take (i + vs.length + (n - j)) = xs.take i ++ vs ++ xs.drop j := by
  have hxl : xs.length = n := by rw [← hxs, List.length_take]; omega
  have h1 : (xs.drop j).length = n - j := by rw [List.length_drop, hxl]
  have h2 : (spl cs (i + vs.length) (xs.drop j)).take i = xs.take i := by
    rw [spl, List.append_assoc, List.take_append_of_le_length (by rw [List.length_take]; omega), List.take_take, ← hxs, List.take_take]
    congr 1
    omega
  have h3 : ((spl cs (i + vs.length) (xs.drop j)).drop (i + vs.length)).take (n - j) = xs.drop j := by
    have e : (cs.take (i + vs.length)).length = i + vs.length := by rw [List.length_take]; omega
    rw [spl, List.append_assoc]
    rw [List.drop_append_of_le_length (by omega), List.drop_of_length_le (by omega), List.nil_append, List.take_append_of_le_length (by omega), List.take_of_length_le (by omega)]
  rw [spl, h2]
  have e : (xs.take i ++ vs).length = i + vs.length := by rw [List.length_append, List.length_take]; omega
  rw [List.take_append, e, List.take_of_length_le (by omega), show i + vs.length + (n - j) - (i + vs.length) = n - j by omega, h3]

theorem spl_behind {cs xs vs zs : List Value} {n i j : Nat} (hxs : cs.take n = xs) (hn : n ≤ cs.length) (hij : i ≤ j) (hjn : j ≤ n) :
    (spl (spl (cs.take i ++ zs) i vs) (i + vs.length) (xs.drop j)).take (i + vs.length + (n - j)) = xs.take i ++ vs ++ xs.drop j := by
  have hxl : xs.length = n := by rw [← hxs, List.length_take]; omega
  have e1 : (cs.take i).length = i := by rw [List.length_take]; omega
  have e2 : xs.take i = cs.take i := by rw [← hxs, List.take_take]; congr 1; omega
  have e3 : (spl (cs.take i ++ zs) i vs).take (i + vs.length) = cs.take i ++ vs := by
    rw [spl, List.take_append_of_le_length (l₁ := cs.take i) (by omega), List.take_of_length_le (by omega : (cs.take i).length ≤ i)]
    rw [List.take_append_of_le_length (by rw [List.length_append]; omega), List.take_of_length_le (by rw [List.length_append]; omega)]
  have e4 : (xs.drop j).length = n - j := by rw [List.length_drop, hxl]
  rw [spl, e3, e2, List.take_append_of_le_length (by rw [List.length_append, List.length_append]; omega), List.take_of_length_le (by rw [List.length_append, List.length_append]; omega)]

end Go.Proofs.YtgfmemggfbgjeaaGreatDoor
