/-
  Copies between rows, and that two rows don't overlap. Conditions: none.
-/
import Derived.Test.YtelgbigpfiohfaaTreeLeaves
import Derived.Shelf.Spec.SlicesInsertGrow
namespace Go.Proofs.Ytelgbigpfiohfaa
open Go.RowKit Go.Extern.Stop Go.Stop Go.Extern Go.Lib
set_option maxRecDepth 1000000

theorem cells_read {w : World} {g : Nat} {T : TypeId} {cs : List Value} {fr : Nat × Nat} (hg : w.heap[g]? = some (.cells cs.toArray T fr)) (o : Nat) : ∀ (j : Nat) (v : Value), (cs.drop o)[j]? = some v → w.cell? ((⟨g, o, none⟩ : Addr).add j) = some v := by
  intro j v hj
  rw [List.getElem?_drop] at hj
  rw [Addr.add_lit]
  simp only [World.cell?, hg]
  simpa using hj

theorem sizei : (Try.prog.info? 2).map (·.size) = some 1 := by
  obtain ⟨i, hi, _, hs, _⟩ := infoi
  rw [hi]
  simp [hs]

theorem sizeOfi (w : World) : (Go.sizeOf 2).run Try.prog w = .ok 1 w := by
  obtain ⟨i, hi, _, hs, _⟩ := infoi
  simp [Go.sizeOf, typeInfo, hi, hs]

theorem aparti {w : World} {g vb : Nat} {cs us : List Value} (hg : w.heap[g]? = some (.cells cs.toArray 2 (0, 0))) (hv : w.heap[vb]? = some (.cells us.toArray 2 (0, 0))) (h0 : cs.length ≠ 0) (hne : vb ≠ g) (vo m vc o lb cb : Nat) :
    (callFunc 68 #[.slice (some ⟨vb, vo, none⟩) m vc, .slice (some ⟨g, o, none⟩) lb cb]).run Try.prog w = .ok (.value (.bool false)) w := by
  rw [run_callFunc_extern Try.func68 (by kernel_rfl) (by kernel_rfl) (by kernel_rfl) (e := Extern.SlicesOverlaps.overlaps #[38, 38] #[4]) (by kernel_rfl),
    Lib.run_overlaps_apart w 38 4 2 (by kernel_rfl) 1 sizeOfi ⟨vb, vo, none⟩ ⟨g, o, none⟩ m vc lb cb hne 2 2 us.length cs.length (by simp [World.shape?, hv]) (by simp [World.shape?, hg]) h0 (by simp [World.frozen?, hv]) (by simp [World.frozen?, hv])]
  rfl

theorem copyi {w : World} {g : Nat} {cs : List Value} (hg : w.heap[g]? = some (.cells cs.toArray 2 (0, 0))) {o dl dc sl sc : Nat} {a : Addr} {us : List Value} (hu : us.length = Nat.min sl dl) (ho : o + us.length ≤ cs.length)
    (hsrc : ∀ j v, us[j]? = some v → w.cell? (a.add j) = some v) (h1 : ∀ v ∈ us, v.oneCell' = true) (ty : TypeId) :
    (Builtin.copy_ #[38, 38] ty #[.slice (some ⟨g, o, none⟩) dl dc, .slice (some a) sl sc]).run Try.prog w = .ok (goInt us.length) (w.setCells g o us) :=
  run_copy_cells w 38 38 ty 2 g o dl dc a sl sc us (by kernel_rfl) sizei hu hsrc
    (fun j hj => by simp only [World.cell?, hg]; simp; omega)
    (fun j hj => by simp [World.frozen?, hg]) h1

/-- append(s[:i], make(S, k)...), no room: a new row. -/
theorem growzi {w : World} {g i k cap : Nat} {cs : List Value} (hg : w.heap[g]? = some (.cells cs.toArray 2 (0, 0))) (hcl : cs.length = cap) (hi : i ≤ cap) (hk : 0 < k) (hroom : cap < i + k) (hb : i + k ≤ 1000000) :
    ∃ (G : Nat) (zs : List Value), (∀ ty, (Builtin.append_ #[38, 3] ty #[.slice (some ⟨g, 0, none⟩) i cap, .int .i64 (k : Int)]).run Try.prog w = .ok (.slice (some ⟨w.heap.size, 0, none⟩) (i + k) G) (w.drew.alloc (.cells (cs.take i ++ zs).toArray 2))) ∧
      (cs.take i ++ zs).length = G ∧ i + k ≤ G ∧ G ≤ maxLen := by
  obtain ⟨i0, hi0, hz, hs, hby⟩ := infoi
  have hold : (Builtin.firstCells i0.size i (.slice (some ⟨g, 0, none⟩) i cap)).run Try.prog w.drew = .ok (cs.take i).toArray w.drew := by
    rw [hs]
    refine run_firstCells_some w.drew 1 i ⟨g, 0, none⟩ i cap (cs.take i) (by rw [List.length_take]; omega) (fun j v hj => ?_)
    have := cells_read (w := w.drew) (o := 0) hg j v
    rw [List.drop_zero] at this
    rw [List.getElem?_take] at hj
    split at hj
    · exact this hj
    · cases hj
  have hr := fun ty => Lib.run_append_grow_zeros w 38 3 ty 2 i0 (.int .i64 0) .i64 .i64 (by kernel_rfl) (by kernel_rfl) hi0 hz (some ⟨g, 0, none⟩) i cap (cs.take i) hold k hk (by omega) hroom (by omega) (by rw [hby]; omega) (by rw [hby]; exact growslice_fits hroom (by omega))
  have hG := grownCap_ge w (i + k) cap 2
  have hM := grownCap_le_maxLen w (i + k) cap 2 (by unfold maxLen; omega)
  generalize grownCap w (i + k) cap 2 = G at hr hG hM
  refine ⟨G, (Builtin.zeroCells ((.int .i64 0) : Value).cells k ++ Builtin.zeroCells ((.int .i64 0) : Value).cells (G - (i + k))).toList, fun ty => ?_, ?_, hG, hM⟩
  · rw [hr ty]
    congr 3
    apply Array.ext'
    simp
  · simp [Builtin.zeroCells, Value.cells]
    omega

theorem sizek : (Try.prog.info? 74).map (·.size) = some 1 := by
  obtain ⟨i, hi, _, hs, _⟩ := infok
  rw [hi]
  simp [hs]

theorem sizeOfk (w : World) : (Go.sizeOf 74).run Try.prog w = .ok 1 w := by
  obtain ⟨i, hi, _, hs, _⟩ := infok
  simp [Go.sizeOf, typeInfo, hi, hs]

theorem apartk {w : World} {g vb : Nat} {cs us : List Value} (hg : w.heap[g]? = some (.cells cs.toArray 74 (0, 0))) (hv : w.heap[vb]? = some (.cells us.toArray 74 (0, 0))) (h0 : cs.length ≠ 0) (hne : vb ≠ g) (vo m vc o lb cb : Nat) :
    (callFunc 72 #[.slice (some ⟨vb, vo, none⟩) m vc, .slice (some ⟨g, o, none⟩) lb cb]).run Try.prog w = .ok (.value (.bool false)) w := by
  rw [run_callFunc_extern Try.func72 (by kernel_rfl) (by kernel_rfl) (by kernel_rfl) (e := Extern.SlicesOverlaps.overlaps #[78, 78] #[4]) (by kernel_rfl),
    Lib.run_overlaps_apart w 78 4 74 (by kernel_rfl) 1 sizeOfk ⟨vb, vo, none⟩ ⟨g, o, none⟩ m vc lb cb hne 74 74 us.length cs.length (by simp [World.shape?, hv]) (by simp [World.shape?, hg]) h0 (by simp [World.frozen?, hv]) (by simp [World.frozen?, hv])]
  rfl

theorem copyk {w : World} {g : Nat} {cs : List Value} (hg : w.heap[g]? = some (.cells cs.toArray 74 (0, 0))) {o dl dc sl sc : Nat} {a : Addr} {us : List Value} (hu : us.length = Nat.min sl dl) (ho : o + us.length ≤ cs.length)
    (hsrc : ∀ j v, us[j]? = some v → w.cell? (a.add j) = some v) (h1 : ∀ v ∈ us, v.oneCell' = true) (ty : TypeId) :
    (Builtin.copy_ #[78, 78] ty #[.slice (some ⟨g, o, none⟩) dl dc, .slice (some a) sl sc]).run Try.prog w = .ok (goInt us.length) (w.setCells g o us) :=
  run_copy_cells w 78 78 ty 74 g o dl dc a sl sc us (by kernel_rfl) sizek hu hsrc
    (fun j hj => by simp only [World.cell?, hg]; simp; omega)
    (fun j hj => by simp [World.frozen?, hg]) h1

/-- append(s[:i], make(S, k)...), no room: a new row. -/
theorem growzk {w : World} {g i k cap : Nat} {cs : List Value} (hg : w.heap[g]? = some (.cells cs.toArray 74 (0, 0))) (hcl : cs.length = cap) (hi : i ≤ cap) (hk : 0 < k) (hroom : cap < i + k) (hb : i + k ≤ 1000000) :
    ∃ (G : Nat) (zs : List Value), (∀ ty, (Builtin.append_ #[78, 3] ty #[.slice (some ⟨g, 0, none⟩) i cap, .int .i64 (k : Int)]).run Try.prog w = .ok (.slice (some ⟨w.heap.size, 0, none⟩) (i + k) G) (w.drew.alloc (.cells (cs.take i ++ zs).toArray 74))) ∧
      (cs.take i ++ zs).length = G ∧ i + k ≤ G ∧ G ≤ maxLen := by
  obtain ⟨i0, hi0, hz, hs, hby⟩ := infok
  have hold : (Builtin.firstCells i0.size i (.slice (some ⟨g, 0, none⟩) i cap)).run Try.prog w.drew = .ok (cs.take i).toArray w.drew := by
    rw [hs]
    refine run_firstCells_some w.drew 1 i ⟨g, 0, none⟩ i cap (cs.take i) (by rw [List.length_take]; omega) (fun j v hj => ?_)
    have := cells_read (w := w.drew) (o := 0) hg j v
    rw [List.drop_zero] at this
    rw [List.getElem?_take] at hj
    split at hj
    · exact this hj
    · cases hj
  have hr := fun ty => Lib.run_append_grow_zeros w 78 3 ty 74 i0 (.pointer none) .i64 .i64 (by kernel_rfl) (by kernel_rfl) hi0 hz (some ⟨g, 0, none⟩) i cap (cs.take i) hold k hk (by omega) hroom (by omega) (by rw [hby]; omega) (by rw [hby]; exact growslice_fits hroom (by omega))
  have hG := grownCap_ge w (i + k) cap 74
  have hM := grownCap_le_maxLen w (i + k) cap 74 (by unfold maxLen; omega)
  generalize grownCap w (i + k) cap 74 = G at hr hG hM
  refine ⟨G, (Builtin.zeroCells ((.pointer none) : Value).cells k ++ Builtin.zeroCells ((.pointer none) : Value).cells (G - (i + k))).toList, fun ty => ?_, ?_, hG, hM⟩
  · rw [hr ty]
    congr 3
    apply Array.ext'
    simp
  · simp [Builtin.zeroCells, Value.cells]
    omega

/-- Where vs stands in a row from o on, what was behind o behind it. -/
theorem spl_insert {cs xs vs : List Value} {n i j : Nat} (hxs : cs.take n = xs) (hn : n ≤ cs.length) (hij : i ≤ j) (hjn : j ≤ n) (hfit : i + vs.length + (n - j) ≤ cs.length) :
    (spl (spl cs (i + vs.length) (xs.drop j)) i vs).take (i + vs.length + (n - j)) = xs.take i ++ vs ++ xs.drop j := by
  have hxl : xs.length = n := by rw [← hxs, List.length_take]; omega
  have h1 : (xs.drop j).length = n - j := by rw [List.length_drop, hxl]
  have h2 : (spl cs (i + vs.length) (xs.drop j)).take i = xs.take i := by
    rw [spl, List.append_assoc, List.take_append_of_le_length (by rw [List.length_take]; omega), List.take_take, ← hxs, List.take_take]
    congr 1
    omega
  have h3 : ((spl cs (i + vs.length) (xs.drop j)).drop (i + vs.length)).take (n - j) = xs.drop j := by
    have e : (cs.take (i + vs.length)).length = i + vs.length := by rw [List.length_take]; omega
    rw [spl, List.append_assoc]
    rw [List.drop_append_of_le_length (by omega), List.drop_of_length_le (by omega), List.nil_append, List.take_append_of_le_length (by omega), List.take_of_length_le (by omega)]
  rw [spl, h2]
  have e : (xs.take i ++ vs).length = i + vs.length := by rw [List.length_append, List.length_take]; omega
  rw [List.take_append, e, List.take_of_length_le (by omega), show i + vs.length + (n - j) - (i + vs.length) = n - j by omega, h3]

theorem spl_behind {cs xs vs zs : List Value} {n i j : Nat} (hxs : cs.take n = xs) (hn : n ≤ cs.length) (hij : i ≤ j) (hjn : j ≤ n) :
    (spl (spl (cs.take i ++ zs) i vs) (i + vs.length) (xs.drop j)).take (i + vs.length + (n - j)) = xs.take i ++ vs ++ xs.drop j := by
  have hxl : xs.length = n := by rw [← hxs, List.length_take]; omega
  have e1 : (cs.take i).length = i := by rw [List.length_take]; omega
  have e2 : xs.take i = cs.take i := by rw [← hxs, List.take_take]; congr 1; omega
  have e3 : (spl (cs.take i ++ zs) i vs).take (i + vs.length) = cs.take i ++ vs := by
    rw [spl, List.take_append_of_le_length (l₁ := cs.take i) (by omega), List.take_of_length_le (by omega : (cs.take i).length ≤ i)]
    rw [List.take_append_of_le_length (by rw [List.length_append]; omega), List.take_of_length_le (by rw [List.length_append]; omega)]
  have e4 : (xs.drop j).length = n - j := by rw [List.length_drop, hxl]
  rw [spl, e3, e2, List.take_append_of_le_length (by rw [List.length_append, List.length_append]; omega), List.take_of_length_le (by rw [List.length_append, List.length_append]; omega)]

end Go.Proofs.Ytelgbigpfiohfaa
