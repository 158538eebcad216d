/-
  The statement UndoPlays: what the log and the statement's own three lists hold together. Conditions: none.
-/
import Derived.Test.YthofmccpfknjnaaUndoD
import Derived.Test.YthofmccpfknjnaaIds
namespace Go.Proofs.Ythofmccpfknjnaa
open Go.RowKit

abbrev ints (l : List Int) : List Value := l.map (Value.int .i64)

theorem int64_info : (Try.prog.info? 2).map (fun i => (i.zero, i.size, i.bytes)) = some (some (.int .i64 0), 1, 8) := by kernel_rfl

/-- What the statement holds beside the log (block p). X: the blocks of the numbers of the steps that are in the log; M: these numbers; G: what was called; W: what should have been; N: the list that is kept beside. -/
structure PInv (w0 : World) (B p gb : Nat) (wv mv : Value) (N W : List Int) (X : List Nat) (M G : List Int) (w : World) : Prop where
  below : Below B w0 w
  gbB : B ≤ gb
  XB : ∀ b ∈ p :: X, B ≤ b
  size : B ≤ w.heap.size
  len : X.length = M.length
  xs : ∀ (j b : Nat) (x : Int), X[j]? = some b → M[j]? = some x → One w b (.int .i64 x) 2
  lt : ∀ b ∈ p :: X, b < w.heap.size
  gp : gb ≠ p
  Xp : ∀ b ∈ X, b ≠ p
  got : ∃ gv, One w gb gv 26 ∧ w.ownsRow B 2 1 gv G.length (ints G) ∧ (∀ b ∈ p :: X, gv.ownBlock ≠ some b) ∧ Apart gv wv ∧ Apart gv mv
  want : w.ownsRow B 2 1 wv W.length (ints W)
  m : w.ownsRow B 2 1 mv N.length (ints N)
  xw : ∀ b ∈ p :: X, wv.ownBlock ≠ some b
  xm : ∀ b ∈ p :: X, mv.ownBlock ≠ some b
  wm : Apart wv mv
  room : M.length + G.length ≤ 200

def playF (gb b : Nat) : Value := .func (.func 9) #[] #[.pointer (some ⟨gb, 0, none⟩), .pointer (some ⟨b, 0, none⟩)]

theorem plays1_calls (cap : Array Value) (w : World) : (callFunc 9 cap).run Try.prog w = .ok (.enter 9 cap) w := by kernel_rfl

/-- One call of a step: its number goes behind the others. -/
theorem plays1_any {w : World} {B gb b : Nat} {gv : Value} {G : List Int} {x : Int} (hg : One w gb gv 26) (hown : w.ownsRow B 2 1 gv G.length (ints G)) (hb : One w b (.int .i64 x) 2)
    (hB : B ≤ w.heap.size) (hn : G.length ≤ 1000) :
    Calls Try.prog 9 #[.pointer (some ⟨gb, 0, none⟩), .pointer (some ⟨b, 0, none⟩)] w fun e w' => e = .returned (.tuple #[]) ∧
      ∃ gv', One w' gb gv' 26 ∧ w'.ownsRow B 2 1 gv' (G.length + 1) (ints G ++ [.int .i64 x]) ∧ (∀ k, gv'.ownBlock = some k → gv.ownBlock = some k ∨ w.heap.size ≤ k) ∧
        Same (fun k => k = gb ∨ gv.ownBlock = some k) w w' := by
  have c0 := hg.cell
  have c1 := hb.cell
  have hne := own_ne hown hg (by decide)
  have HG := Lib.hid hg; have HN := Lib.hid hne
  have HB := Lib.hid hb
  have hgl := hg.lt
  clear hg hb hne
  go_enter Try.func9, Try.ntmps9
  go_wp2_with (at_builtin; refine wpList_append_elem w rfl _ _ 26 rfl B 2 (.int .i64 0) 1 8 Try.underlying26 int64_info rfl (by decide) gv G.length (ints G) rfl hown [.int .i64 x] _ rfl rfl ?c1 ?c2 ?c3 ?c4 ?_)
  case c1 => intro u hu; simp at hu; subst hu; rfl
  case c2 => unfold maxLen; omega
  case c3 => omega
  case c4 => exact hB
  intro g cap w1 hown1 hgrow1 hwhere hg1 hs1
  have ho1 : One w1 gb gv 26 := grownBy_one hgrow1 HG.out HN.out
  have f1 := ho1.free
  have c1' := ho1.cell
  have HO1 := Lib.hid ho1; have HW1 := Lib.hid hown1; have HGR := Lib.hid hgrow1; have HWH := Lib.hid hwhere
  have hgg : g ≠ gb := by
    intro e
    rcases hwhere with h | h
    · exact HN.out (by rw [h, e])
    · omega
  have HGG := Lib.hid hgg
  clear ho1 hown1 hgrow1 hwhere hgg c0 c1
  go_wp2
  go_end0
  refine ⟨rfl, _, HO1.out.setCell _, ownsRow_setCell_other HW1.out (a := ⟨gb, 0, none⟩) (by simpa [Value.ownBlock] using HGG.out) _, fun k hk => ?_, ?_⟩
  · simp only [Value.ownBlock, Option.some.injEq] at hk
    subst hk
    exact HWH.out
  · exact ((Same.refl (fun k => k = gb ∨ gv.ownBlock = some k) w).grown HGR.out (fun k hk _ => Or.inr hk)).setCell (p := ⟨gb, 0, none⟩) (fun _ => Or.inl rfl) _

theorem PInv.one_ne {w0 : World} {B p gb : Nat} {wv mv : Value} {N W : List Int} {X : List Nat} {M G : List Int} {w : World} (h : PInv w0 B p gb wv mv N W X M G w) {b : Nat} (hb : b ∈ X) : b ≠ gb := by
  obtain ⟨j, hj, e⟩ := List.getElem_of_mem hb
  have hjM : j < M.length := h.len ▸ hj
  have h1 := h.xs j b M[j] (by rw [List.getElem?_eq_getElem hj, e]) (by rw [List.getElem?_eq_getElem hjM])
  obtain ⟨gv, h2, _⟩ := h.got
  intro e2
  subst e2
  have := h1.symm.trans h2
  simp at this

theorem ints_snoc (l : List Int) (x : Int) : ints (l ++ [x]) = ints l ++ [.int .i64 x] := by simp [ints]

/-- What a method of the log leaves. -/
theorem PInv.kept {w0 : World} {B p gb : Nat} {wv mv : Value} {N W : List Int} {X : List Nat} {M G : List Int} {w w' : World} (h : PInv w0 B p gb wv mv N W X M G w) (hk : LogKept B p w w') : PInv w0 B p gb wv mv N W X M G w' := by
  have hrow : ∀ {v : Value} {n : Nat} {xs : List Value}, w.ownsRow B 2 1 v n xs → v.ownBlock ≠ some p → w'.ownsRow B 2 1 v n xs := by
    intro v n xs hv hp
    obtain ⟨h1, h2⟩ := hv
    refine ⟨h1, ?_⟩
    rcases h2 with h2 | ⟨g, cap, cur, rfl, r2, hh, r3⟩
    · exact Or.inl h2
    · exact Or.inr ⟨g, cap, cur, rfl, r2, hk.one hh (fun e => hp (by simp [Value.ownBlock, e])) (fun cur' e => by cases e), r3⟩
  obtain ⟨gv, g1, g2, g3, g4⟩ := h.got
  exact { below := h.below.trans hk.below, gbB := h.gbB, XB := h.XB, size := Nat.le_trans h.size hk.below.size, len := h.len
          xs := fun j b x hj hx => (h.xs j b x hj hx).kept hk (h.Xp b (List.mem_of_getElem? hj)) (by decide)
          lt := fun b hb => Nat.lt_of_lt_of_le (h.lt b hb) hk.below.size
          gp := h.gp, Xp := h.Xp
          got := ⟨gv, g1.kept hk h.gp (by decide), hrow g2 (g3 p (by simp)), g3, g4⟩
          want := hrow h.want (h.xw p (by simp)), m := hrow h.m (h.xm p (by simp)), xw := h.xw, xm := h.xm, wm := h.wm, room := h.room }

/-- Where nothing of it is touched. -/
theorem PInv.same {w0 : World} {B p gb : Nat} {wv mv : Value} {N W : List Int} {X : List Nat} {M G : List Int} {w w' : World} (h : PInv w0 B p gb wv mv N W X M G w) (hs : Same (fun _ => False) w w') : PInv w0 B p gb wv mv N W X M G w' := by
  obtain ⟨gv, g1, g2, g3, g4⟩ := h.got
  exact { below := hs.below h.below h.size (fun _ hk => hk.elim), gbB := h.gbB, XB := h.XB, size := Nat.le_trans h.size hs.size, len := h.len
          xs := fun j b x hj hx => hs.one (h.xs j b x hj hx) id
          lt := fun b hb => Nat.lt_of_lt_of_le (h.lt b hb) hs.size
          gp := h.gp, Xp := h.Xp
          got := ⟨gv, hs.one g1 id, hs.row g2 (fun _ _ => id), g3, g4⟩
          want := hs.row h.want (fun _ _ => id), m := hs.row h.m (fun _ _ => id), xw := h.xw, xm := h.xm, wm := h.wm, room := h.room }

/-- Before any step: the log has just been made, then the list of what was called. -/
theorem PInv.start {w0 w : World} {B p : Nat} (h : Below B w0 w) (hB : B ≤ w.heap.size) (hp : p < w.heap.size) (hBp : B ≤ p) :
    PInv w0 B p w.heap.size (.slice none 0 0) (.slice none 0 0) [] [] [] [] [] (w.alloc (.cells #[.slice none 0 0] 26)) :=
  { below := h.alloc hB _, gbB := hB, XB := fun b hb => by simp at hb; omega, size := by simp; omega, len := rfl, xs := fun j b x hj _ => by simp at hj
    lt := fun b hb => by simp at hb; simp; omega
    gp := by omega, Xp := fun b hb => by simp at hb
    got := ⟨_, One.new _ _ _, World.ownsRow_nil _ _ _ _, fun b _ e => (by cases e), fun k e => (by cases e), fun k e => (by cases e)⟩
    want := World.ownsRow_nil _ _ _ _, m := World.ownsRow_nil _ _ _ _, xw := fun b _ e => (by cases e), xm := fun b _ e => (by cases e), wm := fun k e => (by cases e), room := by simp }

def PlaysJ (w0 : World) (B p gb : Nat) (wv mv : Value) (N W K : List Int) (gs : List Value) (w : World) : Prop :=
  ∃ X M G, gs = X.map (playF gb) ∧ PInv w0 B p gb wv mv N W X M G w ∧ G ++ M.reverse = K

theorem plays_step {w0 : World} {B p gb : Nat} {wv mv : Value} {N W K : List Int} (gs : List Value) (f : Value) (w : World) (hJ : PlaysJ w0 B p gb wv mv N W K (gs ++ [f]) w) (hl : LogAt w B p gs) :
    StepOf B p (PlaysJ w0 B p gb wv mv N W K) gs f w := by
  obtain ⟨X, M, G, e, hP, hK⟩ := hJ
  obtain ⟨X', Y, rfl, e1, e2⟩ := List.map_eq_append_iff.1 e.symm
  obtain ⟨b, rfl, rfl⟩ : ∃ b, Y = [b] ∧ f = playF gb b := by
    match Y, e2 with
    | [b], e2 => simp at e2; exact ⟨b, rfl, e2.symm⟩
  have hlen := hP.len
  obtain ⟨M', x, rfl⟩ : ∃ M' x, M = M' ++ [x] := by
    rcases List.eq_nil_or_concat M with h | ⟨M', x, h⟩
    · subst h; simp at hlen
    · exact ⟨M', x, by simpa using h⟩
  have hlen' : X'.length = M'.length := by simpa using hlen
  obtain ⟨gv, g1, g2, g3, g4, g5⟩ := hP.got
  have hroom := hP.room
  simp only [List.length_append, List.length_cons, List.length_nil, Nat.zero_add] at hroom
  have hb : One w b (.int .i64 x) 2 := hP.xs X'.length b x (by simp) (by rw [hlen']; simp)
  refine ⟨_, _, rfl, plays1_calls _, (plays1_any g1 g2 hb hP.size (by omega)).mono ?_⟩
  rintro e w' ⟨rfl, gv', o1, o2, o3, hs⟩
  have hnot : ∀ k, (k = gb ∨ gv.ownBlock = some k) → B ≤ k := fun k hk => by
    rcases hk with rfl | hk
    · exact hP.gbB
    · exact (g2.lt k hk).1
  have hrow : ∀ {v : Value} {n : Nat} {xs : List Value}, w.ownsRow B 2 1 v n xs → Apart gv v → w'.ownsRow B 2 1 v n xs := fun hv ha =>
    hs.row hv (fun k hk hn => by
      rcases hn with rfl | hn
      · exact own_ne hv g1 (by decide) hk
      · exact ha k hn hk)
  have hmem : ∀ c ∈ X', c ∈ X' ++ [b] := fun c hc => by simp [hc]
  have hmem' : ∀ c ∈ p :: X', c ∈ p :: (X' ++ [b]) := fun c hc => by
    simp only [List.mem_cons] at hc ⊢
    exact hc.imp_right (hmem c)
  have hapart : ∀ {v : Value} {n : Nat} {xs : List Value}, w.ownsRow B 2 1 v n xs → Apart gv v → Apart gv' v := fun hv ha k hk hk' => by
    rcases o3 k hk with h | h
    · exact ha k h hk'
    · have := own_lt hv hk'
      omega
  refine ⟨rfl, ⟨X', M', G ++ [x], e1.symm, ?_, by simpa using hK⟩, hl.kept fun k hk hkp => hs.block k hk ?_⟩
  · exact { below := hs.below hP.below hP.size hnot, gbB := hP.gbB, XB := fun c hc => hP.XB c (hmem' c hc), size := Nat.le_trans hP.size hs.size, len := hlen'
            xs := fun j c y hj hy => hs.one (hP.xs j c y (by rw [List.getElem?_append_left (List.getElem?_eq_some_iff.1 hj).1]; exact hj) (by rw [List.getElem?_append_left (List.getElem?_eq_some_iff.1 hy).1]; exact hy)) (fun hn => by
              have hc : c ∈ X' := List.mem_of_getElem? hj
              rcases hn with h | h
              · exact hP.one_ne (hmem c hc) h
              · exact g3 c (hmem' c (by simp [hc])) h)
            lt := fun c hc => Nat.lt_of_lt_of_le (hP.lt c (hmem' c hc)) hs.size
            gp := hP.gp, Xp := fun c hc => hP.Xp c (hmem c hc)
            got := ⟨gv', o1, by rw [ints_snoc, List.length_append]; exact o2, fun c hc hk => by
              rcases o3 c hk with h | h
              · exact g3 c (hmem' c hc) h
              · have := hP.lt c (hmem' c hc)
                omega, hapart hP.want g4, hapart hP.m g5⟩
            want := hrow hP.want g4, m := hrow hP.m g5
            xw := fun c hc => hP.xw c (hmem' c hc), xm := fun c hc => hP.xm c (hmem' c hc), wm := hP.wm, room := by simp; omega }
  · intro hn
    rcases hkp with rfl | ⟨cur, hcur⟩
    · rcases hn with h | h
      · exact hP.gp h.symm
      · exact g3 k (by simp) h
    · rcases hn with h | h
      · subst h
        have := hcur.symm.trans g1
        simp at this
      · rcases g2.2 with ⟨rfl, _⟩ | ⟨g, cap, cur', rfl, _, hh, _⟩
        · cases h
        · simp only [Value.ownBlock, Option.some.injEq] at h
          subst h
          have := hcur.symm.trans hh
          simp at this

theorem own_cut {w : World} {B : Nat} {e : TypeId} {ao : Option Addr} {n k cap : Nat} {xs : List Value} (h : w.ownsRow B e 1 (.slice ao n cap) n xs) (hk : k ≤ n) : w.ownsRow B e 1 (.slice ao k cap) k (xs.take k) := by
  obtain ⟨h1, h2⟩ := h
  refine ⟨by simp; omega, ?_⟩
  rcases h2 with ⟨h2, h3⟩ | ⟨g, cap', cur, h2, h3, h4, h5, h6, h7, h8⟩
  · cases h2
    have : k = 0 := by omega
    subst this
    exact Or.inl ⟨rfl, rfl⟩
  · cases h2
    refine Or.inr ⟨g, cap, cur, rfl, h3, h4, by omega, h6, h7, ?_⟩
    rw [← h8, List.take_take, Nat.mul_one, Nat.mul_one, Nat.min_eq_left hk]

section
variable {w0 : World} {B p gb : Nat} {wv mv : Value} {N W : List Int} {X : List Nat} {M G : List Int} {w w' : World}

/-- A step's number has just been laid. -/
theorem PInv.push (h : PInv w0 B p gb wv mv N W X M G w) (x : Int) (hr : M.length + 1 + G.length ≤ 200) :
    PInv w0 B p gb wv mv N W (X ++ [w.heap.size]) (M ++ [x]) G (w.alloc (.cells #[.int .i64 x] 2)) := by
  have h' := h.same ((Same.refl (fun _ => False) w).alloc (.cells #[.int .i64 x] 2))
  obtain ⟨gv, g1, g2, g3, g4⟩ := h'.got
  obtain ⟨gv0, g10, g20, _⟩ := h.got
  have hmem : ∀ {c : Nat}, c ∈ p :: (X ++ [w.heap.size]) → c ∈ p :: X ∨ c = w.heap.size := fun hc => by
    simp only [List.mem_cons, List.mem_append, List.not_mem_nil, or_false] at hc ⊢
    rcases hc with hc | hc | hc
    · exact Or.inl (Or.inl hc)
    · exact Or.inl (Or.inr hc)
    · exact Or.inr hc
  have hfresh : ∀ {v : Value} {n : Nat} {xs : List Value}, w.ownsRow B 2 1 v n xs → v.ownBlock ≠ some w.heap.size := fun hv hk => by
    have := own_lt hv hk
    omega
  obtain ⟨gv1, g11, g21, g31, g41⟩ := h.got
  have hs := (Same.refl (fun _ => False) w).alloc (.cells #[.int .i64 x] 2)
  exact { below := h'.below, gbB := h'.gbB, size := h'.size, gp := h'.gp, wm := h'.wm, want := h'.want, m := h'.m
          XB := fun c hc => (hmem hc).elim (h'.XB c) (fun e => by subst e; exact h.size)
          len := by simp [h.len]
          xs := fun j c y hj hy => by
            by_cases hjl : j < X.length
            · rw [List.getElem?_append_left hjl] at hj
              rw [List.getElem?_append_left (h.len ▸ hjl)] at hy
              exact h'.xs j c y hj hy
            · have hje : j = X.length := by have := (List.getElem?_eq_some_iff.1 hj).1; simp at this; omega
              subst hje
              simp at hj
              rw [h.len] at hy
              simp at hy
              subst hj; subst hy
              exact One.new _ _ _
          lt := fun c hc => (hmem hc).elim (h'.lt c) (fun e => by subst e; simp)
          Xp := fun c hc => by
            simp only [List.mem_append, List.mem_cons, List.not_mem_nil, or_false] at hc
            rcases hc with hc | hc
            · exact h.Xp c hc
            · subst hc; have := h.lt p (by simp); omega
          got := ⟨gv1, hs.one g11 id, hs.row g21 (fun _ _ => id), fun c hc => (hmem hc).elim (g31 c) (fun e => by subst e; exact hfresh g21), g41⟩
          xw := fun c hc => (hmem hc).elim (h'.xw c) (fun e => by subst e; exact hfresh h.want)
          xm := fun c hc => (hmem hc).elim (h'.xm c) (fun e => by subst e; exact hfresh h.m)
          room := by simp; omega }

/-- The list beside grows by one. -/
theorem PInv.mApp (h : PInv w0 B p gb wv mv N W X M G w) {g cap : Nat} {x : Int} (ho : w'.ownsRow B 2 1 (.slice (some ⟨g, 0, none⟩) (N.length + 1) cap) (N.length + 1) (ints N ++ [.int .i64 x]))
    (hg : w.grownBy w' mv.ownBlock) (hw : mv.ownBlock = some g ∨ w.heap.size ≤ g) :
    PInv w0 B p gb wv (.slice (some ⟨g, 0, none⟩) (N ++ [x]).length cap) (N ++ [x]) W X M G w' := by
  have hs : Same (fun k => mv.ownBlock = some k) w w' := (Same.refl (fun k => mv.ownBlock = some k) w).grown hg (fun k hk _ => hk)
  obtain ⟨gv, g1, g2, g3, g4, g5⟩ := h.got
  have hap : ∀ {v : Value} {n : Nat} {xs : List Value} (n' : Nat), w.ownsRow B 2 1 v n xs → Apart v mv → Apart v (.slice (some ⟨g, 0, none⟩) n' cap) := fun n' hv ha k hk hk' => by
    simp only [Value.ownBlock, Option.some.injEq] at hk'
    subst hk'
    rcases hw with hw | hw
    · exact ha g hk hw
    · have := own_lt hv hk; omega
  exact { below := hs.below h.below h.size (fun k hk => (h.m.lt k hk).1), gbB := h.gbB, XB := h.XB, size := Nat.le_trans h.size hs.size, len := h.len
          xs := fun j b y hj hy => hs.one (h.xs j b y hj hy) (h.xm b (by simp [List.mem_of_getElem? hj]))
          lt := fun b hb => Nat.lt_of_lt_of_le (h.lt b hb) hs.size
          gp := h.gp, Xp := h.Xp
          got := ⟨gv, hs.one g1 (own_ne h.m g1 (by decide)), hs.row g2 (fun k hk => g5 k hk), g3, g4, hap _ g2 g5⟩
          want := hs.row h.want (fun k hk => h.wm k hk), m := by rw [ints_snoc, List.length_append]; exact ho, xw := h.xw
          xm := fun b hb hk => by
            simp only [Value.ownBlock, Option.some.injEq] at hk
            subst hk
            rcases hw with hw | hw
            · exact h.xm _ hb hw
            · have := h.lt _ hb; omega
          wm := hap _ h.want h.wm, room := h.room }

/-- The list of what should have been called grows by one. -/
theorem PInv.wApp (h : PInv w0 B p gb wv mv N W X M G w) {g cap : Nat} {x : Int} (ho : w'.ownsRow B 2 1 (.slice (some ⟨g, 0, none⟩) (W.length + 1) cap) (W.length + 1) (ints W ++ [.int .i64 x]))
    (hg : w.grownBy w' wv.ownBlock) (hw : wv.ownBlock = some g ∨ w.heap.size ≤ g) :
    PInv w0 B p gb (.slice (some ⟨g, 0, none⟩) (W ++ [x]).length cap) mv N (W ++ [x]) X M G w' := by
  have hs : Same (fun k => wv.ownBlock = some k) w w' := (Same.refl (fun k => wv.ownBlock = some k) w).grown hg (fun k hk _ => hk)
  obtain ⟨gv, g1, g2, g3, g4, g5⟩ := h.got
  have hap : ∀ {v : Value} {n : Nat} {xs : List Value} (n' : Nat), w.ownsRow B 2 1 v n xs → Apart v wv → Apart v (.slice (some ⟨g, 0, none⟩) n' cap) := fun n' hv ha k hk hk' => by
    simp only [Value.ownBlock, Option.some.injEq] at hk'
    subst hk'
    rcases hw with hw | hw
    · exact ha g hk hw
    · have := own_lt hv hk; omega
  exact { below := hs.below h.below h.size (fun k hk => (h.want.lt k hk).1), gbB := h.gbB, XB := h.XB, size := Nat.le_trans h.size hs.size, len := h.len
          xs := fun j b y hj hy => hs.one (h.xs j b y hj hy) (h.xw b (by simp [List.mem_of_getElem? hj]))
          lt := fun b hb => Nat.lt_of_lt_of_le (h.lt b hb) hs.size
          gp := h.gp, Xp := h.Xp
          got := ⟨gv, hs.one g1 (own_ne h.want g1 (by decide)), hs.row g2 (fun k hk => g4 k hk), g3, hap _ g2 g4, g5⟩
          want := by rw [ints_snoc, List.length_append]; exact ho
          m := hs.row h.m (fun k hk => h.wm.symm k hk), xm := h.xm
          xw := fun b hb hk => by
            simp only [Value.ownBlock, Option.some.injEq] at hk
            subst hk
            rcases hw with hw | hw
            · exact h.xw _ hb hw
            · have := h.lt _ hb; omega
          wm := (hap _ h.m h.wm.symm).symm, room := h.room }

/-- The list beside is cut. -/
theorem PInv.mCut {ao : Option Addr} {cap : Nat} (h : PInv w0 B p gb wv (.slice ao N.length cap) N W X M G w) (k : Nat) (hk : k ≤ N.length) :
    PInv w0 B p gb wv (.slice ao k cap) (N.take k) W X M G w := by
  have hob : ∀ n n' : Nat, (Value.slice ao n cap).ownBlock = (Value.slice ao n' cap).ownBlock := fun n n' => by cases ao <;> rfl
  obtain ⟨gv, g1, g2, g3, g4, g5⟩ := h.got
  exact { h with
          m := by
            have := own_cut h.m hk
            rw [ints, ← List.map_take] at this
            rw [List.length_take, Nat.min_eq_left hk]
            exact this
          xm := fun b hb => by rw [hob k N.length]; exact h.xm b hb
          wm := fun c hc => by rw [hob k N.length]; exact h.wm c hc
          got := ⟨gv, g1, g2, g3, g4, fun c hc => by rw [hob k N.length]; exact g5 c hc⟩ }

/-- Steps that are forgotten. -/
theorem PInv.forget (h : PInv w0 B p gb wv mv N W X M G w) (k : Nat) : PInv w0 B p gb wv mv N W (X.take k) (M.take k) G w := by
  have hsub : ∀ {c : Nat}, c ∈ p :: X.take k → c ∈ p :: X := fun hc => by
    simp only [List.mem_cons] at hc ⊢
    exact hc.imp_right List.mem_of_mem_take
  obtain ⟨gv, g1, g2, g3, g4⟩ := h.got
  exact { h with
          XB := fun c hc => h.XB c (hsub hc), len := by simp [h.len]
          xs := fun j c y hj hy => by
            rw [List.getElem?_take] at hj hy
            split at hj
            · rw [if_pos ‹_›] at hy
              exact h.xs j c y hj hy
            · cases hj
          lt := fun c hc => h.lt c (hsub hc), Xp := fun c hc => h.Xp c (List.mem_of_mem_take hc)
          got := ⟨gv, g1, g2, fun c hc => g3 c (hsub hc), g4⟩
          xw := fun c hc => h.xw c (hsub hc), xm := fun c hc => h.xm c (hsub hc)
          room := by have := h.room; simp; omega }
end

end Go.Proofs.Ythofmccpfknjnaa
