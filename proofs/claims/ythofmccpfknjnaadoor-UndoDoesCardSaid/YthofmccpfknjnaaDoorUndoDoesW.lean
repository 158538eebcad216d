/-
  The statement UndoDoes: the walk: it answers true and turns nothing that was there. Condition: the variable that errors.As reads holds the type of error.
-/
import Derived.Test.YthofmccpfknjnaaDoorUndoDoesW2
import Derived.Test.YthofmccpfknjnaaDoorClassEn
namespace Go.Proofs.YthofmccpfknjnaaDoor
open Go.RowKit
set_option maxRecDepth 100000

theorem Handle.below {B : Nat} {w w' : World} (h : Handle w) (hb : Below B w w') (hB : 0 < B) : Handle w' := by
  unfold Handle at *
  exact (hb.cell (p := ⟨0, 0, none⟩) hB).trans h

theorem Handle.lt {w : World} (h : Handle w) : 0 < w.heap.size := by
  unfold Handle at h
  rcases Nat.lt_or_ge 0 w.heap.size with h1 | h1
  · exact h1
  · simp [World.cell?, Array.getElem?_eq_none h1] at h

theorem below_drewN {B : Nat} {w w' : World} (h : Below B w w') (n : Nat) : Below B w (w'.drewN n) := ⟨h.os, h.tape, h.output, h.size, h.block⟩

theorem Gone.same {w0 w w' : World} {B p gb a b : Nat} {Cs : List (Nat × Obj)} (h : Gone w0 B p gb a b Cs w) (hs : Same (fun _ => False) w w') : Gone w0 B p gb a b Cs w' :=
  ⟨h.1.same hs, h.2.1.same hs (fun _ _ => id), h.2.2.kept (fun k hk _ => hs.block k hk id)⟩

theorem own_slice {w : World} {B : Nat} {v : Value} {n : Nat} {xs : List Value} {e : TypeId} (h : w.ownsRow B e 1 v n xs) : ∃ ao cap, v = .slice ao n cap ∧ n ≤ cap ∧ cap ≤ maxLen ∧ (0 < n → ∃ g, ao = some ⟨g, 0, none⟩) := by
  rcases h.2 with ⟨h1, h2⟩ | ⟨g, cap, cur, h1, _, _, h3, h4, _⟩
  · exact ⟨none, 0, by rw [h1, h2], by omega, Nat.zero_le _, fun h => by omega⟩
  · exact ⟨_, cap, h1, h3, h4, fun _ => ⟨g, rfl⟩⟩

/-- What is told of the list of what was called. -/
def GotAt (gb b : Nat) (w : World) : Prop := ∃ ao cap, w.cell? ⟨gb, 0, none⟩ = some (.slice ao b cap) ∧ b ≤ cap ∧ cap ≤ maxLen ∧ ∀ k, k < b → ∃ g, ao = some ⟨g, 0, none⟩ ∧ w.cell? ⟨g, k, none⟩ = some (.int .i64 ((b : Int) - 1 - k))

theorem nums_rev (b k : Nat) (h : k < b) : (nums b).reverse[k]? = some ((b : Int) - 1 - k) := by
  rw [List.getElem?_reverse (by simpa [nums_length] using h), nums_length]
  have hi : b - 1 - k < b := by omega
  simp [nums, hi]
  omega

theorem Gone.gotAt {w0 w : World} {B p gb a b : Nat} {Cs : List (Nat × Obj)} (h : Gone w0 B p gb a b Cs w) : GotAt gb b w := by
  obtain ⟨gv, g1, g2, _⟩ := h.1.got
  have hlen : (nums b).reverse.length = b := by rw [List.length_reverse, nums_length]
  rw [hlen] at g2
  obtain ⟨ao, cap, rfl, h1, h2, h3⟩ := own_slice g2
  refine ⟨ao, cap, g1.cell, h1, h2, fun k hk => ?_⟩
  obtain ⟨g, rfl⟩ := h3 (by omega)
  refine ⟨g, rfl, ?_⟩
  have := g2.cells (g := g) rfl k (.int .i64 ((b : Int) - 1 - k)) (by
    have := nums_rev b k hk
    simp only [ints, List.getElem?_map, this, Option.map_some])
  rw [Addr.add_lit, Nat.zero_add] at this
  exact this

theorem Stays.drewN {p : Nat} {Cs : List (Nat × Obj)} {w : World} (h : Stays p Cs w) (n : Nat) : Stays p Cs (w.drewN n) := h

theorem do_size (w : World) (o : Obj) : (w.alloc o).heap.size = w.heap.size + 1 := by simp

theorem does_start {w w1 : World} {how : Int} (hb : Below w.heap.size w w1) (hs : w.heap.size + 1 ≤ w1.heap.size) (hh : One w1 w.heap.size (.int .i64 how) 3) (b : Nat) :
    DoesAt w w.heap.size w1.heap.size (w1.heap.size + 1 + 1 + 1) 0 [(w.heap.size, .cells #[.int .i64 how] 3 (0, 0)), (w1.heap.size + 1, .cells #[pB w1.heap.size] 23 (0, 0)), (w1.heap.size + 1 + 1, .cells #[.int .i64 b] 3 (0, 0))] 0
      ((((w1.alloc (.cells #[.slice none 0 0] 39)).alloc (.cells #[pB w1.heap.size] 23)).alloc (.cells #[.int .i64 b] 3)).alloc (.cells #[.slice none 0 0] 25)) := by
  have h1 := PInv.start (w0 := w) (w := ((w1.alloc (.cells #[.slice none 0 0] 39)).alloc (.cells #[pB w1.heap.size] 23)).alloc (.cells #[.int .i64 b] 3)) (B := w.heap.size) (p := w1.heap.size)
    (((hb.alloc (by omega) _).alloc (by simp; omega) _).alloc (by simp; omega) _) (by simp; omega) (by simp; omega) (by omega)
  have e1 := ((One.new (w1.alloc (.cells #[.slice none 0 0] 39)) (pB w1.heap.size) 23).alloc (.cells #[.int .i64 b] 3)).alloc (.cells #[.slice none 0 0] 25)
  have e2 := (One.new ((w1.alloc (.cells #[.slice none 0 0] 39)).alloc (.cells #[pB w1.heap.size] 23)) (.int .i64 b) 3).alloc (.cells #[.slice none 0 0] 25)
  have e3 := (((hh.alloc (.cells #[.slice none 0 0] 39)).alloc (.cells #[pB w1.heap.size] 23)).alloc (.cells #[.int .i64 b] 3)).alloc (.cells #[.slice none 0 0] 25)
  simp only [do_size] at h1 e1 e2
  refine ⟨[], h1, fun x hx => ?_, ?_⟩
  · simp only [List.mem_cons, List.not_mem_nil, or_false] at hx
    rcases hx with rfl | rfl | rfl
    · exact ⟨e3, by simp only; omega, _, _, rfl, by decide, by decide, by decide⟩
    · exact ⟨e1, by simp only; omega, _, _, rfl, by decide, by decide, by decide⟩
    · exact ⟨e2, by simp only; omega, _, _, rfl, by decide, by decide, by decide⟩
  · exact (((log_new w1 (show w.heap.size ≤ w1.heap.size by omega)).alloc _).alloc _).alloc _

theorem DoesAt.stays {w0 w : World} {B p gb a b : Nat} {Cs : List (Nat × Obj)} (h : DoesAt w0 B p gb a Cs b w) : Stays p Cs w := h.choose_spec.2.1

theorem DoesAt.add1 {w0 w w3 : World} {B p gb a : Nat} {Cs : List (Nat × Obj)} (h : DoesAt w0 B p gb a Cs 0 w) (hl : LogAt w3 B p (List.replicate a (oneF gb) ++ [oneF gb])) (hk : LogKept B p w w3) : DoesAt w0 B p gb (a + 1) Cs 0 w3 := by
  obtain ⟨X, h1, h2, h3⟩ := h
  have : X = [] := List.eq_nil_of_length_eq_zero (h1.len.trans (nums_length 0))
  subst this
  exact ⟨[], h1.kept hk, h2.kept hk, by simpa [List.replicate_succ'] using hl⟩

/-- Nothing has been called. -/
theorem DoesAt.got0 {w0 w : World} {B p gb a b : Nat} {Cs : List (Nat × Obj)} (h : DoesAt w0 B p gb a Cs b w) : ∃ ao cap, w.cell? ⟨gb, 0, none⟩ = some (.slice ao 0 cap) := by
  obtain ⟨X, h1, h2, h3⟩ := h
  obtain ⟨gv, g1, g2, _⟩ := h1.got
  obtain ⟨ao, cap, rfl, _⟩ := own_slice g2
  exact ⟨ao, cap, g1.cell⟩

theorem DoesAt.lenAny {w0 w : World} {B p gb a b : Nat} {Cs : List (Nat × Obj)} (h : DoesAt w0 B p gb a Cs b w) : ∀ n, Calls Tryd.prog 11 #[.pointer (some ⟨p, 0, none⟩)] (w.drewN n) fun e w' => e = .returned (.int .i64 ((a : Int) + b)) ∧ w' = w.drewN n := fun n => by
  obtain ⟨X, h1, h2, h3⟩ := h
  refine (len_any (h3.kept (w' := w.drewN n) (fun k hk _ => rfl))).mono fun e w' ⟨e1, e2⟩ => ⟨?_, e2.symm⟩
  rw [e1, List.length_append, List.length_map, List.length_replicate, h1.len, nums_length]
  simp

theorem DoesAt.below {w0 w : World} {B p gb a b : Nat} {Cs : List (Nat × Obj)} (h : DoesAt w0 B p gb a Cs b w) : Below B w0 w := h.choose_spec.1.below

theorem Gone.lenAny {w0 w : World} {B p gb a b : Nat} {Cs : List (Nat × Obj)} (h : Gone w0 B p gb a b Cs w) : ∀ n, Calls Tryd.prog 11 #[.pointer (some ⟨p, 0, none⟩)] (w.drewN n) fun e w' => e = .returned (.int .i64 a) ∧ w' = w.drewN n := fun n => by
  refine (len_any (h.2.2.kept (w' := w.drewN n) (fun k hk _ => rfl))).mono fun e w' ⟨e1, e2⟩ => ⟨?_, e2.symm⟩
  rw [e1, List.length_replicate]

set_option maxHeartbeats 4000000 in
theorem undoDoes_any (A D : Nat) (how : Int) (w : World) (hA : A ≤ 255) (hD : D ≤ 255) (hg : Handle w) :
    Calls Tryd.prog 3 #[.int .u8 A, .int .u8 D, .int .i64 how] w fun e w' => e = .returned (.bool true) ∧ Below w.heap.size w w' := by
  have HG := Lib.hid hg; have HGL := Lib.hid hg.lt
  clear hg
  have hm := i64_and3 how
  have hbA : Below w.heap.size w (w.alloc (.cells #[.int .i64 how] 3)) := (Below.refl _ w).alloc (Nat.le_refl _) _
  have hhA : One (w.alloc (.cells #[.int .i64 how] 3)) w.heap.size (.int .i64 how) 3 := One.new _ _ _
  have HBA := Lib.hid hbA; have HHA := Lib.hid hhA
  clear hbA hhA
  have htA : (A : Int).tmod 10 = ((A % 10 : Nat) : Int) := by rw [Int.tmod_eq_emod_of_nonneg (by omega)]; omega
  have htD : (D : Int).tmod 10 = ((D % 10 : Nat) : Int) := by rw [Int.tmod_eq_emod_of_nonneg (by omega)]; omega
  have ha10 : A % 10 < 10 := Nat.mod_lt _ (by decide)
  have hb10 : D % 10 < 10 := Nat.mod_lt _ (by decide)
  generalize A % 10 = a at *
  generalize D % 10 = b at *
  go_enter Tryd.func3, Tryd.ntmps3
  go_wp2_with fail
  refine (known_any _).mono ?_
  rintro e w1 ⟨rfl, hb1⟩
  have hs1 : w.heap.size + 1 ≤ w1.heap.size := by have := hb1.size; simpa using this
  have hh1 : One w1 w.heap.size (.int .i64 how) 3 := (hb1.block _ (by simp)).trans HHA.out
  have HB1 := Lib.hid (HBA.out.trans (hb1.mono (by simp))); have HH1 := Lib.hid hh1
  clear hb1 hh1 HBA HHA
  go_wp2_with fail
  refine (new_any w1).mono ?_
  rintro e w2 ⟨rfl, rfl⟩
  go_wp2_with fail
  have hD0 : DoesAt w w.heap.size w1.heap.size (w1.heap.size + 1 + 1 + 1) 0 [(w.heap.size, .cells #[.int .i64 how] 3 (0, 0)), (w1.heap.size + 1, .cells #[pB w1.heap.size] 23 (0, 0)), (w1.heap.size + 1 + 1, .cells #[.int .i64 b] 3 (0, 0))] 0
      ((((w1.alloc (.cells #[.slice none 0 0] 39)).alloc (.cells #[pB w1.heap.size] 23)).alloc (.cells #[.int .i64 b] 3)).alloc (.cells #[.slice none 0 0] 25)) := does_start HB1.out hs1 HH1.out b
  have HD0 := Lib.hid hD0
  have HW := Lib.hid (show w.heap.size < w1.heap.size by omega)
  clear hD0 HB1 HH1 hs1 htA htD hA hD
  generalize ((((w1.alloc (.cells #[.slice none 0 0] 39)).alloc (.cells #[pB w1.heap.size] 23)).alloc (.cells #[.int .i64 b] 3)).alloc (.cells #[.slice none 0 0] 25)) = v0 at *
  generalize hp : w1.heap.size = p at *
  clear hp w1
  obtain ⟨Cs, hCs⟩ : ∃ Cs, Cs = [(w.heap.size, Obj.cells #[.int .i64 how] 3 (0, 0)), (p + 1, Obj.cells #[pB p] 23 (0, 0)), (p + 1 + 1, Obj.cells #[.int .i64 b] 3 (0, 0))] := ⟨_, rfl⟩
  rw [← hCs] at HD0
  have mh : (w.heap.size, Obj.cells #[.int .i64 how] 3 (0, 0)) ∈ Cs := by rw [hCs]; simp
  have ml : (p + 1, Obj.cells #[pB p] 23 (0, 0)) ∈ Cs := by rw [hCs]; simp
  have mb : (p + 1 + 1, Obj.cells #[.int .i64 b] 3 (0, 0)) ∈ Cs := by rw [hCs]; simp
  have MH := Lib.hid mh; have ML := Lib.hid ml; have MB := Lib.hid mb
  clear mh ml mb hCs
  -- the steps ahead
  go_loopg [11] a (fun r i wr => ∃ k : Nat, k + r = a ∧ i = .int .i64 k ∧ DoesAt w w.heap.size p (p + 1 + 1 + 1) k Cs 0 wr)
  case atStart => exact ⟨0, by omega, rfl, HD0.out⟩
  case round =>
    obtain ⟨k, hk, rfl, hD⟩ := hrel
    clear HD0
    have HD := Lib.hid hD
    have cl := (hD.stays.one ML.out).cell
    have hsz := hD.size.1
    clear hD
    by_cases hlt : k < a
    · obtain ⟨r, rfl⟩ : ∃ r, gk = r + 1 := ⟨gk - 1, by omega⟩
      have HK := Lib.hid hk; clear hk
      go_wp2_with fail
      refine (add_any HD.out.log0 hsz (by simp; omega) _ _).mono ?_
      rintro e w3 ⟨rfl, hl3, hk3⟩
      have hd : DoesAt w w.heap.size p (p + 1 + 1 + 1) (k + 1) Cs 0 w3 := HD.out.add1 hl3 hk3
      have HE := Lib.hid hd
      clear hl3 hk3 hd HD cl
      go_wp2_with fail
      go_roundg r
      case measure => omega
      case rel => exact ⟨k + 1, by have := HK.out; omega, by go_num, HE.out⟩
    · obtain rfl : k = a := by omega
      clear hk hlt
      go_wp2_with fail
      by_cases h1 : how % 4 = 1
      · refine (does_errs (by omega) (by omega) HD.out MB.out ML.out MH.out h1).mono ?_
        rintro e w4 ⟨rfl, hG4⟩
        have ch := (hG4.2.1.one MH.out).cell
        have cl4 := (hG4.2.1.one ML.out).cell
        have cb := (hG4.2.1.one MB.out).cell
        have hH4 := HG.out.below hG4.1.below HGL.out
        have HG4 := Lib.hid hG4; have HH4 := Lib.hid hH4
        have g0 : (how % 4 == 0) = false := by simp [h1]
        have g1 : (how % 4 == 1) = true := by simp [h1]
        have g2 : (how % 4 == 2) = false := by simp [h1]
        have g3 : (how % 4 == 3) = false := by simp [h1]
        clear hG4 hH4 cl HD h1
        go_wp2_with fail
        refine (class_errno 70 HH4.out).mono ?_
        rintro e w5 ⟨rfl, hs5⟩
        have hG5 := HG4.out.same hs5
        have cb5 := (hG5.2.1.one MB.out).cell
        have cl5 := (hG5.2.1.one ML.out).cell
        have ch5 := (hG5.2.1.one MH.out).cell
        obtain ⟨ao, gcap, gg, hgc, hgm, hga⟩ := hG5.gotAt
        have hle := hG5.lenAny
        have HG5 := Lib.hid hG5; have HLE := Lib.hid hle; have HGA := Lib.hid hga
        unfold maxLen at hgm
        clear hG5 hle hga hs5 ch cl4 cb
        go_wp2_with fail
        go_loopg [14] b (fun r i wq => ∃ j n : Nat, j + r = b ∧ i = .int .i64 j ∧ wq = w5.drewN n)
        case atStart => exact ⟨0, 0, by omega, rfl, rfl⟩
        case round =>
          obtain ⟨j, n, hj, rfl, rfl⟩ := hrel
          by_cases hjb : j < b
          · obtain ⟨r, rfl⟩ : ∃ r, gk = r + 1 := ⟨gk - 1, by omega⟩
            have HJ := Lib.hid hj; clear hj
            obtain ⟨g, rfl, hc⟩ := HGA.out j hjb
            have hw1 : IntKind.i64.wrap ((b : Int) - 1) = (b : Int) - 1 := IntWalk.i64_in _ (by omega)
            have hw2 : IntKind.i64.wrap ((b : Int) - 1 - j) = (b : Int) - 1 - j := IntWalk.i64_in _ (by omega)
            go_wp2_with fail
            go_quiet (fail)
            go_wp2_with fail
            go_roundg r
            case measure => omega
            case rel => exact ⟨j + 1, _, by have := HJ.out; omega, by go_num, rfl⟩
          · obtain rfl : j = b := by omega
            clear hj
            go_wp2_with fail
            refine (HLE.out _).mono ?_
            rintro e w6 ⟨rfl, rfl⟩
            go_wp2_with fail
            go_ret
            exact ⟨rfl, below_drewN HG5.out.1.below n⟩
      · by_cases h2 : how % 4 = 2
        · refine (does_panics (by omega) (by omega) HD.out MB.out ML.out MH.out h2).mono ?_
          rintro e w5 ⟨rfl, hG5⟩
          have ch := (hG5.2.1.one MH.out).cell
          have g0 : (how % 4 == 0) = false := by simp [h2]
          have g1 : (how % 4 == 1) = false := by simp [h2]
          have g2 : (how % 4 == 2) = true := by simp [h2]
          have g3 : (how % 4 == 3) = false := by simp [h2]
          clear cl HD h1 h2
          have cb5 := (hG5.2.1.one MB.out).cell
          have cl5 := (hG5.2.1.one ML.out).cell
          have ch5 := (hG5.2.1.one MH.out).cell
          obtain ⟨ao, gcap, gg, hgc, hgm, hga⟩ := hG5.gotAt
          have hle := hG5.lenAny
          have HG5 := Lib.hid hG5; have HLE := Lib.hid hle; have HGA := Lib.hid hga
          unfold maxLen at hgm
          clear hG5 hle hga ch
          go_wp2_with fail
          go_loopg [14] b (fun r i wq => ∃ j n : Nat, j + r = b ∧ i = .int .i64 j ∧ wq = w5.drewN n)
          case atStart => exact ⟨0, 0, by omega, rfl, rfl⟩
          case round =>
            obtain ⟨j, n, hj, rfl, rfl⟩ := hrel
            by_cases hjb : j < b
            · obtain ⟨r, rfl⟩ : ∃ r, gk = r + 1 := ⟨gk - 1, by omega⟩
              have HJ := Lib.hid hj; clear hj
              obtain ⟨g, rfl, hc⟩ := HGA.out j hjb
              have hw1 : IntKind.i64.wrap ((b : Int) - 1) = (b : Int) - 1 := IntWalk.i64_in _ (by omega)
              have hw2 : IntKind.i64.wrap ((b : Int) - 1 - j) = (b : Int) - 1 - j := IntWalk.i64_in _ (by omega)
              go_wp2_with fail
              go_quiet (fail)
              go_wp2_with fail
              go_roundg r
              case measure => omega
              case rel => exact ⟨j + 1, _, by have := HJ.out; omega, by go_num, rfl⟩
            · obtain rfl : j = b := by omega
              clear hj
              go_wp2_with fail
              refine (HLE.out _).mono ?_
              rintro e w6 ⟨rfl, rfl⟩
              go_wp2_with fail
              go_ret
              exact ⟨rfl, below_drewN HG5.out.1.below n⟩
        · refine (does_well (by omega) (by omega) HD.out MB.out ML.out MH.out h1 h2).mono ?_
          rintro e w4 ⟨rfl, hD4⟩
          have ch := (hD4.stays.one MH.out).cell
          have cl4 := (hD4.stays.one ML.out).cell
          have cb := (hD4.stays.one MB.out).cell
          obtain ⟨gc, gcap, gg⟩ := hD4.got0
          have hle := hD4.lenAny
          have HD4 := Lib.hid hD4; have HLE := Lib.hid hle
          have hwr : IntKind.i64.wrap ((k : Int) + b) = (k : Int) + b := IntWalk.i64_in _ (by omega)
          by_cases h0 : how % 4 = 0
          · have g0 : (how % 4 == 0) = true := by simp [h0]
            clear hD4 hle cl HD h0 h1 h2
            go_wp2_with fail
            go_quiet (first | (go_at_call 11; refine Calls.quiet_of_same (HLE.out _)))
            go_wp2_with fail
            go_ret
            exact ⟨rfl, below_drewN HD4.out.below _⟩
          · have g0 : (how % 4 == 0) = false := by simp [h0]
            have h3 : how % 4 = 3 := by omega
            have g3 : (how % 4 == 3) = true := by simp [h3]
            clear hD4 hle cl HD h0 h1 h2 h3
            go_wp2_with fail
            go_quiet (first | (go_at_call 11; refine Calls.quiet_of_same (HLE.out _)))
            go_wp2_with fail
            go_ret
            exact ⟨rfl, below_drewN HD4.out.below _⟩

end Go.Proofs.YthofmccpfknjnaaDoor
