/-
  The statement UndoDoes: what is done within the log; the call that catches its panic. Conditions: none.
-/
import Derived.Test.YthofmccpfknjnaaDoorUndoDoesJ
import Derived.Deep.QuietTactic
import Derived.BigQuiet
namespace Go.Proofs.YthofmccpfknjnaaDoor
open Go.RowKit
set_option maxRecDepth 100000

theorem i64_and3 (n : Int) : bits .and .i64 n 3 = n % 4 := by
  have h1 : (BitVec.ofInt 64 3).toNat = 2 ^ 2 - 1 := by decide
  have key : (BitVec.ofInt 64 n &&& BitVec.ofInt 64 3).toNat = (n % ((2 ^ 64 : Nat) : Int)).toNat % 2 ^ 2 := by
    rw [BitVec.toNat_and, BitVec.toNat_ofInt, h1, Nat.and_two_pow_sub_one_eq_mod]
  show IntKind.i64.wrap ((BitVec.ofInt 64 n &&& BitVec.ofInt 64 3).toNat : Nat) = n % 4
  rw [key, IntKind.wrap_i64]
  omega

def nums (k : Nat) : List Int := (List.range k).map fun j : Nat => (j : Int)

theorem nums_succ (k : Nat) : nums (k + 1) = nums k ++ [(k : Int)] := by simp [nums, List.range_succ]
theorem nums_length (k : Nat) : (nums k).length = k := by simp [nums]

abbrev doErr (n : Int) : Value := .iface 31 (.int .i64 n)
abbrev doPan (n : Int) (r : Bool) : PanicEntry := { v := .iface 3 (.int .i64 n), recovered := r }

/-- What the work ends with. -/
def DoesEnd (how : Int) (e : Ending) : Prop := (how % 4 = 1 → e = .returned (doErr 70)) ∧ (how % 4 = 2 → e = .panicked [doPan how false]) ∧ (how % 4 ≠ 1 → how % 4 ≠ 2 → e = .returned .nilIface)

/-- What holds when k steps more are in the log. -/
def DoesAt (w0 : World) (B p gb a : Nat) (Cs : List (Nat × Obj)) (k : Nat) (w : World) : Prop :=
  ∃ X, PInv w0 B p gb (.slice none 0 0) (.slice none 0 0) [] [] X (nums k) [] w ∧ Stays p Cs w ∧ LogAt w B p (List.replicate a (oneF gb) ++ X.map (playF gb))

abbrev pB (b : Nat) : Value := .pointer (some ⟨b, 0, none⟩)

set_option maxHeartbeats 4000000 in
theorem does2_any {w0 w : World} {B p gb a b bb lb hb : Nat} {how : Int} {Cs : List (Nat × Obj)} (ha : a ≤ 20) (hbn : b ≤ 20) (h : DoesAt w0 B p gb a Cs 0 w)
    (hbb : (bb, .cells #[.int .i64 b] 3 (0, 0)) ∈ Cs) (hlb : (lb, .cells #[pB p] 23 (0, 0)) ∈ Cs) (hhb : (hb, .cells #[.int .i64 how] 3 (0, 0)) ∈ Cs) :
    Calls Tryd.prog 9 #[pB bb, pB lb, pB gb, pB hb] w fun e w' => DoesEnd how e ∧ DoesAt w0 B p gb a Cs b w' := by
  have HBB := Lib.hid hbb; have HLB := Lib.hid hlb; have HHB := Lib.hid hhb; have HD := Lib.hid h
  have hm := i64_and3 how
  clear hbb hlb hhb h
  go_enter Tryd.func9, Tryd.ntmps9
  go_wp2_with fail
  go_loopg [5] b (fun r i wr => ∃ k : Nat, k + r = b ∧ i = .int .i64 k ∧ DoesAt w0 B p gb a Cs k wr)
  case atStart => exact ⟨0, by omega, rfl, HD.out⟩
  case round =>
    obtain ⟨k, hk, rfl, X, hP, hS, hL⟩ := hrel
    have cb := (hS.one HBB.out).cell
    have ch := (hS.one HHB.out).cell
    have hpu := hP.push (k : Int) (by rw [nums_length]; simp; omega)
    have hsu := hS.same ((Same.refl (fun _ => False) wr).alloc (.cells #[.int .i64 k] 2)) (fun _ _ => id)
    have hlu := hL.alloc (.cells #[.int .i64 k] 2)
    have cl := (hsu.one HLB.out).cell
    have hxl := hP.len
    rw [nums_length] at hxl
    have hB := hP.size
    have HP := Lib.hid hP; have HS := Lib.hid hS; have HL := Lib.hid hL; have HPU := Lib.hid hpu; have HSU := Lib.hid hsu; have HLU := Lib.hid hlu
    clear hP hS hL hpu hsu hlu HD
    by_cases hlt : k < b
    · obtain ⟨r, rfl⟩ : ∃ r, gk = r + 1 := ⟨gk - 1, by omega⟩
      have HK := Lib.hid hk; clear hk
      go_wp2_with fail
      refine (add_any HLU.out (by simp; omega) (by simp; omega) _ _).mono ?_
      rintro e w3 ⟨rfl, hl3, hk3⟩
      have hd : DoesAt w0 B p gb a Cs (k + 1) w3 := ⟨X ++ [wr.heap.size], by rw [nums_succ]; exact HPU.out.kept hk3, HSU.out.kept hk3, by
        have := hl3
        rw [List.map_append, ← List.append_assoc]
        exact this⟩
      have HD := Lib.hid hd
      clear hl3 hk3 hd HPU HSU HLU cl
      go_wp2_with fail
      go_roundg r
      case measure => omega
      case rel => exact ⟨k + 1, by have := HK.out; omega, by go_num, HD.out⟩
    · obtain rfl : k = b := by omega
      have HD : Hid (DoesAt w0 B p gb a Cs k wr) := Lib.hid ⟨X, HP.out, HS.out, HL.out⟩
      clear HPU HSU HLU cl hk hlt
      by_cases h1 : how % 4 = 1
      · have g1 : (how % 4 == 1) = true := by simp [h1]
        have H1 := Lib.hid h1; clear h1
        go_wp2_with fail
        go_ret
        exact ⟨⟨fun _ => rfl, fun h => by have := H1.out; omega, fun h => absurd H1.out h⟩, HD.out⟩
      · by_cases h2 : how % 4 = 2
        · have g1 : (how % 4 == 1) = false := by simp [h1]
          have g2 : (how % 4 == 2) = true := by simp [h2]
          have H1 := Lib.hid h1; have H2 := Lib.hid h2; clear h1 h2
          go_wp2_with fail
          exact ⟨rfl, ⟨fun h => absurd h H1.out, fun _ => rfl, fun _ h => absurd H2.out h⟩, HD.out⟩
        · have g1 : (how % 4 == 1) = false := by simp [h1]
          have g2 : (how % 4 == 2) = false := by simp [h2]
          have H1 := Lib.hid h1; have H2 := Lib.hid h2; clear h1 h2
          go_wp2_with fail
          go_ret
          exact ⟨⟨fun h => absurd h H1.out, fun h => absurd h H2.out, fun _ _ => rfl⟩, HD.out⟩

theorem no_int (w : World) : (Instr.typeAssert .nilIface 20 3 true).run Tryd.prog w = .ok (.tuple #[.int .i64 0, .bool false]) w := by kernel_rfl
theorem an_int (n : Int) (w : World) : (Instr.typeAssert (.iface 3 (.int .i64 n)) 20 3 true).run Tryd.prog w = .ok (.tuple #[.int .i64 n, .bool true]) w := by kernel_rfl

theorem wp_tmps {P : Program} {c : Code} {Q : Exit → Act → World → Prop} {a a' : Act} {w : World} (h : a = a') (hw : c.wp P Q a' w) : c.wp P Q a w := by subst h; exact hw

theorem frame_same {c₀ : Frame} {u : FrameMode} (h : c₀.mode = u) : c₀ = { c₀ with mode := u } := by subst h; rfl

set_option maxHeartbeats 4000000 in
/-- The deferred closure, where nothing panicked. -/
theorem does1_idle (b : Nat) (w : World) :
    CallsD Tryd.prog 17 #[pB b] .returning w fun e u' w' => e = .returned (.tuple #[]) ∧ u' = .returning ∧ w = w' := by
  have tn := no_int
  refine callsD_of_wpS Tryd.func17 rfl fun c₀ cs hu => ?_
  apply wpS_seq
  apply wpS_region
  simp [wpOpsS, go_sem, recoverD, hu, Tryd.ntmps17, Exit.thenS, tn]
  refine wpS_behind (frame_same hu) ?_
  go_wp2
  go_end0
  exact ⟨rfl, rfl⟩

set_option maxHeartbeats 4000000 in
/-- The deferred closure, where what is done within panicked with an int, and panicked anew. -/
theorem does1_catch {b : Nat} {n : Int} {old : Value} {w : World} (ho : One w b old 3) :
    CallsD Tryd.prog 17 #[pB b] (.panicking [{ v := .iface 3 (.int .i64 n), recovered := false }, { v := .iface 3 (.int .i64 n), recovered := true }]) w fun e u' w' => e = .returned (.tuple #[]) ∧ u' = .panicking [{ v := .iface 3 (.int .i64 n), recovered := true }, { v := .iface 3 (.int .i64 n), recovered := true }] ∧ w' = w.setCell ⟨b, 0, none⟩ (.int .i64 n) := by
  have tn := an_int n
  have c0 := ho.cell
  have f0 := ho.free
  clear ho
  refine callsD_of_wpS Tryd.func17 rfl fun c₀ cs hu => ?_
  apply wpS_seq
  apply wpS_region
  simp [wpOpsS, go_sem, recoverD, hu, Tryd.ntmps17, Exit.thenS, tn]
  refine wpS_behind rfl ?_
  refine wp_tmps (a' := { tmps := #[.pointer (some ⟨b, 0, none⟩), .int .i64 n, .bool true, .tuple #[.int .i64 n, .bool true], .iface 3 (.int .i64 n), .tuple #[.int .i64 n, .bool true], .int .i64 n, .bool true, undef, undef], defers := [] }) (by kernel_rfl) ?_
  go_wp2
  go_end0
  exact ⟨rfl, rfl⟩

end Go.Proofs.YthofmccpfknjnaaDoor
