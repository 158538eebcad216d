/-
  rialtolaw7.known answers true and turns nothing that was there. Condition: the variable that errors.As reads holds the type of error.
-/
import Derived.Test.YtcbapmkipcffgaaDoorKeyOf
import Derived.Test.YtcbapmkipcffgaaDoorClassEn
namespace Go.Proofs.YtcbapmkipcffgaaDoor
open Go.RowKit Go.Extern.Stop Go.Stop Go.Extern Go.Lib
set_option maxRecDepth 1000000

abbrev numV (n : Int) : V := ⟨1, n, ⟨#[]⟩, 0⟩

theorem num_any (n : Int) (w : World) : Calls Tryd.prog 66 #[.int .i64 n] w fun e w' => e = .returned (numV n).val ∧ w' = w.alloc (numV n).obj := by
  have HB := Lib.hid (heap_alloc_new w (numV n).obj)
  go_enter Tryd.func66, Tryd.ntmps66
  go_wp2_with fail
  exact ret_val rfl rfl HB.out rfl ⟨rfl, rfl⟩

theorem dcells {W w' : World} {pd : Nat} {name : ByteArray} {kind : Int} {parts : Value} {cmp : Int} (hd : W.heap[pd]? = some (defObj name kind parts cmp)) (h : Same (fun _ => False) W w') :
    w'.cell? ⟨pd, 0, none⟩ = some (.string name) ∧ w'.cell? ⟨pd, 1, none⟩ = some (.int .i64 kind) ∧ w'.cell? ⟨pd, 2, none⟩ = some parts ∧ w'.cell? ⟨pd, 3, none⟩ = some (.int .i64 cmp) ∧ Same (fun _ => False) W w' := by
  obtain ⟨a, b, c, d⟩ := def_cells (h.obj hd id)
  exact ⟨a, b, c, d, h⟩

abbrev twoObj (a b : Int) : Obj := .cells #[.int .i64 1, .int .i64 a, .string ⟨#[]⟩, .float .f64 0, .int .i64 1, .int .i64 b, .string ⟨#[]⟩, .float .f64 0] 38

theorem ReadV.two {w : World} {q : Nat} {a b : Int} (h : w.heap[q]? = some (twoObj a b)) (c : Nat) : ReadV w (.slice (some ⟨q, 0, none⟩) 2 c) [numV a, numV b] := by
  refine ⟨_, c, rfl, fun j x hj => ?_⟩
  have hl := lt_of_block h
  match j, hj with
  | 0, hj => cases hj; exact ⟨q, 0, rfl, hl, by simp [World.cell?, h]⟩
  | 1, hj => cases hj; exact ⟨q, 0, rfl, hl, by simp [World.cell?, h]⟩
  | j + 2, hj => simp at hj

abbrev parts2 : Obj := .cells #[.int .i64 1, .int .i64 0, .int .i64 (-1), .int .i64 0] 81

theorem ReadP.two {w : World} {q : Nat} (h : w.heap[q]? = some parts2) (c : Nat) : ReadP w (.slice (some ⟨q, 0, none⟩) 2 c) [(1, 0), (-1, 0)] := by
  refine ⟨_, c, rfl, fun j x hj => ?_⟩
  have hl := lt_of_block h
  match j, hj with
  | 0, hj => cases hj; exact ⟨q, 0, rfl, hl, by simp [World.cell?, h]⟩
  | 1, hj => cases hj; exact ⟨q, 0, rfl, hl, by simp [World.cell?, h]⟩
  | j + 2, hj => simp at hj

theorem ex0 : exV (-1, (0 : Int)).snd [numV 5, numV 6] = numV 11 := by
  simp [exV, exAt, exStep, exInit]
  decide +kernel

theorem known_out5 : keyOut [numV 5, numV 6] 5 (.pointer none) 0 [(1, 0), (-1, 0)] [] 0 = .keys [numV 6, numV 11] 1 := by
  have h1 : partOut [numV 5, numV 6] 5 (.pointer none) 0 (1, 0) 0 = .val (numV 6) 0 := by
    unfold partOut; rw [if_pos (by simp)]; rfl
  have h2 : partOut [numV 5, numV 6] 5 (.pointer none) 0 (-1, 0) 0 = .val (numV 11) 1 := by
    unfold partOut
    rw [if_neg (by simp), if_pos (by simp), if_neg (by unfold Strikes; simp), if_pos (by rw [ex0]; decide +kernel), ex0]
    rfl
  simp only [keyOut, KeyOut.of, h1, h2, List.nil_append, List.cons_append]

theorem known_out0 : keyOut [numV 5, numV 6] 0 (.pointer none) 0 [(1, 0), (-1, 0)] [] 0 = .noKey 0 := by
  have h1 : partOut [numV 5, numV 6] 0 (.pointer none) 0 (1, 0) 0 = .val (numV 6) 0 := by
    unfold partOut; rw [if_pos (by simp)]; rfl
  have h2 : partOut [numV 5, numV 6] 0 (.pointer none) 0 (-1, 0) 0 = .noKey := by
    unfold partOut
    rw [if_neg (by simp), if_neg (by simp)]
  simp only [keyOut, KeyOut.of, h1, h2]

theorem num_ok {n : Int} (h : -1000 ≤ n ∧ n ≤ 1000) : (numV n).ok := ⟨by simp, by simp, by simp only; omega, by simp only; omega, Nat.zero_le _, by simp⟩

theorem same_of_blk {w w' : World} (h : Same (Blk (.pointer none)) w w') : Same (fun _ => False) w w' := h.weaken (fun k _ h => by cases h)

theorem of_known {W w' : World} {pb q c c2 m : Nat} {hv : Value} {o : KeyOut} (hp : W.heap[pb]? = some parts2) (hs : Same (fun _ => False) W w') (hh : HkAt w' hv (.pointer none) m) (hq : w'.heap[q]? = some (twoObj 5 6))
    (ho : keyOut [numV 5, numV 6] m (.pointer none) 0 [(1, 0), (-1, 0)] [] 0 = o) :
    Calls Tryd.prog 36 #[defV ⟨#[120]⟩ 1 (.slice (some ⟨pb, 0, none⟩) 2 c) (-1), hv, .slice (some ⟨q, 0, none⟩) 2 c2] w' fun e w2 => Same (fun _ => False) w' w2 ∧ OfEnd ⟨#[120]⟩ (.pointer none) 0 0 0 (w'.heap.size + 2) o e w2 := by
  refine (of_any (L := [numV 5, numV 6]) (P := [(1, 0), (-1, 0)]) (c := 0) (a := 0) (h := 0) (s := 0) hh (fun w2 h => (ReadV.two hq c2).same (same_of_blk h)) (fun w2 h => (ReadP.two (hs.obj hp id) c).same (same_of_blk h)) ?_ ?_ (by decide) (by decide) (Or.inl rfl) ⟨by decide, by decide, by decide, by decide, by decide, by decide⟩ (by decide)).mono ?_
  · intro y hy
    simp only [List.mem_cons, List.not_mem_nil, or_false] at hy
    rcases hy with rfl | rfl <;> exact num_ok (by omega)
  · intro y hy
    simp only [List.mem_cons, List.not_mem_nil, or_false] at hy
    rcases hy with rfl | rfl <;> decide
  · rintro e w2 ⟨h1, h2⟩
    rw [ho] at h2
    exact ⟨same_of_blk h1, h2⟩

def KnownCut (W : World) (s2 s3 : Value) (wx : World) : Prop := s3 = .nilIface ∧ Same (fun _ => False) W wx ∧ ∃ ao cap, s2 = .slice ao 2 cap ∧ ReadV wx s2 [numV 6, numV 11]

theorem of_keys {W w' w2 : World} {e : Ending} (h : Same (fun _ => False) w' w2 ∧ OfEnd ⟨#[120]⟩ (.pointer none) 0 0 0 (w'.heap.size + 2) (.keys [numV 6, numV 11] 1) e w2) (hs : Same (fun _ => False) W w') :
    ∃ ao cap, e = .returned (.tuple #[.slice ao 2 cap, .nilIface]) ∧ KnownCut W (.slice ao 2 cap) .nilIface w2 := by
  obtain ⟨h1, ⟨v, rfl, h3⟩, _⟩ := h
  have hr := ReadV.own h3
  obtain ⟨ao, cap, rfl⟩ := readV_len hr
  exact ⟨ao, cap, rfl, rfl, hs.trans h1 (fun _ _ h => h), ao, cap, rfl, hr⟩

theorem three_at (w : World) (a b o : Obj) : (((w.alloc a).alloc b).alloc o).heap[w.heap.size + 1 + 1]? = some o := by
  have h := heap_alloc_new ((w.alloc a).alloc b) o
  rwa [show ((w.alloc a).alloc b).heap.size = w.heap.size + 1 + 1 by simp] at h

theorem three_same {W w : World} (h : Same (fun _ => False) W w) {a b o : Obj} : Same (fun _ => False) W (((w.alloc a).alloc b).alloc o) := ((h.alloc _).alloc _).alloc _

theorem three_hk {w : World} {B : Nat} {hv mp : Value} (h : HooksAt w B hv mp) {a b o : Obj} : HkAt (((w.alloc a).alloc b).alloc o) hv mp 5 :=
  HkAt.same (Or.inl ⟨rfl, B, h⟩) (three_same (Same.refl _ w))

set_option maxHeartbeats 8000000 in
theorem known7_any {w : World} (hg : Handle w) : Calls Tryd.prog 32 #[] w fun e w' => e = .returned (.bool true) ∧ Same (fun _ => False) w w' := by
  have hs0 : Same (fun _ => False) w ((w.alloc parts2).alloc (defObj ⟨#[120]⟩ 1 (.slice (some ⟨w.heap.size, 0, none⟩) 2 2) (-1))) := ((Same.refl _ w).alloc _).alloc _
  have hp0 : ((w.alloc parts2).alloc (defObj ⟨#[120]⟩ 1 (.slice (some ⟨w.heap.size, 0, none⟩) 2 2) (-1))).heap[w.heap.size]? = some parts2 := ((Same.refl (fun _ => False) (w.alloc parts2)).alloc _).obj (heap_alloc_new w _) id
  have hd0 : ((w.alloc parts2).alloc (defObj ⟨#[120]⟩ 1 (.slice (some ⟨w.heap.size, 0, none⟩) 2 2) (-1))).heap[w.heap.size + 1]? = some (defObj ⟨#[120]⟩ 1 (.slice (some ⟨w.heap.size, 0, none⟩) 2 2) (-1)) := by
    have h := heap_alloc_new (w.alloc parts2) (defObj ⟨#[120]⟩ 1 (.slice (some ⟨w.heap.size, 0, none⟩) 2 2) (-1))
    rwa [show (w.alloc parts2).heap.size = w.heap.size + 1 by simp] at h
  have HS0 := Lib.hid hs0; have HP := Lib.hid hp0; have HD := Lib.hid hd0; have HG := Lib.hid hg
  clear hs0 hp0 hd0 hg
  go_enter Tryd.func32, Tryd.ntmps32
  go_upto_region 2 with fail
  generalize hW : (w.alloc parts2).alloc (defObj ⟨#[120]⟩ 1 (.slice (some ⟨w.heap.size, 0, none⟩) 2 2) (-1)) = W at *
  clear hW
  go_region_held3 (fun w' => w'.cell? ⟨w.heap.size + 1, 0, none⟩ = some (.string ⟨#[120]⟩) ∧ w'.cell? ⟨w.heap.size + 1, 1, none⟩ = some (.int .i64 1) ∧ w'.cell? ⟨w.heap.size + 1, 2, none⟩ = some (.slice (some ⟨w.heap.size, 0, none⟩) 2 2) ∧ w'.cell? ⟨w.heap.size + 1, 3, none⟩ = some (.int .i64 (-1)) ∧ Same (fun _ => False) W w')
    ((refine dcells HD.out ?_; repeat (first | with_reducible assumption | exact Same.refl _ _ | refine Same.drew ?_ | refine Same.alloc ?_ _)))
    (first
      | (go_at_call 66; refine (num_any _ _).mono ?_; rintro e w2 ⟨rfl, rfl⟩)
      | (go_at_call 34; refine (hooks_any (Or.inl rfl) _).mono ?_; rintro e wH ⟨hv, rfl, hsH, hat⟩; have hT : Same (fun _ => False) W wH := Same.trans (by first | assumption | exact (Same.refl _ _).drew) hsH (fun _ _ h => h))
      | (go_at_call 36; refine (of_known (W := W) (pb := w.heap.size) (q := wH.heap.size + 1 + 1) HP.out (three_same hT) (three_hk hat) (three_at _ _ _ _) known_out5).mono ?_; rintro e wO hO; obtain ⟨ko, kc, rfl, hKC⟩ := of_keys hO (three_same hT); have hT2 : Same (fun _ => False) W wO := hKC.2.1))
  have HO := Lib.hid hKC
  clear hO hKC hat hsH hT hT2
  have hpO := HO.out.2.1.obj HP.out id
  have hdO := HO.out.2.1.obj HD.out id
  have HPO := Lib.hid hpO; have HDO := Lib.hid hdO
  clear hpO hdO
  go_upto_region 3 with fail
  go_region_held3 (fun w' => w'.cell? ⟨w.heap.size + 1, 0, none⟩ = some (.string ⟨#[120]⟩) ∧ w'.cell? ⟨w.heap.size + 1, 1, none⟩ = some (.int .i64 1) ∧ w'.cell? ⟨w.heap.size + 1, 2, none⟩ = some (.slice (some ⟨w.heap.size, 0, none⟩) 2 2) ∧ w'.cell? ⟨w.heap.size + 1, 3, none⟩ = some (.int .i64 (-1)) ∧ Same (fun _ => False) wO w')
    ((refine dcells HDO.out ?_; repeat (first | with_reducible assumption | exact Same.refl _ _ | refine Same.drew ?_ | refine Same.alloc ?_ _)))
    (first
      | (go_at_call 66; refine (num_any _ _).mono ?_; rintro e w2 ⟨rfl, rfl⟩)
      | (go_at_call 36; refine (of_known (W := wO) (pb := w.heap.size) (q := wO.heap.size + 1 + 1) HPO.out (three_same ((Same.refl _ _).drew)) (Or.inr ⟨rfl, rfl⟩) (three_at _ _ _ _) known_out0).mono ?_; rintro e wP ⟨hsP, rfl, _⟩; have hT3 : Same (fun _ => False) wO wP := Same.trans (three_same ((Same.refl _ wO).drew)) hsP (fun _ _ h => h)))
  have HT3 := Lib.hid hT3
  clear hT3 hsP
  go_wp2_with fail
  refine (num_any _ _).mono ?_
  rintro e w4 ⟨rfl, rfl⟩
  go_wp2_with fail
  refine (num_any _ _).mono ?_
  rintro e w4 ⟨rfl, rfl⟩
  go_wp2_with fail
  refine (vals_self (A := [numV 6, numV 11]) ((HO.out.2.2.choose_spec.choose_spec.2.same HT3.out).same (three_same (Same.refl _ _))) (ReadV.two (three_at _ _ _ _) _) (fun y hy => by simp only [List.mem_cons, List.not_mem_nil, or_false] at hy; rcases hy with rfl | rfl <;> exact num_ok (by omega)) (by unfold maxLen; simp)).mono ?_
  rintro e w5 ⟨rfl, hs5⟩
  have hs6 : Same (fun _ => False) w w5 := ((HS0.out.trans (HO.out.2.1.trans HT3.out (fun _ _ h => h)) (fun _ _ h => h)).trans (three_same (Same.refl _ _)) (fun _ _ h => h)).trans hs5 (fun _ _ h => h)
  have HS6 := Lib.hid hs6; have HG6 := Lib.hid (HG.out.same hs6 id)
  clear hs5 hs6
  go_wp2_with fail
  refine (class_errno 60 HG6.out).mono ?_
  rintro e w7 ⟨rfl, hs7⟩
  have HS7 := Lib.hid (HS6.out.trans hs7 (fun _ _ h => h))
  clear hs7
  go_wp2_with fail
  go_ret
  exact ⟨rfl, HS7.out⟩

end Go.Proofs.YtcbapmkipcffgaaDoor
