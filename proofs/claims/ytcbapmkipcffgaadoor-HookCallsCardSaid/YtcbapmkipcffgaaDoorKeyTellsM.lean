/-
  What KeyTells reckons: the plain law of the scan over the parts; rialtohelp.Def, rialtoref7.Of. Conditions: few values, few parts, short texts.
-/
import Derived.Test.YtcbapmkipcffgaaDoorKeyFieldsW
namespace Go.Proofs.YtcbapmkipcffgaaDoor
open Go.RowKit Go.Extern.Stop Go.Stop Go.Extern Go.Lib
set_option maxRecDepth 1000000

theorem i64_and3 (n : Int) : bits .and .i64 n 3 = n % 4 := by
  have h1 : (BitVec.ofInt 64 3).toNat = 2 ^ 2 - 1 := by decide
  have key : (BitVec.ofInt 64 n &&& BitVec.ofInt 64 3).toNat = (n % ((2 ^ 64 : Nat) : Int)).toNat % 2 ^ 2 := by
    rw [BitVec.toNat_and, BitVec.toNat_ofInt, h1, Nat.and_two_pow_sub_one_eq_mod]
  show IntKind.i64.wrap ((BitVec.ofInt 64 n &&& BitVec.ofInt 64 3).toNat : Nat) = n % 4
  rw [key, IntKind.wrap_i64]
  omega

def KeyOut.bad : KeyOut → Int
  | .keys _ _ => 0
  | .noKey _ => 60
  | .noValue _ => 50
  | .mark _ => 50

def KeyOut.calls : KeyOut → Int
  | .keys _ c => c
  | .noKey c => c
  | .noValue c => c
  | .mark c => c

/-- What the document's key holds at a part. -/
noncomputable def refPart (L : List V) (p : Int × Int) : V := if 0 ≤ p.1 then L.getD p.1.toNat V.nil else exV p.2 L

/-- A part that is there. -/
def PartIn (L : List V) (m : Nat) (p : Int × Int) : Prop := (0 ≤ p.1 ∧ p.1 < L.length) ∨ (p.1 = -1 ∧ 0 ≤ p.2 ∧ p.2 < m)

theorem partOut_val {L : List V} {m : Nat} {mp : Value} {a : Int} {p : Int × Int} {c : Int} {y : V} {c' : Int} (h : partOut L m mp a p c = .val y c') : PartIn L m p ∧ y = refPart L p := by
  unfold partOut at h
  split at h
  · rename_i h1
    cases h
    exact ⟨Or.inl h1, by unfold refPart; rw [if_pos h1.1]⟩
  · split at h
    · rename_i h2
      split at h
      · cases h
      · split at h
        · cases h
          exact ⟨Or.inr h2, by unfold refPart; rw [if_neg (by omega)]⟩
        · cases h
    · cases h

theorem keyOut_keys {L : List V} {m : Nat} {mp : Value} {a : Int} : ∀ {P : List (Int × Int)} {acc : List V} {c : Int} {l : List V} {c' : Int}, keyOut L m mp a P acc c = .keys l c' → (∀ p ∈ P, PartIn L m p) ∧ l = acc ++ P.map (refPart L)
  | [], acc, c, l, c', h => by
    cases h
    simp
  | p :: P, acc, c, l, c', h => by
    rw [keyOut] at h
    cases ho : partOut L m mp a p c with
    | val y c2 =>
      rw [ho] at h
      obtain ⟨h1, h2⟩ := keyOut_keys (P := P) h
      obtain ⟨h3, h4⟩ := partOut_val ho
      refine ⟨fun q hq => ?_, by rw [h2, h4]; simp⟩
      simp only [List.mem_cons] at hq
      rcases hq with rfl | hq
      · exact h3
      · exact h1 q hq
    | noKey => rw [ho] at h; cases h
    | noValue c2 => rw [ho] at h; cases h
    | mark c2 => rw [ho] at h; cases h

/-- What the statement's scan holds behind k parts. -/
def Scan (L : List V) (m : Nat) (mp : Value) (a : Int) (P : List (Int × Int)) (O : KeyOut) (k : Nat) (calls bad : Int) : Prop :=
  (bad = 0 ∧ ∃ done, keyOut L m mp a (P.drop k) done calls = O) ∨ (bad ≠ 0 ∧ O.bad = bad ∧ O.calls = calls)

section
variable {L : List V} {m : Nat} {mp : Value} {a : Int} {P : List (Int × Int)} {O : KeyOut} {k : Nat} {calls bad : Int} {p : Int × Int}

theorem Scan.start : Scan L m mp a P (keyOut L m mp a P [] 0) 0 0 0 := Or.inl ⟨rfl, [], rfl⟩

theorem Scan.fin (h : Scan L m mp a P O k calls bad) (hk : bad ≠ 0 ∨ k = P.length) : O.bad = bad ∧ O.calls = calls := by
  rcases h with ⟨rfl, done, h⟩ | ⟨h1, h2⟩
  · rcases hk with hk | rfl
    · exact absurd rfl hk
    · rw [List.drop_length] at h
      subst h
      exact ⟨rfl, rfl⟩
  · exact h2

theorem Scan.noKey (h : Scan L m mp a P O k calls 0) (hp : P[k]? = some p) (hn : ¬ PartIn L m p) : Scan L m mp a P O (k + 1) calls 60 := by
  rcases h with ⟨_, done, h⟩ | ⟨h1, _⟩
  · have h1 : partOut L m mp a p calls = .noKey := by
      unfold partOut
      rw [if_neg (fun h => hn (Or.inl h)), if_neg (fun h => hn (Or.inr h))]
    rw [keyOut_at hp, h1] at h
    subst h
    exact Or.inr ⟨by decide, rfl, rfl⟩
  · exact absurd rfl h1

theorem Scan.field (h : Scan L m mp a P O k calls 0) (hp : P[k]? = some p) (hn : 0 ≤ p.1 ∧ p.1 < L.length) : Scan L m mp a P O (k + 1) calls 0 := by
  rcases h with ⟨_, done, h⟩ | ⟨h1, _⟩
  · have h1 : partOut L m mp a p calls = .val (L.getD p.1.toNat V.nil) calls := by
      unfold partOut
      rw [if_pos hn]
    rw [keyOut_at hp, h1] at h
    exact Or.inl ⟨rfl, _, h⟩
  · exact absurd rfl h1

theorem Scan.hook (h : Scan L m mp a P O k calls 0) (hp : P[k]? = some p) (hn : p.1 = -1 ∧ 0 ≤ p.2 ∧ p.2 < m) (b : Bool) (hb : b = true ↔ (Strikes mp calls a ∨ isV (exV p.2 L) = false)) : Scan L m mp a P O (k + 1) (calls + 1) (if b then 50 else 0) := by
  rcases h with ⟨_, done, h⟩ | ⟨h1, _⟩
  · rw [keyOut_at hp] at h
    unfold partOut at h
    rw [if_neg (by omega), if_pos hn] at h
    by_cases hs : Strikes mp calls a
    · rw [if_pos hs] at h
      rw [if_pos (hb.2 (Or.inl hs))]
      subst h
      exact Or.inr ⟨by decide, rfl, rfl⟩
    · rw [if_neg hs] at h
      by_cases hv : isV (exV p.2 L) = true
      · rw [if_pos hv] at h
        rw [if_neg (fun hbt => (hb.1 hbt).elim hs (fun h => by rw [hv] at h; cases h))]
        exact Or.inl ⟨rfl, _, h⟩
      · rw [if_neg hv] at h
        rw [if_pos (hb.2 (Or.inr (by simpa using hv)))]
        subst h
        exact Or.inr ⟨by decide, rfl, rfl⟩
  · exact absurd rfl h1
end

theorem def_any {w : World} {name : ByteArray} {kind cmp : Int} {po : Option Addr} {n pc : Nat} (hn : name.size ≤ maxLen) (hp : n ≤ maxLen) :
    Calls Tryd.prog 33 #[defV name kind (.slice po n pc) cmp] w fun e w' => e = .returned (.bool (decide (name.size ≤ 60) && decide (n ≤ 8))) ∧ Same (fun _ => False) w w' := by
  have HS := Lib.hid ((Same.refl (fun _ => False) w).alloc (defObj name kind (.slice po n pc) cmp))
  unfold maxLen at hn hp
  by_cases h1 : name.size ≤ 60
  · have h1' : (name.size : Int) ≤ 60 := by omega
    by_cases h2 : n ≤ 8
    · have h2' : (n : Int) ≤ 8 := by omega
      rw [decide_eq_true h1, decide_eq_true h2]
      clear h1 h2
      go_enter Tryd.func33, Tryd.ntmps33
      go_wp2_with fail
      go_ret
      exact ⟨rfl, HS.out⟩
    · have h2' : ¬ (n : Int) ≤ 8 := by omega
      rw [decide_eq_true h1, decide_eq_false h2]
      clear h1 h2
      go_enter Tryd.func33, Tryd.ntmps33
      go_wp2_with fail
      go_ret
      exact ⟨rfl, HS.out⟩
  · have h1' : ¬ (name.size : Int) ≤ 60 := by omega
    rw [decide_eq_false h1]
    clear h1
    go_enter Tryd.func33, Tryd.ntmps33
    go_wp2_with fail
    go_ret
    exact ⟨rfl, HS.out⟩

/-- What stands at a round of rialtoref7.Of. -/
structure RefI (w : World) (name : ByteArray) (kind : Int) (parts : Value) (cmp : Int) (lv : Value) (done : List V) (wr : World) : Prop where
  same : Same (fun _ => False) w wr
  d : wr.heap[w.heap.size]? = some (defObj name kind parts cmp)
  own : wr.ownsRow (w.heap.size + 1) 38 4 lv done.length (vals done)

theorem RefI.next {w wr wa w4 : World} {name : ByteArray} {kind cmp : Int} {parts lv : Value} {done : List V} {y : V} {g cap : Nat} (hI : RefI w name kind parts cmp lv done wr) (hs : Same (fun _ => False) wr wa)
    (ho : w4.ownsRow (w.heap.size + 1) 38 4 (.slice (some ⟨g, 0, none⟩) (done.length + 1) cap) (done.length + 1) (vals done ++ y.cells)) (hg : wa.grownBy w4 lv.ownBlock) :
    RefI w name kind parts cmp (.slice (some ⟨g, 0, none⟩) (done.length + 1) cap) (done ++ [y]) w4 := by
  have hlb : ∀ j, lv.ownBlock = some j → w.heap.size + 1 ≤ j := fun j hj => (hI.own.lt j hj).1
  have h4 : Same (fun j => lv.ownBlock = some j) wr w4 := (hs.weaken (F' := fun j => lv.ownBlock = some j) (fun _ _ h => h.elim)).grown hg (fun j hj _ => hj)
  refine ⟨hI.same.trans h4 (fun j hj e => by have := hlb j e; omega), h4.obj hI.d (fun e => by have := hlb _ e; omega), ?_⟩
  rw [vals_snoc, List.length_append]
  exact ho

set_option maxHeartbeats 8000000 in
theorem refOf_any {w : World} {name : ByteArray} {kind cmp : Int} {parts vs : Value} {L : List V} {P : List (Int × Int)} (hr : ReadV w vs L) (hp : ReadP w parts P) (hok : ∀ y ∈ L, y.ok) (hsz : ∀ y ∈ L, y.s.size ≤ 200) (hn : L.length ≤ 1000) (hpn : P.length ≤ 1000)
    (hin : ∀ p ∈ P, 0 ≤ p.1 → p.1 < L.length) :
    Calls Tryd.prog 39 #[defV name kind parts cmp, vs] w fun e w' => ∃ u, e = .returned u ∧ w'.ownsRow (w.heap.size + 1) 38 4 u P.length (vals (P.map (refPart L))) ∧ Same (fun _ => False) w w' := by
  obtain ⟨vo, vcap, rfl⟩ := readV_len hr
  have HP := Lib.hid hp; have HR := Lib.hid hr
  obtain ⟨po, pcap, rfl, _⟩ := hp
  have hs0 := (Same.refl (fun _ => False) w).alloc (defObj name kind (.slice po P.length pcap) cmp)
  have HI0 := Lib.hid (show RefI w name kind (.slice po P.length pcap) cmp (.slice none 0 0) [] (w.alloc (defObj name kind (.slice po P.length pcap) cmp)) from ⟨hs0, heap_alloc_new _ _, World.ownsRow_nil _ _ _ _⟩)
  have HOK := Lib.hid hok; have HSZ := Lib.hid hsz; have HIN := Lib.hid hin
  clear hr hs0 hok hsz hin
  go_enter Tryd.func39, Tryd.ntmps39
  go_wp2_with fail
  go_loopg [6, 5] P.length (fun r i lv wr => ∃ (k : Nat) (done : List V), k + r = P.length ∧ i = .int .i64 k ∧ done = (P.take k).map (refPart L) ∧ RefI w name kind (.slice po P.length pcap) cmp lv done wr)
  case atStart => exact ⟨0, [], by omega, rfl, rfl, HI0.out⟩
  case round =>
    obtain ⟨k, done, hk, rfl, hdn, hI⟩ := hrel
    have HI := Lib.hid hI; have HK := Lib.hid hk; have HDN := Lib.hid hdn
    obtain ⟨d0, d1, d2, d3⟩ := def_cells hI.d
    have lh := lt_of_block hI.d
    clear d0 d1 d3
    by_cases hlt : k < P.length
    · obtain ⟨F, H, hpp⟩ : ∃ F H, P[k]? = some (F, H) := ⟨P[k].1, P[k].2, List.getElem?_eq_getElem hlt⟩
      have hdl : done.length = k := by rw [hdn]; simp; omega
      have HDL := Lib.hid hdl
      have hsnoc : ∀ y, y = refPart L (F, H) → done ++ [y] = (P.take (k + 1)).map (refPart L) := by
        intro y hy
        obtain ⟨hk1, hk2⟩ := List.getElem?_eq_some_iff.1 hpp
        rw [List.take_succ_eq_append_getElem hk1, hk2, hdn, hy]
        simp
      have HSN := Lib.hid hsnoc
      have hmem : (F, H) ∈ P := List.mem_of_getElem? hpp
      have hpr := HP.out.same hI.same
      have hvr := HR.out.same hI.same
      obtain ⟨ao', cap', e1, hpc⟩ := hpr
      cases e1
      obtain ⟨b, off, rfl, hbl, p0, p1⟩ := hpc k (F, H) hpp
      have hlt' : (k : Int) < (P.length : Int) := by omega
      have HVR := Lib.hid hvr
      clear hI hpc hpp hk hdn hdl hsnoc
      by_cases hF : 0 ≤ F
      · obtain ⟨f, rfl⟩ : ∃ f : Nat, F = f := ⟨F.toNat, by omega⟩
        have hfl : f < L.length := by have := HIN.out _ hmem hF; simp only at this; omega
        have hfl' : (f : Int) < (L.length : Int) := by omega
        have hy : L[f] = refPart L ((f : Int), H) := by unfold refPart; rw [if_pos hF]; simp [List.getD_eq_getElem?_getD, List.getElem?_eq_getElem hfl]
        have HY := Lib.hid hy
        obtain ⟨vo', vc', e1, hvc⟩ := hvr
        cases e1
        obtain ⟨vb, voff, rfl, hvb, q0, q1, q2, q3⟩ := hvc f L[f] (List.getElem?_eq_getElem hfl)
        clear hvc hy hmem
        generalize L[f] = y at *
        obtain ⟨yk, yi, ys, yf⟩ := y
        simp only at q0 q1 q2 q3
        go_wp2_with (at_builtin; refine wpList_append_elem (wr.alloc (.cells #[.int .i64 (f : Int), .int .i64 H] 81)) rfl (.tmp 23) (.tmp 29) 29 rfl (w.heap.size + 1) 38 (.agg #[.int .i64 0, .int .i64 0, .string ⟨#[]⟩, .float .f64 0]) 4 40 Tryd.underlying29 value_info rfl (by decide) u5 done.length (vals done) rfl (HI.out.own.alloc _) [.int .i64 yk, .int .i64 yi, .string ys, .float .f64 yf] 1 ?_ rfl ?_ ?_ ?_ ?_ ?_; (focus (simp [go_sem])); (focus (intro u hu; simp at hu; rcases hu with rfl | rfl | rfl | rfl <;> rfl)); (focus (have := HDL.out; unfold maxLen; omega)); (focus (have := HDL.out; omega)); (focus (first | omega | (simp; omega))); intro g gcap w4 hown hgrow _ _ _; have HN := Lib.hid (HI.out.next (y := ⟨yk, yi, ys, yf⟩) ((Same.refl _ wr).alloc _) hown hgrow); clear hown hgrow q0 q1 q2 q3 p0 p1)
        go_roundg (gk - 1)
        case measure => have := HK.out; omega
        case rel => exact ⟨k + 1, _, by have := HK.out; omega, by go_num, HSN.out _ HY.out, HN.out⟩
      · have hy : exV H L = refPart L (F, H) := by unfold refPart; rw [if_neg hF]
        have HY := Lib.hid hy
        have hs1 : Same (fun _ => False) wr (wr.alloc (.cells #[.int .i64 F, .int .i64 H] 81)) := (Same.refl _ wr).alloc _
        have HS1 := Lib.hid hs1
        clear hy hvr hmem hs1
        go_wp2_with fail
        refine (ref7ex_any H (HVR.out.same HS1.out) HOK.out HSZ.out hn).mono ?_
        rintro e w2 ⟨rfl, hs2⟩
        have HS2 := Lib.hid (HS1.out.trans hs2 (fun _ _ h => h))
        have hl2 : w.heap.size < w2.heap.size := by have := HS2.out.size; omega
        clear hs2
        generalize exV H L = y at *
        obtain ⟨yk, yi, ys, yf⟩ := y
        go_wp2_with (at_builtin; refine wpList_append_elem w2 rfl (.tmp 31) (.tmp 36) 29 rfl (w.heap.size + 1) 38 (.agg #[.int .i64 0, .int .i64 0, .string ⟨#[]⟩, .float .f64 0]) 4 40 Tryd.underlying29 value_info rfl (by decide) u5 done.length (vals done) rfl (HS2.out.row HI.out.own (fun _ _ => id)) [.int .i64 yk, .int .i64 yi, .string ys, .float .f64 yf] 1 ?_ rfl ?_ ?_ ?_ ?_ ?_; (focus (simp [go_sem])); (focus (intro u hu; simp at hu; rcases hu with rfl | rfl | rfl | rfl <;> rfl)); (focus (have := HDL.out; unfold maxLen; omega)); (focus (have := HDL.out; omega)); (focus (first | omega | (simp; omega))); intro g gcap w4 hown hgrow _ _ _; have HN := Lib.hid (HI.out.next (y := ⟨yk, yi, ys, yf⟩) HS2.out hown hgrow); clear hown hgrow p0 p1)
        go_roundg (gk - 1)
        case measure => have := HK.out; omega
        case rel => exact ⟨k + 1, _, by have := HK.out; omega, by go_num, HSN.out _ HY.out, HN.out⟩
    · obtain rfl : k = P.length := by omega
      rw [List.take_length] at hdn
      have hlen : done.length = P.length := by rw [hdn]; simp
      have ho := hI.own
      rw [hlen, hdn] at ho
      have HO := Lib.hid ho
      clear hI hlt hk hdn ho hlen
      go_wp2_with fail
      go_ret
      exact ⟨_, rfl, HO.out, HI.out.same⟩

end Go.Proofs.YtcbapmkipcffgaaDoor
