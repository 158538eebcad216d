/-
  tree's leaves, inners: one node, or two. Conditions: sixteen entries at most, a small count of writes.
-/
import Derived.Test.YtgfmemggfbgjeaaGreatDoorM7
namespace Go.Proofs.YtgfmemggfbgjeaaGreatDoor
open Go.RowKit Go.Extern.Stop Go.Stop Go.Extern Go.Lib
set_option maxRecDepth 1000000

/-- Entries in parts. -/
abbrev PartsOf {α : Type} (l : List α) (Ls : List (List α)) : Prop := Parts l Ls

theorem parts_map {α : Type} (f : α → Value) (l : List α) (ls : List (List Value)) (h : Parts (l.map f) ls) : ∃ Ls : List (List α), ls = Ls.map (List.map f) ∧ PartsOf l Ls := by
  rcases h with ⟨h1, rfl⟩ | ⟨h1, a, b, rfl, h2, h3, h4, h5, h6⟩
  · exact ⟨[l], rfl, Or.inl ⟨by simpa using h1, rfl⟩⟩
  · obtain ⟨A, B, rfl, rfl, rfl⟩ := List.map_eq_append_iff.1 h2
    exact ⟨[A, B], rfl, Or.inr ⟨by simpa using h1, A, B, rfl, rfl, by simpa using h3, by simpa using h4, by simpa using h5, by simpa using h6⟩⟩

/-- What leaves and inners make. -/
def Made (w : World) (P : Nat → Prop) (h n : Nat) (L : List En) (ks : List Kid) : Prop :=
  kidsL ks = L ∧ (∀ k ∈ ks, NodeAt w P h k.b k.s k.L) ∧ ((n ≤ 8 ∧ ∃ k, ks = [k] ∧ k.s = n) ∨ (8 < n ∧ ∃ a b, ks = [a, b] ∧ 4 ≤ a.s ∧ 4 ≤ b.s))

/-- How far the loop has come. -/
def Run (P : Nat → Prop) (h : Nat) (w1 wr : World) (t : Nat) (r : Value) (c : Int) (es : List (Nat × List En)) (o : Value) (j : Nat) (ks : List Kid) : Prop :=
  ks.length = j ∧ wr.ownsRow w1.heap.size 109 1 o j (kidsV ks) ∧ (∀ k ∈ ks, w1.heap.size ≤ k.b ∧ NodeAt wr (fun x => (P x ∧ x < w1.heap.size) ∨ x = k.b) h k.b k.s k.L) ∧
    ks.map (fun k => (k.s, k.L)) = es.take j ∧ wr.heap[t]? = some (headObj r (c + j)) ∧ Same (fun k => k = t) w1 wr

theorem run_mid {P : Nat → Prop} {h : Nat} {w1 wr w2 : World} {t : Nat} {r : Value} {c : Int} {es : List (Nat × List En)} {o : Value} {j : Nat} {ks : List Kid} (hr : Run P h w1 wr t r c es o j ks) (hs : Same (fun k => k = t) wr w2) (ht : t < w1.heap.size) :
    w2.ownsRow w1.heap.size 109 1 o j (kidsV ks) :=
  hs.row hr.2.1 (fun k e h => by have := (hr.2.1.lt k e).1; omega)

theorem run_step {P : Nat → Prop} {h : Nat} {w1 wr w2 w3 : World} {t : Nat} {r : Value} {c : Int} {es : List (Nat × List En)} {o : Value} {j : Nat} {ks : List Kid} (hr : Run P h w1 wr t r c es o j ks) (hs : Same (fun k => k = t) wr w2) (ht : t < w1.heap.size)
    {b s : Nat} {L : List En} (hb : wr.heap.size ≤ b) (hn : NodeAt w2 (fun x => (P x ∧ x < w1.heap.size) ∨ x = b) h b s L) (he : es[j]? = some (s, L)) (hh : w2.heap[t]? = some (headObj r (c + j + 1))) {g cap : Nat}
    (ho : w3.ownsRow w1.heap.size 109 1 (.slice (some ⟨g, 0, none⟩) (j + 1) cap) (j + 1) (kidsV ks ++ [.pointer (some ⟨b, 0, none⟩)])) (hg : w2.grownBy w3 o.ownBlock) :
    Run P h w1 w3 t r c es (.slice (some ⟨g, 0, none⟩) (j + 1) cap) (j + 1) (ks ++ [⟨b, s, L⟩]) := by
  have hmid := run_mid hr hs ht
  obtain ⟨hl, hrow, hk, hm, hhd, hs1⟩ := hr
  have hs3 : Same (fun k => o.ownBlock = some k) w2 w3 := ⟨hg.os, hg.tape, hg.output, hg.size, fun i hi hn => hg.block i hi (fun e => hn e.symm)⟩
  have hsz := hs1.size
  have hsz2 := hs.size
  have typ : ∀ {b : Nat} {l k : Value} {n : Int}, w2.heap[b]? = some (nodeObj l k n) → o.ownBlock ≠ some b := fun {b l k n} hb e => by
    rcases hmid.2 with ⟨rfl, _⟩ | ⟨g, cap, cur, rfl, _, hh, _⟩
    · cases e
    · simp only [Value.ownBlock, Option.some.injEq] at e
      subst e
      rw [hb] at hh
      simp at hh
  have keep3 : ∀ {h b s : Nat} {L : List En}, NodeAt w2 (fun x => (P x ∧ x < w1.heap.size) ∨ x = b) h b s L → NodeAt w3 (fun x => (P x ∧ x < w1.heap.size) ∨ x = b) h b s L := fun {h b s L} hn => by
    obtain ⟨l, k, hb⟩ := hn.count
    refine hn.keep hs3 (fun x hx => Or.inr ?_)
    have h1 := (hmid.lt x hx).1
    rintro (⟨_, h2⟩ | rfl)
    · omega
    · exact typ hb hx
  refine ⟨by simp [hl], by simpa using ho, fun k hkm => ?_, ?_, ?_, ?_⟩
  · rcases List.mem_append.1 hkm with hkm | hkm
    · obtain ⟨h1, h2⟩ := hk k hkm
      exact ⟨h1, keep3 (h2.same hhd hs)⟩
    · simp only [List.mem_singleton] at hkm
      subst hkm
      exact ⟨by show w1.heap.size ≤ b; omega, keep3 hn⟩
  · rw [List.take_add_one, he, List.map_append, hm]
    rfl
  · have := hs3.obj hh (fun e => by have := (hmid.lt t e).1; omega)
    rw [this, show c + ((j + 1 : Nat) : Int) = c + j + 1 by omega]
  · exact (hs1.trans hs (fun _ _ h => h)).trans hs3 (fun i hi e => by have := (hmid.lt i e).1; omega)

theorem run_end {α : Type} {P : Nat → Prop} {h : Nat} {w w1 wr : World} {t : Nat} {r : Value} {c : Int} {o : Value} {ks : List Kid} {l : List α} {Ls : List (List α)} (lst : List α → List En) (ha : ∀ a b, lst (a ++ b) = lst a ++ lst b)
    (hs : w.heap.size ≤ w1.heap.size) (hP : ∀ k, w.heap.size ≤ k → P k) (hp : PartsOf l Ls) (hr : Run P h w1 wr t r c (Ls.map fun A => (A.length, lst A)) o Ls.length ks) : Made wr P h l.length (lst l) ks := by
  obtain ⟨hl, hrow, hk, hm, hhd, hs1⟩ := hr
  have hk' : ∀ k ∈ ks, NodeAt wr P h k.b k.s k.L := fun k hkm => (hk k hkm).2.mono (fun x _ hx => by
    rcases hx with ⟨h1, _⟩ | rfl
    · exact h1
    · exact hP _ (by have := (hk k hkm).1; omega))
  rcases hp with ⟨h8, rfl⟩ | ⟨h8, a, b, rfl, rfl, h2, h3, h4, h5⟩
  · obtain ⟨k, rfl⟩ := List.length_eq_one_iff.1 hl
    simp only [List.map_cons, List.map_nil, List.length_cons, List.length_nil, List.take_succ_cons, List.take_zero, List.cons.injEq, Prod.mk.injEq, and_true] at hm
    exact ⟨by rw [kidsL_cons, kidsL_nil, hm.2, List.append_nil], hk', Or.inl ⟨h8, k, rfl, hm.1⟩⟩
  · obtain ⟨k, m, rfl⟩ : ∃ k m, ks = [k, m] := by
      match ks, hl with
      | [k, m], _ => exact ⟨k, m, rfl⟩
    simp only [List.map_cons, List.map_nil, List.length_cons, List.length_nil, List.take_succ_cons, List.take_zero, List.cons.injEq, Prod.mk.injEq, and_true] at hm
    obtain ⟨⟨h6, h7⟩, h9, h10⟩ := hm
    exact ⟨by rw [kidsL_cons, kidsL_cons, kidsL_nil, h7, h10, List.append_nil, ha], hk', Or.inr ⟨h8, k, m, rfl, by omega, by omega⟩⟩

theorem kid_info : (Tryz.prog.info? 109).map (fun i => (i.zero, i.size, i.bytes)) = some (some (.pointer none), 1, 8) := by kernel_rfl

set_option maxHeartbeats 8000000 in
theorem leaves_any {w : World} {t : Nat} {r v : Value} {c : Int} {L : List En} (ht : w.heap[t]? = some (headObj r c)) (hc : 0 ≤ c ∧ c ≤ 900000000) (h : ReadE w v L) (h0 : 0 < L.length) (hn : L.length ≤ 16)
    {P : Nat → Prop} (hP : ∀ k, v.ownBlock = some k → P k) (hPf : ∀ k, w.heap.size ≤ k → P k) :
    Calls Tryz.prog 77 #[.pointer (some ⟨t, 0, none⟩), v] w fun e w' => ∃ g cap ks, e = .returned (.slice (some ⟨g, 0, none⟩) ks.length cap) ∧ w'.ownsRow w.heap.size 109 1 (.slice (some ⟨g, 0, none⟩) ks.length cap) ks.length (kidsV ks) ∧ Made w' P 0 L.length L ks ∧ w'.heap[t]? = some (headObj r (c + ks.length)) ∧ Same (fun k => k = t) w w' := by
  have hlt := lt_of_block ht
  have HC := Lib.hid (cuti h (by omega) (by omega) hP hPf)
  have HT := Lib.hid ht
  have HP := Lib.hid hPf
  obtain ⟨c0, c1⟩ := hc
  clear h ht hP hPf
  go_enter Tryz.func77, Tryz.ntmps77
  go_wp2_with fail
  refine HC.out.mono ?_
  rintro e w1 ⟨u, rfl, ⟨vs, Ls, hvs, hown, hlen, hrd, hpo⟩, hs1⟩
  have hvl : 0 < vs.length ∧ vs.length ≤ 2 := by
    rcases hpo with ⟨_, rfl⟩ | ⟨_, a, b, rfl, _⟩ <;> simp [hlen]
  obtain ⟨v0, v2⟩ := hvl
  obtain ⟨q, qo, qcap, qcs, qfr, rfl, hq, _⟩ := hvs.where v0
  have hlq := lt_of_block hq
  have hlt1 : t < w1.heap.size := by have := hs1.size; omega
  have ht1 : w1.heap[t]? = some (headObj r c) := hs1.obj HT.out id
  have hrun : Run P 0 w1 w1 t r c (Ls.map fun A => (A.length, A)) (.slice none 0 0) 0 [] := ⟨rfl, World.ownsRow_nil _ _ _ _, fun k hk => (by cases hk), rfl, by simpa using ht1, Same.refl _ _⟩
  have HV := Lib.hid hvs; have HO := Lib.hid hown; have HL := Lib.hid hlen; have HR := Lib.hid hrd; have HPO := Lib.hid hpo; have HS1 := Lib.hid hs1; have HT1 := Lib.hid ht1; have HRUN := Lib.hid hrun
  clear hvs hown hlen hrd hpo hs1 ht1 hrun hq
  go_wp2_with fail
  go_loopg [5, 11] vs.length (fun rr o vi wr => ∃ (j : Nat) (ks : List Kid), j + rr = vs.length ∧ vi = .int .i64 j ∧ Run P 0 w1 wr t r c (Ls.map fun A => (A.length, A)) o j ks)
  case atStart => exact ⟨0, [], by omega, rfl, HRUN.out⟩
  case round =>
    obtain ⟨j, ks, hj, rfl, hrun⟩ := hrel
    have hsr := hrun.2.2.2.2.2
    have hhr := hrun.2.2.2.2.1
    have HRUN2 := Lib.hid hrun
    by_cases hlast : j < vs.length
    · have hl' : (j : Int) < (vs.length : Int) := by omega
      have hlen := HL.out
      have hAj : Ls[j]? = some (Ls[j]'(by omega)) := List.getElem?_eq_getElem _
      have hvj : vs[j]? = some vs[j] := List.getElem?_eq_getElem hlast
      have hx := (HV.out.same hsr (head_only HT1.out) (by decide)).cell hvj
      have hrj := ReadZ.same (HR.out j _ (Ls[j]'(by omega)) hvj hAj) hsr (head_only HT1.out) (by decide)
      have hoj := HO.out vs[j] (List.getElem_mem _)
      obtain ⟨ao, ac, hvv, _⟩ := ReadE.shape hrj
      generalize hA : Ls[j]'(by omega) = A at *
      generalize hV : vs[j] = V at *
      subst hvv
      have hlqr : q < wr.heap.size := by have := hsr.size; omega
      have HX := Lib.hid hx
      have HRJ := Lib.hid hrj; have HOJ := Lib.hid hoj; have HSR := Lib.hid hsr
      have HA := Lib.hid hAj
      have hA8 : A.length ≤ 8 := by
        rcases HPO.out with ⟨h8, rfl⟩ | ⟨_, a, b, rfl, _, _, ha, _, hb⟩
        · have := List.mem_of_getElem? hAj
          rw [List.mem_singleton.1 this]; exact h8
        · have := List.mem_of_getElem? hAj
          simp only [List.mem_cons, List.not_mem_nil, or_false] at this
          rcases this with rfl | rfl <;> assumption
      have hjc : (j : Int) ≤ 2 := by omega
      have HLEAF := Lib.hid (leaf_any (lo := ao) (n := A.length) (cap := ac) hhr ⟨by omega, by omega⟩)
      have HH := Lib.hid hhr
      have htr := lt_of_block hhr
      clear hvj hAj hrj hoj hsr hrun hlen hhr hA hV
      go_wp2_with fail
      refine HLEAF.out.mono ?_
      rintro e w2 ⟨b, rfl, hb, hbn, hbh, hs2⟩
      have hmid := run_mid HRUN2.out hs2 hlt1
      have hnode : NodeAt w2 (fun x => (P x ∧ x < w1.heap.size) ∨ x = b) 0 b A.length A := ⟨rfl, hA8, Or.inr rfl, _, hbn, ReadZ.same HRJ.out hs2 (head_only HH.out) (by decide), fun k hk => ⟨Or.inl (HOJ.out k hk), by have := (HOJ.out k hk).2; have := HSR.out.size; have := hs2.size; omega⟩⟩
      have HN := Lib.hid hnode; have HS2 := Lib.hid hs2; have HBH := Lib.hid hbh; have HB := Lib.hid hb; have HMID := Lib.hid hmid
      have hj1 : j ≤ 2 := by omega
      clear hnode hs2 hbh hb hbn hmid
      go_wp2_with (at_builtin; refine wpList_append_elem w2 rfl _ _ 114 rfl w1.heap.size 109 (.pointer none) 1 8 rfl kid_info rfl (by decide) u5 j (kidsV ks) rfl HMID.out [.pointer (some ⟨b, 0, none⟩)] _ rfl rfl ?c1 ?c2 ?c3 ?c4 ?_)
      case c1 => intro u hu; rw [List.mem_singleton.1 hu]; rfl
      case c2 => unfold maxLen; omega
      case c3 => omega
      case c4 => have := HSR.out.size; have := HS2.out.size; omega
      intro g gc w3 ho hg _ hgl _
      have hst := run_step HRUN2.out HS2.out hlt1 HB.out HN.out (by rw [List.getElem?_map, HA.out]; rfl) HBH.out ho hg
      have HST := Lib.hid hst
      clear hst ho hg
      go_wp2_with fail
      go_roundg (gk - 1)
      case measure => omega
      case rel => exact ⟨j + 1, _, by omega, by go_num, HST.out⟩
    · have hl' : ¬ (j : Int) < (vs.length : Int) := by omega
      have hjl : j = Ls.length := by have := HL.out; omega
      subst hjl
      have hmade := run_end (fun A => A) (fun _ _ => rfl) HS1.out.size HP.out HPO.out hrun
      obtain ⟨hkl, hrow, _⟩ := id hrun
      have hv : ∃ g cap, u5 = .slice (some ⟨g, 0, none⟩) Ls.length cap := by
        rcases hrow.2 with ⟨rfl, h2⟩ | ⟨g, c, _, rfl, _⟩
        · omega
        · exact ⟨g, c, rfl⟩
      obtain ⟨g, gc, rfl⟩ := hv
      have HM := Lib.hid hmade
      have hs : Same (fun k => k = t) w wr := (HS1.out.weaken (fun _ _ h => h.elim)).trans hsr (fun _ _ h => h)
      have HS := Lib.hid hs
      have hrow' : wr.ownsRow w.heap.size 109 1 (.slice (some ⟨g, 0, none⟩) ks.length gc) ks.length (kidsV ks) := by
        rw [hkl]
        obtain ⟨a1, a2, a3, a4, cs, a5, a6, a7⟩ := ownsRow_open hrow
        exact ownsRow_shut (by have := HS1.out.size; omega) a2 a3 a5 a6 a7
      have hhr' : wr.heap[t]? = some (headObj r (c + ks.length)) := by rw [hkl]; exact hhr
      have HR2 := Lib.hid hrow'; have HH2 := Lib.hid hhr'; have HKL := Lib.hid hkl
      clear hrow hrow' hhr hhr' hs hmade hrun hsr hkl
      go_wp2_with fail
      go_ret
      exact ⟨g, gc, ks, (by rw [HKL.out]; rfl), HR2.out, HM.out, HH2.out, HS.out⟩

set_option maxHeartbeats 8000000 in
theorem inners_any {w : World} {t : Nat} {r v : Value} {c : Int} {h : Nat} {K : List Kid} (ht : w.heap[t]? = some (headObj r c)) (hc : 0 ≤ c ∧ c ≤ 900000000) (hr0 : ReadC w 109 v (kidsV K)) (h0 : 0 < K.length) (hn : K.length ≤ 16)
    {P : Nat → Prop} (hP : ∀ k, v.ownBlock = some k → P k) (hPf : ∀ k, w.heap.size ≤ k → P k) (hK : ∀ k ∈ K, 4 ≤ k.s ∧ NodeAt w P h k.b k.s k.L) (hKL : (kidsL K).length ≤ 1000000) :
    Calls Tryz.prog 80 #[.pointer (some ⟨t, 0, none⟩), v] w fun e w' => ∃ g cap ks, e = .returned (.slice (some ⟨g, 0, none⟩) ks.length cap) ∧ w'.ownsRow w.heap.size 109 1 (.slice (some ⟨g, 0, none⟩) ks.length cap) ks.length (kidsV ks) ∧ Made w' P (h + 1) K.length (kidsL K) ks ∧ w'.heap[t]? = some (headObj r (c + ks.length)) ∧ Same (fun k => k = t) w w' := by
  have hlt := lt_of_block ht
  have hlV : (kidsV K).length = K.length := by simp
  have HC := Lib.hid (cutk hr0 (by omega) (by omega) (kids_one K) hP hPf)
  have HT := Lib.hid ht
  have HP := Lib.hid hPf
  obtain ⟨c0, c1⟩ := hc
  have HK := Lib.hid hK; have HKL0 := Lib.hid hKL
  clear hr0 ht hP hPf hK hKL
  go_enter Tryz.func80, Tryz.ntmps80
  go_wp2_with fail
  refine HC.out.mono ?_
  rintro e w1 ⟨u, rfl, ⟨vs, ls, hvs, hown, hlen, hrd, hparts⟩, hs1⟩
  obtain ⟨Ls, rfl, hpo⟩ := parts_map _ _ _ hparts
  rw [List.length_map] at hlen
  have hvl : 0 < vs.length ∧ vs.length ≤ 2 := by
    rcases hpo with ⟨_, rfl⟩ | ⟨_, a, b, rfl, _⟩ <;> simp [hlen]
  obtain ⟨v0, v2⟩ := hvl
  obtain ⟨q, qo, qcap, qcs, qfr, rfl, hq, _⟩ := hvs.where v0
  have hlq := lt_of_block hq
  have hlt1 : t < w1.heap.size := by have := hs1.size; omega
  have ht1 : w1.heap[t]? = some (headObj r c) := hs1.obj HT.out id
  have hrun : Run P (h + 1) w1 w1 t r c (Ls.map fun A => (A.length, kidsL A)) (.slice none 0 0) 0 [] := ⟨rfl, World.ownsRow_nil _ _ _ _, fun k hk => (by cases hk), rfl, by simpa using ht1, Same.refl _ _⟩
  have HV := Lib.hid hvs; have HO := Lib.hid hown; have HL := Lib.hid hlen; have HR := Lib.hid hrd; have HPO := Lib.hid hpo; have HS1 := Lib.hid hs1; have HT1 := Lib.hid ht1; have HRUN := Lib.hid hrun
  clear hvs hown hlen hrd hpo hs1 ht1 hrun hparts hq
  go_wp2_with fail
  go_loopg [5, 11] vs.length (fun rr o vi wr => ∃ (j : Nat) (ks : List Kid), j + rr = vs.length ∧ vi = .int .i64 j ∧ Run P (h + 1) w1 wr t r c (Ls.map fun A => (A.length, kidsL A)) o j ks)
  case atStart => exact ⟨0, [], by omega, rfl, HRUN.out⟩
  case round =>
    obtain ⟨j, ks, hj, rfl, hrun⟩ := hrel
    have hsr := hrun.2.2.2.2.2
    have hhr := hrun.2.2.2.2.1
    have HRUN2 := Lib.hid hrun
    by_cases hlast : j < vs.length
    · have hl' : (j : Int) < (vs.length : Int) := by omega
      have hlen := HL.out
      have hAj : Ls[j]? = some (Ls[j]'(by omega)) := List.getElem?_eq_getElem _
      have hvj : vs[j]? = some vs[j] := List.getElem?_eq_getElem hlast
      have hx := (HV.out.same hsr (head_only HT1.out) (by decide)).cell hvj
      have hrj := (HR.out j _ ((Ls[j]'(by omega)).map fun k => .pointer (some ⟨k.b, 0, none⟩)) hvj (by rw [List.getElem?_map, hAj]; rfl)).same hsr (head_only HT1.out) (by decide)
      have hoj := HO.out vs[j] (List.getElem_mem _)
      obtain ⟨ao, ac, hvv, _, _⟩ := id hrj
      rw [List.length_map] at hvv
      generalize hA : Ls[j]'(by omega) = A at *
      generalize hV : vs[j] = V at *
      subst hvv
      have hlqr : q < wr.heap.size := by have := hsr.size; omega
      have HX := Lib.hid hx
      have HRJ := Lib.hid hrj; have HOJ := Lib.hid hoj; have HSR := Lib.hid hsr
      have HA := Lib.hid hAj
      have hA8 : A.length ≤ 8 := by
        rcases HPO.out with ⟨h8, rfl⟩ | ⟨_, a, b, rfl, _, _, ha, _, hb⟩
        · have := List.mem_of_getElem? hAj
          rw [List.mem_singleton.1 this]; exact h8
        · have := List.mem_of_getElem? hAj
          simp only [List.mem_cons, List.not_mem_nil, or_false] at this
          rcases this with rfl | rfl <;> assumption
      have hjc : (j : Int) ≤ 2 := by omega
      have hAK : (∀ k ∈ A, k ∈ K) ∧ (kidsL A).length ≤ (kidsL K).length ∧ 0 < A.length := by
        rcases HPO.out with ⟨h8, rfl⟩ | ⟨_, a, b, rfl, rfl, ha, _, hb, _⟩
        · have := List.mem_of_getElem? hAj
          rw [List.mem_singleton.1 this]; exact ⟨fun _ h => h, Nat.le_refl _, h0⟩
        · have := List.mem_of_getElem? hAj
          simp only [List.mem_cons, List.not_mem_nil, or_false] at this
          rw [kidsL_append, List.length_append]
          rcases this with rfl | rfl
          · exact ⟨fun k hk => List.mem_append_left _ hk, by omega, by omega⟩
          · exact ⟨fun k hk => List.mem_append_right _ hk, by omega, by omega⟩
      have hs1r : Same (fun k => k = t) w wr := (HS1.out.weaken (fun _ _ h => h.elim)).trans hsr (fun _ _ h => h)
      have HAK := Lib.hid hAK; have HS1R := Lib.hid hs1r
      have HLEAF := Lib.hid (inner_any (ks := A) hhr ⟨by omega, by omega⟩ hrj hAK.2.2 (by omega) (fun k hk => ((HK.out k (hAK.1 k hk)).2.same HT.out hs1r).count) (by have := HKL0.out; omega))
      have HH := Lib.hid hhr
      have htr := lt_of_block hhr
      clear hAK hs1r hvj hAj hrj hoj hsr hrun hlen hhr hA hV
      go_wp2_with fail
      refine HLEAF.out.mono ?_
      rintro e w2 ⟨b, rfl, hb, hbn, hbh, hs2⟩
      have hmid := run_mid HRUN2.out hs2 hlt1
      have hnode : NodeAt w2 (fun x => (P x ∧ x < w1.heap.size) ∨ x = b) (h + 1) b A.length (kidsL A) := ⟨hA8, HAK.out.2.2, Or.inr rfl, _, A, rfl, hbn, HRJ.out.same hs2 (head_only HH.out) (by decide), fun k hk => ⟨Or.inl (HOJ.out k hk), by have := (HOJ.out k hk).2; have := HSR.out.size; have := hs2.size; omega⟩, rfl, fun k hk => by
        obtain ⟨k4, kn⟩ := HK.out k (HAK.out.1 k hk)
        refine ⟨k4, ?_⟩
        refine (NodeAt.mono (w := w2) (P := fun x => P x ∧ x < w1.heap.size) (fun _ _ h => Or.inl h) ?_)
        refine NodeAt.same HH.out hs2 (NodeAt.same HT1.out HSR.out ?_)
        have hw1 := kn.same HT.out (HS1.out.weaken (fun _ _ h => h.elim))
        exact hw1.mono (fun x hx hp => ⟨hp, hx⟩)⟩
      have HN := Lib.hid hnode; have HS2 := Lib.hid hs2; have HBH := Lib.hid hbh; have HB := Lib.hid hb; have HMID := Lib.hid hmid
      have hj1 : j ≤ 2 := by omega
      clear hnode hs2 hbh hb hbn hmid
      go_wp2_with (at_builtin; refine wpList_append_elem w2 rfl _ _ 114 rfl w1.heap.size 109 (.pointer none) 1 8 rfl kid_info rfl (by decide) u5 j (kidsV ks) rfl HMID.out [.pointer (some ⟨b, 0, none⟩)] _ rfl rfl ?c1 ?c2 ?c3 ?c4 ?_)
      case c1 => intro u hu; rw [List.mem_singleton.1 hu]; rfl
      case c2 => unfold maxLen; omega
      case c3 => omega
      case c4 => have := HSR.out.size; have := HS2.out.size; omega
      intro g gc w3 ho hg _ hgl _
      have hst := run_step HRUN2.out HS2.out hlt1 HB.out HN.out (by rw [List.getElem?_map, HA.out]; rfl) HBH.out ho hg
      have HST := Lib.hid hst
      clear hst ho hg
      go_wp2_with fail
      go_roundg (gk - 1)
      case measure => omega
      case rel => exact ⟨j + 1, _, by omega, by go_num, HST.out⟩
    · have hl' : ¬ (j : Int) < (vs.length : Int) := by omega
      have hjl : j = Ls.length := by have := HL.out; omega
      subst hjl
      have hmade := run_end kidsL kidsL_append HS1.out.size HP.out HPO.out hrun
      obtain ⟨hkl, hrow, _⟩ := id hrun
      have hv : ∃ g cap, u5 = .slice (some ⟨g, 0, none⟩) Ls.length cap := by
        rcases hrow.2 with ⟨rfl, h2⟩ | ⟨g, c, _, rfl, _⟩
        · omega
        · exact ⟨g, c, rfl⟩
      obtain ⟨g, gc, rfl⟩ := hv
      have HM := Lib.hid hmade
      have hs : Same (fun k => k = t) w wr := (HS1.out.weaken (fun _ _ h => h.elim)).trans hsr (fun _ _ h => h)
      have HS := Lib.hid hs
      have hrow' : wr.ownsRow w.heap.size 109 1 (.slice (some ⟨g, 0, none⟩) ks.length gc) ks.length (kidsV ks) := by
        rw [hkl]
        obtain ⟨a1, a2, a3, a4, cs, a5, a6, a7⟩ := ownsRow_open hrow
        exact ownsRow_shut (by have := HS1.out.size; omega) a2 a3 a5 a6 a7
      have hhr' : wr.heap[t]? = some (headObj r (c + ks.length)) := by rw [hkl]; exact hhr
      have HR2 := Lib.hid hrow'; have HH2 := Lib.hid hhr'; have HKL := Lib.hid hkl
      clear hrow hrow' hhr hhr' hs hmade hrun hsr hkl
      go_wp2_with fail
      go_ret
      exact ⟨g, gc, ks, (by rw [HKL.out]; rfl), HR2.out, HM.out, HH2.out, HS.out⟩

end Go.Proofs.YtgfmemggfbgjeaaGreatDoor
