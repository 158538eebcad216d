/-
  Package code, told of memory: the reader reads a text. Conditions: none on inputs but a bound of the length.
-/
import Derived.Test.YtmdkfbbagjcboaaCodeRead
import Derived.Lib.IndexLaws
namespace Go.Proofs.Ytmdkfbbagjcboaa
open Go.RowKit

/-- 'append(s, x...)' of cells that are known: where the row then lies. -/
theorem wpList_append_row {P : Program} {ops : Array Oper} {Q : Exit → Act → World → Prop} {a : Act} {rest : List Oper} {o : Oper} (w : World) (hgd : o.guard = none) (s x : Operand) (t : TypeId)
    (ho : o.op = .call { callee := .builtin .append, args := #[s, x], argTypes := #[t, t] })
    (base : Nat) (e : TypeId) (z : Value) (size bytes : Nat) (ht : P.underlying t = some (.slice e)) (hinfo : (P.info? e).map (fun i => (i.zero, i.size, i.bytes)) = some (some z, size, bytes))
    (hzs : z.cells.size = size) (hsz : 0 < size) (v : Value) (n : Nat) (xs : List Value) (hs : a.eval s = v) (hown : w.ownsRow base e size v n xs)
    (ad : Addr) (m c : Nat) (news : List Value) (hx : a.eval x = .slice (some ad) m c) (hl : news.length = m * size) (hnews : ∀ j u, news[j]? = some u → w.cell? (ad.add j) = some u) (h1 : ∀ u ∈ news, u.oneCell' = true)
    (h63 : n + m ≤ maxLen) (hbytes : (n + m) * bytes ≤ 140737488355328) (hbase : base ≤ w.heap.size)
    (h : ∀ v' w', w'.ownsRow base e size v' (n + m) (xs ++ news) → w.grownBy w' v.ownBlock → (∀ k, v'.ownBlock = some k → v.ownBlock = some k ∨ w.heap.size ≤ k) →
      wpList P ops Q rest (a.put o.dst v') w') : wpList P ops Q (o :: rest) a w := by
  obtain ⟨v', w', hr, h2, h3, h4⟩ : ∃ v' w', (Builtin.append_ #[t, t] o.type #[v, .slice (some ad) m c]).run P w = .ok v' w' ∧ w'.ownsRow base e size v' (n + m) (xs ++ news) ∧ w.grownBy w' v.ownBlock ∧
      (∀ k, v'.ownBlock = some k → v.ownBlock = some k ∨ w.heap.size ≤ k) := by
    by_cases h0 : 0 < m
    · obtain ⟨g, cap, w', hr, h2, h3, h4⟩ := run_append_where (P := P) w base t o.type e z size bytes ht hinfo hzs hsz v n xs hown ad m c news hl hnews h1 h0 h63 hbytes hbase
      refine ⟨_, w', hr, h2, h3, fun k hk => ?_⟩
      simp only [Value.ownBlock, Option.some.injEq] at hk
      subst hk
      exact h4.imp_right fun e => by omega
    · obtain rfl : m = 0 := by omega
      obtain ⟨i, hi, hz, hi1, hi2⟩ := info_parts hinfo
      obtain ⟨v', w', hr, h2, h3, h4⟩ := run_append_own (P := P) w base t o.type e i z size bytes ht hi hz hi1 hi2 hzs hsz v n xs hown ad 0 c news hl hnews h1 h63 hbytes hbase
      refine ⟨v', w', hr, h2, h3, fun k hk => ?_⟩
      rcases hown.2 with ⟨rfl, rfl⟩ | ⟨g, cap, cur, rfl, hbg, hg, hnc, hcm, hcs, htake⟩
      · rw [h4.2 ⟨rfl, rfl⟩] at hk
        cases hk
      · have hfit : n * i.size + news.length ≤ cur.size := by rw [hl, hcs, hi1]; simpa using Nat.mul_le_mul_right _ hnc
        have hr2 := run_append_room (P := P) w t o.type e i ht hi g n cap cur hg ad 0 c news (by rw [hi1]; exact hl) hnews h1 (by omega) hfit
        rw [hr] at hr2
        obtain ⟨rfl, _⟩ := Result.ok.inj hr2
        exact Or.inl hk
  refine wpList_plain hgd fun K hK => ?_
  unfold Oper.wp execOp
  simp only [ho, resolve, invoke, builtin, Sem.run_bind, Sem.run_pure, Result.andThen_ok, List.map_toArray, List.map_cons, List.map_nil, hs, hx, hr]
  exact hK _ _ (h v' w' h2 h3 h4)

theorem Bytes.row {w w' : World} {B n : Nat} {v v' : Value} {l m : List UInt8} (ho : w'.ownsRow B 5 1 v' n (bytesV l ++ bytesV m)) (hn : n = l.length + m.length)
    (hg : w.grownBy w' v.ownBlock) (hw : ∀ k, v'.ownBlock = some k → v.ownBlock = some k ∨ w.heap.size ≤ k) : Bytes w B v w' v' (l ++ m) :=
  ⟨by rw [bytesV_append, List.length_append, ← hn]; exact ho, (Same.refl (fun k => v.ownBlock = some k) w).grown hg (fun k hk _ => hk), hw⟩

theorem RB.news {w : World} {b0 off cap : Nat} {l : List UInt8} (h : RB w b0 off cap l) (j : Nat) (u : Value) (hj : (bytesV l)[j]? = some u) : w.cell? ((⟨b0, off, none⟩ : Addr).add j) = some u := by
  rw [Addr.add_lit]
  simp only [bytesV, List.getElem?_map, Option.map_eq_some_iff] at hj
  obtain ⟨x, hx, rfl⟩ := hj
  exact h.cells j x hx

theorem bytesV_one (l : List UInt8) : ∀ u ∈ bytesV l, u.oneCell' = true := by
  intro u hu
  simp only [bytesV, List.mem_map] at hu
  obtain ⟨x, _, rfl⟩ := hu
  rfl

/-- An own row of bytes, as a string. -/
theorem own_string {w : World} {B : Nat} {v : Value} {l : List UInt8} (h : w.ownsRow B 5 1 v l.length (bytesV l)) :
    (convert 23 9 v).run Try.prog w = .ok (.string ⟨l.toArray⟩) w := by
  rcases h.2 with ⟨rfl, h0⟩ | ⟨g, cap, cur, rfl, hbg, hg, hnc, hcm, hcs, htake⟩
  · obtain rfl : l = [] := List.eq_nil_of_length_eq_zero h0
    rw [run_convert_bytes_string w 23 9 5 none 0 0 Try.underlying23 Try.underlying5 Try.underlying9]
    rfl
  · refine run_convert_bytes_back (P := Try.prog) w 23 9 5 ⟨g, 0, none⟩ cap l Try.underlying23 Try.underlying5 Try.underlying9 (fun j hj => ?_)
    exact h.cells (g := g) rfl j _ (by simp [bytesV, List.getElem?_eq_getElem hj])

set_option maxHeartbeats 1000000 in
theorem index_any {w : World} {b0 off cap : Nat} {l : List UInt8} (h : RB w b0 off cap l) :
    Calls Try.prog 38 #[.slice (some ⟨b0, off, none⟩) l.length cap, .int .u8 0] w fun e w' => e = .returned (.int .i64 (Lib.indexByte l 0)) ∧ w = w' := by
  have hb : Lib.bytesOf (l.map fun x => (x.toNat : Int)) = l := by
    simp [Lib.bytesOf, Function.comp_def]
  have hcs : ∀ i, i < l.length → w.cell? ⟨b0, off + i, none⟩ = some (.int .u8 ((l.map fun x => (x.toNat : Int)).getD i 0)) := by
    intro i hi
    rw [h.cells i l[i] (List.getElem?_eq_getElem hi)]
    simp [List.getD_eq_getElem?_getD, hi]
  have hlen : (l.map fun x => (x.toNat : Int)).length = l.length := by simp
  have HB := Lib.hid hb; have HC := Lib.hid hcs
  clear h hb hcs
  go_enter Try.func38, Try.ntmps38
  go_wp2
  rw [run_callFunc_extern Try.func39 (by kernel_rfl) (by kernel_rfl) (by kernel_rfl) (e := Extern.BytealgIndexByte.indexByte) (by kernel_rfl), Lib.run_indexByteSlice w b0 off l.length cap _ hlen HC.out 0, HB.out]
  simp only [Result.andThen]
  rw [Oper.upon_value]
  go_wp2
  go_ret
  exact ⟨rfl, rfl⟩

/-- A text that is read off bytes, and what stands behind it. -/
def tdec : List UInt8 → Option (List UInt8 × List UInt8)
  | [] => none
  | [_] => none
  | b :: c :: r =>
    if b = 0 then
      if c = 1 then some ([], r)
      else if c = 255 then (tdec r).map fun p => (0 :: p.1, p.2)
      else none
    else (tdec (c :: r)).map fun p => (b :: p.1, p.2)

theorem tdec_ne (b : UInt8) (r : List UInt8) (h : b ≠ 0) : tdec (b :: r) = (tdec r).map fun p => (b :: p.1, p.2) := by
  cases r with
  | nil => rfl
  | cons c r => rw [tdec, if_neg h]

theorem tdec_pre (s r : List UInt8) (h : ∀ b ∈ s, b ≠ 0) : tdec (s ++ r) = (tdec r).map fun p => (s ++ p.1, p.2) := by
  induction s with
  | nil => simp
  | cons b s ih =>
    rw [List.cons_append, tdec_ne _ _ (h b (List.mem_cons_self ..)), ih fun b hb => h b (List.mem_cons_of_mem _ hb), Option.map_map]
    rfl

theorem tdec_none (l : List UInt8) (h : ∀ b ∈ l, b ≠ 0) : tdec l = none := by
  have := tdec_pre l [] h
  rwa [List.append_nil] at this

theorem index_split (l : List UInt8) (i : Nat) (h : Lib.indexByte l 0 = i) : i < l.length ∧ (∀ b ∈ l.take i, b ≠ 0) ∧ l = l.take i ++ 0 :: l.drop (i + 1) := by
  obtain ⟨h1, h2⟩ := Lib.indexByte_some h
  have hlt := (List.getElem?_eq_some_iff.1 h1).1
  refine ⟨hlt, fun b hb hz => ?_, ?_⟩
  · obtain ⟨k, hk, hkb⟩ := List.mem_iff_getElem.1 hb
    rw [List.length_take] at hk
    rw [List.getElem_take] at hkb
    exact h2 k (by omega) (by rw [List.getElem?_eq_getElem (by omega), hkb, hz])
  · have := List.take_append_drop i l
    rw [List.drop_eq_getElem_cons hlt, (List.getElem?_eq_some_iff.1 h1).2] at this
    exact this.symm

theorem tdec_at (l : List UInt8) (i : Nat) (h : Lib.indexByte l 0 = i) (hi : i + 1 < l.length) :
    tdec l = if l[i + 1] = 1 then some (l.take i, l.drop (i + 2)) else if l[i + 1] = 255 then (tdec (l.drop (i + 2))).map fun p => (l.take i ++ 0 :: p.1, p.2) else none := by
  obtain ⟨_, h1, h2⟩ := index_split l i h
  have h3 : l.drop (i + 1) = l[i + 1] :: l.drop (i + 2) := List.drop_eq_getElem_cons hi
  have h4 : tdec l = tdec (l.take i ++ 0 :: l[i + 1] :: l.drop (i + 2)) := by rw [← h3, ← h2]
  rw [h4, tdec_pre _ _ h1, tdec, if_pos rfl]
  split
  · simp
  · split
    · rw [Option.map_map]; rfl
    · rfl

theorem tdec_end (l : List UInt8) (i : Nat) (h : Lib.indexByte l 0 = i) (hi : i + 1 = l.length) : tdec l = none := by
  obtain ⟨_, h1, h2⟩ := index_split l i h
  rw [h2, tdec_pre _ _ h1, List.drop_of_length_le (by omega)]
  rfl

theorem tdec_miss (l : List UInt8) (h : Lib.indexByte l 0 = -1) : tdec l = none :=
  tdec_none l fun b hb hz => by
    obtain ⟨k, hk, hkb⟩ := List.mem_iff_getElem.1 hb
    exact Lib.indexByte_none h k (by rw [List.getElem?_eq_getElem hk, hkb, hz])

/-- What the reader of a text answers. -/
def TextSays (rb b0 : Nat) (acc l : List UInt8) (e : Ending) (w' : World) : Prop :=
  match tdec l with
    | none => e = .returned (.tuple #[.string ⟨#[]⟩, .bool false])
    | some p => e = .returned (.tuple #[.string ⟨(acc ++ p.1).toArray⟩, .bool true]) ∧ Rd w' rb b0 p.2

theorem textSays_none {rb b0 : Nat} {acc l : List UInt8} {w' : World} (ht : tdec l = none) :
    TextSays rb b0 acc l (.returned (.tuple #[.string ⟨#[]⟩, .bool false])) w' := by unfold TextSays; rw [ht]

theorem textSays_some {rb b0 : Nat} {acc l s t L : List UInt8} {w' : World} (ht : tdec l = some (s, t)) (hr : Rd w' rb b0 t) (hL : L = acc ++ s) :
    TextSays rb b0 acc l (.returned (.tuple #[.string ⟨L.toArray⟩, .bool true])) w' := by unfold TextSays; rw [ht, hL]; exact ⟨rfl, hr⟩

theorem textSays_more {rb b0 : Nat} {acc l s t : List UInt8} (ht : tdec l = (tdec t).map fun p => (s ++ 0 :: p.1, p.2)) {e : Ending} {w' : World} (h : TextSays rb b0 (acc ++ s ++ [0]) t e w') :
    TextSays rb b0 acc l e w' := by
  unfold TextSays at h ⊢
  rw [ht]
  cases hd : tdec t with
  | none => rw [hd] at h; exact h
  | some p =>
    rw [hd] at h
    simpa using h

set_option maxHeartbeats 4000000 in
set_option maxRecDepth 10000000 in
theorem text_reads {w : World} {rb b0 : Nat} {l : List UInt8} (h : Rd w rb b0 l) (hl : l.length ≤ 1000000) :
    Calls Try.prog 33 #[.pointer (some ⟨rb, 0, none⟩)] w fun e w' => Same (fun k => k = rb) w w' ∧ TextSays rb b0 [] l e w' := by
  have hrb : rb < w.heap.size := by obtain ⟨_, _, h1, _⟩ := h; exact h1.lt
  have hb0 : b0 < w.heap.size := by obtain ⟨_, _, _, _, h3, _⟩ := h; exact h3
  have H := Lib.hid h; clear h
  go_enter Try.func33, Try.ntmps33
  go_wp2_with fail
  go_loopg [4] l.length (fun r out wr => ∃ acc rem, rem.length ≤ r ∧ acc.length + rem.length ≤ l.length ∧ Same (fun k => k = rb) w wr ∧ Rd wr rb b0 rem ∧ wr.ownsRow w.heap.size 5 1 out acc.length (bytesV acc) ∧
    (∀ e w', TextSays rb b0 acc rem e w' → TextSays rb b0 [] l e w'))
  case atStart => exact ⟨[], l, Nat.le_refl _, by simp, Same.refl _ _, H.out, World.ownsRow_nil _ _ _ _, fun _ _ => id⟩
  case round =>
    obtain ⟨acc, rem, hr, hal, hs, hrd, hown, hgo⟩ := hrel
    obtain ⟨off, cap, h1, h2, h3, h4⟩ := hrd
    have hmx := h2.mx
    have hle := h2.le
    unfold maxLen at hmx
    have hsz := hs.size
    have hnb : ∀ k, u4.ownBlock = some k → w.heap.size ≤ k := fun k hk => (hown.lt k hk).1
    have c0 := h1.cell
    have f0 := h1.free
    have HS := Lib.hid hs; have H1 := Lib.hid h1; have H2 := Lib.hid h2; have HO := Lib.hid hown; have HG := Lib.hid hgo; have HNB := Lib.hid hnb
    clear hs h1 h2 hown hgo hnb
    go_wp2_with fail
    by_cases hneg : Lib.indexByte rem 0 = -1
    · have ht := tdec_miss rem hneg
      refine (index_any H2.out).mono ?_
      rintro e w' ⟨rfl, rfl⟩
      rw [hneg]
      have HT := Lib.hid ht; clear ht hneg
      go_wp2_with fail
      go_ret2
      exact ⟨HS.out, HG.out _ _ (textSays_none HT.out)⟩
    · obtain ⟨i, hi⟩ : ∃ i : Nat, Lib.indexByte rem 0 = i := ⟨(Lib.indexByte rem 0).toNat, by have := Lib.indexByte_ge rem 0; omega⟩
      have hlt := (index_split rem i hi).1
      refine (index_any H2.out).mono ?_
      rintro e w' ⟨rfl, rfl⟩
      rw [hi]
      by_cases hend : i + 1 = rem.length
      · have ht := tdec_end rem i hi hend
        have hq : (((i : Int) + 1) == (rem.length : Int)) = true := by simp; omega
        have HT := Lib.hid ht; clear ht hneg hi hend
        go_wp2_with fail
        go_ret2
        exact ⟨HS.out, HG.out _ _ (textSays_none HT.out)⟩
      · have hlt2 : i + 1 < rem.length := by omega
        have ht := tdec_at rem i hi hlt2
        obtain ⟨c, hc⟩ : ∃ c, rem[i + 1] = c := ⟨_, rfl⟩
        rw [hc] at ht
        have HT0 := Lib.hid ht
        have hq : (((i : Int) + 1) == (rem.length : Int)) = false := by simp; omega
        clear ht hneg hi hend
        go_wp2_with (at_builtin; refine wpList_append_row wr rfl (.tmp 24) (.tmp 30) 23 rfl w.heap.size 5 (.int .u8 0) 1 1 Try.underlying23 byte_info rfl (by decide) u4 acc.length (bytesV acc) rfl HO.out ⟨b0, off, none⟩ i cap (bytesV (rem.take i)) rfl ?c1 (H2.out.take i).news (bytesV_one _) ?c2 ?c3 ?c4 ?_)
        case c1 => rw [bytesV_length, List.length_take]; omega
        case c2 => unfold maxLen; omega
        case c3 => omega
        case c4 => omega
        intro v' w2 hown hgrow hwhere
        have ht := HT0.out
        clear HT0
        have hb2 := Bytes.row hown (by rw [List.length_take]; omega) hgrow hwhere
        obtain ⟨L, hL⟩ : ∃ L, L = acc ++ rem.take i := ⟨_, rfl⟩
        have hLl : L.length ≤ 1000000 := by rw [hL, List.length_append, List.length_take]; omega
        have hLr : (L ++ [0]).length + (rem.drop (i + 2)).length ≤ l.length := by rw [hL, List.length_append, List.length_append, List.length_take, List.length_drop, List.length_singleton]; omega
        rw [← hL] at hb2
        have HL := Lib.hid hL; have HLR := Lib.hid hLr
        clear hL hLr
        have hs2 := hb2.same
        have hn1 : ∀ k, k < w.heap.size → ¬ u4.ownBlock = some k := fun k hk he => by have := HNB.out k he; omega
        have h1' := hs2.one H1.out (hn1 rb hrb)
        have h2' := H2.out.same hs2 h3 (hn1 b0 hb0)
        have c0' := h1'.cell
        have f0' := h1'.free
        have cc : w2.cell? ⟨b0, off + (i + 1), none⟩ = some (.int .u8 (c.toNat : Int)) := h2'.cells (i + 1) c (by rw [List.getElem?_eq_getElem hlt2, hc])
        have hset := Rd.set h1' (h2'.drop (i + 2)) (Nat.lt_of_lt_of_le h3 hs2.size) h4
        rw [List.length_drop] at hset
        have hnv : ∀ k, v'.ownBlock = some k → ¬ k = rb := by
          intro k hk he
          rcases hb2.at_ k hk with hx | hx
          · exact hn1 rb hrb (he ▸ hx)
          · omega
        have hsr : ∀ u, Same (fun k => k = rb) w2 (w2.setCell ⟨rb, 0, none⟩ u) := fun u => (Same.refl (fun k => k = rb) w2).setCell (p := ⟨rb, 0, none⟩) (fun _ => rfl) _
        have hrow : ∀ u, (w2.setCell ⟨rb, 0, none⟩ u).ownsRow w.heap.size 5 1 v' L.length (bytesV L) := fun u => (hsr u).row hb2.own hnv
        have hcv := fun u => own_string (hrow u)
        have hsm : ∀ u, Same (fun k => k = rb) w (w2.setCell ⟨rb, 0, none⟩ u) := fun u =>
          (HS.out.trans hs2 (fun k hk he => (hn1 k hk he).elim)).trans (hsr u) (fun k _ h => h)
        have hsz3 : ∀ u, w.heap.size ≤ (w2.setCell ⟨rb, 0, none⟩ u).heap.size := fun u => (hsm u).size
        have HSM := Lib.hid hsm; have HROW := Lib.hid hrow;
        clear hown hgrow hwhere hb2 hs2 h1' h2' hn1 hc hnv hsr hrow hsm
        have hset2 : ∃ off' cap', (∀ W, W = w2.setCell ⟨rb, 0, none⟩ (.slice (some ⟨b0, off', none⟩) (rem.length - (i + 2) : Nat) cap') → Rd W rb b0 (rem.drop (i + 2))) ∧ off' = (if cap = i + 2 then off else off + (i + 2)) ∧ cap' = cap - (i + 2) := ⟨_, _, fun W hW => hW ▸ hset, rfl, rfl⟩
        obtain ⟨off', cap', hset3, e1, e2⟩ := hset2
        have HSET := Lib.hid hset3
        clear hset hset3
        by_cases hcap : cap = i + 2
        all_goals first | rw [if_pos hcap] at e1 | rw [if_neg hcap] at e1
        all_goals
          by_cases hc1 : c = 1
          · have q1 : ((c.toNat : Int) == 1) = true := by rw [hc1]; rfl
            rw [if_pos hc1] at ht
            have HT := Lib.hid ht
            have E1 := Lib.hid e1; have E2 := Lib.hid e2
            clear ht hc1 e1 e2
            go_wp2_with fail
            go_ret2
            exact ⟨HSM.out _, HG.out _ _ (textSays_some HT.out (HSET.out _ (by simp [E1.out, E2.out, hcap])) HL.out)⟩
          · have q1 : ((c.toNat : Int) == 1) = false := by
              have : c.toNat ≠ 1 := fun e => hc1 (UInt8.toNat_inj.1 e)
              simp; omega
            rw [if_neg hc1] at ht
            by_cases hc2 : c = 255
            · have q2 : ((c.toNat : Int) == 255) = true := by rw [hc2]; rfl
              rw [if_pos hc2] at ht
              have HT := Lib.hid ht
              have E1 := Lib.hid e1; have E2 := Lib.hid e2
              clear ht hc1 hc2 e1 e2
              go_wp2_with (at_builtin; refine wpList_append_elem _ rfl (.tmp 57) (.tmp 58) 23 rfl w.heap.size 5 (.int .u8 0) 1 1 Try.underlying23 byte_info rfl (by decide) v' L.length (bytesV L) rfl (HROW.out _) [.int .u8 0] 1 ?d5 rfl ?d1 ?d2 ?d3 ?d4 ?_)
              case d5 => simp [go_sem]
              case d1 => intro u hu; simp at hu; subst hu; rfl
              case d2 => unfold maxLen; omega
              case d3 => omega
              case d4 => exact (HSM.out _).size
              intro g cap3 w4 hown hgrow hwhere hgl2 hsl2
              have hb4 := Bytes.app (g := g) (b := 0) hown hgrow (hwhere.imp_right fun h => Nat.le_trans (Nat.le_of_eq (by simp [World.setCell])) h)
              have hnv2 : ∀ k, k < w.heap.size → ¬ v'.ownBlock = some k := fun k hk he => by
                have := ((HROW.out (.pointer none)).lt k he).1
                omega
              have hsm4 := (HSM.out _).trans hb4.same (fun k hk he => (hnv2 k hk he).elim)
              have hrd4 := (HSET.out _ (by simp [E1.out, E2.out, hcap])).same hb4.same (hnv2 _ hb0) (hnv2 _ hrb)
              have hown4 := hb4.own
              have HSM4 := Lib.hid hsm4; have HRD4 := Lib.hid hrd4; have HOWN4 := Lib.hid hown4
              clear hown hgrow hwhere hb4 hnv2 hsm4 hrd4 hown4
              go_wp2_with fail
              go_roundg (gk - 1)
              case measure => omega
              case rel => exact ⟨L ++ [0], rem.drop (i + 2), (by rw [List.length_drop]; omega), HLR.out, HSM4.out, HRD4.out, HOWN4.out, fun e w' h => HG.out _ _ (textSays_more HT.out (by rw [← HL.out]; exact h))⟩
            · have q2 : ((c.toNat : Int) == 255) = false := by
                have : c.toNat ≠ 255 := fun e => hc2 (UInt8.toNat_inj.1 e)
                simp; omega
              rw [if_neg hc2] at ht
              have HT := Lib.hid ht
              clear ht hc1 hc2 e1 e2 HSET
              go_wp2_with fail
              go_ret2
              exact ⟨HSM.out _, HG.out _ _ (textSays_none HT.out)⟩

end Go.Proofs.Ytmdkfbbagjcboaa
