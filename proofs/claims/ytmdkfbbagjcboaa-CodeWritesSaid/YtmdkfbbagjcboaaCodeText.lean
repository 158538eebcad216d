/-
  Package code, told of memory: text lays a text's bytes, each 0 with a byte behind it, and the end. Conditions: none on inputs but small lengths.
-/
import Derived.Test.YtmdkfbbagjcboaaCodeNum
namespace Go.Proofs.Ytmdkfbbagjcboaa
open Go.RowKit

/-- A text's bytes without the end. -/
def esc : List UInt8 → List UInt8
  | [] => []
  | b :: r => if b = 0 then 0 :: 255 :: esc r else b :: esc r

theorem esc_append (a b : List UInt8) : esc (a ++ b) = esc a ++ esc b := by
  induction a with
  | nil => rfl
  | cons x r ih =>
    simp only [List.cons_append, esc]
    split <;> simp [ih]

theorem esc_length (l : List UInt8) : (esc l).length ≤ 2 * l.length := by
  induction l with
  | nil => simp [esc]
  | cons x r ih =>
    simp only [esc]
    split <;> simp <;> omega

/-- 'append(s, a, b)' of two bytes. -/
theorem wpList_append_two {P : Program} {ops : Array Oper} {Q : Exit → Act → World → Prop} {a : Act} {rest : List Oper} {o : Oper} (w0 : World) (hgd : o.guard = none) (s x : Operand) (t : TypeId)
    (ho : o.op = .call { callee := .builtin .append, args := #[s, x], argTypes := #[t, t] })
    (base : Nat) (e : TypeId) (z : Value) (bytes : Nat) (ht : P.underlying t = some (.slice e)) (hinfo : (P.info? e).map (fun i => (i.zero, i.size, i.bytes)) = some (some z, 1, bytes))
    (hzs : z.cells.size = 1) (v : Value) (n : Nat) (xs : List Value) (hs : a.eval s = v) (hown : w0.ownsRow base e 1 v n xs)
    (u1 u2 : Value) (c : Nat) (hx : a.eval x = .slice (some ⟨w0.heap.size, 0, none⟩) 2 c) (h1 : u1.oneCell' = true) (h2 : u2.oneCell' = true)
    (h63 : n + 2 ≤ maxLen) (hbytes : (n + 2) * bytes ≤ 140737488355328) (hbase : base ≤ w0.heap.size)
    (h : ∀ g cap w', w'.ownsRow base e 1 (.slice (some ⟨g, 0, none⟩) (n + 2) cap) (n + 2) (xs ++ [u1, u2]) → w0.grownBy w' v.ownBlock → (v.ownBlock = some g ∨ w0.heap.size ≤ g) → g < w'.heap.size → w0.heap.size < w'.heap.size →
      wpList P ops Q rest (a.put o.dst (.slice (some ⟨g, 0, none⟩) (n + 2) cap)) w') :
    wpList P ops Q (o :: rest) a (w0.alloc (.cells #[u1, u2] e)) := by
  have hnews : ∀ j u, [u1, u2][j]? = some u → (w0.alloc (.cells #[u1, u2] e)).cell? ((⟨w0.heap.size, 0, none⟩ : Addr).add j) = some u := cell_two_new _ _ _ _
  have hg0 : w0.grownBy (w0.alloc (.cells #[u1, u2] e)) v.ownBlock := World.grownBy_alloc _ _ _
  have hs0 : (w0.alloc (.cells #[u1, u2] e)).heap.size = w0.heap.size + 1 := by simp
  obtain ⟨g, cap, w', hr, h3, h4, h5⟩ := run_append_where (P := P) (w0.alloc (.cells #[u1, u2] e)) base t o.type e z 1 bytes ht hinfo hzs (by omega) v n xs (hown.alloc _) ⟨w0.heap.size, 0, none⟩ 2 c [u1, u2] rfl hnews
    (fun u hu => by
      simp only [List.mem_cons, List.not_mem_nil, or_false] at hu
      rcases hu with rfl | rfl
      · exact h1
      · exact h2) (by omega) h63 hbytes (by omega)
  have hgl := (h3.lt g rfl).2
  have hsz' := h4.size
  refine wpList_plain hgd fun K hK => ?_
  unfold Oper.wp execOp
  simp only [ho, resolve, invoke, builtin, Sem.run_bind, Sem.run_pure, Result.andThen_ok, List.map_toArray, List.map_cons, List.map_nil, hs, hx, hr]
  exact hK _ _ (h g cap w' h3 (grownBy_trans hg0 h4) (h5.imp_right fun e => by omega) hgl (by omega))

theorem Bytes.app2 {w w' : World} {B g cap : Nat} {v : Value} {l : List UInt8} {b c : UInt8} (ho : w'.ownsRow B 5 1 (.slice (some ⟨g, 0, none⟩) (l.length + 2) cap) (l.length + 2) (bytesV l ++ [.int .u8 (b.toNat : Int), .int .u8 (c.toNat : Int)]))
    (hg : w.grownBy w' v.ownBlock) (hw : v.ownBlock = some g ∨ w.heap.size ≤ g) : Bytes w B v w' (.slice (some ⟨g, 0, none⟩) (l.length + 2) cap) (l ++ [b, c]) :=
  ⟨by rw [bytesV_append, List.length_append]; exact ho, (Same.refl (fun k => v.ownBlock = some k) w).grown hg (fun k hk _ => hk), fun k hk => by
    simp only [Value.ownBlock, Option.some.injEq] at hk
    subst hk
    exact hw⟩

set_option maxHeartbeats 1000000 in
theorem text_any {w : World} {B : Nat} {v : Value} {l : List UInt8} (h : w.ownsRow B 5 1 v l.length (bytesV l)) (hB : B ≤ w.heap.size) (hl : l.length ≤ 1000000) (s : ByteArray) (hs : s.size ≤ 1000) :
    Calls Try.prog 20 #[v, .string s] w fun e w' => ∃ v', e = .returned v' ∧ Bytes w B v w' v' (l ++ (esc s.data.toList ++ [0, 1])) := by
  have H := Lib.hid (Bytes.start h)
  clear h
  go_enter Try.func20, Try.ntmps20
  go_wp2_with fail
  go_loopg [0, 8] s.size (fun r v1 i wr => ∃ j : Nat, j + r = s.size ∧ i = .int .i64 j ∧ Bytes w B v wr v1 (l ++ esc (s.data.toList.take j)))
  case atStart => exact ⟨0, by omega, rfl, by simpa [esc] using H.out⟩
  case round =>
    obtain ⟨j, hj, rfl, hb⟩ := hrel
    have HB := Lib.hid hb; clear hb
    have hszb := HB.out.same.size
    obtain ⟨L, hL⟩ : ∃ L, L = l ++ esc (s.data.toList.take j) := ⟨_, rfl⟩
    have hlen : L.length ≤ 1003000 := by
      have h1 := esc_length (s.data.toList.take j)
      rw [List.length_take] at h1
      rw [hL, List.length_append]
      omega
    have HBL : Hid (Bytes w B v wr u0 L) := by rw [hL]; exact HB.out
    have HO := Lib.hid HBL.out.own
    have HL := Lib.hid hL
    clear hL HB
    by_cases h0 : gk = 0
    · subst h0
      obtain rfl : j = s.size := by omega
      clear hj
      go_wp2_with (at_builtin; refine wpList_append_two wr rfl _ _ 23 rfl B 5 (.int .u8 0) 1 Try.underlying23 byte_info rfl u0 L.length (bytesV L) rfl HO.out (.int .u8 0) (.int .u8 1) _ rfl rfl rfl ?c2 ?c3 ?c4 ?_)
      case c2 => unfold maxLen; omega
      case c3 => omega
      case c4 => omega
      intro g cap w2 hown hgrow hwhere hgl hsl
      have hb2 := HBL.out.next (Bytes.app2 (b := 0) (c := 1) hown hgrow hwhere)
      have htk : s.data.toList.take s.size = s.data.toList := List.take_of_length_le (by rw [Array.length_toList]; exact Nat.le_refl _)
      have hfe : L ++ [0, 1] = l ++ (esc s.data.toList ++ [0, 1]) := by rw [HL.out, htk, List.append_assoc]
      rw [hfe] at hb2
      have HB2 := Lib.hid hb2
      clear hown hgrow hwhere hb2
      go_wp2_with fail
      go_ret
      exact ⟨_, rfl, HB2.out⟩
    · obtain ⟨r, rfl⟩ : ∃ r, gk = r + 1 := ⟨gk - 1, by omega⟩
      have hjs : j < s.size := by omega
      have HJ := Lib.hid hj; clear hj h0
      obtain ⟨c, hc⟩ : ∃ c, s[j] = c := ⟨_, rfl⟩
      have htake : s.data.toList.take (j + 1) = s.data.toList.take j ++ [c] := by
        rw [List.take_succ_eq_append_getElem (by rw [Array.length_toList]; exact hjs), ← hc]
        rfl
      have HTK := Lib.hid htake; clear htake
      by_cases hz : c = 0
      · have ht : ((c.toNat : Int) == 0) = true := by rw [hz]; rfl
        have hesc : esc (s.data.toList.take (j + 1)) = esc (s.data.toList.take j) ++ [0, 255] := by rw [HTK.out, esc_append, hz]; rfl
        have HE := Lib.hid hesc; have HZ := Lib.hid hz
        clear hesc hz
        go_wp2_with (at_builtin; refine wpList_append_elem wr rfl (.tmp 11) (.tmp 15) 23 rfl B 5 (.int .u8 0) 1 1 Try.underlying23 byte_info rfl (by decide) u0 L.length (bytesV L) rfl HO.out [.int .u8 (c.toNat : Int)] _ rfl rfl ?c1 ?c2 ?c3 ?c4 ?_)
        case c1 => intro u hu; simp at hu; subst hu; rfl
        case c2 => unfold maxLen; omega
        case c3 => omega
        case c4 => omega
        intro g cap w2 hown hgrow hwhere hgl hsl
        have hb2 := HBL.out.next (Bytes.app hown hgrow hwhere)
        have HB2 := Lib.hid hb2
        have HO2 := Lib.hid hb2.own
        have hz2 := hb2.same.size
        clear hown hgrow hwhere hb2
        have hl2 : (L ++ [c]).length = L.length + 1 := by simp
        have HL2 := Lib.hid hl2; clear hl2
        go_wp2_with (at_builtin; refine wpList_append_elem w2 rfl (.tmp 21) (.tmp 22) 23 rfl B 5 (.int .u8 0) 1 1 Try.underlying23 byte_info rfl (by decide) (.slice (some ⟨g, 0, none⟩) (L.length + 1) cap) (L ++ [c]).length (bytesV (L ++ [c])) rfl HO2.out [.int .u8 255] _ rfl rfl ?d1 ?d2 ?d3 ?d4 ?_)
        case d1 => intro u hu; simp at hu; subst hu; rfl
        case d2 => rw [HL2.out]; unfold maxLen; omega
        case d3 => rw [HL2.out]; omega
        case d4 => omega
        intro g2 cap2 w3 hown hgrow hwhere hgl2 hsl2
        rw [← HL2.out] at hown
        have hb3 := HB2.out.next (Bytes.app (b := 255) hown hgrow hwhere)
        rw [HL2.out] at hb3
        have hfin : Bytes w B v w3 (.slice (some ⟨g2, 0, none⟩) (L.length + 1 + 1) cap2) (l ++ esc (s.data.toList.take (j + 1))) := by
          rw [HE.out, ← List.append_assoc, ← HL.out]
          have := hb3
          rw [HZ.out, List.append_assoc] at this
          exact this
        have HF := Lib.hid hfin
        clear hown hgrow hwhere hb3 hfin
        go_wp2_with fail
        go_roundg r
        case measure => omega
        case rel => exact ⟨j + 1, by have := HJ.out; omega, by go_num, HF.out⟩
      · have hnz : c.toNat ≠ 0 := fun e => hz (UInt8.toNat_inj.1 e)
        have ht : ((c.toNat : Int) == 0) = false := by simp; omega
        have hesc : esc (s.data.toList.take (j + 1)) = esc (s.data.toList.take j) ++ [c] := by rw [HTK.out, esc_append]; simp [esc, hz]
        have HE := Lib.hid hesc
        clear hesc hz hnz
        go_wp2_with (at_builtin; refine wpList_append_elem wr rfl (.tmp 11) (.tmp 15) 23 rfl B 5 (.int .u8 0) 1 1 Try.underlying23 byte_info rfl (by decide) u0 L.length (bytesV L) rfl HO.out [.int .u8 (c.toNat : Int)] _ rfl rfl ?e1 ?e2 ?e3 ?e4 ?_)
        case e1 => intro u hu; simp at hu; subst hu; rfl
        case e2 => unfold maxLen; omega
        case e3 => omega
        case e4 => omega
        intro g cap w2 hown hgrow hwhere hgl hsl
        have hb2 := HBL.out.next (Bytes.app hown hgrow hwhere)
        rw [HL.out, List.append_assoc, ← HE.out, ← HL.out] at hb2
        have HB2 := Lib.hid hb2
        clear hown hgrow hwhere hb2
        go_wp2_with fail
        go_roundg r
        case measure => omega
        case rel => exact ⟨j + 1, by have := HJ.out; omega, by go_num, HB2.out⟩

end Go.Proofs.Ytmdkfbbagjcboaa
