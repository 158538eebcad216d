/-
  Opening a slice of bytes that came in; empty slices; rows that were read are good values. Conditions: none.
-/
import Derived.Test.YtmdkfbbagjcboaaCodeRefGet
import Derived.Test.YtmdkfbbagjcboaaCodeOpen
import Derived.Test.YtmdkfbbagjcboaaCodeApp
import Derived.OpenShut
namespace Go.Proofs.Ytmdkfbbagjcboaa
open Go.RowKit Go.ChangeShapes Go.WideShapes

theorem vdec_ok {l t : List UInt8} {x : V} (h : vdec l = some (x, t)) : x.ok := by
  unfold vdec at h
  split at h
  · cases h
  · rename_i k r
    have hlt := beN_lt (r.take 8)
    have hle : (256 : Nat) ^ (r.take 8).length ≤ 256 ^ 8 := Nat.pow_le_pow_right (by omega) (by simp; omega)
    split at h
    · split at h
      · cases h
      · cases h
        exact ⟨by simp, by simp, by simp only; omega, by simp only; omega, (by show (0 : Nat) ≤ _; omega), by simp⟩
    · split at h
      · split at h
        · cases h
        · rename_i b r'
          have hb := b.toNat_lt
          split at h
          · cases h
            exact ⟨by simp, by simp, by simp only; omega, by simp only; omega, (by show (0 : Nat) ≤ _; omega), by simp⟩
          · cases h
      · split at h
        · split at h
          · cases h
          · cases h
            exact ⟨by simp, by simp, by simp, by simp, (by show (0 : Nat) ≤ _; omega), by simpa using ofF_lt (n := beN (r.take 8)) (by omega)⟩
        · split at h
          · split at h
            · cases h
            · rename_i p hp
              have hk := k.toNat_lt
              split at h
              · cases h
                refine ⟨by simp only; omega, by simp only; omega, by simp, by simp, ?_, by simp⟩
                show (p.1.toArray).size ≤ maxLen
                unfold maxLen
                simp; omega
              · cases h
          · cases h

theorem rdec_ok : ∀ (n : Nat) (l : List UInt8) (L : List V), rdec n l = some L → (∀ x ∈ L, x.ok) ∧ L.length ≤ l.length
  | _, [], L, h => by
    rename_i n
    have : L = [] := by cases n <;> simpa [rdec] using h.symm
    subst this
    exact ⟨fun x hx => by simp at hx, Nat.zero_le _⟩
  | 0, _ :: _, L, h => by simp [rdec] at h
  | n + 1, b :: r, L, h => by
    unfold rdec at h
    cases hv : vdec (b :: r) with
    | none => rw [hv] at h; cases h
    | some p =>
      rw [hv] at h
      simp only [Option.map_eq_some_iff] at h
      obtain ⟨M, hM, rfl⟩ := h
      obtain ⟨h1, h2⟩ := rdec_ok n p.2 M hM
      have hl := vdec_len (x := p.1) (t := p.2) hv
      refine ⟨fun x hx => ?_, by simp at hl ⊢; omega⟩
      rcases List.mem_cons.1 hx with rfl | hx
      · exact vdec_ok (t := p.2) hv
      · exact h1 x hx

theorem rows_ok {l : List UInt8} {L : List V} (h : rows l = some L) : (∀ x ∈ L, x.ok) ∧ L.length ≤ l.length := rdec_ok _ _ _ h

theorem cmpV_self (x : V) : cmpV x x = 0 := by unfold cmpV; simp [cmpF_same]

theorem rowsV_self : ∀ (L : List V), rowsV L L = 0
  | [] => rfl
  | x :: L => by
    show (if cmpV x x ≠ 0 then cmpV x x else rowsV L L) = 0
    rw [if_neg (by simp [cmpV_self])]
    exact rowsV_self L

theorem vals_self {w : World} {v u : Value} {A : List V} (h : ReadV w v A) (g : ReadV w u A) (hok : ∀ x ∈ A, x.ok) (hn : A.length ≤ maxLen) :
    Calls Try.prog 14 #[v, u] w fun e w' => e = .returned (.bool true) ∧ Same (fun _ => False) w w' :=
  (vals_any h g hok hok hn hn).mono fun e w' ⟨h1, h2⟩ => ⟨by rw [h1, rowsV_self A]; simp, h2⟩

/-- A slice of bytes, an empty one of whatever address too. -/
def RA (w : World) (v : Value) (l : List UInt8) : Prop := (∃ ao cap, v = .slice ao 0 cap ∧ l = []) ∨ RD w v l

theorem RA.same {w w' : World} {v : Value} {l : List UInt8} (h : RA w v l) (hs : Same (fun _ => False) w w') : RA w' v l := h.imp_right fun h => h.same hs

theorem get_empty (w : World) (ao : Option Addr) (cap : Nat) : Calls Try.prog 12 #[.slice ao 0 cap] w fun e w' => GetSays w [] e w' := by
  have hs : Same (fun _ => False) w (w.alloc (.cells #[.slice ao 0 cap] 51)) := (Same.refl _ w).alloc _
  have HS := Lib.hid hs; clear hs
  go_enter Try.func12, Try.ntmps12
  go_wp2_with fail
  refine wp_loop_rounds 1 ?_
  rw [rounds_succ]
  go_wp2_with fail
  go_ret2
  exact getSays_some rows_nil HS.out (World.ownsRow_nil _ _ _ _)

theorem rget_empty (w : World) (ao : Option Addr) (cap : Nat) : Calls Try.prog 13 #[.slice ao 0 cap] w fun e w' => RGetSays w [] e w' := by
  go_enter Try.func13, Try.ntmps13
  go_wp2_with fail
  refine wp_loop_rounds 1 ?_
  rw [rounds_succ]
  go_wp2_with fail
  go_ret2
  exact rgetSays_some rows_nil (Same.refl _ _) (World.ownsRow_nil _ _ _ _)

theorem whole_empty (w : World) (ao : Option Addr) (cap : Nat) :
    Calls Try.prog 15 #[.slice ao 0 cap] w fun e w' => e = .returned (.bool true) ∧ Same (fun _ => False) w w' := by
  go_enter Try.func15, Try.ntmps15
  go_wp2_with fail
  refine (get_empty w ao cap).mono ?_
  rintro e w1 ⟨hs, hsay⟩
  have HS := Lib.hid hs; clear hs
  rw [rows_nil] at hsay
  obtain ⟨v', rfl, _⟩ := hsay
  go_wp2_with fail
  go_ret
  exact ⟨rfl, HS.out⟩

theorem rget_ra {w : World} {v : Value} {l : List UInt8} (h : RA w v l) (hl : l.length ≤ 1000000) : Calls Try.prog 13 #[v] w fun e w' => RGetSays w l e w' := by
  rcases h with ⟨ao, cap, rfl, rfl⟩ | h
  · exact rget_empty w ao cap
  · exact rget_reads h hl

theorem whole_ra {w : World} {v : Value} {l : List UInt8} (h : RA w v l) (hl : l.length ≤ 1000000) :
    Calls Try.prog 15 #[v] w fun e w' => e = .returned (.bool (rows l).isSome) ∧ Same (fun _ => False) w w' := by
  rcases h with ⟨ao, cap, rfl, rfl⟩ | h
  · exact whole_empty w ao cap
  · exact whole_reads h hl

theorem RA.len {w : World} {v : Value} {l : List UInt8} (h : RA w v l) : ∃ ao cap, v = .slice ao l.length cap := by
  rcases h with ⟨ao, cap, rfl, rfl⟩ | ⟨cap, rfl, rfl⟩ | ⟨b0, off, cap, rfl, _⟩
  · exact ⟨ao, cap, rfl⟩
  · exact ⟨_, cap, rfl⟩
  · exact ⟨_, _, rfl⟩

theorem run_append_empty {P : Program} (w : World) (base : Nat) (t ty e : TypeId) (z : Value) (size bytes : Nat) (ht : P.underlying t = some (.slice e)) (hinfo : (P.info? e).map (fun i => (i.zero, i.size, i.bytes)) = some (some z, size, bytes))
    (v : Value) (n : Nat) (xs : List Value) (hown : w.ownsRow base e size v n xs) (ao : Option Addr) (c : Nat) : (Builtin.append_ #[t, t] ty #[v, .slice ao 0 c]).run P w = .ok v w := by
  obtain ⟨i, hi, hz, rfl, rfl⟩ := info_parts hinfo
  rcases hown.2 with ⟨rfl, rfl⟩ | ⟨g, cap, cur, rfl, hbg, hg, hnc, hcm, hcs, htake⟩
  · cases ao <;> simp [Builtin.append_, run_underlying ht, sizeOf, typeInfo, hi, Builtin.lenOf, Builtin.firstCells, loadCells, loadCellsFrom]
  · cases ao with
    | none =>
      simp [Builtin.append_, run_underlying ht, sizeOf, typeInfo, hi, Builtin.lenOf, Builtin.firstCells, loadCells]
      rw [if_pos hnc]
      simp [storeCells]
    | some ad =>
      simp [Builtin.append_, run_underlying ht, sizeOf, typeInfo, hi, Builtin.lenOf, Builtin.firstCells, loadCells, loadCellsFrom]
      rw [if_pos hnc]
      simp [storeCells]

theorem wpList_append_ra {ops : Array Oper} {Q : Exit → Act → World → Prop} {a : Act} {rest : List Oper} {o : Oper} (w : World) (hgd : o.guard = none) (s x : Operand)
    (ho : o.op = .call { callee := .builtin .append, args := #[s, x], argTypes := #[23, 23] })
    (base : Nat) (v : Value) (m : List UInt8) (hs : a.eval s = v) (hown : w.ownsRow base 5 1 v m.length (bytesV m)) (u : Value) (l : List UInt8) (hx : a.eval x = u) (hr : RA w u l)
    (hb : m.length + l.length ≤ 1000000) (hbase : base ≤ w.heap.size)
    (h : ∀ v' w', Bytes w base v w' v' (m ++ l) → wpList Try.prog ops Q rest (a.put o.dst v') w') : wpList Try.prog ops Q (o :: rest) a w := by
  rcases hr with ⟨ao, cap, rfl, rfl⟩ | hr
  · have hrun := run_append_empty (P := Try.prog) w base 23 o.type 5 (.int .u8 0) 1 1 Try.underlying23 byte_info v m.length (bytesV m) hown ao cap
    refine wpList_plain hgd fun K hK => ?_
    unfold Oper.wp execOp
    simp only [ho, resolve, invoke, builtin, Sem.run_bind, Sem.run_pure, Result.andThen_ok, List.map_toArray, List.map_cons, List.map_nil, hs, hx, hrun]
    exact hK _ _ (h v w (by rw [List.append_nil]; exact Bytes.start hown))
  · exact wpList_append_bytes w hgd s x ho base v m hs hown u l hx hr hb hbase h

theorem byte_cells : Try.prog.cellsOf 5 = 1 := by kernel_rfl

theorem open_bytesA {H : Type} {enc : TypeId × Value → H} {w : World} {base b0 : Nat} {spare : Nat → Bool} {held : Bool} {r : Reach} {v : Value} {d : DataW H} {ps : List MemPlace} (hval : Value.okWide Try.prog w r b0 23 v) (hd : DataW.Trod enc Try.prog w base spare held 23 v d ps) :
    ∃ l, RA w v l ∧ l.length ≤ maxLen := by
  obtain ⟨a0, l0, c0, rfl⟩ := okWide_slice Try.underlying23 hval
  obtain ⟨fuel, hf⟩ := hd
  rcases Go.Deep.open_slice Try.underlying23 hf with ⟨he, _⟩ | ⟨a, len, cap, m, n, D, Pl, he, hb, hl, hm, hmm, _, hx⟩
  · simp [Value.cells] at he
    obtain ⟨rfl, rfl, rfl⟩ := he
    exact ⟨[], Or.inl ⟨none, 0, rfl, rfl⟩, Nat.zero_le _⟩
  · simp [Value.cells] at he
    obtain ⟨rfl, rfl, rfl⟩ := he
    by_cases h0 : l0 = 0
    · subst h0
      exact ⟨[], Or.inl ⟨_, _, rfl, rfl⟩, Nat.zero_le _⟩
    have each : ∀ i, i < l0 → ∃ y : UInt8, w.cell? (a.add i) = some (.int .u8 (y.toNat : Int)) := by
      intro i hi
      obtain ⟨cs', h1, h2⟩ := hx i (by rw [hmm]; split <;> omega)
      rw [byte_cells, Nat.mul_one] at h1
      obtain ⟨k, e0, _, w0⟩ := DataW.trod_int Try.underlying5 h2
      subst e0
      have hb := bounds_u8 w0
      refine ⟨UInt8.ofNat k.toNat, ?_⟩
      rw [cell_of_cells?_one h1]
      congr 2
      rw [UInt8.toNat_ofNat']
      omega
    haveI : Inhabited UInt8 := ⟨0⟩
    obtain ⟨q, hq⟩ := Go.Deep.choose_lt each
    obtain ⟨b, off, spot⟩ := a
    have hs : spot = none := by
      have := hq 0 (by omega)
      simpa [Addr.add] using World.cell?_spot this
    subst hs
    have hlen : ((List.range l0).map q).length = l0 := by simp
    refine ⟨(List.range l0).map q, Or.inr (Or.inr ⟨b, off, c0, by rw [hlen], ⟨by omega, hm, fun j x hj => ?_⟩, ?_⟩), by omega⟩
    · simp only [List.getElem?_map, Option.map_eq_some_iff] at hj
      obtain ⟨i, hi, rfl⟩ := hj
      obtain ⟨hi1, rfl⟩ := List.getElem?_eq_some_iff.1 hi
      rw [List.length_range] at hi1
      rw [List.getElem_range]
      have := hq j hi1
      rwa [Addr.add_lit] at this
    · have := hq 0 (by omega)
      rw [Addr.add_lit] at this
      exact lt_of_cell this

end Go.Proofs.Ytmdkfbbagjcboaa
