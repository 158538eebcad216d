/-
  tree's gathers: all elements of a node behind a row of the call's own. Conditions: few elements.
-/
import Derived.Test.YtelgbigpfiohfaaTreeSet
namespace Go.Proofs.Ytelgbigpfiohfaa
open Go.RowKit Go.Extern.Stop Go.Stop Go.Extern Go.Lib
set_option maxRecDepth 1000000

section
variable {P : Program} {w : World}
theorem step_append_own {ops : Array Oper} {o : Oper} {a : Act} {K : Act → World → Prop} {Q : Exit → Act → World → Prop} {E : Prop} (hgd : o.guard = none) (s x : Operand) (t : TypeId)
    (ho : o.op = .call { callee := .builtin .append, args := #[s, x], argTypes := #[t, t] })
    (base : Nat) (e : TypeId) (i : TypeInfo) (z : Value) (size bytes : Nat) (ht : P.underlying t = some (.slice e)) (hi : P.info? e = some i) (hz : i.zero = some z)
    (hsize : i.size = size) (hby : i.bytes = bytes) (hzs : z.cells.size = size) (hsz : 0 < size)
    (v : Value) (n : Nat) (xs : List Value) (hs : a.eval s = v) (hown : w.ownsRow base e size v n xs)
    (ad : Addr) (m c : Nat) (news : List Value) (hx : a.eval x = .slice (some ad) m c) (hl : news.length = m * size) (hnews : ∀ j u, news[j]? = some u → w.cell? (ad.add j) = some u) (h1 : ∀ u ∈ news, u.oneCell' = true)
    (h63 : n + m ≤ maxLen) (hbytes : (n + m) * bytes ≤ 140737488355328) (hbase : base ≤ w.heap.size)
    (h : ∀ v' w', w'.ownsRow base e size v' (n + m) (xs ++ news) → w.grownBy w' v.ownBlock → (v' = .slice none 0 0 ↔ v = .slice none 0 0 ∧ m = 0) → K (a.put o.dst v') w') :
    if Region.wanted o (yielded ops a.tmps) = true then Oper.wp P o a w K Q else E := by
  have hw : Region.wanted o (yielded ops a.tmps) = true := by simp [Region.wanted, hgd]
  rw [if_pos hw]
  exact wp_append_own w s x t ho base e i z size bytes ht hi hz hsize hby hzs hsz v n xs hs hown ad m c news hx hl hnews h1 h63 hbytes hbase h
end

/-- What gathers hands back. -/
def GatherOut (B : Nat) (w w' : World) (L : List Int) (e : Ending) : Prop := ∃ v, e = .returned v ∧ w'.ownsRow B 2 1 v L.length (intsV L) ∧ Same (fun k => B ≤ k) w w'

/-- What gathers is to do at nodes of height h. -/
def GatherAll (h : Nat) : Prop := ∀ {w : World} {B b s : Nat} {o : Value} {L O : List Int} {f u : Int}, NodeAt w (fun q => q < B) h b s L → 0 < s → L.length ≤ 100000 → O.length + L.length ≤ 200000 → w.ownsRow B 2 1 o O.length (intsV O) → B ≤ w.heap.size → -1000000 ≤ f - L.length → f ≤ 0 → (L.length : Int) ≤ u → u ≤ 1000000 →
    Calls Try.prog 55 #[.pointer (some ⟨b, 0, none⟩), o, .int .i64 f, .int .i64 u] w fun e w' => GatherOut B w w' (O ++ L) e

set_option maxHeartbeats 4000000 in
theorem gather_leaf : GatherAll 0 := by
  intro w B b s o L O f u hn hs0 hL hO ho hB f0 f1 u0 u1
  obtain ⟨hs, h8, hpb, l, hb, hr, hlP⟩ := hn
  subst hs
  have hlV : (intsV L).length = L.length := by simp
  obtain ⟨lb, lo, lc, lcs, lfr, rfl, hlbk, hlc⟩ := hr.where (by omega)
  rw [hlV] at hr hb hlc
  obtain ⟨n0, n1, n2, nf⟩ := node_cells hb
  have hlb := lt_of_block hb
  have HO := Lib.hid ho
  have HR := Lib.hid (show ∀ (w' : World), w'.heap = w.heap → ∀ j x, (intsV L)[j]? = some x → w'.cell? ((⟨lb, lo, none⟩ : Addr).add j) = some x from fun w' e j x hj => by
    rw [Addr.add_lit]
    have := hr.cell hj
    simp only [World.cell?, e] at this ⊢
    exact this)
  have HI := Lib.hid infoi
  have HV := Lib.hid (ints_one L)
  have hmx : max f 0 = 0 := by omega
  have hmn : min u (L.length : Int) = (L.length : Int) := by omega
  have hlc2 : (L.length : Int) ≤ (lc : Int) := by omega
  have hlc3 : ¬ (lc = 0) := by omega
  clear hr hb ho hlP n2 nf hlbk
  go_enter Try.func55, Try.ntmps55
  go_wp2_with fail
  obtain ⟨i0, hi, hz, hsz, hby⟩ := HI.out
  go_region_law (refine step_append_own (w := w.drew) rfl (.tmp 17) (.tmp 31) 38 rfl B 2 i0 (.int .i64 0) 1 8 rfl hi hz hsz hby rfl (by omega) o O.length (intsV O) (by simp [Act.eval, Act.put]) HO.out ⟨lb, lo, none⟩ L.length lc (intsV L) (by simp [Act.eval, Act.put]) (by simp) (HR.out w.drew rfl) HV.out (by unfold maxLen; omega) (by omega) hB ?_; intro v' w1 hown hgrow hnil)
  all_goals (
    have hs : Same (fun k => B ≤ k) w w1 := by
      have h1 : Same (fun k => o.ownBlock = some k) w.drew w1 := ⟨hgrow.os, hgrow.tape, hgrow.output, hgrow.size, fun i hi hn => hgrow.block i hi (fun e => hn e.symm)⟩
      exact ((Same.refl (fun k => B ≤ k) w).drew).trans h1 (fun k hk e => (HO.out.lt k e).1)
    have hown' : w1.ownsRow B 2 1 v' (O ++ L).length (intsV (O ++ L)) := by
      rw [List.length_append]
      simpa [intsV] using hown
    have HW := Lib.hid hown'; have HS := Lib.hid hs
    clear hown hown' hgrow hnil hs hi hz hsz hby i0
    go_wp2_with fail
    go_ret
    exact ⟨_, rfl, HW.out, HS.out⟩)

end Go.Proofs.Ytelgbigpfiohfaa
