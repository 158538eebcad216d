/-
  An append of one element as a step of a region that draws its order: where the row then lies. Conditions: none.
-/
import Derived.Test.YtcbapmkipcffgaaDoorSep
import Derived.Deep.RegionLaw
namespace Go.Proofs.YtcbapmkipcffgaaDoor
open Go.RowKit

theorem step_append_elem {P : Program} {ops : Array Oper} {o : Oper} {a : Act} {K : Act → World → Prop} {Q : Exit → Act → World → Prop} {E : Prop} (w0 : World) (hgd : o.guard = none) (s x : Operand) (t : TypeId)
    (ho : o.op = .call { callee := .builtin .append, args := #[s, x], argTypes := #[t, t] })
    (base : Nat) (e : TypeId) (z : Value) (size bytes : Nat) (ht : P.underlying t = some (.slice e)) (hinfo : (P.info? e).map (fun i => (i.zero, i.size, i.bytes)) = some (some z, size, bytes))
    (hzs : z.cells.size = size) (hsz : 0 < size) (v : Value) (n : Nat) (xs : List Value) (hs : a.eval s = v) (hown : w0.ownsRow base e size v n xs)
    (news : List Value) (c : Nat) (hx : a.eval x = .slice (some ⟨w0.heap.size, 0, none⟩) 1 c) (hl : news.length = size) (h1 : ∀ u ∈ news, u.oneCell' = true)
    (h63 : n + 1 ≤ maxLen) (hbytes : (n + 1) * bytes ≤ 140737488355328) (hbase : base ≤ w0.heap.size)
    (h : ∀ g cap w', w'.ownsRow base e size (.slice (some ⟨g, 0, none⟩) (n + 1) cap) (n + 1) (xs ++ news) → w0.grownBy w' v.ownBlock → (v.ownBlock = some g ∨ w0.heap.size ≤ g) → g < w'.heap.size → w0.heap.size < w'.heap.size →
      K (a.put o.dst (.slice (some ⟨g, 0, none⟩) (n + 1) cap)) w') :
    if Region.wanted o (yielded ops a.tmps) = true then Oper.wp P o a (w0.alloc (.cells news.toArray e)) K Q else E := by
  have hw : Region.wanted o (yielded ops a.tmps) = true := by simp [Region.wanted, hgd]
  rw [if_pos hw]
  have hnews : ∀ j u, news[j]? = some u → (w0.alloc (.cells news.toArray e)).cell? ((⟨w0.heap.size, 0, none⟩ : Addr).add j) = some u := by
    intro j u hj
    have hb : (w0.alloc (.cells news.toArray e)).heap[w0.heap.size]? = some (.cells news.toArray e) := heap_alloc_new _ _
    rw [Addr.add_lit, Nat.zero_add]
    simp only [World.cell?, hb]
    simpa using hj
  have hg0 : w0.grownBy (w0.alloc (.cells news.toArray e)) v.ownBlock := World.grownBy_alloc _ _ _
  have hs0 : (w0.alloc (.cells news.toArray e)).heap.size = w0.heap.size + 1 := by simp
  obtain ⟨g, cap, w', hr, h2, h3, h4⟩ := run_append_where (P := P) (w0.alloc (.cells news.toArray e)) base t o.type e z size bytes ht hinfo hzs hsz v n xs (hown.alloc _) ⟨w0.heap.size, 0, none⟩ 1 c news (by omega) hnews h1 (by omega) h63 hbytes (by omega)
  have hgl := (h2.lt g rfl).2
  have hsz' := h3.size
  unfold Oper.wp execOp
  simp only [ho, resolve, invoke, builtin, Sem.run_bind, Sem.run_pure, Result.andThen_ok, List.map_toArray, List.map_cons, List.map_nil, hs, hx, hr]
  exact h g cap w' h2 (grownBy_trans hg0 h3) (h4.imp_right fun e => by omega) hgl (by omega)

end Go.Proofs.YtcbapmkipcffgaaDoor
