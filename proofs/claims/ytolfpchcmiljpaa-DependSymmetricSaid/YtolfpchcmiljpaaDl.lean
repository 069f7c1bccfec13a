/- depend.Order, depend.Race. -/
import Derived.Test.YtolfpchcmiljpaaDj
set_option linter.unusedSimpArgs false
set_option linter.unusedSectionVars false
set_option maxRecDepth 10000
namespace Go.Proofs.Ytolfpchcmiljpaa
open Go Go.RowKit

theorem up_depPairs (l : List Step) : Up (depPairs l) l.length := fun p hp => by
  have := (mem_depPairs l p).1 hp
  exact ⟨this.1, this.2.1⟩
theorem depPairs_length {l : List Step} (h : l.length ≤ 64) : (depPairs l).length ≤ 4096 := by
  have h1 := pairsL_length l l.length 0
  have h2 : l.length * l.length ≤ 64 * 64 := Nat.mul_le_mul h h
  unfold depPairs
  omega
theorem Run.boxc {S : St} {v : Value} {l : List Step} (h : Run S v l) : boxc v = some [v] := by
  obtain ⟨rs, h1, _⟩ := h
  obtain ⟨s, rfl⟩ := h1.sv
  exact boxc_slice _ _ _
theorem extv_two0 (a b : Value) : extv (.tuple #[a, b]) 0 = some a := Eq.trans rfl rfl

section
variable [Prim Try.prog]

theorem order_any {v : Value} {l : List Step} {S : St} (hr : Run S v l) (hl : l.length ≤ 64) (hs : Sents l) :
    XC Try.prog 14 #[v] S fun p S' => Ext S S' ∧ Ord S' S.next p l.length (depPairs l) := by
  refine XC_body XF14 ?_
  simp (decide := true) only [↓symD, symU, ↓XW_cond, Nat.reduceEqDiff, List.zip_cons_cons, List.zip_nil_left, Option.bind_some, Option.map_some, Option.map_none, List.map_toArray, List.map_cons, List.map_nil, ne_eq, List.append_toArray, List.nil_append, List.cons_append, List.append_nil, xf14, hr.len]
  refine XCall.of (deps_any hr) ?_
  rintro _ S1 ⟨hx1, hn1, rfl, hg1⟩
  simp (decide := true) only [↓symD, symU, ↓XW_cond, Nat.reduceEqDiff, List.zip_cons_cons, List.zip_nil_left, Option.bind_some, Option.map_some, Option.map_none, List.map_toArray, List.map_cons, List.map_nil, ne_eq, List.append_toArray, List.nil_append, List.cons_append, List.append_nil]
  refine XCall.of (collect32_any S.next _ _ _ (hr.mono hx1) (by omega) hg1 (by omega) hs) ?_
  rintro r S2 ⟨hx2, hrd⟩
  simp (decide := true) only [↓symD, symU, ↓XW_cond, Nat.reduceEqDiff, List.zip_cons_cons, List.zip_nil_left, Option.bind_some, Option.map_some, Option.map_none, List.map_toArray, List.map_cons, List.map_nil, ne_eq, List.append_toArray, List.nil_append, List.cons_append, List.append_nil]
  refine XCall.of (new_any hrd (up_depPairs l) hl (Nat.le_trans (depPairs_length hl) (by decide))) ?_
  rintro _ S3 ⟨hx3, p, rfl, ho⟩
  simp (decide := true) only [↓symD, symU, ↓XW_cond, Nat.reduceEqDiff, List.zip_cons_cons, List.zip_nil_left, Option.bind_some, Option.map_some, Option.map_none, List.map_toArray, List.map_cons, List.map_nil, ne_eq, List.append_toArray, List.nil_append, List.cons_append, List.append_nil]
  exact ⟨(hx1.trans hx2).trans hx3, ho.weak (Nat.le_trans hx1.next hx2.next)⟩
end
end Go.Proofs.Ytolfpchcmiljpaa
