/- How a law begins: the memory that a call finds, as the abstract machine sees it. -/
import Derived.Test.YtofjnhdgkhfgnaaDoorMz
import Derived.OpenShut
namespace Go.Proofs.YtofjnhdgkhfgnaaDoor
open Go Go.RowKit Go.WideShapes

/-- the abstract memory of what the arguments reach: nothing of it may be written. -/
structure Begin (w : World) (φ : Emb) (S : St) : Prop where
  sim : Sim w.heap.size φ S w
  ws : WS S
  still : ∀ id, (S.get id).wr = false

def St.zero : St := ⟨.leaf, 0⟩
theorem get_zero (id : Nat) : St.zero.get id = .gone := rfl
def Emb.zero (t : Option Nat) : Emb := ⟨fun _ => none, t⟩
theorem Emb.zero_at {t : Option Nat} {id : Nat} {s : Spot} (h : (Emb.zero t) id = some s) : False := Option.some_ne_none s h.symm
theorem Begin.tab {w : World} {t : Option Nat} (ht : GlobOK w.heap.size (Emb.zero t) w) : Begin w (Emb.zero t) St.zero :=
  ⟨⟨(fun _ _ h => (Emb.zero_at h).elim), (fun _ _ => rfl), (fun _ _ _ _ _ _ _ h => (Emb.zero_at h).elim), (fun _ _ _ _ _ _ h => (Emb.zero_at h).elim), ht, (fun _ _ _ h => (Emb.zero_at h).elim)⟩, ⟨(fun _ _ => rfl), (fun _ _ _ _ _ _ h => nomatch h), (fun _ _ h => nomatch h)⟩, fun _ => rfl⟩
theorem Begin.zero (w : World) (hg : gOn = false := by rfl) : Begin w (Emb.zero none) St.zero := Begin.tab fun h => by rw [hg] at h; cases h

/-- what is known of a slice's address. -/
def HasRow (w : World) (a : Option Addr) : Prop := ∀ x, a = some x → x.spot = none ∧ ∃ cs t fz, w.heap[x.block]? = some (.cells cs t fz)

theorem okWide_has {P : Program} {w : World} {r : Go.Reach} {base : Nat} {t e : TypeId} {a : Option Addr} {n c : Nat} (hu : P.underlying t = some (.slice e)) (h : Value.okWide P w r base t (.slice a n c)) : HasRow w a := by
  intro x hx
  subst hx
  simp only [Value.okWide, hu, Cell.okWide, Cell.ok, World.has] at h
  obtain ⟨_, _, _, hsp, row, cells, hsh, _⟩ := h
  refine ⟨hsp, ?_⟩
  unfold World.shape? at hsh
  split at hsh
  · rename_i cs t fz e
    exact ⟨cs, t, fz, e⟩
  · cases hsh

section
variable {α : Type} [Enc α]

theorem Begin.row {w : World} {φ : Emb} {S : St} (h : Begin w φ S) {a : Option Addr} {len cap : Nat} (zs : List α) (hflat : ∀ z ∈ zs, flatL (Enc.e z) = true)
    (hrow : (a = none ∧ len = 0 ∧ cap = 0 ∧ zs = []) ∨ ∃ x, a = some x ∧ len ≤ cap ∧ zs.length = cap ∧ ∀ (i : Nat) v, (encs zs)[i]? = some v → w.cell? (x.add i) = some v)
    (hy : HasRow w a) (t : TypeId) :
    ∃ φ' S' v, Begin w φ' S' ∧ Emb.le φ φ' ∧ Ext S S' ∧ Rel φ' v (.slice a len cap) ∧ RdS S' v (zs.take len) ∧ Sc S'.next v := by
  rcases hrow with ⟨rfl, rfl, rfl, rfl⟩ | ⟨x, rfl, hlc, hzl, hcell⟩
  · exact ⟨φ, S, .slice none 0 0, h, Emb.le.refl _, Ext.refl _, .sliceNil, .inl ⟨rfl, rfl⟩, .sliceNil 0 0⟩
  · obtain ⟨hsp, cs, t', fz, hheap⟩ := hy x rfl
    obtain ⟨b, o, sp⟩ := x
    simp only at hsp hheap
    subst hsp
    have hbsz : b < w.heap.size := (Array.getElem?_eq_some_iff.1 hheap).1
    have hlen : (encs zs).length = cap * Enc.w α := by rw [encs_length, hzl]
    have hcell' : ∀ (i : Nat) v, (encs zs)[i]? = some v → cs[o + i]? = some v := fun i v hv => by
      have := hcell i v hv
      rw [Addr.add_lit] at this
      unfold World.cell? at this
      simpa [hheap] using this
    -- where it lies, and how far
    obtain ⟨s, hsb, hs1, hs2, hs3⟩ : ∃ s : Spot, s.b = b ∧ s.sz = Enc.w α ∧ s.base + s.ext ≤ cs.size ∧ ((s.base = o ∧ s.ext = cap * Enc.w α) ∨ (cap = 0 ∧ s.ext = 0)) := by
      by_cases hc : cap = 0
      · exact ⟨⟨b, 0, 0, Enc.w α⟩, rfl, rfl, by simp, .inr ⟨hc, rfl⟩⟩
      · refine ⟨⟨b, o, cap * Enc.w α, Enc.w α⟩, rfl, rfl, ?_, .inl ⟨rfl, rfl⟩⟩
        have hpos : 0 < cap * Enc.w α := Nat.mul_pos (by omega) Enc.pos
        have hlt : cap * Enc.w α - 1 < (encs zs).length := by omega
        have := hcell' _ _ (List.getElem?_eq_getElem hlt)
        have := (Array.getElem?_eq_some_iff.1 this).1
        show o + cap * Enc.w α ≤ cs.size
        omega
    have hf := h.sim.fresh
    have hle := Emb.le_add φ S.next s hf
    have hcl : ((encs zs).take (len * Enc.w α)).length = len * Enc.w α := by
      have : len * Enc.w α ≤ cap * Enc.w α := Nat.mul_le_mul_right _ hlc
      simp; omega
    have hle2 : len * Enc.w α ≤ cap * Enc.w α := Nat.mul_le_mul_right _ hlc
    have hfl : flatL ((encs zs).take (len * Enc.w α)) = true := by
      rw [encs_take]
      simp only [flatL, List.all_eq_true]
      intro v hv
      simp only [encs, List.mem_flatMap] at hv
      obtain ⟨z, hz, hv⟩ := hv
      have := hflat z (List.mem_of_mem_take hz)
      simp only [flatL, List.all_eq_true] at this
      exact this v hv
    have hget : ∀ j, (S.alloc (.cells ((encs zs).take (len * Enc.w α)) t (Enc.w α) false [])).get j = if j = S.next then .cells ((encs zs).take (len * Enc.w α)) t (Enc.w α) false [] else S.get j := St.get_alloc S _
    have hstill : ∀ id, ((S.alloc (.cells ((encs zs).take (len * Enc.w α)) t (Enc.w α) false [])).get id).wr = false := by
      intro id
      rw [hget]
      split
      · rfl
      · exact h.still id
    refine ⟨φ.add S.next s, S.alloc (.cells ((encs zs).take (len * Enc.w α)) t (Enc.w α) false []), .slice (some ⟨S.next, 0, none⟩) len len, ⟨⟨fun id s' e => ?_, fun id hi => ?_, fun id s' c t1 sz m an e e2 => ?_, (fun id s' c t1 sz an e e2 => absurd (wr_cells e2) (by rw [hstill]; simp)), h.sim.loops.1.of (Nat.le_refl _) hle.tab (fun _ _ _ _ e => e), fun id s' o e e2 => absurd (wr_obj e2) (by rw [hstill]; simp)⟩, h.ws.alloc (ScL.flat hfl) _ _ _ _, hstill⟩, hle, Ext.alloc _ _, ?_, ?_, .slice _ _ _ _ (by simp)⟩
    · by_cases hi : id = S.next
      · subst hi
        rw [Emb.add_same] at e
        obtain rfl := Option.some.inj e
        exact ⟨by simp, by omega⟩
      · rw [Emb.add_other _ _ hi] at e
        have := h.sim.dom id s' e
        exact ⟨by simp; omega, this.2⟩
    · rw [hget, if_neg (by simp at hi; omega)]
      exact h.sim.gone id (by simp at hi; omega)
    · rw [hget] at e2
      by_cases hi : id = S.next
      · subst hi
        rw [if_pos rfl] at e2
        rw [Emb.add_same] at e
        obtain rfl := Option.some.inj e
        obtain ⟨rfl, rfl, rfl, rfl, rfl⟩ := Blk.cells.inj e2
        have hext : len * Enc.w α ≤ s.ext := by
          rcases hs3 with h | h
          · omega
          · rw [h.1] at hle2; omega
        refine ⟨hs1, by rw [hcl]; exact hext, (fun x => nomatch x), cs, t', ⟨fz, by rw [hsb]; exact hheap, fun x => nomatch x⟩, hs2, fun i v hv => ?_⟩
        have hi : i < len * Enc.w α := by have := (List.getElem?_eq_some_iff.1 hv).1; omega
        have hv2 : (encs zs)[i]? = some v := by rw [List.getElem?_take] at hv; rwa [if_pos hi] at hv
        have hfv : flat1 v = true := by simp only [flatL, List.all_eq_true] at hfl; exact hfl v (List.mem_of_getElem? hv)
        refine ⟨flat1_one hfv, v, ?_, flat1_rel hfv _⟩
        rcases hs3 with h | h
        · rw [h.1]; exact hcell' i v hv2
        · rw [h.1] at hle2; omega
      · rw [if_neg hi] at e2
        rw [Emb.add_other _ _ hi] at e
        obtain ⟨a1, a2, a3, cs', t2, a4, a5, a6⟩ := h.sim.blk id s' c t1 sz m an e e2
        refine ⟨a1, a2, a3, cs', t2, a4, a5, fun i v hv => ?_⟩
        obtain ⟨b1, v', b2, b3⟩ := a6 i v hv
        exact ⟨b1, v', b2, b3.mono hle⟩
    · rcases hs3 with h3 | h3
      · have := Rel.slice (φ := φ.add S.next s) S.next 0 len len cap s (Emb.add_same _ _ _) (Nat.le_refl _) hlc (by rw [hs1, h3.2]; omega)
        simpa [hsb, h3.1] using this
      · obtain rfl : cap = 0 := h3.1
        obtain rfl : len = 0 := by omega
        have := Rel.sliceEnd (φ := φ.add S.next s) S.next 0 o s (Emb.add_same _ _ _)
        simpa [hsb] using this
    · have htl : (zs.take len).length = len := by simp; omega
      refine .inr ⟨S.next, 0, len, _, t, false, [], by rw [htl], by omega, by simp, by rw [get_alloc_self], by rw [htl, hcl]; omega, ?_⟩
      rw [htl, List.drop_zero, List.take_of_length_le (by omega), encs_take]
end

theorem encs_ints (zs : List Int) : encs zs = zs.map fun n => Value.int .i64 n := by
  induction zs with
  | nil => rfl
  | cons z zs ih => rw [encs_cons, ih]; rfl

/-- .. a slice of numbers. -/
theorem Begin.ints {w : World} {φ : Emb} {S : St} (h : Begin w φ S) {a : Option Addr} {len cap : Nat} {zs : List Int}
    (hrow : (a = none ∧ len = 0 ∧ cap = 0 ∧ zs = []) ∨ ∃ x, a = some x ∧ len ≤ cap ∧ cap ≤ maxLen ∧ zs.length = cap ∧ (∀ i, i < zs.length → w.cell? (x.add i) = some (.int .i64 (zs.getD i 0))) ∧ ∀ n ∈ zs, (Lit.int .i64 n).wf = true)
    (hy : HasRow w a) (t : TypeId) :
    ∃ φ' S' v, Begin w φ' S' ∧ Emb.le φ φ' ∧ Ext S S' ∧ Rel φ' v (.slice a len cap) ∧ RdS S' v (zs.take len) ∧ Sc S'.next v :=
  h.row zs (fun _ _ => rfl) (by
    rcases hrow with h | ⟨x, h1, h2, h3, h4, h5, h6⟩
    · exact .inl h
    · refine .inr ⟨x, h1, h2, h4, fun i v hv => ?_⟩
      rw [encs_ints, List.getElem?_map, Option.map_eq_some_iff] at hv
      obtain ⟨n, hn, rfl⟩ := hv
      obtain ⟨hi, rfl⟩ := List.getElem?_eq_some_iff.1 hn
      rw [h5 i hi]
      simp [List.getD_eq_getElem?_getD, hi]) hy t

theorem wf_i64 {n : Int} (h : (Lit.int .i64 n).wf = true) : -9223372036854775808 ≤ n ∧ n ≤ 9223372036854775807 := by
  simp [Lit.wf, IntKind.min, IntKind.max, IntKind.bits, IntKind.signed] at h
  omega
theorem wf_ints {k : Nat} {w : World} {a : Option Addr} {len cap : Nat} {zs : List Int}
    (hrow : (a = none ∧ len = 0 ∧ cap = 0 ∧ zs = []) ∨ ∃ x, a = some x ∧ len ≤ cap ∧ cap ≤ maxLen ∧ zs.length = cap ∧ (∀ i, i < zs.length → w.cell? (x.add i) = some (.int .i64 (zs.getD i 0))) ∧ ∀ n ∈ zs, (Lit.int .i64 n).wf = true) :
    ∀ n ∈ zs.take k, -9223372036854775808 ≤ n ∧ n ≤ 9223372036854775807 := by
  intro n hn
  have hn := List.mem_of_mem_take hn
  rcases hrow with ⟨_, _, _, rfl⟩ | ⟨x, h1, h2, h3, h4, h5, h6⟩
  · cases hn
  · exact wf_i64 (h6 n hn)

/-- a struct of numbers alone. -/
theorem okWide_aggs {P : Program} {w : World} {r : Go.Reach} {base : Nat} {t u : TypeId} {fs : Array Field} {v : Value} {n : Nat} (hu : P.underlying t = some (.struct fs)) (hct : P.cellTypes P.depth t = some (List.replicate n u)) (hn : P.cellsOf t = n)
    (hu2 : P.underlying u = some (.int .i64)) (h : Value.okWide P w r base t v) : ∃ zs : List Int, v = .agg (zs.map fun z => Value.int .i64 z).toArray ∧ zs.length = n := by
  simp only [Value.okWide, hu] at h
  obtain ⟨cs, rfl, hsz, ts, hts, _, hcells⟩ := h
  rw [hct] at hts
  obtain rfl := Option.some.inj hts
  rw [hn] at hsz
  have key : ∀ i (hi : i < cs.size), ∃ z, cs[i] = .int .i64 z := by
    intro i hi
    obtain ⟨u', hu', hok⟩ := hcells i cs[i] (Array.getElem?_eq_getElem hi)
    have : u' = u := by
      have := List.mem_of_getElem? hu'
      simp at this
      exact this.2
    subst this
    generalize cs[i] = c at hok
    simp only [Cell.okWide, Cell.ok, hu2] at hok
    cases c <;> simp at hok
    obtain ⟨rfl, _⟩ := hok
    exact ⟨_, rfl⟩
  refine ⟨cs.toList.map fun c => match c with | .int _ z => z | _ => 0, ?_, by simp [hsz]⟩
  congr 1
  apply Array.ext
  · simp
  · intro i h1 h2
    obtain ⟨z, hz⟩ := key i h1
    simp [hz]

/-- a law that is shown in the abstract machine. -/
theorem XC.law {P : Program} [Prim P] (hm : P.follows .mixedOrders = true) {f : FuncId} {args args' : Array Value} {S : St} {φ : Emb} {w : World} (h : XC P f args S fun r S' => Ext S S' ∧ r = .bool true) (hb : Begin w φ S)
    (ha : ScL S.next args.toList) (hargs : RelL φ args.toList args'.toList) : Calls P f args' w fun e w' => e = .returned (.bool true) ∧ Below w.heap.size w w' := by
  have hA : RelA φ args args' := by
    have := hargs.toA
    simpa using this
  refine (h.calls hm hb.ws ha hA hb.sim (Nat.le_refl _)).mono ?_
  rintro e w' ⟨φ', v, v', S', rfl, hr, hs, hk, _, rfl⟩
  exact ⟨by rw [bool_inv hr], hk.below hb.sim (Nat.le_refl _)⟩
end Go.Proofs.YtofjnhdgkhfgnaaDoor
