/- Small laws on what a slice reads as; no program in sight. -/
import Derived.WalkKit
import Derived.WalkSpells
import Derived.Laws.AppendOwnNone
import Derived.WalkLawsBesides
namespace Go.Proofs.Yteeohboemhegoaa
open Go Go.RowKit

/-- The slice value v reads, in w, as the cells xs, one cell an element. -/
def Rd (w : World) (v : Value) (xs : List Value) : Prop :=
  ∃ a cap, v = .slice a xs.length cap ∧ xs.length ≤ cap ∧ cap ≤ maxLen ∧ (a = none → cap = 0) ∧
    ∀ i (h : i < xs.length), ∃ b off, a = some ⟨b, off, none⟩ ∧ w.cell? ⟨b, off + i, none⟩ = some xs[i]

theorem hid {p : Prop} (h : p) : Hid p := h

theorem Rd.nil (w : World) : Rd w (.slice none 0 0) [] := ⟨none, 0, rfl, Nat.le_refl _, by simp, fun _ => rfl, fun i h => by simp at h⟩

theorem Rd.same {w w' : World} {v : Value} {xs : List Value} (h : Rd w v xs) (hs : ∀ b o u, w.cell? ⟨b, o, none⟩ = some u → w'.cell? ⟨b, o, none⟩ = some u) : Rd w' v xs := by
  obtain ⟨a, cap, h1, h2, h3, h4, h5⟩ := h
  refine ⟨a, cap, h1, h2, h3, h4, fun i hi => ?_⟩
  obtain ⟨b, off, e, hc⟩ := h5 i hi
  exact ⟨b, off, e, hs _ _ _ hc⟩

theorem lt_of_cell {w : World} {b o : Nat} {u : Value} (h : w.cell? ⟨b, o, none⟩ = some u) : b < w.heap.size := World.block_lt_of_cell? w ⟨b, o, none⟩ h

theorem Rd.below {w w' : World} {v : Value} {xs : List Value} (h : Rd w v xs) (hb : Below w.heap.size w w') : Rd w' v xs :=
  h.same fun b o _ hu => (hb.cell (p := ⟨b, o, none⟩) (lt_of_cell hu)).trans hu

theorem Rd.drew {w : World} {v : Value} {xs : List Value} (h : Rd w v xs) : Rd w.drew v xs := h

theorem Rd.drewN {w : World} {v : Value} {xs : List Value} (h : Rd w v xs) (n : Nat) : Rd (w.drewN n) v xs := h

theorem Rd.alloc {w : World} {v : Value} {xs : List Value} (h : Rd w v xs) (o : Obj) : Rd (w.alloc o) v xs := h.below ((Below.refl _ _).alloc (Nat.le_refl _) o)

/-- What the call owns reads as it is. -/
theorem Rd.of_owns {w : World} {base : Nat} {e : TypeId} {v : Value} {xs : List Value} {n : Nat} (h : w.ownsRow base e 1 v n xs) : Rd w v xs := by
  have hn : xs.length = n := by simpa using h.1
  rcases h.2 with ⟨rfl, h0⟩ | ⟨g, cap, cur, rfl, hb, hg, hnc, hcm, hcs, htake⟩
  · have : xs = [] := List.eq_nil_of_length_eq_zero (by omega)
    subst this; exact Rd.nil w
  · refine ⟨_, cap, by rw [hn], by omega, hcm, by simp, fun i hi => ⟨g, 0, rfl, ?_⟩⟩
    have := World.ownsRow.cells h (g := g) rfl i xs[i] (by simp [List.getElem?_eq_getElem hi])
    rwa [Addr.add_lit] at this

section
variable {P : Program} {w : World}

/-- what a slice value with cells of any width reads as. -/
def RdN (w : World) (v : Value) (sz n : Nat) (cs : List Value) : Prop :=
  cs.length = n * sz ∧ ∃ a cap, v = .slice a n cap ∧ n ≤ cap ∧ cap ≤ maxLen ∧ (a = none → cap = 0) ∧
    ∀ i (h : i < cs.length), ∃ b off, a = some ⟨b, off, none⟩ ∧ w.cell? ⟨b, off + i, none⟩ = some cs[i]

theorem Rd.toN {v : Value} {xs : List Value} (h : Rd w v xs) : RdN w v 1 xs.length xs := ⟨by simp, h⟩

theorem Rd.take {a : Option Addr} {n cap : Nat} {xs : List Value} (h : Rd w (.slice a n cap) xs) (k : Nat) (hk : k ≤ xs.length) : RdN w (.slice a k cap) 1 k (xs.take k) := by
  obtain ⟨a', cap', e, h2, h3, h4, h5⟩ := h
  simp only [Value.slice.injEq] at e
  obtain ⟨rfl, rfl, rfl⟩ := e
  refine ⟨by simp; omega, a, cap, rfl, by omega, h3, h4, fun i hi => ?_⟩
  have hi' : i < k := by simp at hi; omega
  obtain ⟨b, off, e1, e2⟩ := h5 i (by omega)
  exact ⟨b, off, e1, by rw [e2]; simp⟩

theorem wpList_wanted {ops : Array Oper} {rest : List Oper} {o : Oper} {a : Act} {Q : Exit → Act → World → Prop} (hw : Region.wanted o (yielded ops a.tmps) = true)
    (h : ∀ K : Act → World → Prop, (∀ a w, wpList P ops Q rest a w → K a w) → o.wp P a w K Q) : wpList P ops Q (o :: rest) a w :=
  wpList_step fun K hK => by rw [if_pos hw]; exact h K hK

/-- append of whatever slice that is read to a slice that is the call's own. -/
theorem wp_append_rd {o : Oper} {a : Act} {K : Act → World → Prop} {Q : Exit → Act → World → Prop} (s x : Operand) (t : TypeId)
    (ho : o.op = .call { callee := .builtin .append, args := #[s, x], argTypes := #[t, t] })
    (base : Nat) (e : TypeId) (i : TypeInfo) (z : Value) (size bytes : Nat) (ht : P.underlying t = some (.slice e)) (hi : P.info? e = some i) (hz : i.zero = some z)
    (hsize : i.size = size) (hby : i.bytes = bytes) (hzs : z.cells.size = size) (hsz : 0 < size)
    (v : Value) (n : Nat) (xs : List Value) (hs : a.eval s = v) (hown : w.ownsRow base e size v n xs)
    (u : Value) (m : Nat) (news : List Value) (hx : a.eval x = u) (hr : RdN w u size m news) (h1 : ∀ y ∈ news, y.oneCell' = true)
    (h63 : n + m ≤ maxLen) (hbytes : (n + m) * bytes ≤ 140737488355328) (hbase : base ≤ w.heap.size)
    (h : ∀ v' w', w'.ownsRow base e size v' (n + m) (xs ++ news) → w.grownBy w' v.ownBlock → Below base w w' → K (a.put o.dst v') w') : o.wp P a w K Q := by
  obtain ⟨hl, ao, cap, rfl, hmc, hcm, hnone, hc⟩ := hr
  have hbel : ∀ w', w.grownBy w' v.ownBlock → Below base w w' := fun w' hg => (Below.refl base w).grown hg hbase (fun k hk => (hown.lt k hk).1)
  cases ao with
  | none =>
    have hcap : cap = 0 := hnone rfl
    have hm : m = 0 := by omega
    subst hm
    have hn : news = [] := List.eq_nil_of_length_eq_zero (by simpa using hl)
    subst hn
    subst hcap
    have hrun := run_append_owned_none (P := P) (w := w) base t o.type e i size ht hi v n xs hown
    unfold Oper.wp
    simp [execOp, ho, resolve, invoke, builtin, hs, hx, hrun, Result.andThen]
    exact h v w (by simpa using hown) (World.grownBy.refl _ _) (Below.refl _ _)
  | some ad =>
    refine wp_append_own w s x t ho base e i z size bytes ht hi hz hsize hby hzs hsz v n xs hs hown ad m cap news hx hl ?_ h1 h63 hbytes hbase
      (fun v' w' h2 h3 _ => h v' w' h2 h3 (hbel w' h3))
    intro j u hu
    have hj := (List.getElem?_eq_some_iff.1 hu).1
    obtain ⟨b, off, e, hcell⟩ := hc j hj
    obtain rfl := Option.some.inj e
    rw [Addr.add_lit, hcell, ← hu, List.getElem?_eq_getElem hj]

theorem wpList_append_rd {ops : Array Oper} {rest : List Oper} {o : Oper} {a : Act} {Q : Exit → Act → World → Prop} (hgd : Region.wanted o (yielded ops a.tmps) = true) (s x : Operand) (t : TypeId)
    (ho : o.op = .call { callee := .builtin .append, args := #[s, x], argTypes := #[t, t] })
    (base : Nat) (e : TypeId) (i : TypeInfo) (z : Value) (size bytes : Nat) (ht : P.underlying t = some (.slice e)) (hi : P.info? e = some i) (hz : i.zero = some z)
    (hsize : i.size = size) (hby : i.bytes = bytes) (hzs : z.cells.size = size) (hsz : 0 < size)
    (v : Value) (n : Nat) (xs : List Value) (hs : a.eval s = v) (hown : w.ownsRow base e size v n xs)
    (u : Value) (m : Nat) (news : List Value) (hx : a.eval x = u) (hr : RdN w u size m news) (h1 : ∀ y ∈ news, y.oneCell' = true)
    (h63 : n + m ≤ maxLen) (hbytes : (n + m) * bytes ≤ 140737488355328) (hbase : base ≤ w.heap.size)
    (h : ∀ v' w', w'.ownsRow base e size v' (n + m) (xs ++ news) → w.grownBy w' v.ownBlock → Below base w w' → wpList P ops Q rest (a.put o.dst v') w') : wpList P ops Q (o :: rest) a w :=
  wpList_wanted hgd fun _ hK => wp_append_rd s x t ho base e i z size bytes ht hi hz hsize hby hzs hsz v n xs hs hown u m news hx hr h1 h63 hbytes hbase fun v' w' h2 h3 h4 => hK _ _ (h v' w' h2 h3 h4)

/-- append of one new block. -/
theorem wpList_append_new {ops : Array Oper} {rest : List Oper} {o : Oper} {a : Act} {Q : Exit → Act → World → Prop} (hgd : Region.wanted o (yielded ops a.tmps) = true) (s x : Operand) (t : TypeId)
    (ho : o.op = .call { callee := .builtin .append, args := #[s, x], argTypes := #[t, t] })
    (base : Nat) (e : TypeId) (i : TypeInfo) (z : Value) (size bytes : Nat) (ht : P.underlying t = some (.slice e)) (hi : P.info? e = some i) (hz : i.zero = some z)
    (hsize : i.size = size) (hby : i.bytes = bytes) (hzs : z.cells.size = size) (hsz : 0 < size)
    (v : Value) (n : Nat) (xs : List Value) (hs : a.eval s = v) (hown : w.ownsRow base e size v n xs)
    (cs : Array Value) (m : Nat) (hcs : cs.size = m * size) (hx : a.eval x = .slice (some ⟨w.heap.size, 0, none⟩) m m) (h1 : ∀ y ∈ cs.toList, y.oneCell' = true)
    (h63 : n + m ≤ maxLen) (hbytes : (n + m) * bytes ≤ 140737488355328) (hbase : base ≤ w.heap.size)
    (h : ∀ v' w', w'.ownsRow base e size v' (n + m) (xs ++ cs.toList) → (w.alloc (.cells cs e)).grownBy w' v.ownBlock → Below base w w' → wpList P ops Q rest (a.put o.dst v') w') :
    wpList P ops Q (o :: rest) a (w.alloc (.cells cs e)) := by
  have hA : Below base w (w.alloc (.cells cs e)) := (Below.refl _ _).alloc hbase _
  refine wpList_append_rd hgd s x t ho base e i z size bytes ht hi hz hsize hby hzs hsz v n xs hs (hown.alloc _) _ m cs.toList hx ?_ h1 h63 hbytes (by simp; omega)
    (fun v' w' h2 h3 h4 => h v' w' h2 h3 (hA.trans h4))
  refine ⟨by simpa using hcs, _, m, rfl, Nat.le_refl _, by omega, by simp, fun i hi => ⟨_, 0, rfl, ?_⟩⟩
  have hi' : i < cs.size := by simpa using hi
  rw [Nat.zero_add, World.cell?_alloc_new, Array.getElem?_eq_getElem hi']
  simp

/-- the call's own slice of elements of one cell. -/
def Own (w : World) (base : Nat) (e : TypeId) (v : Value) (xs : List Value) : Prop := w.ownsRow base e 1 v xs.length xs

theorem Own.nil (w : World) (base : Nat) (e : TypeId) : Own w base e (.slice none 0 0) [] := World.ownsRow_nil _ _ _ _
theorem Own.made0 (w : World) (e : TypeId) : Own (w.alloc (.cells #[] e)) w.heap.size e (.slice (some ⟨w.heap.size, 0, none⟩) 0 0) [] := World.ownsRow_made w #[] 0 (Nat.le_refl _) (by simp) rfl
theorem RdN.alloc {v : Value} {sz n : Nat} {cs : List Value} (h : RdN w v sz n cs) (o : Obj) : RdN (w.alloc o) v sz n cs := by
  obtain ⟨h0, a, cap, h1, h2, h3, h4, h5⟩ := h
  refine ⟨h0, a, cap, h1, h2, h3, h4, fun i hi => ?_⟩
  obtain ⟨b, off, e, hc⟩ := h5 i hi
  exact ⟨b, off, e, by rw [World.cell?_alloc_past _ _ _ (lt_of_cell hc)]; exact hc⟩
theorem RdN.below {w' : World} {v : Value} {sz n : Nat} {cs : List Value} (h : RdN w v sz n cs) (hb : Below w.heap.size w w') : RdN w' v sz n cs := by
  obtain ⟨h0, a, cap, h1, h2, h3, h4, h5⟩ := h
  refine ⟨h0, a, cap, h1, h2, h3, h4, fun i hi => ?_⟩
  obtain ⟨b, off, e, hc⟩ := h5 i hi
  exact ⟨b, off, e, (hb.cell (p := ⟨b, _, none⟩) (lt_of_cell hc)).trans hc⟩
theorem RdN.rd {v : Value} {n : Nat} {cs : List Value} (h : RdN w v 1 n cs) : Rd w v cs := by
  obtain ⟨h0, r⟩ := h
  have : cs.length = n := by simpa using h0
  subst this; exact r
theorem Own.rd {base : Nat} {e : TypeId} {v : Value} {xs : List Value} (h : Own w base e v xs) : Rd w v xs := Rd.of_owns h
theorem Own.drew {base : Nat} {e : TypeId} {v : Value} {xs : List Value} (h : Own w base e v xs) : Own w.drew base e v xs := h
theorem Own.drewN {base : Nat} {e : TypeId} {v : Value} {xs : List Value} (h : Own w base e v xs) (n : Nat) : Own (w.drewN n) base e v xs := h
theorem Own.alloc {base : Nat} {e : TypeId} {v : Value} {xs : List Value} (h : Own w base e v xs) (o : Obj) : Own (w.alloc o) base e v xs := World.ownsRow.alloc h o
theorem Own.mono {base base' : Nat} {e : TypeId} {v : Value} {xs : List Value} (h : Own w base e v xs) (hb : base' ≤ base) : Own w base' e v xs := by
  refine ⟨h.1, ?_⟩
  rcases h.2 with h2 | ⟨g, cap, cur, hv, hg, r⟩
  · exact .inl h2
  · exact .inr ⟨g, cap, cur, hv, Nat.le_trans hb hg, r⟩
theorem Own.below {w' : World} {base : Nat} {e : TypeId} {v : Value} {xs : List Value} (h : Own w base e v xs) (hb : Below w.heap.size w w') : Own w' base e v xs := by
  refine ⟨h.1, ?_⟩
  rcases h.2 with h2 | ⟨g, cap, cur, hv, hg, hh, r⟩
  · exact .inl h2
  · exact .inr ⟨g, cap, cur, hv, hg, by rw [hb.block g (Array.getElem?_eq_some_iff.1 hh).1]; exact hh, r⟩

theorem wpList_app {ops : Array Oper} {rest : List Oper} {o : Oper} {a : Act} {Q : Exit → Act → World → Prop} (hgd : Region.wanted o (yielded ops a.tmps) = true) (s x : Operand) (t : TypeId)
    (ho : o.op = .call { callee := .builtin .append, args := #[s, x], argTypes := #[t, t] })
    (base : Nat) (e : TypeId) (i : TypeInfo) (z : Value) (bytes : Nat) (ht : P.underlying t = some (.slice e)) (hi : P.info? e = some i) (hz : i.zero = some z)
    (hsize : i.size = 1) (hby : i.bytes = bytes) (hzs : z.cells.size = 1)
    (v : Value) (xs : List Value) (hs : a.eval s = v) (hown : Own w base e v xs)
    (u : Value) (m : Nat) (news : List Value) (hx : a.eval x = u) (hr : RdN w u 1 m news) (h1 : ∀ y ∈ news, y.oneCell' = true)
    (hbytes : (xs.length + m) * bytes ≤ 140737488355328) (h63 : xs.length + m ≤ 9223372036854775807) (hbase : base ≤ w.heap.size)
    (h : ∀ v' w', Own w' base e v' (xs ++ news) → w.grownBy w' v.ownBlock → Below base w w' → wpList P ops Q rest (a.put o.dst v') w') : wpList P ops Q (o :: rest) a w :=
  wpList_append_rd hgd s x t ho base e i z 1 bytes ht hi hz hsize hby hzs (by decide) v xs.length xs hs hown u m news hx hr h1 (by unfold maxLen; omega) hbytes hbase
    (fun v' w' h2 h3 h4 => h v' w' (by unfold Own; rw [List.length_append, show news.length = m by simpa using hr.1]; exact h2) h3 h4)

/-- the same, as a step of a region that draws its order. -/
theorem step_app {ops : Array Oper} {o : Oper} {a : Act} {K : Act → World → Prop} {Q : Exit → Act → World → Prop} {E : Prop} (hgd : Region.wanted o (yielded ops a.tmps) = true) (s x : Operand) (t : TypeId)
    (ho : o.op = .call { callee := .builtin .append, args := #[s, x], argTypes := #[t, t] })
    (base : Nat) (e : TypeId) (i : TypeInfo) (z : Value) (bytes : Nat) (ht : P.underlying t = some (.slice e)) (hi : P.info? e = some i) (hz : i.zero = some z)
    (hsize : i.size = 1) (hby : i.bytes = bytes) (hzs : z.cells.size = 1)
    (v : Value) (xs : List Value) (hs : a.eval s = v) (hown : Own w base e v xs)
    (u : Value) (m : Nat) (news : List Value) (hx : a.eval x = u) (hr : RdN w u 1 m news) (h1 : ∀ y ∈ news, y.oneCell' = true)
    (hbytes : (xs.length + m) * bytes ≤ 140737488355328) (h63 : xs.length + m ≤ 9223372036854775807) (hbase : base ≤ w.heap.size)
    (h : ∀ v' w', Own w' base e v' (xs ++ news) → w.grownBy w' v.ownBlock → Below base w w' → K (a.put o.dst v') w') :
    if Region.wanted o (yielded ops a.tmps) = true then Oper.wp P o a w K Q else E := by
  rw [if_pos hgd]
  exact wp_append_rd s x t ho base e i z 1 bytes ht hi hz hsize hby hzs (by decide) v xs.length xs hs hown u m news hx hr h1 (by unfold maxLen; omega) hbytes hbase
    (fun v' w' h2 h3 h4 => h v' w' (by unfold Own; rw [List.length_append, show news.length = m by simpa using hr.1]; exact h2) h3 h4)

theorem wpList_push {ops : Array Oper} {rest : List Oper} {o : Oper} {a : Act} {Q : Exit → Act → World → Prop} (hgd : Region.wanted o (yielded ops a.tmps) = true) (s x : Operand) (t : TypeId)
    (ho : o.op = .call { callee := .builtin .append, args := #[s, x], argTypes := #[t, t] })
    (base : Nat) (e : TypeId) (i : TypeInfo) (z : Value) (bytes : Nat) (ht : P.underlying t = some (.slice e)) (hi : P.info? e = some i) (hz : i.zero = some z)
    (hsize : i.size = 1) (hby : i.bytes = bytes) (hzs : z.cells.size = 1)
    (v : Value) (xs : List Value) (hs : a.eval s = v) (hown : Own w base e v xs)
    (y : Value) (hx : a.eval x = .slice (some ⟨w.heap.size, 0, none⟩) 1 1) (h1 : y.oneCell' = true)
    (hbytes : (xs.length + 1) * bytes ≤ 140737488355328) (h63 : xs.length + 1 ≤ 9223372036854775807) (hbase : base ≤ w.heap.size)
    (h : ∀ v' w', Own w' base e v' (xs ++ [y]) → (w.alloc (.cells #[y] e)).grownBy w' v.ownBlock → Below base w w' → wpList P ops Q rest (a.put o.dst v') w') :
    wpList P ops Q (o :: rest) a (w.alloc (.cells #[y] e)) :=
  wpList_append_new hgd s x t ho base e i z 1 bytes ht hi hz hsize hby hzs (by decide) v xs.length xs hs hown #[y] 1 rfl hx (by simpa using h1) (by unfold maxLen; omega) hbytes hbase
    (fun v' w' h2 h3 h4 => h v' w' (by unfold Own; rw [List.length_append]; exact h2) h3 h4)
end
end Go.Proofs.Yteeohboemhegoaa
