/- Walks: the oracle. -/
import Derived.Test.YteeohboemhegoaaJ
namespace Go.Proofs.Yteeohboemhegoaa
open Go Go.RowKit

def askedI : Nat → Int
  | 0 => 0
  | n + 1 => wrap64 (askedI n + 1)

theorem Rd.gb {w w' : World} {v : Value} {xs : List Value} {ob : Nat} (h : Rd w v xs) (hg : w.grownBy w' (some ob)) (hne : v.ownBlock ≠ some ob) : Rd w' v xs := by
  obtain ⟨a, cap, h1, h2, h3, h4, h5⟩ := h
  refine ⟨a, cap, h1, h2, h3, h4, fun i hi => ?_⟩
  obtain ⟨b', off, e, hc⟩ := h5 i hi
  refine ⟨b', off, e, ?_⟩
  exact hg.cell hc (fun e2 => hne (by rw [h1, e]; exact e2))

/-- the oracle's block. -/
def OInv (ob : Nat) (c : Cond) (l : List Int) (n : Nat) (w : World) : Prop :=
  ∃ vs vf vl, CondIn w c vs vf ∧ Rd w vl (ints l) ∧ (vs.ownBlock ≠ some ob ∧ vf.ownBlock ≠ some ob ∧ vl.ownBlock ≠ some ob) ∧
    w.heap[ob]? = some (.cells #[.int .i64 c.kind, vs, .int .i64 c.n, vf, vl, .int .i64 (askedI n), .bool false] 29 (0, 0))

theorem OInv.stay {ob : Nat} {c : Cond} {l : List Int} {n : Nat} {w w' : World} (h : OInv ob c l n w) (hb : Below w.heap.size w w') : OInv ob c l n w' := by
  obtain ⟨vs, vf, vl, h1, h2, h3, h5⟩ := h
  exact ⟨vs, vf, vl, h1.below hb, h2.below hb, h3, (hb.block ob (lt_of_block h5)).trans h5⟩

theorem CondIn.gb {w w' : World} {c : Cond} {vs vf : Value} {ob : Nat} (h : CondIn w c vs vf) (hg : w.grownBy w' (some ob)) (h1 : vs.ownBlock ≠ some ob) (h2 : vf.ownBlock ≠ some ob) : CondIn w' c vs vf :=
  ⟨h.set.gb hg h1, h.full.gb hg h2, h.k0, h.k1, h.n0, h.n1⟩

theorem block_set {w : World} {b j : Nat} {cs : Array Value} {t : TypeId} {fz : Nat × Nat} (h : w.heap[b]? = some (.cells cs t fz)) (u : Value) : (w.setCell ⟨b, j, none⟩ u).heap[b]? = some (.cells (cs.setIfInBounds j u) t fz) := by
  have hlt := lt_of_block h
  have h' : w.heap[b] = .cells cs t fz := by simpa [Array.getElem?_eq_getElem hlt] using h
  show (w.heap.modify b _)[b]? = _
  rw [Array.getElem?_eq_getElem (by simpa using hlt), Array.getElem_modify_self, h']
  rfl

theorem gb_set (w : World) (b j : Nat) (u : Value) : w.grownBy (w.setCell ⟨b, j, none⟩ u) (some b) :=
  ⟨rfl, rfl, rfl, by simp [World.setCell], fun k _ hk => Below.heap_setCell _ _ _ _ (fun e => hk (by rw [e]))⟩

theorem fit_sub {x l : List Int} (h : x.Sublist l) (hf : Fit l) : Fit x := by
  intro i hi
  obtain ⟨k, hk, e⟩ := List.mem_iff_getElem.1 (h.mem (List.getElem_mem hi))
  rw [← e]; exact hf k hk

theorem Rd.set {w : World} {v : Value} {xs : List Value} (h : Rd w v xs) (b j : Nat) (u : Value) (hne : v.ownBlock ≠ some b) : Rd (w.setCell ⟨b, j, none⟩ u) v xs := by
  obtain ⟨a, cap, h1, h2, h3, h4, h5⟩ := h
  refine ⟨a, cap, h1, h2, h3, h4, fun i hi => ?_⟩
  obtain ⟨b', off, e, hc⟩ := h5 i hi
  refine ⟨b', off, e, ?_⟩
  have : b' ≠ b := fun e2 => hne (by rw [h1, e, e2]; rfl)
  rw [← hc]
  exact World.cell?_of_block (a := ⟨b', off + i, none⟩) (Below.heap_setCell _ _ _ _ this)

set_option maxHeartbeats 1600000 in
theorem fails_any (ob : Nat) (c : Cond) (l x : List Int) (n : Nat) (v : Value) (w : World) (hI : OInv ob c l n w) (hx : x.Sublist l) (h : Rd w v (ints x)) (hf : Fit l) (hb : l.length ≤ 100000) (hne : v.ownBlock ≠ some ob) :
    Calls Try.prog 9 #[.pointer (some ⟨ob, 0, none⟩), v] w fun e w' => e = .returned (.bool (holdsB c x)) ∧ OInv ob c l (n + 1) w' ∧ w.grownBy w' (some ob) := by
  obtain ⟨vs, vf, vl, h2, h3, ⟨n1, n2, n3⟩, h5⟩ := hI
  have hob := lt_of_block h5
  have hg1 : w.grownBy (w.setCell ⟨ob, 5, none⟩ (.int .i64 (wrap64 (askedI n + 1)))) (some ob) := gb_set _ _ _ _
  have hp := part_any v vl x l (w.setCell ⟨ob, 5, none⟩ (.int .i64 (wrap64 (askedI n + 1)))) (h.set _ _ _ hne) (h3.gb hg1 n3)
  rw [(partB_iff x l).2 hx] at hp
  have hxl := hx.length_le
  have hH := fun k => holds_any c vs vf v x ((((w.setCell ⟨ob, 5, none⟩ (.int .i64 (wrap64 (askedI n + 1)))).drewN k).setCell ⟨ob, 6, none⟩ (.bool false)))
    (h2.gb (gb_trans (gb_below hg1 (below_drewN (Below.refl _ _) k)) (gb_set _ _ _ _)) n1 n2) (Rd.set (Rd.drewN (h.set _ _ _ hne) k) _ _ _ hne) (fit_sub hx hf) (by omega)
  have hblk := block_set (w := w) (j := 5) h5 (.int .i64 (wrap64 (askedI n + 1)))
  have hblk2 := fun k => block_set (w := (w.setCell ⟨ob, 5, none⟩ (.int .i64 (wrap64 (askedI n + 1)))).drewN k) (j := 6) hblk (.bool false)
  have hcell : ∀ j, w.cell? ⟨ob, j, none⟩ = (#[.int .i64 c.kind, vs, .int .i64 c.n, vf, vl, .int .i64 (askedI n), .bool false] : Array Value)[j]? := fun j => by simp [World.cell?, h5]
  have hfz : ∀ j, w.frozen? ⟨ob, j, none⟩ = false := fun j => by simp [World.frozen?, h5]
  have q0 := hcell 0; have q1 := hcell 1; have q2 := hcell 2; have q3 := hcell 3; have q4 := hcell 4; have q5 := hcell 5; have q6 := hcell 6
  have f5 := hfz 5; have f6 := hfz 6
  simp only [List.getElem?_toArray, List.getElem?_cons_zero, List.getElem?_cons_succ] at q0 q1 q2 q3 q4 q5 q6
  have HP := hid hp; have HH := hid hH; have HB2 := hid hblk2; have HG1 := hid hg1; have HN := hid (And.intro n1 (And.intro n2 n3)); have H2 := hid h2; have H3 := hid h3
  clear hcell hfz hp hH hblk hblk2 h5 hg1 h2 h3 h n1 n2 n3 hne
  go_enter Try.func9, Try.ntmps9
  go_wp2_with fail
  refine HP.out.mono ?_
  rintro e w' ⟨rfl, k, rfl⟩
  go_wp2_with fail
  refine (HH.out k).mono ?_
  rintro e w3 ⟨rfl, hb3⟩
  have hg3 := gb_below (gb_trans (gb_below HG1.out (below_drewN (Below.refl _ _) k)) (gb_set _ ob 6 (.bool false))) hb3
  have hblk3 : w3.heap[ob]? = some (.cells #[.int .i64 c.kind, vs, .int .i64 c.n, vf, vl, .int .i64 (askedI (n + 1)), .bool false] 29 (0, 0)) :=
    (hb3.block ob (by simpa using hob)).trans (HB2.out k)
  have HBK := hid hblk3
  have HG3 := hid hg3
  clear hb3 hg3 hblk3
  go_wp2_with fail
  go_ret
  exact ⟨rfl, ⟨vs, vf, vl, H2.out.gb HG3.out HN.out.1 HN.out.2.1, H3.out.gb HG3.out HN.out.2.2, HN.out, HBK.out⟩, HG3.out⟩

def toI (y : List Value) : List Int := y.map intOf
theorem toI_ints (z : List Int) : toI (ints z) = z := by
  induction z with
  | nil => rfl
  | cons a z ih => simp only [toI, ints, List.map_cons, intOf] at *; rw [ih]

theorem asks_oracle (ob : Nat) (c : Cond) (l xs : List Int) (hx : xs.Sublist l) (hf : Fit l) (hb : l.length ≤ 100000) :
    Asks 9 (.pointer (some ⟨ob, 0, none⟩)) (fun y => holdsB c (toI y)) ob (OInv ob c l) (ints xs) := by
  refine ⟨fun n w w' h hb => h.stay hb, fun n w v y hI hy hr hne => ?_⟩
  obtain ⟨z, rfl, hz⟩ : ∃ z, y = ints z ∧ z.Sublist xs := by
    obtain ⟨z, hz, e⟩ := List.sublist_map_iff.1 hy
    exact ⟨z, e, hz⟩
  show Calls _ _ _ _ fun e w' => e = .returned (.bool (holdsB c (toI (ints z)))) ∧ _
  rw [toI_ints]
  exact fails_any ob c l z n v w hI (hz.trans hx) hr hf hb hne
end Go.Proofs.Yteeohboemhegoaa
