/- What the operations leave is in bounds. -/
import Derived.Test.YtofjnhdgkhfgnaaDoorMs
namespace Go.Proofs.YtofjnhdgkhfgnaaDoor
open Go Go.RowKit

def optOk : Option Operand → Bool
  | none => true
  | some x => okOpd x
def partsOk (l : List (Nat × Nat × Operand)) : Bool := l.all fun p => okOpd p.2.2
/-- the operands are such as the abstract machine knows. -/
def eOk : EOp → Bool
  | .lookup _ _ z _ => flatV z
  | .lookG z _ => flatV z
  | .mapEnt _ _ z => flatV z
  | _ => true
def opdsOk : XOp → Bool
  | .mv x | .box _ x | .load _ _ x | .nilck x | .un _ x | .cvi _ x | .cvs x | .mkIface _ x | .fa _ x | .fld _ _ _ x | .ext x _ | .len x | .lenStr x => okOpd x
  | .clr _ z x => okOpd x && flatL z
  | .zero _ z => flatL z.cells.toList
  | .pick c a b => okOpd c && okOpd a && okOpd b
  | .store _ x y | .bin _ x y | .eqb _ x y | .eqf _ _ x y | .eqp _ x y | .eqs _ x y | .ia _ x y | .iaArr _ _ x y | .idx _ _ _ x y | .idxStr x y | .append _ _ _ x y | .copy _ x y => okOpd x && okOpd y
  | .mkSlice _ _ _ z x y => okOpd x && okOpd y && flatL z
  | .mkFunc _ a b => a.all okOpd && b.all okOpd
  | .sl _ x l h | .slStr x l h => okOpd x && optOk l && optOk h
  | .build z ps => flatL z && partsOk ps
  | .buildSlice _ _ _ z ps => flatL z && partsOk ps
  | .minmax _ x l => okOpd x && l.all okOpd
  | .call _ args => args.all okOpd
  | .callv x args => okOpd x && args.all okOpd
  | .extra e l => eOk e && l.all okOpd

theorem xbin_sc {m : Nat} {op : BinOp} {x y v : Value} (h : xbin op x y = some v) : Sc m v := by
  rcases xbin_inv h with ⟨k, yk, a, b, e1, e2, e3⟩ | ⟨a, b, e1, e2, e3⟩
  · unfold xbinI at e3
    cases op <;> simp only at e3 <;> (split at e3 <;> first | (cases e3; done) | (obtain rfl := Option.some.inj e3; constructor))
  · unfold xbinS at e3
    cases op <;> simp only at e3 <;> first
      | (cases e3; done)
      | (obtain rfl := Option.some.inj e3; constructor)
      | (split at e3 <;> first | (cases e3; done) | (obtain rfl := Option.some.inj e3; constructor))
theorem xminmax_sc {m : Nat} (mx : Bool) : ∀ (l : List Value) (a : Int) (k : IntKind) (v : Value), xminmax mx a k l = some v → Sc m v := by
  intro l
  induction l with
  | nil => intro a k v h; obtain rfl := Option.some.inj h; exact .int _ _
  | cons x l ih =>
    intro a k v h
    cases x with
    | int j b =>
      simp only [xminmax] at h
      split at h
      · exact ih _ _ _ h
      · cases h
    | _ => simp [xminmax] at h

theorem xappend_ws {S S' : St} (hw : WS S) {e : TypeId} {esz bytes : Nat} {s x v : Value} (hs : Sc S.next s) (h : xappend e esz bytes s x S = some (v, S')) : WS S' ∧ S.next ≤ S'.next ∧ Sc S'.next v := by
  unfold xappend at h
  split at h
  case h_2 => cases h
  rename_i news m hel hvl
  have hn := hw.elems hel
  split at h
  · split at h
    · obtain ⟨rfl, rfl⟩ := Prod.mk.inj (Option.some.inj h)
      exact ⟨hw, Nat.le_refl _, hs⟩
    · cases h
  split at h
  case isFalse => cases h
  split at h
  case h_3 => cases h
  case h_1 =>
    split at h
    case isFalse => cases h
    obtain ⟨rfl, rfl⟩ := Prod.mk.inj (Option.some.inj h)
    exact ⟨hw.alloc hn _ _ _ _, by simp, .slice _ _ _ _ (by simp)⟩
  case h_2 =>
    rename_i id o n c
    split at h
    case h_2 => cases h
    rename_i cc t z an hget
    have hid : id < S.next := hw.alive (by rw [hget]; simp)
    have hcc := hw.cell id cc t z true an hget
    split at h
    · split at h
      case isFalse => cases h
      obtain ⟨rfl, rfl⟩ := Prod.mk.inj (Option.some.inj h)
      refine ⟨?_, by simp [St.grow], .slice _ _ _ _ (by simp [St.grow])⟩
      exact (hw.put hid hcc t z false an).alloc (by simpa using (hcc.drop o).append hn) _ _ _ _
    · split at h
      case isFalse => cases h
      obtain ⟨rfl, rfl⟩ := Prod.mk.inj (Option.some.inj h)
      exact ⟨hw.write hid (hcc.splice hn _) _ _ _, by simp, .slice _ _ _ _ (by simpa using hid)⟩

theorem xcopy_ws {S S' : St} (hw : WS S) {esz : Nat} {d x v : Value} (h : xcopy esz d x S = some (v, S')) : WS S' ∧ S.next ≤ S'.next ∧ Sc S'.next v := by
  unfold xcopy at h
  split at h
  case h_2 => cases h
  rename_i hel
  have hn := hw.elems hel
  split at h
  · obtain ⟨rfl, rfl⟩ := Prod.mk.inj (Option.some.inj h)
    exact ⟨hw, Nat.le_refl _, .int _ _⟩
  split at h
  case h_2 => cases h
  split at h
  case h_2 => cases h
  rename_i cc t z an hget
  have hid := hw.alive (by rw [hget]; simp)
  have hcc := hw.cell _ cc t z true an hget
  split at h
  case isFalse => cases h
  obtain ⟨rfl, rfl⟩ := Prod.mk.inj (Option.some.inj h)
  exact ⟨hw.write hid (hcc.splice (hn.take _) _) _ _ _, by simp, .int _ _⟩

theorem xclr_ws {S S' : St} (hw : WS S) {esz : Nat} {z : List Value} (hzf : ScL S.next z) {x v : Value} (h : xclr esz z x S = some (v, S')) : WS S' ∧ S.next ≤ S'.next ∧ Sc S'.next v := by
  unfold xclr at h
  split at h
  · obtain ⟨rfl, rfl⟩ := Prod.mk.inj (Option.some.inj h)
    exact ⟨hw, Nat.le_refl _, Sc.undef _⟩
  · split at h
    · obtain ⟨rfl, rfl⟩ := Prod.mk.inj (Option.some.inj h)
      exact ⟨hw, Nat.le_refl _, Sc.undef _⟩
    split at h
    case h_2 => cases h
    rename_i cc t zz an hget
    have hid := hw.alive (by rw [hget]; simp)
    have hcc := hw.cell _ cc t zz true an hget
    split at h
    case isFalse => cases h
    obtain ⟨rfl, rfl⟩ := Prod.mk.inj (Option.some.inj h)
    exact ⟨hw.write hid (hcc.splice (hzf.rep _) _) _ _ _, by simp, Sc.undef _⟩
  · cases h

theorem parts_sc {m : Nat} {ps : List (Nat × Nat × Operand)} {ρ : Operand → Value} (h : partsOk ps = true) (hρ : ∀ x, okOpd x = true → Sc m (ρ x)) : ∀ p ∈ ps.map (fun p => (p.1, p.2.1, ρ p.2.2)), Sc m p.2.2 := by
  intro p hp
  simp only [List.mem_map] at hp
  obtain ⟨q, hq, rfl⟩ := hp
  simp only [partsOk, List.all_eq_true] at h
  exact hρ _ (h q hq)

/-- what an operation leaves. -/
theorem WS.map {S : St} (h : WS S) {id : Nat} {es : List (Value × Value × Nat)} {cl : Nat} (e : S.get id = .obj (.map es cl)) : id < S.next ∧ ∀ x ∈ es, Sc S.next x.1 ∧ Sc S.next x.2.1 := ⟨h.alive (by rw [e]; simp), h.obj id _ e⟩
theorem Sc.pair {m : Nat} {a b : Value} (ha : Sc m a) (hb : Sc m b) : Sc m (.tuple #[a, b]) := .tuple _ fun i hi => by
  rcases i with _ | _ | i
  · exact ha
  · exact hb
  · simp at hi; omega
theorem xfind_sc {m : Nat} {ks : List Nat} {agg : Bool} {c : List Value} {es : List (Value × Value × Nat)} (he : ∀ x ∈ es, Sc m x.1 ∧ Sc m x.2.1) {i : Nat} {v : Value} (h : xfind ks agg c es 0 = some (some (i, v))) : Sc m v := by
  obtain ⟨_, h2, _, _, _, rfl⟩ := xfind_at h
  exact (he _ (List.getElem_mem _)).2
theorem lookRes_sc {m : Nat} {z : Value} (hz : flatV z = true) (ok : Bool) {r : Option (Nat × Value)} (hr : ∀ i v, r = some (i, v) → Sc m v) : Sc m (lookRes z ok r) := by
  have h0 : Sc m ((r.map (·.2)).getD z) := by
    cases r with
    | none => exact Sc.flatV hz
    | some p => exact hr p.1 p.2 rfl
  unfold lookRes
  split
  · exact .pair h0 (.bool _)
  · exact h0
theorem modify_all {α : Type} {p : α → Prop} {l : List α} (h : ∀ x ∈ l, p x) (i : Nat) {f : α → α} (hf : ∀ x ∈ l, p (f x)) : ∀ x ∈ l.modify i f, p x := by
  intro x hx
  obtain ⟨j, hj, rfl⟩ := List.getElem_of_mem hx
  rw [List.getElem_modify]
  split
  · exact hf _ (List.getElem_mem _)
  · exact h _ (List.getElem_mem _)
theorem xextra_ws {S S' : St} (hw : WS S) {e : EOp} {l : List Value} (he : eOk e = true) (hl : ScL S.next l) {v : Value} (h : xextra e l S = some (v, S')) : WS S' ∧ S.next ≤ S'.next ∧ Sc S'.next v := by
  unfold xextra at h
  split at h
  · -- mkMap
    obtain ⟨rfl, rfl⟩ := Prod.mk.inj (Option.some.inj h)
    exact ⟨hw.allocB (b := .map [] 0) (fun e he => by cases he), by simp, .map _ (by simp)⟩
  · -- lookup
    rename_i ks agg z ok x k
    have hz : flatV z = true := he
    simp only [Option.bind_eq_some_iff] at h
    obtain ⟨c, hc, h⟩ := h
    split at h
    · obtain ⟨rfl, rfl⟩ := Prod.mk.inj (Option.some.inj h)
      exact ⟨hw, Nat.le_refl _, lookRes_sc hz ok (fun i v e => by cases e)⟩
    · split at h
      case h_2 => cases h
      rename_i es cl hg
      simp only [Option.map_eq_some_iff, Prod.mk.injEq] at h
      obtain ⟨r, hr, rfl, rfl⟩ := h
      exact ⟨hw, Nat.le_refl _, lookRes_sc hz ok (fun i v e => by subst e; exact xfind_sc (hw.map hg).2 hr)⟩
    · cases h
  · -- mapSet
    rename_i ks agg x k u
    have hk : Sc S.next k := hl k (by simp)
    have hu : Sc S.next u := hl u (by simp)
    simp only [Option.bind_eq_some_iff] at h
    obtain ⟨c, hc, h⟩ := h
    split at h
    case h_2 => cases h
    split at h
    case h_2 => cases h
    rename_i id es cl hg
    obtain ⟨h1, h2⟩ := hw.map hg
    simp only [Option.map_eq_some_iff] at h
    obtain ⟨r, hr, h⟩ := h
    split at h
    · obtain ⟨rfl, rfl⟩ := Prod.mk.inj h
      refine ⟨hw.putB h1 (b := .map _ cl) (modify_all h2 _ fun x hx => ⟨hk, hu⟩), by simp, Sc.undef _⟩
    · obtain ⟨rfl, rfl⟩ := Prod.mk.inj h
      refine ⟨hw.putB h1 (b := .map _ (cl + 1)) (fun x hx => ?_), by simp, Sc.undef _⟩
      rcases List.mem_append.1 hx with hx | hx
      · exact h2 x hx
      · rw [List.mem_singleton.1 hx]; exact ⟨hk, hu⟩
  · -- mapEnt
    rename_i ks agg z x k
    have hz : flatV z = true := he
    have hk : Sc S.next k := hl k (by simp)
    simp only [Option.bind_eq_some_iff] at h
    obtain ⟨c, hc, h⟩ := h
    split at h
    case h_2 => cases h
    split at h
    case h_2 => cases h
    rename_i id es cl hg
    obtain ⟨h1, h2⟩ := hw.map hg
    simp only [Option.map_eq_some_iff] at h
    obtain ⟨r, hr, h⟩ := h
    split at h
    · obtain ⟨rfl, rfl⟩ := Prod.mk.inj h
      exact ⟨hw.putB h1 (b := .map _ cl) (modify_all h2 _ fun x hx => ⟨hk, (h2 x hx).2⟩), by simp, .pair (by simpa using xfind_sc h2 hr) (.int _ _)⟩
    · obtain ⟨rfl, rfl⟩ := Prod.mk.inj h
      refine ⟨hw.putB h1 (b := .map _ (cl + 1)) (fun x hx => ?_), by simp, .pair (Sc.flatV hz) (.int _ _)⟩
      rcases List.mem_append.1 hx with hx | hx
      · exact h2 x hx
      · rw [List.mem_singleton.1 hx]; exact ⟨hk, Sc.flatV hz⟩
  · -- entSet
    rename_i id b u
    have hu : Sc S.next u := hl u (by simp)
    split at h
    case h_2 => cases h
    rename_i es cl hg
    obtain ⟨h1, h2⟩ := hw.map hg
    split at h
    case h_2 => cases h
    obtain ⟨rfl, rfl⟩ := Prod.mk.inj (Option.some.inj h)
    exact ⟨hw.putB h1 (b := .map _ cl) (modify_all h2 _ fun x hx => ⟨(h2 x hx).1, hu⟩), by simp, Sc.undef _⟩
  · -- mapDel
    rename_i ks agg x k
    simp only [Option.bind_eq_some_iff] at h
    obtain ⟨c, hc, h⟩ := h
    split at h
    · obtain ⟨rfl, rfl⟩ := Prod.mk.inj (Option.some.inj h)
      exact ⟨hw, Nat.le_refl _, Sc.undef _⟩
    · split at h
      case h_2 => cases h
      rename_i id es cl hg
      obtain ⟨h1, h2⟩ := hw.map hg
      simp only [Option.map_eq_some_iff] at h
      obtain ⟨r, hr, h⟩ := h
      split at h
      · obtain ⟨rfl, rfl⟩ := Prod.mk.inj h
        exact ⟨hw.putB h1 (b := .map _ cl) (fun x hx => h2 x (List.mem_of_mem_eraseIdx hx)), by simp, Sc.undef _⟩
      · obtain ⟨rfl, rfl⟩ := Prod.mk.inj h
        exact ⟨hw.putB h1 (b := .map es cl) h2, by simp, Sc.undef _⟩
    · cases h
  · obtain ⟨rfl, rfl⟩ := Prod.mk.inj (Option.some.inj h)
    exact ⟨hw, Nat.le_refl _, .int _ _⟩
  · split at h
    case h_2 => cases h
    obtain ⟨rfl, rfl⟩ := Prod.mk.inj (Option.some.inj h)
    exact ⟨hw, Nat.le_refl _, .int _ _⟩
  · obtain ⟨rfl, rfl⟩ := Prod.mk.inj (Option.some.inj h)
    exact ⟨hw.allocB (b := .iter _ 0) trivial, by simp, .ptr _ _ (by simp)⟩
  · split at h
    case h_2 => cases h
    rename_i s p hg
    have h1 := hw.alive (show S.get _ ≠ .gone by rw [hg]; simp)
    split at h
    · obtain ⟨rfl, rfl⟩ := Prod.mk.inj (Option.some.inj h)
      refine ⟨hw.putB h1 (b := .iter _ _) trivial, by simp, .tuple _ fun i hi => ?_⟩
      rcases i with _ | _ | _ | i
      · exact .bool _
      · exact .int _ _
      · exact .int _ _
      · simp at hi; omega
    · obtain ⟨rfl, rfl⟩ := Prod.mk.inj (Option.some.inj h)
      refine ⟨hw, Nat.le_refl _, .tuple _ fun i hi => ?_⟩
      rcases i with _ | i
      · exact .bool _
      · simp at hi
  · obtain ⟨rfl, rfl⟩ := Prod.mk.inj (Option.some.inj h)
    exact ⟨hw.allocB (b := .mapIter none 0 [] 0) (Sc.mapNil), by simp, .ptr _ _ (by simp)⟩
  · split at h
    case h_2 => cases h
    rename_i hg
    obtain ⟨rfl, rfl⟩ := Prod.mk.inj (Option.some.inj h)
    exact ⟨hw.allocB (b := .mapIter _ _ [] _) (Sc.map _ (hw.map hg).1), by simp, .ptr _ _ (by simp)⟩
  · split at h
    case h_2 => cases h
    rename_i m since seen last hg
    split at h
    case h_2 => cases h
    rename_i es cl hg2
    split at h
    case isFalse => cases h
    simp only [Option.bind_eq_some_iff, Option.map_eq_some_iff] at h
    obtain ⟨s, hs, e, he, h⟩ := h
    obtain ⟨rfl, rfl⟩ := Prod.mk.inj h
    have h2 := (hw.map hg2).2 e (List.mem_of_find?_eq_some he)
    exact ⟨hw, Nat.le_refl _, .pair h2.1 h2.2⟩
  · obtain ⟨rfl, rfl⟩ := Prod.mk.inj (Option.some.inj h)
    exact ⟨hw, Nat.le_refl _, .int _ _⟩
  · simp only [Option.map_eq_some_iff, Prod.mk.injEq] at h
    obtain ⟨b, _, rfl, rfl⟩ := h
    exact ⟨hw, Nat.le_refl _, .bool _⟩
  · split at h
    · obtain ⟨rfl, rfl⟩ := Prod.mk.inj (Option.some.inj h)
      exact ⟨hw, Nat.le_refl _, .tab⟩
    · cases h
  · have hz : flatV _ = true := he
    split at h
    · obtain ⟨rfl, rfl⟩ := Prod.mk.inj (Option.some.inj h)
      refine ⟨hw, Nat.le_refl _, lookRes_sc hz _ (fun i v e => ?_)⟩
      simp only [Option.map_eq_some_iff, Prod.mk.injEq] at e
      obtain ⟨f, _, _, rfl⟩ := e
      exact .func _ _ _ (fun i h => by simp at h) (fun i h => by simp at h)
    · cases h
  · cases h

theorem xop_ws {S S' : St} (hw : WS S) {o : XOp} {ρ : Operand → Value} (hok : opdsOk o = true) (hρ : ∀ x, okOpd x = true → Sc S.next (ρ x)) {v : Value} (h : xop o ρ S = some (v, S')) : WS S' ∧ S.next ≤ S'.next ∧ Sc S'.next v := by
  have same : ∀ {u : Value}, Sc S.next u → (u, S) = (v, S') → WS S' ∧ S.next ≤ S'.next ∧ Sc S'.next v := fun hu e => by
    obtain ⟨rfl, rfl⟩ := Prod.mk.inj e
    exact ⟨hw, Nat.le_refl _, hu⟩
  cases o <;> simp only [opdsOk, Bool.and_eq_true] at hok <;> simp only [xop] at h
  case extra e l =>
    refine xextra_ws hw hok.1 (fun u hu => ?_) h
    obtain ⟨x, hx, rfl⟩ := List.mem_map.1 hu
    exact hρ x (List.all_eq_true.1 hok.2 x hx)
  case mv x => exact same (hρ x hok) (Option.some.inj h)
  case pick c a b =>
    split at h
    · rename_i q _
      exact same (by cases q <;> simp [hρ _ hok.2, hρ _ hok.1.2]) (Option.some.inj h)
    · cases h
  case box t x =>
    split at h
    · obtain ⟨rfl, rfl⟩ := Prod.mk.inj (Option.some.inj h)
      exact ⟨hw.alloc (hρ x hok).cells _ _ _ _, by simp, .ptr _ _ (by simp)⟩
    · cases h
  case zero t z =>
    obtain ⟨rfl, rfl⟩ := Prod.mk.inj (Option.some.inj h)
    exact ⟨hw.alloc (ScL.flat hok) _ _ _ _, by simp, .ptr _ _ (by simp)⟩
  case load agg sz x =>
    split at h
    · simp only [Option.bind_eq_some_iff, Option.map_eq_some_iff] at h
      obtain ⟨c, hc, v0, hv, e⟩ := h
      exact same (part1_sc hv (hw.rd hc)) e
    · cases h
  case store sz a x =>
    split at h
    · split at h
      · rename_i c t z an hget
        split at h
        · obtain ⟨rfl, rfl⟩ := Prod.mk.inj (Option.some.inj h)
          exact ⟨hw.write (hw.alive (by rw [hget]; simp)) ((hw.cell _ c t z true an hget).splice (hρ x hok.2).cells _) _ _ _, by simp, Sc.undef _⟩
        · cases h
      · cases h
    · cases h
  case nilck x =>
    have hx := hρ x hok
    split at h
    · rename_i e; rw [e] at hx; exact same hx (Option.some.inj h)
    · rename_i e; rw [e] at hx; exact same hx (Option.some.inj h)
    · rename_i e; rw [e] at hx; exact same hx (Option.some.inj h)
    · cases h
  case bin op x y =>
    simp only [Option.map_eq_some_iff] at h
    obtain ⟨v0, h, e⟩ := h
    exact same (xbin_sc h) e
  case eqb neg x y =>
    split at h
    · exact same (.bool _) (Option.some.inj h)
    · cases h
  case eqf ks neg x y =>
    split at h
    · simp only [Option.map_eq_some_iff] at h
      obtain ⟨v0, h, e⟩ := h
      exact same (.bool _) e
    · cases h
  case eqp neg x y =>
    split at h
    · exact same (.bool _) (Option.some.inj h)
    · cases h
  case eqs neg x y =>
    split at h
    · exact same (.bool _) (Option.some.inj h)
    · cases h
  case un op x =>
    split at h
    · exact same (.int _ _) (Option.some.inj h)
    · exact same (.bool _) (Option.some.inj h)
    · cases h
  case cvi k x =>
    split at h
    · exact same (.int _ _) (Option.some.inj h)
    · cases h
  case cvs x =>
    split at h
    · exact same (.string _) (Option.some.inj h)
    · cases h
  case mkIface t x => exact same (.iface t _ (hρ x hok)) (Option.some.inj h)
  case mkFunc f a b =>
    refine same (.func f _ _ (fun i hi => ?_) (fun i hi => ?_)) (Option.some.inj h)
    · have h1 := Array.all_eq_true.1 hok.1 i (by simpa using hi)
      simpa using hρ _ h1
    · have h1 := Array.all_eq_true.1 hok.2 i (by simpa using hi)
      simpa using hρ _ h1
  case mkSlice e esz bytes z l c =>
    split at h
    · split at h
      · obtain ⟨rfl, rfl⟩ := Prod.mk.inj (Option.some.inj h)
        exact ⟨hw.alloc ((ScL.flat hok.2).rep _) _ _ _ _, by simp, .slice _ _ _ _ (by simp)⟩
      · cases h
    · cases h
  case sl esz x lo hi =>
    have hx := hρ x hok.1.1
    split at h
    · rename_i a n c e
      rw [e] at hx
      split at h
      · split at h
        · unfold slRes at h
          split at h
          · split at h
            · exact same (.sliceNil _ _) (Option.some.inj h)
            · cases h
          · split at h
            · cases hx with
              | slice _ _ _ _ hid => exact same (.slice _ _ _ _ hid) (Option.some.inj h)
            · cases h
          · cases h
        · cases h
      · cases h
    · cases h
  case slStr x lo hi =>
    split at h
    · split at h
      · split at h
        · exact same (.string _) (Option.some.inj h)
        · cases h
      · cases h
    · cases h
  case fa off x =>
    have hx := hρ x hok
    split at h
    · rename_i e
      rw [e] at hx
      cases hx with
      | ptr _ _ hid => exact same (.ptr _ _ hid) (Option.some.inj h)
    · cases h
  case fld agg sz off x =>
    have hx := hρ x hok
    split at h
    · rename_i e
      rw [e] at hx
      split at h
      · simp only [Option.map_eq_some_iff] at h
        obtain ⟨v0, hv, e2⟩ := h
        exact same (part1_sc hv ((hx.aggL.drop _).take _)) e2
      · cases h
    · cases h
  case ia esz x i =>
    have hx := hρ x hok.1
    split at h
    · rename_i e _
      rw [e] at hx
      split at h
      · cases hx with
        | slice _ _ _ _ hid => exact same (.ptr _ _ hid) (Option.some.inj h)
      · cases h
    · cases h
  case iaArr n esz x i =>
    have hx := hρ x hok.1
    split at h
    · rename_i e _
      rw [e] at hx
      split at h
      · cases hx with
        | ptr _ _ hid => exact same (.ptr _ _ hid) (Option.some.inj h)
      · cases h
    · cases h
  case idx n agg esz x i =>
    have hx := hρ x hok.1
    split at h
    · rename_i e _
      rw [e] at hx
      split at h
      · simp only [Option.map_eq_some_iff] at h
        obtain ⟨v0, hv, e2⟩ := h
        exact same (part1_sc hv ((hx.aggL.drop _).take _)) e2
      · cases h
    · cases h
  case idxStr x i =>
    split at h
    · split at h
      · simp only [Option.map_eq_some_iff] at h
        obtain ⟨v0, hv, e2⟩ := h
        exact same (.int _ _) e2
      · cases h
    · cases h
  case ext x i =>
    have hx := hρ x hok
    split at h
    · rename_i a e
      rw [e] at hx
      simp only [Option.map_eq_some_iff] at h
      obtain ⟨v0, hv, e2⟩ := h
      cases hx with
      | tuple _ k =>
        obtain ⟨hi, rfl⟩ := Array.getElem?_eq_some_iff.1 hv
        exact same (k i hi) e2
    · cases h
  case build z ps =>
    simp only [Option.map_eq_some_iff] at h
    obtain ⟨l, hl, e⟩ := h
    exact same (ScL.fill _ _ _ (ScL.flat hok.1) (parts_sc hok.2 hρ) hl).agg e
  case buildSlice e esz n z ps =>
    split at h
    · simp only [Option.bind_eq_some_iff] at h
      obtain ⟨l, hl, h⟩ := h
      split at h
      · obtain ⟨rfl, rfl⟩ := Prod.mk.inj (Option.some.inj h)
        exact ⟨hw.alloc (ScL.fill _ _ _ ((ScL.flat hok.1).rep n) (parts_sc hok.2 hρ) hl) _ _ _ _, by simp, .slice _ _ _ _ (by simp)⟩
      · cases h
    · cases h
  case len x =>
    split at h
    · exact same (.int _ _) (Option.some.inj h)
    · cases h
  case lenStr x =>
    split at h
    · exact same (.int _ _) (Option.some.inj h)
    · cases h
  case append e esz bytes s x => exact xappend_ws hw (hρ s hok.1) h
  case copy esz d s => exact xcopy_ws hw h
  case clr esz z x => exact xclr_ws hw (ScL.flat hok.2) h
  case minmax mx x l =>
    split at h
    · simp only [Option.map_eq_some_iff] at h
      obtain ⟨v0, hv, e⟩ := h
      exact same (xminmax_sc mx _ _ _ _ hv) e
    · cases h
  case call f args => cases h
  case callv x args => cases h
end Go.Proofs.YtofjnhdgkhfgnaaDoor
