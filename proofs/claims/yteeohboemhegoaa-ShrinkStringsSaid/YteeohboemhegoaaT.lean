/- The walk of the law ShrinkStrings. -/
import Derived.Test.YteeohboemhegoaaS
import Derived.Test.YteeohboemhegoaaN
import Derived.Deep.DeepCutAuto
namespace Go.Proofs.Yteeohboemhegoaa.Str
open Go Go.RowKit Go.Proofs.Yteeohboemhegoaa

def strsV (l : List ByteArray) : List Value := l.map Value.string
@[simp] theorem strsV_length (l : List ByteArray) : (strsV l).length = l.length := by simp [strsV]
theorem strsV_take (l : List ByteArray) (k : Nat) : (strsV l).take k = strsV (l.take k) := by simp [strsV]
theorem strsV_drop (l : List ByteArray) (k : Nat) : (strsV l).drop k = strsV (l.drop k) := by simp [strsV]
theorem strsV_rmv (l : List ByteArray) (i j : Nat) : Shr.rmv (strsV l) i j = strsV (Shr.rmv l i j) := by simp [Shr.rmv, strsV]
theorem oneCell_strs (l : List ByteArray) : ∀ y ∈ strsV l, y.oneCell' = true := by
  intro y hy
  obtain ⟨s, _, rfl⟩ := List.mem_map.1 hy
  rfl

def strOf : Value → ByteArray | .string s => s | _ => ByteArray.empty
def toS (y : List Value) : List ByteArray := y.map strOf
theorem toS_strs (z : List ByteArray) : toS (strsV z) = z := by
  induction z with
  | nil => rfl
  | cons a z ih => simp only [toS, strsV, List.map_cons, strOf] at *; rw [ih]

def hasS (l : List ByteArray) (s : ByteArray) : Bool := l.any fun x => x.toList == s.toList
theorem hasS_hit {l : List ByteArray} {s : ByteArray} {k : Nat} (hk : k < l.length) (e : (l[k].toList == s.toList) = true) : hasS l s = true :=
  List.any_eq_true.2 ⟨l[k], List.getElem_mem hk, e⟩
theorem hasS_step {l : List ByteArray} {s : ByteArray} {k : Nat} (hk : k < l.length) (e : (l[k].toList == s.toList) = false) (h : hasS (l.take k) s = false) : hasS (l.take (k + 1)) s = false := by
  unfold hasS at *
  rw [List.take_succ_eq_append_getElem hk, List.any_append, h]
  simp [e]

theorem toList_inj {a b : ByteArray} (h : a.toList = b.toList) : a = b := by
  rw [ByteArray.toList_eq, ByteArray.toList_eq] at h
  have := Array.toList_inj.1 h
  cases a; cases b; simpa using this

/-- a 1-minimal list that holds s is [s]. -/
theorem min_single {x : List ByteArray} {s : ByteArray} (hm : Shr.Min1 (fun y => hasS y s) x) : x = [s] := by
  obtain ⟨h1, h2⟩ := hm
  obtain ⟨a, ha, e⟩ := List.any_eq_true.1 h1
  obtain ⟨i, hi, rfl⟩ := List.mem_iff_getElem.1 ha
  have hone : ∀ j, j < x.length → j = i := by
    intro j hj
    rcases Nat.lt_trichotomy j i with h | h | h
    · exfalso
      have h3 := h2 j hj
      have : hasS (Shr.rmv x j (j + 1)) s = true := by
        refine List.any_eq_true.2 ⟨x[i], ?_, e⟩
        unfold Shr.rmv
        rw [List.mem_append]
        right
        rw [List.mem_iff_getElem]
        exact ⟨i - (j + 1), by simp; omega, by simp; congr 1; omega⟩
      exact absurd (this.symm.trans h3) (by decide)
    · exact h
    · exfalso
      have h3 := h2 j hj
      have : hasS (Shr.rmv x j (j + 1)) s = true := by
        refine List.any_eq_true.2 ⟨x[i], ?_, e⟩
        unfold Shr.rmv
        rw [List.mem_append]
        left
        rw [List.mem_iff_getElem]
        exact ⟨i, by simp; omega, by simp⟩
      exact absurd (this.symm.trans h3) (by decide)
  have hl : x.length = 1 := by
    have a0 := hone 0 (by omega)
    have a1 := fun h => hone (x.length - 1) h
    have := a1 (by omega)
    omega
  obtain ⟨y, rfl⟩ := List.length_eq_one_iff.1 hl
  have : i = 0 := by simp at hi; exact hi
  subst this
  have e2 := toList_inj (eq_of_beq e)
  simp only [List.getElem_cons_zero] at e2
  rw [e2]

theorem Rd.strs {w : World} {v : Value} {l : List ByteArray} (h : Rd w v (strsV l)) :
    ∃ a cap, v = .slice a l.length cap ∧ l.length ≤ cap ∧ cap ≤ maxLen ∧ (a = none → cap = 0) ∧
      ∀ i (h : i < l.length), ∃ b off, a = some ⟨b, off, none⟩ ∧ w.cell? ⟨b, off + i, none⟩ = some (.string l[i]) := by
  obtain ⟨a, cap, h1, h2, h3, h4, h5⟩ := h
  simp only [strsV_length] at h1 h2 h5
  exact ⟨a, cap, h1, h2, h3, h4, fun i hi => by obtain ⟨b, off, e, hc⟩ := h5 i hi; exact ⟨b, off, e, by simpa [strsV] using hc⟩⟩

set_option maxHeartbeats 800000 in
theorem seek_any (ob : Nat) (s : ByteArray) (v : Value) (l : List ByteArray) (w : World) (h : Rd w v (strsV l)) (hs : w.cell? ⟨ob, 0, none⟩ = some (.string s)) :
    Calls Try.prog 18 #[.pointer (some ⟨ob, 0, none⟩), v] w fun e w' => e = .returned (.bool (hasS l s)) ∧ ∃ n, w' = w.drewN n := by
  obtain ⟨a, cap, rfl, hlc, hcm, hx8, hc⟩ := Rd.strs h
  unfold maxLen at hcm
  have HC := hid hc
  clear hc h hx8
  go_enter Try.func18, Try.ntmps18
  go_wp2
  go_loopw [5] (fun i wr => ∃ k nq : Nat, k ≤ l.length ∧ i = .int .i64 k ∧ Hid (hasS (l.take k) s = false) ∧ wr = w.drewN nq) (fun i _ => l.length - (intOf i).toNat)
  case atStart => exact ⟨0, 0, Nat.zero_le _, rfl, hid rfl, rfl⟩
  case round =>
    obtain ⟨k, nq, hk, rfl, hh, rfl⟩ := hrel
    by_cases hlt : k < l.length
    · obtain ⟨b, off, rfl, hcell⟩ := HC.out k hlt
      go_wp2
      go_quiet (fail)
      go_wp2
      · have e : (l[k].toList == s.toList) = true := by assumption
        go_ret
        exact ⟨ret_bool (hasS_hit hlt e).symm, _, World.drewN_drewN _ _ _⟩
      · have e : (l[k].toList == s.toList) = false := by assumption
        go_roundw
        case rel => exact ⟨k + 1, _, by omega, by go_num, hid (hasS_step hlt e hh.out), rfl⟩
        case measure => simp [intOf]; omega
    · go_wp2
      go_ret
      exact ⟨ret_bool (by rw [← hh.out, List.take_of_length_le (by omega)]), _, rfl⟩

set_option maxHeartbeats 800000 in
theorem sameTexts_refl (u v : Value) (x : List ByteArray) (w : World) (hx : Rd w u (strsV x)) (hy : Rd w v (strsV x)) :
    Calls Try.prog 19 #[u, v] w fun e w' => e = .returned (.bool true) ∧ ∃ n, w' = w.drewN n := by
  obtain ⟨a, cap, rfl, hlc, hcm, hx8, hc⟩ := Rd.strs hx
  obtain ⟨b, cap', rfl, hlc', hcm', hx9, hc'⟩ := Rd.strs hy
  clear hx8 hx9 hx hy
  unfold maxLen at hcm hcm'
  have HC := hid hc; clear hc
  have HC' := hid hc'; clear hc'
  go_enter Try.func19, Try.ntmps19
  go_wp2
  go_loopw [5] (fun i wr => ∃ (k nq : Nat), k ≤ x.length ∧ i = .int .i64 k ∧ wr = w.drewN nq) (fun i _ => x.length - (intOf i).toNat)
  case atStart => exact ⟨0, 0, Nat.zero_le _, rfl, rfl⟩
  case round =>
    obtain ⟨k, nq, hk, rfl, rfl⟩ := hrel
    by_cases hlt : k < x.length
    · obtain ⟨b1, off1, rfl, hcell1⟩ := HC.out k hlt
      obtain ⟨b2, off2, rfl, hcell2⟩ := HC'.out k hlt
      go_wp2
      go_quiet (fail)
      go_wp2
      go_roundw
      case rel => exact ⟨k + 1, _, by omega, by go_num, rfl⟩
      case measure => simp [intOf]; omega
    · go_wp2
      go_ret
      exact ⟨rfl, nq, rfl⟩

def SInv (ob : Nat) (s : ByteArray) (_n : Nat) (w : World) : Prop := w.heap[ob]? = some (.cells #[.string s] 40 (0, 0))

theorem asks_seeker (ob : Nat) (s : ByteArray) (l : List ByteArray) : Asks 18 (.pointer (some ⟨ob, 0, none⟩)) (fun y => hasS (toS y) s) ob (SInv ob s) (strsV l) := by
  refine ⟨fun n w w' h hb => (hb.block ob (lt_of_block h)).trans h, fun n w v y hI hy hr hne => ?_⟩
  obtain ⟨z, rfl, hz⟩ : ∃ z, y = strsV z ∧ z.Sublist l := by
    obtain ⟨z, hz, e⟩ := List.sublist_map_iff.1 hy
    exact ⟨z, e, hz⟩
  show Calls _ _ _ _ fun e w' => e = .returned (.bool (hasS (toS (strsV z)) s)) ∧ _
  rw [toS_strs]
  refine (seek_any ob s v z w hr (by simp [World.cell?, show w.heap[ob]? = _ from hI])).mono ?_
  rintro e w' ⟨rfl, n', rfl⟩
  exact ⟨rfl, hI, ⟨rfl, rfl, rfl, Nat.le_refl _, fun _ _ _ => rfl⟩⟩

theorem run_seek (l : List ByteArray) (s : ByteArray) (h : hasS l s = true) : (Shr.run (fun y => hasS (toS y) s) (strsV l)).1 = strsV [s] := by
  obtain ⟨x, _, e⟩ := List.sublist_map_iff.1 (show (Shr.run (fun y => hasS (toS y) s) (strsV l)).1.Sublist (l.map Value.string) from Shr.run_sub _ _)
  have e' : (Shr.run (fun y => hasS (toS y) s) (strsV l)).1 = strsV x := e
  have hm := Shr.run_min (fun y => hasS (toS y) s) (strsV l) (by rw [toS_strs]; exact h)
  rw [e'] at hm
  have : x = [s] := by
    refine min_single ⟨by have := hm.1; simp only [toS_strs] at this; exact this, fun i hi => ?_⟩
    have := hm.2 i (by simpa using hi)
    simp only [strsV_rmv, toS_strs] at this
    exact this
  rw [e', this]

set_option maxHeartbeats 1600000 in
theorem shrinkStrings_any (v : Value) (l : List ByteArray) (n : Int) (w : World) (h : Rd w v (strsV l)) (n0 : -9223372036854775808 ≤ n) (n1 : n ≤ 9223372036854775807) :
    Calls Try.prog 6 #[v, .int .i64 n] w fun e w' => e = .returned (.bool true) ∧ Below w.heap.size w w' := by
  obtain ⟨a, cap, rfl, hlc, hcm, hx8, hc⟩ := Rd.strs h
  clear hx8
  unfold maxLen at hcm
  obtain ⟨m, hm⟩ : ∃ m, m = min l.length 8 := ⟨_, rfl⟩
  have hml : m ≤ l.length := by omega
  have hrd := (Rd.take (n := l.length) h m (by simpa using hml)).rd
  rw [strsV_take] at hrd
  have HM := hid hm
  have HRd := hid hrd
  have HC := hid hc
  clear hm hrd hc h
  have hmc : (m : Int) ≤ cap := by omega
  go_enter Try.func6, Try.ntmps6
  go_upto_region 1 with fail
  go_cut [5] (fun s5 wx => s5 = .slice a m cap ∧ wx = w)
  case first =>
    by_cases h8 : l.length ≤ 8
    · have e : m = l.length := by have := HM.out; omega
      subst e
      have h8' : (l.length : Int) ≤ 8 := by omega
      go_wp2_with fail
      go_meet
      exact ⟨rfl, rfl⟩
    · have e : m = 8 := by have := HM.out; omega
      subst e
      have h8' : (8 : Int) < (l.length : Int) := by omega
      have h8c : (8 : Int) ≤ (cap : Int) := by omega
      clear hmc
      go_wp2_with fail
      go_meet
      exact ⟨rfl, rfl⟩
  case rest =>
    obtain ⟨rfl, rfl⟩ := hcut
    by_cases hm0 : m = 0
    · subst hm0
      go_wp2_with fail
      refine (lives_any _).mono ?_
      rintro e w7 ⟨rfl, hb7⟩
      go_wp2_with fail
      go_ret
      exact ⟨rfl, hb7⟩
    · have hmp : 1 ≤ m := by omega
      have hmz : ((m : Int) == 0) = false := by simp; omega
      have hml2 : (m : Int) ≤ 9223372036854775807 := by omega
      have hka := around_lt n m (by omega)
      have HAr := hid (fun W => around_any n m W n0 n1 (by omega) hml2)
      obtain ⟨k, hk⟩ := Int.eq_ofNat_of_zero_le hka.1
      rw [hk] at HAr hka
      have hkm : k < m := by omega
      have hkl : k < l.length := by omega
      obtain ⟨b, off, rfl, hcell⟩ := HC.out k hkl
      clear hk hm0
      have hmem : hasS (l.take m) l[k] = true := List.any_eq_true.2 ⟨l[k], List.mem_iff_getElem.2 ⟨k, by simp; omega, by simp⟩, by simp⟩
      have hl := list_any _ _ wc.heap.size (SInv wc.heap.size l[k]) (strsV (l.take m)) 0 _ (wc.alloc (.cells #[.string l[k]] 40)) (asks_seeker wc.heap.size l[k] (l.take m)) (HRd.out.alloc _) (oneCell_strs _) (by rw [strsV_length, List.length_take]; have := HM.out; omega) (heap_at _ _ _ rfl) (by simp)
      rw [run_seek _ _ hmem] at hl
      have HL := hid hl
      clear hl hmem
      go_wp2_with (go_at_call 15; refine (HAr.out _).mono ?_; rintro e w' ⟨rfl, rfl⟩)
      refine HL.out.mono ?_
      rintro e w2 ⟨v2, rfl, hown2, hI2, hg2⟩
      have c0 : w2.cell? ⟨wc.heap.size, 0, none⟩ = some (.string l[k]) := by simp [World.cell?, show w2.heap[wc.heap.size]? = _ from hI2]
      have hb2 : Below wc.heap.size wc w2 := below_gb ((Below.refl _ _).alloc (Nat.le_refl _) _) hg2 (Nat.le_refl _)
      have hS := sameTexts_refl v2 (.slice (some ⟨w2.heap.size, 0, none⟩) 1 1) [l[k]] (w2.alloc (.cells #[.string l[k]] 9)) (hown2.rd.alloc _)
        ⟨_, 1, rfl, by simp, by unfold maxLen; omega, by simp, fun i hi => ⟨w2.heap.size, 0, rfl, by
          have : i = 0 := by simp at hi; exact hi
          subst this
          rw [World.cell?_alloc_new]; rfl⟩⟩
      have HS := hid hS; have HB2 := hid hb2
      have hs2 := hb2.size
      clear hS hb2 hI2 hg2
      go_wp2_with fail
      refine HS.out.mono ?_
      rintro e w3 ⟨rfl, hq3⟩
      have hb3 := (HB2.out.alloc hs2 (.cells #[.string l[k]] 9)).trans (Below.of_drewN hq3 _)
      have hs3 := hb3.size
      clear hq3
      go_wp2_with fail
      refine (lives_any _).mono ?_
      rintro e w7 ⟨rfl, hb7⟩
      have HB7 := hid (hb3.trans (hb7.mono hs3))
      clear hb7 hb3
      go_wp2_with fail
      go_ret
      exact ⟨rfl, HB7.out⟩
end Go.Proofs.Yteeohboemhegoaa.Str
