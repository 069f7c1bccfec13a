/- slices.Insert as a function shown by hand. -/
import Derived.Test.YtedhbklmebebgaaNh
import Derived.Test.YtedhbklmebebgaaMins
import Derived.Test.YtedhbklmebebgaaNiA
namespace Go.Proofs.Ytedhbklmebebgaa
open Go Go.RowKit

def insAt (f : FuncId) (args : Array Value) (S : St) : Option (Value × St) :=
  if f = 28 then insCall 34 9 72 args S else none

theorem insAt_ws : CallerWS insAt := by
  intro f args S v S' h hw hs
  unfold insAt at h
  split at h
  · exact insCall_ws h hw hs
  · cases h

theorem insCall_inv {args : Array Value} {e : TypeId} {esz bytes : Nat} {S S' : St} {v : Value} (h : insCall e esz bytes args S = some (v, S')) : ∃ s i x, args = #[s, .int .i64 i, x] ∧ insRun e esz bytes s i x S = some (v, S') := by
  unfold insCall at h
  split at h
  · rename_i s i x e1
    exact ⟨s, i, x, by apply Array.ext'; simpa using e1, h⟩
  · cases h

theorem rel3 {φ : Emb} {s x : Value} {i : Int} {args' : Array Value} (h : RelA φ #[s, .int .i64 i, x] args') : ∃ s' x', args' = #[s', .int .i64 i, x'] ∧ Rel φ s s' ∧ Rel φ x x' := by
  have hl := h.1
  have h0 := h.2 0 (by simp) (by rw [← hl]; simp)
  have h1 := h.2 1 (by simp) (by rw [← hl]; simp)
  have h2 := h.2 2 (by simp) (by rw [← hl]; simp)
  refine ⟨args'[0]'(by rw [← hl]; simp), args'[2]'(by rw [← hl]; simp), ?_, h0, h2⟩
  apply Array.ext
  · exact hl.symm
  · intro j j1 j2
    have : j = 0 ∨ j = 1 ∨ j = 2 := by simp at j2; omega
    rcases this with rfl | rfl | rfl
    · rfl
    · exact int_inv h1
    · rfl

/-- behind an append, a row written as it is. -/
theorem ins_same {B : Nat} {φ φ1 : Emb} {S S1 : St} {w w1 : World} {v v1 : Value} {id n c : Nat} {cc : List Value} {t : TypeId} {an : List Nat} (hs1 : Sim B φ1 S1 w1) (hk : Keep B φ S w φ1 S1 w1) (hr : Rel φ1 v v1) (hv : v = .slice (some ⟨id, 0, none⟩) n c) (hg : S1.get id = .cells cc t 9 true an) (cc2 : List Value) (hc : cc2 = cc) :
    ∃ φ', Rel φ' v v1 ∧ Sim B φ' (S1.write id cc2 t 9 an) w1 ∧ Keep B φ S w φ' (S1.write id cc2 t 9 an) w1 := by
  subst hv
  subst hc
  obtain ⟨s, x, c', e, rfl, _⟩ := slice_inv hr
  obtain ⟨k1, k2⟩ := hs1.same e hg
  exact ⟨φ1, hr, k1, hk.trans k2⟩

theorem putAt_end (esz n : Nat) (cc : List Value) (h : cc.length = (n + 1) * esz) : putAt esz n cc = cc := by
  unfold putAt
  rw [Nat.add_mul, Nat.one_mul] at h
  rw [h, Nat.add_sub_cancel, Nat.sub_self, List.take_zero, List.append_nil, List.take_append_drop]

theorem putAt_mid (esz n i : Nat) (cc news : List Value) (h : cc.length = n * esz) (hn : news.length = esz) (hi : i ≤ n) : putAt esz i (cc ++ news) = cc.take (i * esz) ++ news ++ cc.drop (i * esz) := by
  have hm : i * esz ≤ n * esz := Nat.mul_le_mul_right _ hi
  unfold putAt
  rw [List.length_append, h, hn, Nat.add_sub_cancel, ← h, List.take_append_of_le_length (by omega), List.drop_append_of_le_length (Nat.le_refl _), List.drop_length, List.nil_append, List.drop_append_of_le_length (by omega), List.take_append_of_le_length (by simp), List.take_of_length_le (l := cc.drop (i * esz)) (by simp)]

theorem splice_row (L A V O : List Value) (b i k m : Nat) (hO : O = (L.drop b).take k) (hV : V.length = m) (hfit : b + k + m + A.length ≤ L.length) (hi : i = k + m + A.length) :
    ((splice (splice L (b + (k + m)) A) (b + k) V).drop b).take i = O ++ V ++ A := by
  subst hi
  have hOl : O.length = k := by rw [hO]; simp; omega
  have e1 : (splice L (b + (k + m)) A).take (b + k) = L.take (b + k) := by
    unfold splice
    rw [List.append_assoc, List.take_append_of_le_length (by simp; omega), List.take_take, Nat.min_eq_left (by omega)]
  have e2 : (splice L (b + (k + m)) A).drop (b + k + m) = A ++ L.drop (b + (k + m) + A.length) := by
    unfold splice
    have hl : (L.take (b + (k + m))).length = b + k + m := by simp; omega
    rw [List.append_assoc, ← hl, List.drop_left]
  have e3 : (L.take (b + k)).drop b = O := by rw [hO, List.drop_take]; congr 1; omega
  have hel : (O ++ V ++ A).length = k + m + A.length := by simp [hOl, hV]; omega
  show ((((splice L (b + (k + m)) A).take (b + k)) ++ V ++ (splice L (b + (k + m)) A).drop (b + k + V.length)).drop b).take _ = _
  rw [hV, e1, e2, List.append_assoc, List.drop_append_of_le_length (by simp; omega), e3, ← List.append_assoc, ← List.append_assoc, List.take_append_of_le_length (by omega), List.take_of_length_le (by omega)]

set_option maxHeartbeats 1600000 in
theorem insAt_ok (B : Nat) : CallOK Try.prog B insAt := by
  intro f args S v S' h
  unfold insAt at h
  split at h
  case isFalse => cases h
  rename_i hf
  subst hf
  refine ⟨⟨_, Try.func28, by kernel_rfl, by kernel_rfl⟩, fun φ w args' hargs hs hB => ?_⟩
  obtain ⟨s, i, x, ea, hrun⟩ := insCall_inv h
  subst ea
  clear h
  obtain ⟨s', x', rfl, hsr, hxr⟩ := rel3 hargs
  obtain ⟨i0, hi0, hz0, hz1, hz2⟩ := info_parts infoEi
  unfold insRun at hrun
  split at hrun
  case isFalse => cases hrun
  rename_i hc
  obtain ⟨hx1, hi0', _, hox, hti⟩ := hc
  obtain ⟨i, rfl⟩ : ∃ k : Nat, i = k := ⟨i.toNat, by omega⟩
  simp only [Option.bind_eq_some_iff] at hrun
  obtain ⟨⟨r, S1⟩, happ, h2⟩ := hrun
  split at h2
  case h_2 => cases h2
  rename_i id n1 c1 hr1
  simp only at hr1 h2
  split at h2
  case h_2 => cases h2
  rename_i cc1 t1 z1 an1 hg1
  split at h2
  case isFalse => cases h2
  rename_i hc2
  obtain ⟨rfl, rfl, hcl, hin⟩ := hc2
  simp only [Int.toNat_natCast] at hin h2
  simp only [Option.some.injEq, Prod.mk.injEq] at h2
  obtain ⟨rfl, rfl⟩ := h2
  -- what is inserted
  unfold ownX at hox
  split at hox
  case h_2 => cases hox
  rename_i j ox nx cx
  obtain rfl : nx = 1 := Option.some.inj hx1
  split at hox
  case h_2 => cases hox
  rename_i cj tj zj anj hgj
  obtain ⟨sx, xo, cx', ej, rfl, hcx, _, _, hxo⟩ := slice_inv hxr
  have hxo : xo = sx.base + ox := by
    rcases hxo with h | ⟨h1, _⟩
    · exact h.1
    · cases h1
  subst hxo
  have happ' : xappend 34 i0.size i0.bytes s (.slice (some ⟨j, ox, none⟩) 1 cx) S = some (r, S1) := by rw [hz1, hz2]; exact happ
  have hend : ∀ ty, OutV Try.prog B φ S w (Builtin.append_ #[23, 23] ty #[s', .slice (some ⟨sx.b, sx.base + ox, none⟩) 1 cx']) r S1 := fun ty => append_sound hs hB Try.underlying23 hi0 hz0 (by rw [hz1]; rfl) hsr hxr happ'
  have hend := hend 0
  unfold xappend at happ
  split at happ
  case h_2 => cases happ
  rename_i news m hel hvl
  obtain rfl : 1 = m := Option.some.inj hvl
  rw [if_neg (by decide)] at happ
  split at happ
  case isFalse => cases happ
  unfold tight at hti
  split at hti
  case h_3 => cases hti
  case h_1 =>
    simp only at happ
    split at happ
    case isFalse => cases happ
    obtain ⟨rfl, rfl⟩ := Prod.mk.inj (Option.some.inj happ)
    simp only [Value.slice.injEq] at hr1
    obtain ⟨hid, rfl, _⟩ := hr1
    obtain rfl : i = 0 := by omega
    obtain ⟨φ1, v1, w1, hr, q1, q2, q3⟩ := hend
    obtain ⟨φ2, p1, p2, p3⟩ := ins_same q2 q3 q1 (by rw [hid]) hg1 _ (putAt_end 9 0 cc1 hcl)
    cases hsr
    refine (ins_end (.slice none 0 0) 0 sx.b (sx.base + ox) cx' w (.inl ⟨0, rfl⟩) v1 w1 (fun ty => hr)).mono ?_
    rintro e w2 ⟨rfl, rfl⟩
    exact ⟨φ2, v1, rfl, p1, p2, p3⟩
  case h_2 =>
    rename_i id0 n c
    obtain rfl : n = c := by simpa using hti
    simp only at happ
    split at happ
    case h_2 => cases happ
    rename_i cc t z an hg
    split at happ
    case isFalse =>
      rw [if_neg (by omega)] at happ
      cases happ
    rename_i hcc
    obtain ⟨rfl, _, hccl⟩ := hcc
    split at happ
    case isFalse => cases happ
    rename_i hreach
    obtain ⟨rfl, rfl⟩ := Prod.mk.inj (Option.some.inj happ)
    simp only [Value.slice.injEq, Option.some.injEq, Addr.mk.injEq] at hr1
    obtain ⟨⟨rfl, _⟩, rfl, _⟩ := hr1
    have hg1' := hg1
    unfold St.grow at hg1'
    rw [St.get_alloc, if_pos (by simp)] at hg1'
    obtain ⟨rfl, rfl, -, -, rfl⟩ := Blk.cells.inj hg1'
    simp only [List.drop_zero, Nat.zero_add] at *
    have hcn : cc.length = n * 9 := hccl.symm
    by_cases hin2 : i = n
    · subst hin2
      obtain ⟨φ1, v1, w1, hr, q1, q2, q3⟩ := hend
      obtain ⟨φ2, p1, p2, p3⟩ := ins_same q2 q3 q1 rfl hg1 _ (putAt_end 9 i _ hcl)
      obtain ⟨sp, xo, c', e, rfl, hrest⟩ := slice_inv hsr
      refine (ins_end _ i sx.b (sx.base + ox) cx' w (.inr ⟨_, c', rfl⟩) v1 w1 (fun ty => hr)).mono ?_
      rintro e w2 ⟨rfl, rfl⟩
      exact ⟨φ2, v1, rfl, p1, p2, p3⟩
    · have hlt : i < n := by omega
      obtain ⟨sp, xo, c', e0, rfl, hnc', _, _, hor⟩ := slice_inv hsr
      have hxo2 : xo = sp.base ∧ c' * sp.sz ≤ sp.ext := by
        rcases hor with h | ⟨h1, _⟩
        · simpa using h
        · omega
      obtain ⟨rfl, hext⟩ := hxo2
      clear hor
      obtain ⟨cs, tb, hb, hbx, hbl, hbz, hparts⟩ := hs.row e0 hg
      have hb := hb.mine
      obtain ⟨vs, tv, hv, hvx, hvl2, hvz, hvparts⟩ := hs.row ej hgj
      have hv := hv.mine
      rw [hbz] at hext
      have hnews : ox + 9 ≤ cj.length ∧ news = (cj.drop ox).take 9 := by
        simp only [St.elems, St.rd, hgj] at hel
        split at hel
        · rename_i hle
          exact ⟨by omega, by rw [← Option.some.inj hel]⟩
        · cases hel
      obtain ⟨hjl, rfl⟩ := hnews
      obtain ⟨hVr, hV1, hV2⟩ := hvparts ox 9 hjl
      obtain ⟨hOr, hO1, hO2⟩ := hparts 0 (i * 9) (by omega)
      obtain ⟨hAr, hA1, hA2⟩ := hparts (i * 9) ((n - i) * 9) (by omega)
      obtain ⟨V, hV⟩ : ∃ V, V = (vs.toList.drop (sx.base + ox)).take 9 := ⟨_, rfl⟩
      obtain ⟨O, hO⟩ : ∃ O, O = (cs.toList.drop sp.base).take (i * 9) := ⟨_, rfl⟩
      obtain ⟨A, hA⟩ : ∃ A, A = (cs.toList.drop (sp.base + i * 9)).take ((n - i) * 9) := ⟨_, rfl⟩
      simp only [Nat.add_zero, List.drop_zero] at hOr hO1 hO2
      rw [← hV] at hVr hV2
      rw [← hO] at hOr hO2
      rw [← hA] at hAr hA2
      rw [List.take_of_length_le (l := cc.drop (i * 9)) (by simp [hcn]; omega)] at hAr hA1
      have hnl : ((cj.drop ox).take 9).length = 9 := by simp; omega
      have hput := putAt_mid 9 n i cc ((cj.drop ox).take 9) hcn hnl (by omega)
      have hOl : O.length = i * 9 := by rw [hO]; simp; omega
      have hAl : A.length = (n - i) * 9 := by rw [hA]; simp; omega
      have hVl : V.length = 9 := by rw [hV]; simp; omega
      have hc2r : RelL φ (putAt 9 i (cc ++ (cj.drop ox).take 9)) (O ++ V ++ A) := by rw [hput]; exact (hOr.append hVr).append hAr
      have hc2l : (putAt 9 i (cc ++ (cj.drop ox).take 9)).length = cc.length + ((cj.drop ox).take 9).length := by rw [hc2r.1]; simp [hOl, hVl, hAl, hcn, hnl] <;> omega
      have hc21 : ∀ v ∈ putAt 9 i (cc ++ (cj.drop ox).take 9), v.oneCell' = true := by
        intro v hv
        rw [hput] at hv
        simp only [List.mem_append] at hv
        rcases hv with (hv | hv) | hv
        · exact hO1 v hv
        · exact hV1 v hv
        · exact hA1 v hv
      by_cases hroom : n + 1 ≤ c'
      · -- in place
        have hne : sx.b ≠ sp.b := by
          intro eb
          have hij : j ≠ id0 := by
            simp only [decide_eq_true_eq] at hox
            exact fun e => hox e.symm
          have := (hs.apart id0 sp cc t _ an e0 hg j sx cj tj zj true anj hij ej hgj eb).1.2
          cases this
        have hm9 : (n + 1) * 9 ≤ c' * 9 := Nat.mul_le_mul_right _ hroom
        have hs1 : (splice cs.toList (sp.base + (i + 1) * 9) A).length = cs.size := by rw [splice_length _ _ _ (by rw [hAl]; simp; omega)]; simp
        have hs2 : (splice (splice cs.toList (sp.base + (i + 1) * 9) A) (sp.base + i * 9) V).length = cs.size := by rw [splice_length _ _ _ (by rw [hVl, hs1]; omega)]; exact hs1
        have hrow : ((splice (splice cs.toList (sp.base + (i + 1) * 9) A) (sp.base + i * 9) V).drop sp.base).take ((n + 1) * 9) = O ++ V ++ A := by
          have := splice_row cs.toList A V O sp.base ((n + 1) * 9) (i * 9) 9 hO hVl (by rw [hAl]; simp; omega) (by rw [hAl]; omega)
          rw [show i * 9 + 9 = (i + 1) * 9 by omega] at this
          exact this
        obtain ⟨φ', hφ', k1, k2⟩ := hs.drew.insIn e0 hg cs (splice (splice cs.toList (sp.base + (i + 1) * 9) A) (sp.base + i * 9) V).toArray tb hb (t2 := 34) (by simpa using hs2) (by rw [hnl, hcn]; omega) hV1 V hVr hc2l hc21 (by
          rw [hc2l, hnl, hcn, show n * 9 + 9 = (n + 1) * 9 by omega]
          simp only
          rw [hrow]
          exact hc2r)
        have hwalk := ins_shift sp.b sp.base n c' i sx.b (sx.base + ox) cx' cs vs tb tv w hlt hroom (by unfold reach at hreach; omega) hne hb hv (by omega) (by omega) A V hA hV hA2 hV2
        refine hwalk.mono ?_
        rintro e w2 ⟨rfl, rfl⟩
        rw [setRow_setRow]
        refine ⟨φ', _, rfl, ?_, k1, (Keep.drew B φ S w).trans k2⟩
        subst hφ'
        have hrr := Rel.slice (φ := φ.add S.next ⟨sp.b, sp.base, sp.ext, 9⟩) S.next 0 (n + 1) (n + 1) c' _ (Emb.add_same _ _ _) (Nat.le_refl _) hroom (by simpa using hext)
        simpa using hrr
      · -- a new row
        have hc' : c' = n := by omega
        subst hc'
        unfold reach at hreach
        refine (ins_grow sp.b sp.base c' c' i sx.b (sx.base + ox) cx' cs vs tb tv w hlt (Nat.le_refl _) (by omega) (by omega) hb hv (by omega) (by omega) O A V hO hA hV hA2 hV2).mono ?_
        rintro e w2 ⟨G, R, rfl, hG, hR, htk, rfl⟩
        have hl2 : (putAt 9 i (cc ++ (cj.drop ox).take 9)).length = (c' + 1) * 9 := by rw [hc2l, hnl, hcn]; omega
        have hm9 : (c' + 1) * 9 ≤ G * 9 := Nat.mul_le_mul_right _ hG
        obtain ⟨hCr, hC1, hC2⟩ := hparts 0 cc.length (by omega)
        rw [List.drop_zero, List.take_length] at hCr hC1
        obtain ⟨φ', hφ', k1, k2⟩ := hs.drew.insNew hB hg R 34 (t2 := 34) (news := (cj.drop ox).take 9) (c2 := putAt 9 i (cc ++ (cj.drop ox).take 9)) (by
          intro v hv
          rcases List.mem_append.1 hv with hv | hv
          · exact hC1 v hv
          · exact hV1 v hv) _ (hCr.append hVr) (by rw [hc2l]; simp) hc21 (by rw [hl2, hR]; exact hm9) (by rw [hl2, htk]; exact hc2r)
        refine ⟨φ', _, rfl, ?_, k1.drew, ((Keep.drew B φ S w).trans k2).trans (Keep.drew B φ' _ _)⟩
        subst hφ'
        have hrr := Rel.slice (φ := φ.add S.next ⟨w.drew.heap.size, 0, R.size, 9⟩) S.next 0 (c' + 1) (c' + 1) G _ (Emb.add_same _ _ _) (Nat.le_refl _) hG (by simp [hR])
        simpa using hrr


instance : Prim Try.prog := ⟨insAt, insAt_ws, insAt_ok⟩

theorem insNone : XF Try.prog 28 = none := by kernel_rfl

theorem insert_any {v : Value} {l : List Evl} {a : Evl} {S : St} {b : Nat} (hv : Own S b v l) (hb : b ≤ S.next) (i : Nat) (hi : i ≤ l.length) (hl : l.length ≤ 1000) (t : TypeId) :
    XC Try.prog 28 #[v, .int .i64 i, .slice (some ⟨S.next, 0, none⟩) 1 1] (S.alloc (.cells (Enc.e a) t (Enc.w Evl) true [])) fun r S' => Fr b S S' ∧ Own S' b r (l.take i ++ a :: l.drop i) := by
  obtain ⟨r, S', h1, h2, h3⟩ := hv.insert (a := a) hb i hi 34 72 (by unfold reach; omega) (by decide) t
  exact XC_prim insNone ⟨r, S', h1, h3, h2⟩
end Go.Proofs.Ytedhbklmebebgaa
