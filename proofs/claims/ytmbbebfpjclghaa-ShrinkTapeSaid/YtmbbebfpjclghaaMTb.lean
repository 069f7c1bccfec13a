/- Questions, answers, events as values; small functions. Tapes: the answers as a map, normal forms, parts. tape.Normal, Without, Equal. tape.Without, tape.Equal, PartOf. tape.Equal, PartOf, the keeper's condition. shrink.List of numbers. shrink.Tape with the keeper's condition. -/
import Derived.Test.YtmbbebfpjclghaaMTa
import Derived.Test.YtmbbebfpjclghaaMVb
import Derived.Test.YtmbbebfpjclghaaShrPlain
set_option linter.unusedSimpArgs false
set_option linter.unusedSectionVars false
set_option linter.unusedVariables false
namespace Go.Proofs.Ytmbbebfpjclghaa
open Go Go.RowKit

def Msg.vs (m : Msg) : List VV := [vi m.node, vi m.handler, vi m.count, vi m.index, vi m.copy]
def Ans.vs (a : Ans) : List VV := [vi a.q.node, vi a.q.handler, vi a.q.count, vi a.q.index, vi a.q.copy, vi a.n]
def Evt.vs (e : Evt) : List VV := [vi e.kind, vi e.node, vi e.arg, vi e.msg.node, vi e.msg.handler, vi e.msg.count, vi e.msg.index, vi e.msg.copy]
instance encMsg : VEnc Msg := ⟨5, Msg.vs, fun _ => rfl, fun _ => rfl, fun _ => by simp only [Msg.vs, List.map_cons, List.map_nil, fg_int], by decide⟩
instance encAns : VEnc Ans := ⟨6, Ans.vs, fun _ => rfl, fun _ => rfl, fun _ => by simp only [Ans.vs, List.map_cons, List.map_nil, fg_int], by decide⟩
instance encEvt : VEnc Evt := ⟨8, Evt.vs, fun _ => rfl, fun _ => rfl, fun _ => by simp only [Evt.vs, List.map_cons, List.map_nil, fg_int], by decide⟩
theorem wMsg : VEnc.w Msg = 5 := rfl
theorem wAns : VEnc.w Ans = 6 := rfl
theorem wEvt : VEnc.w Evt = 8 := rfl
theorem eMsg (m : Msg) : VEnc.e m = [vi m.node, vi m.handler, vi m.count, vi m.index, vi m.copy] := rfl
theorem eAns (a : Ans) : VEnc.e a = [vi a.q.node, vi a.q.handler, vi a.q.count, vi a.q.index, vi a.q.copy, vi a.n] := rfl
theorem eEvt (e : Evt) : VEnc.e e = [vi e.kind, vi e.node, vi e.arg, vi e.msg.node, vi e.msg.handler, vi e.msg.count, vi e.msg.index, vi e.msg.copy] := rfl

section
variable [Prim Try.prog]

theorem w64_1 {i n : Nat} (h : i < n) (hn : n ≤ 1000000) : w64 ((i : Int) + 1) = ((i + 1 : Nat) : Int) := by rw [w64_ok (by omega) (by omega)]; omega

/-- slices.Index of numbers. -/
def idxI (l : List Int) (x : Int) : Int := match l.findIdx? (· == x) with
  | some i => (i : Int)
  | none => -1
theorem index_any (l : List Int) (x : Int) (hl : l.length ≤ 1000000) : VD Try.prog 45 [vl l, vi x] (vi (idxI l x)) := by
  intro σ
  refine VC_body XF45 ?_
  simp (decide := true) only [↓VW_region, ↓VW_seq, ↓VW_block, ↓VW_stuck, ↓vbindN_normal, ↓VO_nil, ↓VO_cons, ↓VS_mv, ↓VS_len, ↓vfev_tmp, ↓vfev_int, ↓vupd_same, ↓vupd_ne, ↓vfe0_zero, Now_any, Got_some, len_vl, ne_eq, xf45]
  refine VW_loopR 0 (fun m fe σ' => fe 0 = vl l ∧ fe 1 = vi x ∧ fe 7 = vi l.length ∧ σ.next ≤ σ'.low ∧ ∃ i : Nat, fe 8 = vi i ∧ m + i = l.length ∧ ∀ j (h : j < l.length), j < i → l[j] ≠ x) (fun fe σ' => σ.next ≤ σ'.low ∧ ∀ j (h : j < l.length), l[j] ≠ x) l.length ?_ ?_ ?_
  · simp (decide := true) only [↓vupd_same, ↓vupd_ne, ↓vfe0_zero, ↓vfe0_succ, ne_eq, true_and]
    exact ⟨Nat.le_refl _, 0, rfl, by omega, fun j _ h => by omega⟩
  · rintro m fe σ2 ⟨h0, h1, h7, hlo, i, h8, hm, hno⟩
    simp (decide := true) only [↓VW_region, ↓VW_seq, ↓VW_cond, ↓vbindN_normal, ↓VO_nil, ↓VO_cons, ↓VS_bin, ↓vfev_tmp, ↓vupd_same, Now_any, Got_some, h7, h8, vbin_lss]
    refine TestV_dec (fun hlt => ?_) (fun hge => ?_)
    · have hi : i < l.length := by omega
      simp (decide := true) only [↓VW_skip, ↓VW_region, ↓VW_seq, ↓VW_block, ↓VW_cond, ↓vbindN_normal, ↓VO_nil, ↓VO_cons, ↓VS_mv, ↓VS_load, ↓VS_ia, ↓VS_bin, ↓vfev_tmp, ↓vupd_same, ↓vupd_ne, Now_any, Got_some, vpart_one, ne_eq, h0, h1, h8, via_vl hi, wInt, vld_vep hi, eInt, List.drop_zero, List.take_succ_cons, List.take_zero, vbin_eql]
      refine TestV_dec (fun heq => ?_) (fun hne => ?_)
      · simp (decide := true) only [↓VW_ret, ↓VW_region, ↓VW_seq, ↓vbindN_normal, ↓vbindN_ret, ↓vbindB_ret, ↓vbindL_ret, ↓vatExit_ret, ↓vatEnd_ret, ↓VO_nil, ↓VO_cons, ↓VS_mv, ↓vfev_tmp, ↓vupd_same, ↓vupd_ne, Now_any, Got_some, vrs_one, vr1_tmp, ne_eq, fg_int]
        refine ⟨hlo, ?_⟩
        congr 2
        unfold idxI
        have : l.findIdx? (· == x) = some i := by
          rw [List.findIdx?_eq_some_iff_getElem]
          exact ⟨hi, by simp [heq], fun j hj => by simpa using hno j (by omega) hj⟩
        rw [this]
      · simp (decide := true) only [↓VW_skip, ↓VW_region, ↓vbindN_normal, ↓vbindB_normal, ↓vbindL_normal, ↓VO_nil, ↓VO_cons, ↓VS_mv, ↓VS_bin, ↓vfev_tmp, ↓vfev_int, ↓vupd_same, ↓vupd_ne, Now_any, Got_some, ne_eq, h0, h1, h7, h8, vbin_add, w64_1 hi hl, true_and]
        refine ⟨m - 1, by omega, hlo, i + 1, rfl, by omega, fun j hj hlt => ?_⟩
        by_cases e : j = i
        · subst e; exact fun h => hne h.symm
        · exact hno j hj (by omega)
    · simp (decide := true) only [↓VW_exit, ↓vbindN_exit, ↓vbindL_exit, ↓vatExit_self, ne_eq]
      exact ⟨hlo, fun j hj => hno j hj (by omega)⟩
  · rintro fe σ2 ⟨hlo, hno⟩
    simp (decide := true) only [↓VW_ret, ↓VW_region, ↓VW_seq, ↓vbindN_normal, ↓vbindB_self, ↓vatEnd_ret, ↓VO_nil, ↓VO_cons, ↓VS_mv, ↓vfev_int, ↓vupd_same, Now_any, Got_some, vrs_one, vr1_tmp, fg_int]
    refine ⟨hlo, ?_⟩
    congr 2
    unfold idxI
    have : l.findIdx? (· == x) = none := by
      rw [List.findIdx?_eq_none_iff]
      intro y hy
      obtain ⟨j, hj, rfl⟩ := List.getElem_of_mem hy
      simpa using hno j hj
    rw [this]
theorem contains_any (l : List Int) (x : Int) (hl : l.length ≤ 1000000) : VD Try.prog 30 [vl l, vi x] (vb (l.contains x)) := by
  intro σ
  refine VC_body XF30 ?_
  simp (decide := true) only [↓VW_region, ↓VW_seq, ↓vbindN_normal, ↓VO_nil, ↓VO_cons, ↓VS_mv, ↓VS_call, ↓vfev_tmp, ↓vfev_bool, ↓vupd_same, ↓vupd_ne, ↓vfe0_zero, ↓vfe0_succ, Now_any, List.map_cons, List.map_nil, ne_eq, xf30]
  refine VCall.dat (index_any l x hl) ⟨Fg.rfl _, Fg.rfl _, trivial⟩ (fun σ1 h1 => ?_)
  simp (decide := true) only [↓VW_ret, ↓vbindN_normal, ↓vatEnd_ret, ↓VO_nil, ↓VO_cons, ↓VS_mv, ↓VS_bin, ↓vfev_tmp, ↓vfev_int, ↓vupd_same, Now_any, Got_some, vrs_one, vr1_tmp, vbin_geq, fg_bool]
  refine ⟨by rw [h1.low]; exact Nat.le_refl _, ?_⟩
  congr 2
  unfold idxI
  cases e : l.findIdx? (· == x) with
  | none =>
    rw [List.findIdx?_eq_none_iff] at e
    simp
    intro h
    simpa using e x h
  | some i =>
    rw [List.findIdx?_eq_some_iff_getElem] at e
    obtain ⟨hi, h2, _⟩ := e
    simp at h2
    simp
    rw [← h2]
    exact List.getElem_mem _
/-- slices.Clone of events. -/
theorem cloneE_any (l : List Evt) (hl : l.length ≤ 1000000) (σ : VSt) : VC Try.prog 16 [vl l] σ (fun r σ' => σ.next ≤ σ'.low ∧ App σ' σ.next r l) := by
  refine VC_body XF16 ?_
  simp (decide := true) only [↓VW_region, ↓VW_seq, ↓vbindN_normal, ↓VO_nil, ↓VO_cons, ↓VS_mv, ↓VS_eqs, ↓vfev_tmp, ↓vfev_nilS, ↓vupd_same, ↓vupd_ne, ↓vfe0_zero, Now_any, ne_eq, xf16]
  refine VEqs.lst (fun h => by rw [List.eq_nil_of_length_eq_zero h]; rfl) (fun h => ?_) ?_
  · simp (decide := true) only [↓VW_ret, ↓VW_region, ↓VW_seq, ↓VW_cond, ↓vbindN_normal, ↓vbindN_ret, ↓vatEnd_ret, ↓VO_nil, ↓VO_cons, ↓VS_mv, ↓vfev_tmp, ↓vfev_nilS, ↓vupd_same, Now_any, Got_some, TestV_true, vrs_one, vr1_tmp, notIf_ff]
    rw [List.eq_nil_of_length_eq_zero h]
    exact ⟨Nat.le_refl _, .nil _ _⟩
  · simp (decide := true) only [↓VW_skip, ↓VW_region, ↓VW_seq, ↓VW_cond, ↓vbindN_normal, ↓VO_nil, ↓VO_cons, ↓VS_buildSlice, ↓vfev_tmp, ↓vupd_same, Now_any, TestV_false, List.map_nil, notIf_ff]
    refine VBuild.own rfl rfl rfl ?_
    simp (decide := true) only [↓VO_cons, ↓VS_mv, ↓VS_append, ↓vfev_tmp, ↓vupd_same, ↓vupd_ne, ↓vfe0_zero, Now_any, ne_eq, next_fresh]
    have h0 : App σ.fresh.newTok σ.next (.own 8 0 [] σ.next) ([] : List Evt) := .inr ⟨σ.next, rfl, by simp [VSt.newTok, VSt.fresh], Nat.le_refl _, by simp [VSt.newTok, VSt.fresh]⟩
    obtain ⟨r, σ1, a1, a2, a3, a4⟩ := h0.push (esz := 8) (bytes := 64) (vcont_vl σ.fresh.newTok l rfl) rfl (by unfold reach; simp; omega) (by decide) (by simp [VSt.newTok, VSt.fresh])
    refine VAppend.own a1 ?_
    simp (decide := true) only [↓VW_ret, ↓vbindN_normal, ↓vatEnd_ret, ↓VO_nil, ↓VO_cons, ↓VS_mv, ↓vfev_tmp, ↓vupd_same, Now_any, Got_some, vrs_one, vr1_tmp, notIf_ff, next_fresh]
    have := a3.low
    simp only [low_newTok, low_fresh] at this
    exact ⟨by omega, by simpa using a2⟩
end
end Go.Proofs.Ytmbbebfpjclghaa

set_option linter.unusedSimpArgs false
set_option linter.unusedSectionVars false
set_option linter.unusedVariables false
namespace Go.Proofs.Ytmbbebfpjclghaa
open Go Go.RowKit

noncomputable instance thePrim : Prim Try.prog := ⟨runAll, runAll_ws, runAll_ok (by kernel_rfl)⟩

theorem kval_msg (q : Msg) : kval (.agg [vi q.node, vi q.handler, vi q.count, vi q.index, vi q.copy]) = some q.v := rfl
theorem toV_int (n : Int) : toV (.int .i64 n) = vi n := rfl
theorem vlook {σ : VSt} {m : Nat} {es : EL} {cl : Nat} (h : σ.heap m = .obj (.map (encE es) cl)) (q : Msg) :
    vextra (.lookup [1, 1, 1, 1, 1] true (.int .i64 0) false) [.map m, .agg [vi q.node, vi q.handler, vi q.count, vi q.index, vi q.copy]] σ = some (vi ((lookE es q).getD 0), σ) := by
  obtain ⟨r, h1, h2⟩ := xfind_encE q es 0
  simp only [vextra, kval_msg, keyOf_msg, Option.bind_some, h, h1, lookRes, Bool.false_eq_true, if_false, h2]
  cases lookE es q <;> rfl
theorem vdel {σ : VSt} {m : Nat} {es : EL} {cl : Nat} (h : σ.heap m = .obj (.map (encE es) cl)) (hn : (es.map (·.1)).Nodup) (q : Msg) :
    vextra (.mapDel [1, 1, 1, 1, 1] true) [.map m, .agg [vi q.node, vi q.handler, vi q.count, vi q.index, vi q.copy]] σ = some (.tup [], σ.put m (.obj (.map (encE (delE es q)) cl))) := by
  rcases xfind_del q es 0 hn with ⟨j, v, h1, h2⟩ | ⟨h1, h2⟩
  · simp only [vextra, kval_msg, keyOf_msg, Option.bind_some, h, h1, Option.map_some, Nat.zero_add, h2]
  · simp only [vextra, kval_msg, keyOf_msg, Option.bind_some, h, h1, Option.map_some, h2]
theorem vset {σ : VSt} {m : Nat} {es : EL} {cl : Nat} (h : σ.heap m = .obj (.map (encE es) cl)) (q : Msg) (hq : lookE es q = none) (n : Int) :
    vextra (.mapSet [1, 1, 1, 1, 1] true) [.map m, .agg [vi q.node, vi q.handler, vi q.count, vi q.index, vi q.copy], vi n] σ = some (.tup [], σ.put m (.obj (.map (encE (es ++ [(q, n, cl)])) (cl + 1)))) := by
  obtain ⟨r, h1, h2⟩ := xfind_encE q es 0
  rw [hq] at h2
  obtain rfl : r = none := by cases r <;> simp_all
  have he : encE (es ++ [(q, n, cl)]) = encE es ++ [(q.v, .int .i64 n, cl)] := by simp [encE]
  have hk : kval (vi n) = some (.int .i64 n) := rfl
  simp only [vextra, kval_msg, hk, keyOf_msg, Option.bind_some, h, h1, Option.map_some, he]
theorem vmlen {σ : VSt} {m : Nat} {es : EL} {cl : Nat} (h : σ.heap m = .obj (.map (encE es) cl)) : vextra .mapLen [.map m] σ = some (vi es.length, σ) := by
  simp only [vextra, h, encE, List.length_map]
theorem vmk_map (σ : VSt) : vextra .mkMap [] σ = some (.map σ.next, σ.alloc (.obj (.map [] 0))) := rfl

/-- a map from questions to numbers, in order. -/
structure GoodE (es : EL) (cl : Nat) : Prop where
  lt : ∀ e ∈ es, e.2.2 < cl
  nd : (es.map (·.2.2)).Nodup
  ndk : (es.map (·.1)).Nodup
theorem GoodE.nil : GoodE [] 0 := ⟨by simp, by simp, by simp⟩
theorem GoodE.del {es : EL} {cl : Nat} (h : GoodE es cl) (q : Msg) : GoodE (delE es q) cl :=
  ⟨fun e he => h.lt e (List.mem_filter.1 he).1, (List.filter_sublist.map _).nodup h.nd, (List.filter_sublist.map _).nodup h.ndk⟩
theorem GoodE.set {es : EL} {cl : Nat} (h : GoodE es cl) (q : Msg) (hq : lookE es q = none) (n : Int) : GoodE (es ++ [(q, n, cl)]) (cl + 1) := by
  have hq' : ∀ e ∈ es, e.1 ≠ q := fun e he => by
    unfold lookE at hq
    rw [Option.map_eq_none_iff, List.find?_eq_none] at hq
    simpa using hq e he
  refine ⟨fun e he => ?_, ?_, ?_⟩
  · rcases List.mem_append.1 he with he | he
    · have := h.lt e he; omega
    · rw [List.mem_singleton.1 he]; show cl < cl + 1; omega
  · rw [List.map_append, List.nodup_append]
    refine ⟨h.nd, by simp, fun a ha b hb => ?_⟩
    simp only [List.map_cons, List.map_nil, List.mem_singleton] at hb
    subst hb
    obtain ⟨e, he, rfl⟩ := List.mem_map.1 ha
    have := h.lt e he
    intro e'
    omega
  · rw [List.map_append, List.nodup_append]
    refine ⟨h.ndk, by simp, fun a ha b hb => ?_⟩
    simp only [List.map_cons, List.map_nil, List.mem_singleton] at hb
    subst hb
    obtain ⟨e, he, rfl⟩ := List.mem_map.1 ha
    exact hq' e he
/-- the map that a list of answers makes. -/
def ansStep (p : EL × Nat) (a : Ans) : EL × Nat := if a.n > 0 then (delE p.1 a.q ++ [(a.q, a.n, p.2)], p.2 + 1) else (delE p.1 a.q, p.2)
def ansF (l : List Ans) : EL × Nat := l.foldl ansStep ([], 0)
theorem ansStep_good {p : EL × Nat} (h : GoodE p.1 p.2) (a : Ans) : GoodE (ansStep p a).1 (ansStep p a).2 := by
  unfold ansStep
  split
  · exact (h.del a.q).set a.q (lookE_del _ _) a.n
  · exact h.del a.q
theorem foldl_good : ∀ (l : List Ans) (p : EL × Nat), GoodE p.1 p.2 → GoodE (l.foldl ansStep p).1 (l.foldl ansStep p).2 := by
  intro l
  induction l with
  | nil => intro p h; exact h
  | cons a l ih => intro p h; exact ih _ (ansStep_good h a)
theorem ansF_good (l : List Ans) : GoodE (ansF l).1 (ansF l).2 := foldl_good l _ .nil
theorem ansStep_len (p : EL × Nat) (a : Ans) : (ansStep p a).1.length ≤ p.1.length + 1 := by
  have : (delE p.1 a.q).length ≤ p.1.length := List.length_filter_le _ _
  unfold ansStep
  split <;> simp <;> omega
theorem ansF_len (l : List Ans) : (ansF l).1.length ≤ l.length := by
  have key : ∀ (l : List Ans) (p : EL × Nat), (l.foldl ansStep p).1.length ≤ p.1.length + l.length := by
    intro l
    induction l with
    | nil => intro p; simp
    | cons a l ih => intro p; have := ih (ansStep p a); have := ansStep_len p a; simp; omega
  simpa [ansF] using key l ([], 0)
theorem ansF_take (l : List Ans) (i : Nat) (hi : i < l.length) : ansF (l.take (i + 1)) = ansStep (ansF (l.take i)) l[i] := by
  unfold ansF
  rw [List.take_add_one, List.getElem?_eq_getElem hi, List.foldl_append]
  rfl

structure Tape where
  events : List Evt
  answers : List Ans
def tapeV (t : Tape) : VV := .agg [vl t.events, vl t.answers]
theorem fg_tapeV (t : Tape) : (tapeV t).fg = tapeV t := by simp only [tapeV, fg_agg, List.map_cons, List.map_nil, fg_vl]

theorem heap_put (σ : VSt) (id : Nat) (b : VB) (j : Nat) : (σ.put id b).heap j = if j = id then b else σ.heap j := rfl
theorem heap_put_self (σ : VSt) (id : Nat) (b : VB) : (σ.put id b).heap id = b := by rw [heap_put, if_pos rfl]
theorem heap_put_ne (σ : VSt) (id : Nat) (b : VB) (j : Nat) (h : j ≠ id) : (σ.put id b).heap j = σ.heap j := by rw [heap_put, if_neg h]
theorem next_put (σ : VSt) (id : Nat) (b : VB) : (σ.put id b).next = σ.next := rfl
theorem low_put (σ : VSt) (id : Nat) (b : VB) : (σ.put id b).low = min σ.low id := rfl
theorem heap_alloc_self (σ : VSt) (b : VB) : (σ.alloc b).heap σ.next = b := by simp [VSt.alloc]
theorem heap_alloc_ne (σ : VSt) (b : VB) (j : Nat) (h : j ≠ σ.next) : (σ.alloc b).heap j = σ.heap j := by simp [VSt.alloc, h]
theorem next_alloc' (σ : VSt) (b : VB) : (σ.alloc b).next = σ.next + 1 := rfl
theorem low_alloc (σ : VSt) (b : VB) : (σ.alloc b).low = σ.low := rfl

/-- tape.answers. -/
theorem answers_any (t : Tape) (hl : t.answers.length ≤ 1000000) (σ : VSt) : VC Try.prog 15 [tapeV t] σ (fun r σ' => σ.next ≤ σ'.low ∧ ∃ m, r = .map m ∧ σ.next ≤ m ∧ m < σ'.next ∧ σ'.heap m = .obj (.map (encE (ansF t.answers).1) (ansF t.answers).2)) := by
  refine VC_body XF15 ?_
  simp (decide := true) only [↓VW_region, ↓VW_seq, ↓VW_block, ↓VW_stuck, ↓vbindN_normal, ↓VO_nil, ↓VO_cons, ↓VS_mv, ↓VS_load, ↓VS_fa, ↓VS_len, ↓VS_box, ↓VS_extra0, ↓vfev_tmp, ↓vfev_int, ↓vfev_nilM, ↓vupd_same, ↓vupd_ne, ↓vfe0_zero, Now_any, Got_some, List.map_nil, ↓vld_ptr, vrdB_cells, vadd_ptr, len_vl, vpart_one, cs_agg, vAll_vl, vAll_nil, Need_true, ne_eq, not_false_eq_true, next_box, next_fresh, heap_box, ↓reduceIte, Nat.left_eq_add, List.length_cons, List.length_nil, List.drop_zero, List.drop_succ_cons, List.take_succ_cons, List.take_zero, Nat.zero_add, Nat.reduceAdd, Nat.reduceLeDiff, xf15, tapeV, vmk_map, heap_alloc_ne]
  refine VW_loopR 0 (fun m fe σ' => fe 3 = .map (σ.next + 1) ∧ fe 8 = vl t.answers ∧ fe 9 = vi t.answers.length ∧ σ.next ≤ σ'.low ∧ σ.next + 1 < σ'.next ∧ ∃ i : Nat, fe 10 = vi i ∧ m + i = t.answers.length ∧ σ'.heap (σ.next + 1) = .obj (.map (encE (ansF (t.answers.take i)).1) (ansF (t.answers.take i)).2))
    (fun fe σ' => fe 3 = .map (σ.next + 1) ∧ σ.next ≤ σ'.low ∧ σ.next + 1 < σ'.next ∧ σ'.heap (σ.next + 1) = .obj (.map (encE (ansF t.answers).1) (ansF t.answers).2)) t.answers.length ?_ ?_ ?_
  · simp (decide := true) only [↓vupd_same, ↓vupd_ne, ne_eq, true_and]
    exact ⟨Nat.le_refl _, by rw [next_alloc', next_box, next_fresh]; omega, 0, rfl, by omega, heap_alloc_self _ _⟩
  · rintro m fe σ2 ⟨h3, h8, h9, hlo, hn, i, h10, hm, hmap⟩
    simp (decide := true) only [↓VW_region, ↓VW_seq, ↓VW_cond, ↓vbindN_normal, ↓VO_nil, ↓VO_cons, ↓VS_bin, ↓vfev_tmp, ↓vupd_same, Now_any, Got_some, h9, h10, vbin_lss]
    refine TestV_dec (fun hlt => ?_) (fun hge => ?_)
    · have hi : i < t.answers.length := by omega
      have hg := ansF_good (t.answers.take i)
      have hstep := ansF_take t.answers i hi
      generalize ansF (t.answers.take i) = p at hmap hg hstep
      have e1 : σ.next + 1 ≠ σ2.next := by omega
      have e2 : σ2.next ≠ σ.next + 1 := by omega
      simp (decide := true) only [↓VW_skip, ↓VW_region, ↓VW_seq, ↓VW_block, ↓vbindN_normal, ↓VO_nil, ↓VO_cons, ↓VO_cons_drop, ↓VS_mv, ↓VS_load, ↓VS_fa, ↓VS_ia, ↓VS_zeroA, ↓VS_store, ↓VS_extra0, ↓vfev_tmp, ↓vupd_same, ↓vupd_ne, Now_any, Got_some, List.map_cons, List.map_nil, ↓vld_ptr, vrdB_cells, vst_ptr, vstB_cells, vadd_ptr, vpart_agg, cs_agg, vAll_v, vAll_nil, Need_true, ne_eq, List.append_nil, List.nil_append, Nat.add_zero, h8, h10, via_vl hi, wAns, vld_vep hi, eAns, heap_box, heap_write, ↓reduceIte, List.length_cons, List.length_nil, List.drop_zero, List.drop_succ_cons, List.take_succ_cons, List.take_zero, Nat.zero_add, Nat.reduceAdd, Nat.reduceLeDiff, and_self, vsplice]
      generalize t.answers[i] = a at hstep ⊢
      obtain ⟨es, cl⟩ := p
      generalize hσ3 : (σ2.box [vi 0, vi 0, vi 0, vi 0, vi 0, vi 0] 60 6).write σ2.next [vi a.q.node, vi a.q.handler, vi a.q.count, vi a.q.index, vi a.q.copy, vi a.n] 60 6 σ2.next = σ3
      have g3 : σ3.heap σ2.next = .cells [vi a.q.node, vi a.q.handler, vi a.q.count, vi a.q.index, vi a.q.copy, vi a.n] 60 6 σ2.next := by rw [← hσ3, heap_write_self]
      have m3 : σ3.heap (σ.next + 1) = .obj (.map (encE es) cl) := by rw [← hσ3, heap_write_ne _ _ _ _ _ _ _ e1, heap_box_ne _ _ _ _ _ e1]; exact hmap
      have n3 : σ3.next = σ2.next + 1 := by rw [← hσ3]; rfl
      have l3 : σ.next ≤ σ3.low := by rw [← hσ3, low_write, low_box]; omega
      clear hσ3
      simp (decide := true) only [↓VW_region, ↓VW_seq, ↓VW_cond, ↓vbindN_normal, ↓VO_nil, ↓VO_cons, ↓VS_load, ↓VS_fa, ↓VS_bin, ↓vfev_tmp, ↓vfev_int, ↓vupd_same, ↓vupd_ne, Now_any, Got_some, ↓vld_ptr, vrdB_cells, vadd_ptr, vpart_one, ne_eq, ↓reduceIte, List.length_cons, List.length_nil, List.drop_zero, List.drop_succ_cons, List.take_succ_cons, List.take_zero, Nat.zero_add, Nat.reduceAdd, Nat.reduceLeDiff, h3, g3, vdel m3 hg.ndk, heap_put_ne _ _ _ _ e2, vbin_gtr]
      refine TestV_dec (fun hpos => ?_) (fun hno => ?_)
      · have m4 : (σ3.put (σ.next + 1) (.obj (.map (encE (delE es a.q)) cl))).heap (σ.next + 1) = .obj (.map (encE (delE es a.q)) cl) := heap_put_self _ _ _
        simp (decide := true) only [↓VW_region, ↓vbindN_normal, ↓vbindB_normal, ↓vbindL_normal, ↓VO_nil, ↓VO_cons, ↓VO_cons_drop, ↓VS_mv, ↓VS_load, ↓VS_fa, ↓VS_bin, ↓VS_extra0, ↓vfev_tmp, ↓vfev_int, ↓vupd_same, ↓vupd_ne, Now_any, Got_some, List.map_cons, List.map_nil, ↓vld_ptr, vrdB_cells, vadd_ptr, vpart_agg, vpart_one, ne_eq, Nat.add_zero, ↓reduceIte, List.length_cons, List.length_nil, List.drop_zero, List.drop_succ_cons, List.take_succ_cons, List.take_zero, Nat.zero_add, Nat.reduceAdd, Nat.reduceLeDiff, true_and, h3, g3, heap_put_ne _ _ _ _ e2, vset m4 a.q (lookE_del _ _), h8, h9, h10, vbin_add, w64_1 hi hl]
        refine ⟨m - 1, by omega, by simp only [low_put]; omega, by simp only [next_put]; omega, i + 1, rfl, by omega, ?_⟩
        rw [heap_put_self, hstep, ansStep, if_pos hpos]
      · simp (decide := true) only [↓VW_skip, ↓VW_region, ↓vbindN_normal, ↓vbindB_normal, ↓vbindL_normal, ↓VO_nil, ↓VO_cons, ↓VS_mv, ↓VS_bin, ↓vfev_tmp, ↓vfev_int, ↓vupd_same, ↓vupd_ne, Now_any, Got_some, ne_eq, h3, h8, h9, h10, vbin_add, w64_1 hi hl, true_and]
        refine ⟨m - 1, by omega, by simp only [low_put]; omega, by simp only [next_put]; omega, i + 1, rfl, by omega, ?_⟩
        rw [heap_put_self, hstep, ansStep, if_neg hno]
    · simp (decide := true) only [↓VW_exit, ↓vbindN_exit, ↓vbindL_exit, ↓vatExit_self, ↓vupd_ne, ne_eq, h3, true_and]
      rw [List.take_of_length_le (by omega)] at hmap
      exact ⟨hlo, hn, hmap⟩
  · rintro fe σ2 ⟨h3, hlo, hn, hmap⟩
    simp (decide := true) only [↓VW_ret, ↓VW_region, ↓VW_seq, ↓vbindN_normal, ↓vbindB_self, ↓vatEnd_ret, ↓VO_nil, ↓VO_cons, ↓VS_mv, ↓vfev_tmp, ↓vupd_same, Now_any, Got_some, vrs_one, vr1_tmp, h3]
    exact ⟨hlo, _, rfl, by omega, hn, hmap⟩
/-- tape.Parts. -/
def partsN (t : Tape) : Nat := t.events.length + (ansF t.answers).1.length
theorem parts_any (t : Tape) (he : t.events.length ≤ 1000000) (hl : t.answers.length ≤ 1000000) : VD Try.prog 6 [tapeV t] (vi (partsN t)) := by
  intro σ
  refine VC_body XF6 ?_
  simp (decide := true) only [↓VW_ret, ↓VW_region, ↓VW_draw, ↓VW_seq, ↓vbindN_normal, ↓vatEnd_ret, ↓VO_nil, ↓VO_cons, List.zip_cons_cons, List.zip_nil_left, ↓VM_cons, ↓vearlyP_false, ↓VS_mv, ↓VS_call, ↓VS_load, ↓VS_fa, ↓VS_len, ↓VS_box, ↓vfev_tmp, ↓vfev_int, ↓vupd_same, ↓vupd_ne, ↓vfe0_zero, Now_any, Got_some, vrs_one, vr1_tmp, List.map_cons, List.map_nil, ↓vld_ptr, vrdB_cells, vadd_ptr, len_vl, vpart_agg, vpart_one, cs_agg, vAll_vl, vAll_nil, Need_true, ne_eq, Nat.add_zero, next_box, next_fresh, heap_box, ↓reduceIte, List.length_cons, List.length_nil, List.drop_zero, List.take_succ_cons, List.take_zero, Nat.zero_add, Nat.reduceAdd, Nat.reduceLeDiff, xf6, tapeV]
  refine VCall.pure (VC.less (answers_any t hl _) ⟨Fg.rfl _, trivial⟩) (fun _ _ h => h) ?_
  rintro v σ' ⟨m, rfl, h1, h2, h3⟩ hs
  have hlen := ansF_len t.answers
  have hw : w64 ((t.events.length : Int) + (ansF t.answers).1.length) = (partsN t : Nat) := by
    rw [w64_ok (by omega) (by omega)]; unfold partsN; omega
  simp (decide := true) only [↓vbindN_normal, ↓VM_nil, ↓VM_cons, ↓vearlyP_false, ↓VS_mv, ↓VS_bin, ↓VS_extraM, ↓vfev_tmp, ↓vupd_same, ↓vupd_ne, Now_any, Got_some, List.map_cons, List.map_nil, ne_eq, vmlen h3, vbin_add, hw, fg_int]
  exact ⟨by rw [hs.low]; exact Nat.le_refl _, trivial⟩
end Go.Proofs.Ytmbbebfpjclghaa

set_option linter.unusedSimpArgs false
set_option linter.unusedSectionVars false
set_option linter.unusedVariables false
namespace Go.Proofs.Ytmbbebfpjclghaa
open Go Go.RowKit

theorem keys_any (m : Nat) (σ : VSt) : VC Try.prog 18 [.map m] σ (fun r σ' => σ.next ≤ σ'.low ∧ ∃ bx t z b, r = .fn 33 [] [.ptr bx 0] ∧ σ.next ≤ bx ∧ bx < σ'.next ∧ σ'.heap bx = .cells [.map m] t z b) := by
  refine VC_body XF18 ?_
  simp (decide := true) only [↓VW_ret, ↓VW_region, ↓VW_seq, ↓vbindN_normal, ↓vatEnd_ret, ↓VO_nil, ↓VO_cons, ↓VS_mv, ↓VS_mkFunc, ↓VS_box, ↓vfev_tmp, ↓vfev_nilF, ↓vupd_same, ↓vupd_ne, ↓vfe0_zero, Now_any, Got_some, vrs_one, vr1_tmp, List.map_cons, List.map_nil, cs_map, vAll_map, vAll_nil, Need_true, ne_eq, next_box, next_fresh, heap_box, heap_fresh, List.length_cons, List.length_nil, Nat.zero_add, xf18]
  exact ⟨Nat.le_refl _, σ.next, _, _, _, rfl, Nat.le_refl _, by simp [], heap_box_self _ _ _ _⟩

theorem vs_cs (q : Msg) : q.vs = q.cs.map VV.v := rfl
theorem vencs_encs (l : List Msg) : vencs l = (encs l).map VV.v := by
  induction l with
  | nil => rfl
  | cons a l ih => rw [vencs_cons, encs_cons, List.map_append, ih]; rfl
theorem encs_flatM (l : List Msg) : flatL (encs l) = true := by
  induction l with
  | nil => rfl
  | cons a l ih =>
    rw [encs_cons]
    unfold flatL at *
    rw [List.all_append, ih]
    rfl
theorem sortedV {es : EL} {cl bx m : Nat} (σ : VSt) {t : TypeId} {z b : Nat} (hbx : σ.heap bx = .cells [.map m] t z b) (hm : σ.heap m = .obj (.map (encE es) cl)) (hg : GoodE es cl) (hl : es.length ≤ 12) :
    VC Try.prog 17 [.fn 33 [] [.ptr bx 0], .fn 19 [] []] σ (fun r σ' => σ.next ≤ σ'.low ∧ r.fg = vl (sortQ (es.map (·.1)))) := by
  intro S args' hs hargs
  have ha : args' = #[.func (.func 33) #[] #[.pointer (some ⟨bx, 0, none⟩)], .func (.func 19) #[] #[]] := by
    have hlen : args'.toList.length = 2 := by rw [← hargs.1]; rfl
    match hL : args'.toList, hlen with
    | [x, y], _ =>
      rw [hL] at hargs
      have h0 := hargs.2 0 (by simp) (by simp)
      have h1 := hargs.2 1 (by simp) (by simp)
      simp only [List.getElem_cons_zero, List.getElem_cons_succ] at h0 h1
      have e : args' = #[x, y] := by simpa using congrArg List.toArray hL
      rw [e]
      congr 2
      · cases h0 with
        | fn _ _ _ a' b' ha hb k1 k2 =>
          have ea : a' = #[] := by apply Array.eq_empty_of_size_eq_zero; rw [← ha]; rfl
          have hbl : b'.toList.length = 1 := by simpa using hb.symm
          match hB : b'.toList, hbl with
          | [u], _ =>
            have eb : b' = #[u] := by simpa using congrArg List.toArray hB
            subst ea eb
            have := k2 0 (by simp) (by simp)
            simp only [List.getElem_cons_zero] at this
            cases this
            rfl
      · cases h1 with
        | fn _ _ _ a' b' ha hb k1 k2 =>
          have ea : a' = #[] := by apply Array.eq_empty_of_size_eq_zero; rw [← ha]; rfl
          have eb : b' = #[] := by apply Array.eq_empty_of_size_eq_zero; rw [← hb]; rfl
          subst ea eb
          rfl
  refine XC.given fun hw hsc => ?_
  have hlt : ∀ {id : Nat}, σ.heap id ≠ .gone → id < S.next := fun {id} h => by
    rw [← hs.next]
    exact Nat.lt_of_not_le fun hle => h (hs.hi id hle).1
  obtain ⟨c', an, g1, g2⟩ := hs.cells hbx
  have hrd : (S.get bx).rd 0 1 = some [.map (some m)] := by
    rw [g1]
    match c', g2 with
    | [u], g2 =>
      have := g2.2 0 (by simp) (by simp)
      simp only [List.getElem_cons_zero] at this
      cases this
      rfl
    | [], g2 => exact absurd g2.1 (by simp)
    | _ :: _ :: _, g2 => exact absurd g2.1 (by simp)
  have hat : AtSF args' S bx m cl es := ⟨ha, hrd, hlt (by rw [hbx]; simp), hlt (by rw [hm]; simp), ⟨⟨vobj hs hm, hg.lt, hg.nd⟩, hg.ndk⟩, hl, hw, hsc⟩
  have hrun := runSF_eq hat
  refine XC_prim XZ17 ⟨(resSF es S).1, (resSF es S).2, ?_, ?_⟩
  · show runAll _ _ _ = _
    unfold runAll
    rw [if_pos rfl, hrun]
  · unfold resSF
    split
    · rename_i he
      subst he
      exact ⟨nilS, σ.fresh, hs.fresh, .refl _ _, .v _ rfl, Nat.le_refl _, by unfold nilS; rw [fg_nilS]; simp [sortQ, vl_nil]⟩
    · obtain ⟨k1, k2, k3⟩ := hs.fresh.newTok (encs (sortQ (es.map (·.1)))) 54 5
      have hsl : (sortQ (es.map (·.1))).length = es.length := by rw [(sortQ_perm _).length_eq]; simp
      refine ⟨vo (sortQ (es.map (·.1))) σ.next, σ.fresh.newTok, k1, k2, ?_, Nat.le_refl _, fg_vo _ _⟩
      unfold vo
      rw [hsl, ← hs.next]
      refine .own 5 σ.next es.length (encs (sortQ (es.map (·.1)))) 54 _ k3 (by rw [St.get_alloc, if_pos hs.next]; rfl) (by rw [vencs_length, hsl]; rfl) (by rw [vencs_encs]; simp) (fun i h1 h2 => ?_)
      have := (VRelL.flat (G := σ.fresh.newTok.G) (S := S.alloc (.cells (encs (sortQ (es.map (·.1)))) 54 5 true [])) (encs_flatM (sortQ (es.map (·.1))))).2 i (by rw [← vencs_encs]; exact h1) h2
      simp only [← vencs_encs] at this
      exact this
theorem mapsEqualV {x y : EL} {c1 c2 m1 m2 : Nat} (σ : VSt) (h1 : σ.heap m1 = .obj (.map (encE x) c1)) (h2 : σ.heap m2 = .obj (.map (encE y) c2)) (g1 : GoodE x c1) (g2 : GoodE y c2) :
    VC Try.prog 27 [.map m1, .map m2] σ (fun r σ' => σ.next ≤ σ'.low ∧ r.fg = vb (eqE x y)) := by
  intro S args' hs hargs
  have ha : args' = #[.map (some m1), .map (some m2)] := by
    have hlen : args'.toList.length = 2 := by rw [← hargs.1]; rfl
    match hL : args'.toList, hlen with
    | [u, v], _ =>
      rw [hL] at hargs
      have h0 := hargs.2 0 (by simp) (by simp)
      have h1 := hargs.2 1 (by simp) (by simp)
      simp only [List.getElem_cons_zero, List.getElem_cons_succ] at h0 h1
      have e : args' = #[u, v] := by simpa using congrArg List.toArray hL
      rw [e]
      cases h0
      cases h1
      rfl
  refine XC.given fun hw hsc => ?_
  have hlt : ∀ {id : Nat}, σ.heap id ≠ .gone → id < S.next := fun {id} h => by
    rw [← hs.next]
    exact Nat.lt_of_not_le fun hle => h (hs.hi id hle).1
  have hat : AtEq args' S m1 m2 c1 c2 x y := ⟨ha, hlt (by rw [h1]; simp), hlt (by rw [h2]; simp), ⟨⟨vobj hs h1, g1.lt, g1.nd⟩, g1.ndk⟩, ⟨⟨vobj hs h2, g2.lt, g2.nd⟩, g2.ndk⟩, hw, hsc⟩
  refine XC_prim XZ27 ⟨.bool (eqE x y), S, ?_, vb (eqE x y), σ.fresh, hs.fresh, .refl _ _, .v _ rfl, Nat.le_refl _, fg_bool _⟩
  show runAll _ _ _ = _
  unfold runAll
  rw [if_neg (by decide), if_pos rfl, runEq_eq hat]

/-- the answers in order. -/
def ansOf (es : EL) (q : Msg) : Ans := ⟨q, (lookE es q).getD 0⟩
def normA (l : List Ans) : List Ans := (sortQ ((ansF l).1.map (·.1))).map (ansOf (ansF l).1)
def normT (t : Tape) : Tape := ⟨t.events, normA t.answers⟩
theorem normA_len (l : List Ans) : (normA l).length ≤ l.length := by
  unfold normA
  rw [List.length_map, (sortQ_perm _).length_eq, List.length_map]
  exact ansF_len l

theorem vsplice1 (x y u : VV) : vsplice [x, y] 1 [u] = [x, u] := rfl
theorem vsplice0 (x y u : VV) : vsplice [x, y] 0 [u] = [u, y] := rfl
theorem normal_any (t : Tape) (he : t.events.length ≤ 1000000) (hl : t.answers.length ≤ 12) : VD Try.prog 4 [tapeV t] (tapeV (normT t)) := by
  intro σ
  refine VC_body XF4 ?_
  simp (decide := true) only [↓VW_region, ↓VW_seq, ↓vbindN_normal, ↓VO_nil, ↓VO_cons, ↓VS_call, ↓VS_load, ↓VS_box, ↓VS_zeroA, ↓vfev_tmp, ↓vupd_same, ↓vupd_ne, ↓vfe0_zero, Now_any, Got_some, List.map_cons, List.map_nil, ↓vld_ptr, vrdB_cells, vpart_agg, cs_agg, vAll_vl, vAll_nil, Need_true, ne_eq, next_box, next_fresh, heap_box, ↓reduceIte, Nat.left_eq_add, List.length_cons, List.length_nil, List.drop_zero, List.take_succ_cons, List.take_zero, Nat.zero_add, Nat.reduceAdd, Nat.reduceLeDiff, xf4, tapeV]
  generalize hA : ((σ.fresh.box [vl t.events, vl t.answers] 26 2).box [.v (.slice none 0 0), .v (.slice none 0 0)] 26 2) = A
  have nA : A.next = σ.next + 2 := by rw [← hA]; rfl
  have lA : A.low = σ.next := by rw [← hA]; rfl
  have g0 : A.heap σ.next = .cells [vl t.events, vl t.answers] 26 2 σ.next := by rw [← hA, heap_box_ne _ _ _ _ _ (by simp [next_box, next_fresh])]; exact heap_box_self _ _ _ _
  have g1 : A.heap (σ.next + 1) = .cells [.v (.slice none 0 0), .v (.slice none 0 0)] 26 2 (σ.next + 1) := by rw [← hA]; exact heap_box_self _ _ _ _
  clear hA
  refine VCall.pure (VC.less (answers_any t (by omega) _) ⟨Fg.rfl _, trivial⟩) (fun _ _ h => h) ?_
  rintro v B ⟨m, rfl, h1, h2, h3⟩ hs
  have hlen := ansF_len t.answers
  have hg := ansF_good t.answers
  have b0 := (hs.heap _ (by omega)).trans g0
  have b1 := (hs.heap _ (by omega)).trans g1
  have nB := hs.next
  have lB := hs.low
  simp (decide := true) only [↓VW_region, ↓VW_seq, ↓vbindN_normal, ↓VO_nil, ↓VO_cons, ↓VS_mv, ↓VS_call, ↓VS_load, ↓VS_fa, ↓vfev_tmp, ↓vupd_same, ↓vupd_ne, Now_any, Got_some, List.map_cons, List.map_nil, ↓vld_ptr, vrdB_cells, vadd_ptr, vpart_one, ne_eq, Nat.add_zero, ↓reduceIte, List.length_cons, List.length_nil, List.drop_zero, List.take_succ_cons, List.take_zero, Nat.zero_add, Nat.reduceAdd, Nat.reduceLeDiff, b0]
  refine VCall.pure (VC.less (cloneE_any t.events he _) ⟨Fg.rfl _, trivial⟩) (fun _ _ h => h) ?_
  rintro ev C hev hs2
  have nC := hs2.next
  have lC := hs2.low
  have c1 := (hs2.heap _ (by omega)).trans b1
  have cm := (hs2.heap _ h2).trans h3
  replace hev := hev.rd
  simp (decide := true) only [↓VW_region, ↓VW_seq, ↓vbindN_normal, ↓VO_nil, ↓VO_cons, ↓VO_cons_drop, ↓VS_mv, ↓VS_call, ↓VS_build, ↓VS_zeroA, ↓VS_store, ↓vfev_tmp, ↓vupd_same, ↓vupd_ne, Now_any, Got_some, List.map_cons, List.map_nil, vst_ptr, vstB_cells, cs_agg, vAll_v, vAll_nil, Need_true, ne_eq, List.append_nil, List.nil_append, List.cons_append, heap_box, ↓reduceIte, List.length_cons, List.length_nil, List.drop_zero, List.drop_succ_cons, List.take_zero, Nat.zero_add, Nat.reduceAdd, and_self, vfill_nil, vfill_cons, vsplice, hev.cs, hev.all]
  generalize hD : (C.box [.v (.slice none 0 0), .v (.slice none 0 0)] 26 2).write C.next [ev, .v (.slice none 0 0)] 26 2 C.next = D
  have nD : D.next = C.next + 1 := by rw [← hD]; rfl
  have lD : D.low = C.low := by rw [← hD, low_write, low_box]; omega
  have dn : D.heap C.next = .cells [ev, .v (.slice none 0 0)] 26 2 C.next := by rw [← hD]; exact heap_write_self _ _ _ _ _ _
  have dold : ∀ id, id < C.next → D.heap id = C.heap id := fun id hid => by rw [← hD, heap_write_ne _ _ _ _ _ _ _ (by omega), heap_box_ne _ _ _ _ _ (by omega)]
  have dm := (dold m (by omega)).trans cm
  have d1 := (dold _ (by omega)).trans c1
  clear hD
  refine VCall.pure (keys_any m D) (fun _ _ h => h) ?_
  rintro v E ⟨bx, t', z', b', rfl, e1, e2, e3⟩ hs3
  have em := (hs3.heap m (by omega)).trans dm
  have nE := hs3.next
  have lE := hs3.low
  simp (decide := true) only [↓VO_cons, ↓VS_call, ↓vfev_tmp, ↓vfev_func, ↓vupd_same, List.map_cons, List.map_nil]
  refine VCall.data (sortedV E e3 em hg (by omega)) ⟨Fg.rfl _, Fg.rfl _, trivial⟩ (fun F hs4 => ?_)
  have fm := (hs4.heap m (by omega)).trans em
  have fn := (hs4.heap C.next (by omega)).trans ((hs3.heap _ (by omega)).trans dn)
  have f1 := (hs4.heap (σ.next + 1) (by omega)).trans ((hs3.heap _ (by omega)).trans d1)
  have nF := hs4.next
  have lF := hs4.low
  have hsl : (sortQ ((ansF t.answers).1.map (·.1))).length ≤ 12 := by rw [(sortQ_perm _).length_eq, List.length_map]; omega
  have hnorm : normA t.answers = (sortQ ((ansF t.answers).1.map (·.1))).map (ansOf (ansF t.answers).1) := rfl
  generalize hks : sortQ ((ansF t.answers).1.map (·.1)) = ks at hsl hnorm ⊢
  generalize (ansF t.answers).1 = es at fm hnorm
  generalize (ansF t.answers).2 = cl at fm
  simp (decide := true) only [↓VW_block, ↓VW_stuck, ↓vbindN_normal, ↓VO_nil, ↓VO_cons, ↓VS_mv, ↓VS_len, ↓vfev_tmp, ↓vfev_int, ↓vupd_same, Now_any, Got_some, len_vl]
  refine VW_loopR 0 (fun k fe G => fe 2 = .ptr (σ.next + 1) 0 ∧ fe 3 = .map m ∧ fe 4 = .ptr C.next 0 ∧ fe 15 = vl ks ∧ fe 16 = vi ks.length ∧ σ.next ≤ G.low ∧ F.next ≤ G.next ∧ G.heap m = .obj (.map (encE es) cl) ∧ G.heap (σ.next + 1) = .cells [.v (.slice none 0 0), .v (.slice none 0 0)] 26 2 (σ.next + 1) ∧
      ∃ (i : Nat) (u : VV), fe 17 = vi i ∧ k + i = ks.length ∧ G.heap C.next = .cells [ev, u] 26 2 C.next ∧ App G F.next u ((ks.take i).map (ansOf es)))
    (fun fe G => fe 2 = .ptr (σ.next + 1) 0 ∧ fe 4 = .ptr C.next 0 ∧ σ.next ≤ G.low ∧ G.heap (σ.next + 1) = .cells [.v (.slice none 0 0), .v (.slice none 0 0)] 26 2 (σ.next + 1) ∧
      ∃ u, G.heap C.next = .cells [ev, u] 26 2 C.next ∧ App G F.next u (ks.map (ansOf es))) ks.length ?_ ?_ ?_
  · simp (decide := true) only [↓vupd_same, ↓vupd_ne, ne_eq, true_and]
    exact ⟨by omega, Nat.le_refl _, fm, f1, 0, _, rfl, by omega, fn, .nil _ _⟩
  · rintro k fe G ⟨q2, q3, q4, q15, q16, hlo, hn, gm, gr, i, u, q17, hk, gn, hu⟩
    simp (decide := true) only [↓VW_region, ↓VW_seq, ↓VW_cond, ↓vbindN_normal, ↓VO_nil, ↓VO_cons, ↓VS_bin, ↓vfev_tmp, ↓vupd_same, Now_any, Got_some, q16, q17, vbin_lss]
    refine TestV_dec (fun hlt => ?_) (fun hge => ?_)
    · have hi : i < ks.length := by omega
      have n1 : C.next ≠ G.next := by omega
      have n2 : m ≠ G.next := by omega
      have n3 : σ.next + 1 ≠ G.next := by omega
      simp (decide := true) only [↓VW_skip, ↓VW_region, ↓VW_draw, ↓VW_seq, ↓VW_block, ↓vbindN_normal, ↓VO_nil, ↓VO_cons, ↓VO_cons_drop, List.zip_cons_cons, List.zip_nil_left, ↓VM_cons, ↓vearlyP_false, ↓VS_load, ↓VS_fa, ↓VS_ia, ↓VS_bin, ↓VS_zeroA, ↓VS_store, ↓vfev_tmp, ↓vfev_int, ↓vupd_same, ↓vupd_ne, Now_any, Got_some, List.map_cons, List.map_nil, vst_ptr, vstB_cells, vpart_agg, cs_agg, vAll_v, vAll_nil, Need_true, ne_eq, List.append_nil, List.nil_append, next_box, next_write, q15, q17, via_vl hi, wMsg, vld_vep hi, eMsg, heap_box, ↓reduceIte, List.length_cons, List.length_nil, List.drop_zero, List.drop_succ_cons, List.take_succ_cons, List.take_zero, Nat.zero_add, Nat.reduceAdd, Nat.reduceLeDiff, and_self, vsplice]
      have hkeep : (ks.take (i + 1)).map (ansOf es) = (ks.take i).map (ansOf es) ++ [ansOf es ks[i]] := by rw [List.take_add_one, List.getElem?_eq_getElem hi, List.map_append]; rfl
      generalize ks[i] = q at hkeep ⊢
      generalize hH : (G.box [vi 0, vi 0, vi 0, vi 0, vi 0] 54 5).write G.next [vi q.node, vi q.handler, vi q.count, vi q.index, vi q.copy] 54 5 G.next = H
      have h5 : H.heap G.next = .cells [vi q.node, vi q.handler, vi q.count, vi q.index, vi q.copy] 54 5 G.next := by rw [← hH, heap_write_self]
      have hold : ∀ id, id ≠ G.next → H.heap id = G.heap id := fun id hid => by rw [← hH, heap_write_ne _ _ _ _ _ _ _ hid, heap_box_ne _ _ _ _ _ hid]
      have hm5 := (hold m n2).trans gm
      have hn5 := (hold _ n1).trans gn
      have hr5 := (hold _ n3).trans gr
      have nH : H.next = G.next + 1 := by rw [← hH]; rfl
      have lH : H.low = min G.low G.next := by rw [← hH, low_write, low_box]
      have huH : App H F.next u ((ks.take i).map (ansOf es)) := hu.keep (by omega) (fun tk _ _ => by rw [← hH]; rfl)
      clear hH
      simp (decide := true) only [↓VM_cons, ↓vearlyP_false, ↓VS_mv, ↓VS_load, ↓VS_build, ↓VS_buildSlice, ↓VS_extraL, ↓vfev_tmp, ↓vupd_same, ↓vupd_ne, Now_any, Got_some, List.map_cons, List.map_nil, ↓vld_ptr, vrdB_cells, vadd_ptr, vpart_agg, vpart_one, cs_agg, cs_v, ne_eq, List.append_nil, List.nil_append, List.cons_append, ↓reduceIte, List.length_cons, List.length_nil, List.drop_zero, List.drop_succ_cons, List.take_succ_cons, List.take_zero, Nat.zero_add, Nat.reduceAdd, Nat.reduceLeDiff, and_self, q3, q4, hn5, h5, vlook hm5, vfill_nil, vfill_cons, vsplice]
      refine VBuild.own rfl rfl rfl ?_
      simp (decide := true) only [↓VM_cons, ↓vearlyP_false, ↓VS_append, ↓vfev_tmp, ↓vupd_same, ↓vupd_ne, Now_any, cs_agg, ne_eq]
      have huI : App H.newTok F.next u ((ks.take i).map (ansOf es)) := huH.sub (Sub.newTok _)
      have hx : vcont H.newTok 6 (.own 6 1 (List.map VV.fg [vi q.node, vi q.handler, vi q.count, vi q.index, vi q.copy, vi ((lookE es q).getD 0)]) H.next) = some ([ansOf es q].length, vencs [ansOf es q]) := by
        simp only [List.map_cons, List.map_nil, fg_int, vencs_one]; rfl
      obtain ⟨u2, J, a1, a2, a3, a4⟩ := huI.push (esz := 6) (bytes := 48) hx rfl (by unfold reach; simp; omega) (by decide) (by rw [next_newTok]; omega)
      refine VAppend.own a1 ?_
      have jn : J.heap C.next = .cells [ev, u] 26 2 C.next := by rw [a3.heap]; exact hn5
      have jm : J.heap m = .obj (.map (encE es) cl) := by rw [a3.heap]; exact hm5
      have jr : J.heap (σ.next + 1) = .cells [.v (.slice none 0 0), .v (.slice none 0 0)] 26 2 (σ.next + 1) := by rw [a3.heap]; exact hr5
      have jx := a3.next
      have jl := a3.low
      simp only [next_newTok, low_newTok] at jx jl
      simp (decide := true) only [↓vbindN_normal, ↓vbindB_normal, ↓vbindL_normal, ↓VO_nil, ↓VO_cons, ↓VM_nil, ↓VM_cons, ↓VM_cons_drop, ↓vearlyP_false, ↓VS_mv, ↓VS_fa, ↓VS_store, ↓vfev_tmp, ↓vupd_same, ↓vupd_ne, Now_any, Got_some, vst_ptr, vstB_cells, vadd_ptr, vAll_nil, ne_eq, next_write, heap_write, ↓reduceIte, List.length_cons, List.length_nil, Nat.zero_add, Nat.reduceAdd, Nat.reduceLeDiff, true_and, and_self, q4, jn, a2.cs, a2.all, vsplice1, q17, vbin_add, w64_1 hi (by omega : ks.length ≤ 1000000), q2, q3, q15, q16, true_and]
      have m1 : m ≠ C.next := by omega
      have m2 : σ.next + 1 ≠ C.next := by omega
      refine ⟨k - 1, by omega, by rw [low_write]; omega, by omega, by rw [if_neg m1]; exact jm, by rw [if_neg m2]; exact jr, i + 1, u2, rfl, by omega, rfl, ?_⟩
      rw [hkeep]
      exact a2.keep (Nat.le_refl _) (fun _ _ _ => rfl)
    · simp (decide := true) only [↓VW_exit, ↓vbindN_exit, ↓vbindL_exit, ↓vatExit_self, ↓vupd_ne, ne_eq, q2, q4, true_and]
      rw [List.take_of_length_le (by omega)] at hu
      exact ⟨hlo, gr, u, gn, hu⟩
  · rintro fe G ⟨q2, q4, hlo, gr, u, gn, hu⟩
    simp (decide := true) only [↓VW_ret, ↓VW_region, ↓VW_seq, ↓vbindN_normal, ↓vbindB_self, ↓vatEnd_ret, ↓VO_nil, ↓VO_cons, ↓VO_cons_drop, ↓VS_load, ↓VS_store, ↓vfev_tmp, ↓vupd_same, ↓vupd_ne, Now_any, Got_some, vrs_one, vr1_cell, List.map_cons, List.map_nil, ↓vld_ptr, vrdB_cells, vst_ptr, vstB_cells, vpart_agg, cs_agg, vAll_nil, ne_eq, List.append_nil, List.nil_append, heap_write, ↓reduceIte, List.length_cons, List.length_nil, List.drop_zero, List.drop_succ_cons, List.take_succ_cons, List.take_zero, Nat.zero_add, Nat.reduceAdd, Nat.reduceLeDiff, and_self, q2, q4, gn, gr, hev.all, hu.all, vsplice, fg_agg, hev.fg, hu.fg]
    refine ⟨by rw [low_write]; omega, ?_⟩
    unfold normT
    rw [hnorm]
end Go.Proofs.Ytmbbebfpjclghaa

set_option linter.unusedSimpArgs false
set_option linter.unusedSectionVars false
set_option linter.unusedVariables false
namespace Go.Proofs.Ytmbbebfpjclghaa
open Go Go.RowKit

/-- what is left of a list when some places are left out, counted from b on. -/
def cutL {α : Type} (ps : List Int) : Nat → List α → List α
  | _, [] => []
  | k, a :: r => if ps.contains (k : Int) then cutL ps (k + 1) r else a :: cutL ps (k + 1) r
theorem cutL_append {α : Type} (ps : List Int) : ∀ (l m : List α) (k : Nat), cutL ps k (l ++ m) = cutL ps k l ++ cutL ps (k + l.length) m := by
  intro l
  induction l with
  | nil => intro m k; simp [cutL]
  | cons a l ih =>
    intro m k
    simp only [List.cons_append, cutL, List.length_cons]
    rw [ih, show k + 1 + l.length = k + (l.length + 1) by omega]
    split <;> rfl
theorem cutL_take {α : Type} (ps : List Int) (b : Nat) (l : List α) (i : Nat) (hi : i < l.length) : cutL ps b (l.take (i + 1)) = cutL ps b (l.take i) ++ (if ps.contains ((b + i : Nat) : Int) then [] else [l[i]]) := by
  rw [List.take_add_one, List.getElem?_eq_getElem hi, cutL_append]
  congr 1
  rw [List.length_take, Nat.min_eq_left (by omega)]
  simp only [Option.toList, cutL]
theorem cutL_len {α : Type} (ps : List Int) : ∀ (l : List α) (k : Nat), (cutL ps k l).length ≤ l.length := by
  intro l
  induction l with
  | nil => intro k; simp [cutL]
  | cons a l ih =>
    intro k
    have := ih (k + 1)
    simp only [cutL]
    split <;> simp <;> omega
def withoutT (t : Tape) (ps : List Int) : Tape := ⟨cutL ps 0 t.events, cutL ps t.events.length (normA t.answers)⟩

theorem without_any (t : Tape) (ps : List Int) (he : t.events.length ≤ 100000) (hl : t.answers.length ≤ 12) (hp : ps.length ≤ 1000000) : VD Try.prog 14 [tapeV t, vl ps] (tapeV (withoutT t ps)) := by
  intro σ
  refine VC_body XF14 ?_
  simp (decide := true) only [↓VW_region, ↓VW_seq, ↓vbindN_normal, ↓VO_nil, ↓VO_cons, ↓VS_call, ↓VS_load, ↓VS_box, ↓VS_zeroA, ↓vfev_tmp, ↓vupd_same, ↓vupd_ne, ↓vfe0_zero, Now_any, Got_some, List.map_cons, List.map_nil, ↓vld_ptr, vrdB_cells, vpart_agg, cs_agg, vAll_vl, vAll_nil, Need_true, ne_eq, next_box, next_fresh, heap_box, ↓reduceIte, Nat.left_eq_add, List.length_cons, List.length_nil, List.drop_zero, List.take_succ_cons, List.take_zero, Nat.zero_add, Nat.reduceAdd, Nat.reduceLeDiff, xf14, tapeV]
  generalize hA : ((σ.fresh.box [vl t.events, vl t.answers] 26 2).box [.v (.slice none 0 0), .v (.slice none 0 0)] 26 2) = A
  have nA : A.next = σ.next + 2 := by rw [← hA]; rfl
  have lA : A.low = σ.next := by rw [← hA]; rfl
  have gr : A.heap (σ.next + 1) = .cells [.v (.slice none 0 0), .v (.slice none 0 0)] 26 2 (σ.next + 1) := by rw [← hA]; exact heap_box_self _ _ _ _
  clear hA
  refine VCall.dat (normal_any t (by omega) hl) ⟨Fg.rfl _, trivial⟩ (fun B hs => ?_)
  have nB := hs.next
  have lB := hs.low
  have br := (hs.heap _ (by omega)).trans gr
  have hna := normA_len t.answers
  have hw : withoutT t ps = ⟨cutL ps 0 t.events, cutL ps t.events.length (normA t.answers)⟩ := rfl
  simp (decide := true) only [↓VW_region, ↓VW_seq, ↓VW_block, ↓VW_stuck, ↓vbindN_normal, ↓VO_nil, ↓VO_cons, ↓VO_cons_drop, ↓VS_mv, ↓VS_load, ↓VS_fa, ↓VS_len, ↓VS_zeroA, ↓VS_store, ↓vfev_tmp, ↓vfev_int, ↓vupd_same, ↓vupd_ne, Now_any, Got_some, List.map_cons, List.map_nil, ↓vld_ptr, vrdB_cells, vst_ptr, vstB_cells, vadd_ptr, len_vl, vpart_one, cs_agg, vAll_vl, vAll_nil, Need_true, ne_eq, List.append_nil, List.nil_append, Nat.add_zero, next_box, next_write, heap_box, heap_write, ↓reduceIte, Nat.left_eq_add, List.length_cons, List.length_nil, List.drop_zero, List.drop_succ_cons, List.take_succ_cons, List.take_zero, Nat.zero_add, Nat.reduceAdd, Nat.reduceLeDiff, and_self, vsplice, tapeV, normT]
  generalize normA t.answers = an at hna hw ⊢
  generalize hC : (((B.box [.v (.slice none 0 0), .v (.slice none 0 0)] 26 2).write B.next [vl t.events, vl an] 26 2 B.next).box [.v (.slice none 0 0), .v (.slice none 0 0)] 26 2) = C
  have nC : C.next = B.next + 2 := by rw [← hC]; rfl
  have lC : C.low = B.low := by rw [← hC]; show min B.low B.next = B.low; omega
  have c0 : C.heap B.next = .cells [vl t.events, vl an] 26 2 B.next := by rw [← hC, heap_box_ne _ _ _ _ _ (by simp [next_write, next_box]), heap_write_self]
  have c1 : C.heap (B.next + 1) = .cells [.v (.slice none 0 0), .v (.slice none 0 0)] 26 2 (B.next + 1) := by rw [← hC]; exact heap_box_self _ _ _ _
  have cr : C.heap (σ.next + 1) = .cells [.v (.slice none 0 0), .v (.slice none 0 0)] 26 2 (σ.next + 1) := by
    rw [← hC, heap_box_ne _ _ _ _ _ (by simp [next_write, next_box]; omega), heap_write_ne _ _ _ _ _ _ _ (by omega), heap_box_ne _ _ _ _ _ (by omega)]; exact br
  clear hC
  refine VW_loopR 0 (fun k fe G => fe 1 = vl ps ∧ fe 4 = .ptr (σ.next + 1) 0 ∧ fe 5 = .ptr B.next 0 ∧ fe 6 = .ptr (B.next + 1) 0 ∧ fe 14 = vl t.events ∧ fe 15 = vi t.events.length ∧ σ.next ≤ G.low ∧ C.next ≤ G.next ∧ G.heap B.next = .cells [vl t.events, vl an] 26 2 B.next ∧ G.heap (σ.next + 1) = .cells [.v (.slice none 0 0), .v (.slice none 0 0)] 26 2 (σ.next + 1) ∧
      ∃ (i : Nat) (u : VV), fe 16 = vi i ∧ k + i = t.events.length ∧ G.heap (B.next + 1) = .cells [u, .v (.slice none 0 0)] 26 2 (B.next + 1) ∧ App G C.next u (cutL ps 0 (t.events.take i)))
    (fun fe G => fe 1 = vl ps ∧ fe 4 = .ptr (σ.next + 1) 0 ∧ fe 5 = .ptr B.next 0 ∧ fe 6 = .ptr (B.next + 1) 0 ∧ σ.next ≤ G.low ∧ C.next ≤ G.next ∧ G.heap B.next = .cells [vl t.events, vl an] 26 2 B.next ∧ G.heap (σ.next + 1) = .cells [.v (.slice none 0 0), .v (.slice none 0 0)] 26 2 (σ.next + 1) ∧
      ∃ u, G.heap (B.next + 1) = .cells [u, .v (.slice none 0 0)] 26 2 (B.next + 1) ∧ Rd u (cutL ps 0 t.events)) t.events.length ?_ ?_ ?_
  · simp (decide := true) only [↓vupd_same, ↓vupd_ne, ↓vfe0_zero, ↓vfe0_succ, ne_eq, true_and]
    exact ⟨by omega, Nat.le_refl _, c0, cr, 0, _, rfl, by omega, c1, .nil _ _⟩
  · rintro k fe G ⟨q1, q4, q5, q6, q14, q15, hlo, hn, g0, g2, i, u, q16, hk, gn, hu⟩
    simp (decide := true) only [↓VW_region, ↓VW_seq, ↓VW_cond, ↓vbindN_normal, ↓VO_nil, ↓VO_cons, ↓VS_bin, ↓vfev_tmp, ↓vupd_same, Now_any, Got_some, q15, q16, vbin_lss]
    refine TestV_dec (fun hlt => ?_) (fun hge => ?_)
    · have hi : i < t.events.length := by omega
      have n1 : B.next ≠ G.next := by omega
      have n2 : B.next + 1 ≠ G.next := by omega
      have n3 : σ.next + 1 ≠ G.next := by omega
      have hcut := cutL_take ps 0 t.events i hi
      rw [Nat.zero_add] at hcut
      simp (decide := true) only [↓VW_skip, ↓VW_region, ↓VW_seq, ↓VW_block, ↓vbindN_normal, ↓VO_nil, ↓VO_cons, ↓VO_cons_drop, ↓VS_mv, ↓VS_call, ↓VS_load, ↓VS_ia, ↓VS_zeroA, ↓VS_store, ↓vfev_tmp, ↓vupd_same, ↓vupd_ne, Now_any, Got_some, List.map_cons, List.map_nil, vst_ptr, vstB_cells, vpart_agg, cs_agg, vAll_v, vAll_nil, Need_true, ne_eq, List.append_nil, List.nil_append, q14, q16, via_vl hi, wEvt, vld_vep hi, eEvt, heap_box, ↓reduceIte, List.length_cons, List.length_nil, List.drop_zero, List.drop_succ_cons, List.take_succ_cons, List.take_zero, Nat.zero_add, Nat.reduceAdd, Nat.reduceLeDiff, and_self, vsplice]
      generalize t.events[i] = e at hcut ⊢
      generalize hH : (G.box [vi 0, vi 0, vi 0, vi 0, vi 0, vi 0, vi 0, vi 0] 50 8).write G.next [vi e.kind, vi e.node, vi e.arg, vi e.msg.node, vi e.msg.handler, vi e.msg.count, vi e.msg.index, vi e.msg.copy] 50 8 G.next = H
      have h5 : H.heap G.next = .cells [vi e.kind, vi e.node, vi e.arg, vi e.msg.node, vi e.msg.handler, vi e.msg.count, vi e.msg.index, vi e.msg.copy] 50 8 G.next := by rw [← hH, heap_write_self]
      have hold : ∀ id, id ≠ G.next → H.heap id = G.heap id := fun id hid => by rw [← hH, heap_write_ne _ _ _ _ _ _ _ hid, heap_box_ne _ _ _ _ _ hid]
      have h0 := (hold _ n1).trans g0
      have hn5 := (hold _ n2).trans gn
      have h2 := (hold _ n3).trans g2
      have nH : H.next = G.next + 1 := by rw [← hH]; rfl
      have lH : H.low = min G.low G.next := by rw [← hH, low_write, low_box]
      have huH : App H C.next u (cutL ps 0 (t.events.take i)) := hu.keep (by omega) (fun tk _ _ => by rw [← hH]; rfl)
      clear hH
      simp (decide := true) only [q1]
      refine VCall.dat (contains_any ps i hp) ⟨Fg.rfl _, Fg.rfl _, trivial⟩ (fun I hs2 => ?_)
      have nI := hs2.next
      have lI := hs2.low
      have i0 := (hs2.heap _ (by omega)).trans h0
      have in5 := (hs2.heap _ (by omega)).trans hn5
      have i2 := (hs2.heap _ (by omega)).trans h2
      have i5 := (hs2.heap _ (by omega)).trans h5
      have huI := huH.sub hs2
      simp (decide := true) only [↓VW_cond, ↓vbindN_normal, ↓VO_nil, ↓VO_cons, ↓VS_un, ↓vfev_tmp, ↓vupd_same, Now_any, Got_some, vun_not]
      refine TestV_bool (fun hb => ?_) (fun hb => ?_)
      · have hc : ps.contains (i : Int) = false := by simpa using hb
        rw [hc] at hcut
        simp (decide := true) only [↓VW_region, ↓VO_cons, ↓VS_load, ↓VS_fa, ↓VS_buildSlice, ↓vfev_tmp, ↓vupd_same, ↓vupd_ne, Now_any, Got_some, List.map_cons, List.map_nil, ↓vld_ptr, vrdB_cells, vadd_ptr, vpart_agg, vpart_one, ne_eq, Nat.add_zero, ↓reduceIte, List.length_cons, List.length_nil, List.drop_zero, List.take_succ_cons, List.take_zero, Nat.zero_add, Nat.reduceAdd, Nat.reduceLeDiff, q6, in5, i5]
        refine VBuild.own rfl rfl rfl ?_
        simp (decide := true) only [↓VO_cons, ↓VS_append, ↓vfev_tmp, ↓vupd_same, ↓vupd_ne, Now_any, cs_agg, ne_eq]
        have huJ : App I.newTok C.next u (cutL ps 0 (t.events.take i)) := huI.sub (Sub.newTok _)
        have hx : vcont I.newTok 8 (.own 8 1 (List.map VV.fg [vi e.kind, vi e.node, vi e.arg, vi e.msg.node, vi e.msg.handler, vi e.msg.count, vi e.msg.index, vi e.msg.copy]) I.next) = some ([e].length, vencs [e]) := by
          simp only [List.map_cons, List.map_nil, fg_int, vencs_one]; rfl
        have hcl := cutL_len ps (t.events.take i) 0
        simp only [List.length_take] at hcl
        obtain ⟨u2, J, a1, a2, a3, a4⟩ := huJ.push (esz := 8) (bytes := 64) hx rfl (by unfold reach; simp; omega) (by decide) (by rw [next_newTok]; omega)
        refine VAppend.own a1 ?_
        have j0 := (congrFun a3.heap B.next).trans i0
        have j2 := (congrFun a3.heap (σ.next + 1)).trans i2
        have jn := (congrFun a3.heap (B.next + 1)).trans in5
        have jx := a3.next
        have jl := a3.low
        simp only [next_newTok, low_newTok] at jx jl
        have m0 : B.next ≠ B.next + 1 := by omega
        have m2 : σ.next + 1 ≠ B.next + 1 := by omega
        simp (decide := true) only [↓VW_region, ↓vbindN_normal, ↓vbindB_normal, ↓vbindL_normal, ↓VO_nil, ↓VO_cons, ↓VO_cons_drop, ↓VS_mv, ↓VS_fa, ↓VS_bin, ↓VS_store, ↓vfev_tmp, ↓vfev_int, ↓vupd_same, ↓vupd_ne, Now_any, Got_some, vst_ptr, vstB_cells, vadd_ptr, vAll_nil, ne_eq, Nat.add_zero, next_write, q6, jn, a2.cs, a2.all, vsplice0, Nat.zero_add, List.length_cons, List.length_nil, Nat.reduceAdd, Nat.reduceLeDiff, and_self, ↓reduceIte, q16, vbin_add, w64_1 hi (by omega : t.events.length ≤ 1000000), q1, q4, q5, q14, q15, true_and]
        refine ⟨k - 1, by omega, by rw [low_write]; omega, by omega, by rw [heap_write_ne _ _ _ _ _ _ _ m0]; exact j0, by rw [heap_write_ne _ _ _ _ _ _ _ m2]; exact j2, i + 1, u2, rfl, by omega, heap_write_self _ _ _ _ _ _, ?_⟩
        rw [hcut]
        exact a2.keep (Nat.le_refl _) (fun _ _ _ => rfl)
      · have hc : ps.contains (i : Int) = true := by simpa using hb
        rw [hc] at hcut
        simp (decide := true) only [↓VW_skip, ↓VW_region, ↓vbindN_normal, ↓vbindB_normal, ↓vbindL_normal, ↓VO_nil, ↓VO_cons, ↓VS_mv, ↓VS_bin, ↓vfev_tmp, ↓vfev_int, ↓vupd_same, ↓vupd_ne, Now_any, Got_some, ne_eq, q16, vbin_add, w64_1 hi (by omega : t.events.length ≤ 1000000), q1, q4, q5, q6, q14, q15, true_and]
        refine ⟨k - 1, by omega, by omega, by omega, i0, i2, i + 1, u, rfl, by omega, in5, ?_⟩
        rw [hcut]
        simpa using huI
    · simp (decide := true) only [↓VW_exit, ↓vbindN_exit, ↓vbindL_exit, ↓vatExit_self, ↓vupd_ne, ne_eq, q1, q4, q5, q6, true_and]
      rw [List.take_of_length_le (by omega)] at hu
      exact ⟨hlo, hn, g0, g2, u, gn, hu.rd⟩
  · rintro fe D ⟨q1, q4, q5, q6, hlo, hn, d0, d2, u1, dn, hu1⟩
    simp (decide := true) only [↓VW_region, ↓VW_seq, ↓VW_block, ↓VW_stuck, ↓vbindN_normal, ↓vbindB_self, ↓VO_nil, ↓VO_cons, ↓VS_mv, ↓VS_load, ↓VS_fa, ↓VS_len, ↓vfev_tmp, ↓vfev_int, ↓vupd_same, Now_any, Got_some, ↓vld_ptr, vrdB_cells, vadd_ptr, len_vl, vpart_one, ↓reduceIte, List.length_cons, List.length_nil, List.drop_zero, List.drop_succ_cons, List.take_succ_cons, List.take_zero, Nat.zero_add, Nat.reduceAdd, Nat.reduceLeDiff, q5, d0]
    refine VW_loopR 2 (fun k fe G => fe 1 = vl ps ∧ fe 4 = .ptr (σ.next + 1) 0 ∧ fe 5 = .ptr B.next 0 ∧ fe 6 = .ptr (B.next + 1) 0 ∧ fe 33 = vl an ∧ fe 34 = vi an.length ∧ σ.next ≤ G.low ∧ D.next ≤ G.next ∧ G.heap B.next = .cells [vl t.events, vl an] 26 2 B.next ∧ G.heap (σ.next + 1) = .cells [.v (.slice none 0 0), .v (.slice none 0 0)] 26 2 (σ.next + 1) ∧
        ∃ (i : Nat) (u : VV), fe 35 = vi i ∧ k + i = an.length ∧ G.heap (B.next + 1) = .cells [u1, u] 26 2 (B.next + 1) ∧ App G D.next u (cutL ps t.events.length (an.take i)))
      (fun fe G => fe 4 = .ptr (σ.next + 1) 0 ∧ fe 6 = .ptr (B.next + 1) 0 ∧ σ.next ≤ G.low ∧ G.heap (σ.next + 1) = .cells [.v (.slice none 0 0), .v (.slice none 0 0)] 26 2 (σ.next + 1) ∧
        ∃ u, G.heap (B.next + 1) = .cells [u1, u] 26 2 (B.next + 1) ∧ Rd u (cutL ps t.events.length an)) an.length ?_ ?_ ?_
    · simp (decide := true) only [↓vupd_same, ↓vupd_ne, ne_eq, q1, q4, q5, q6, true_and]
      exact ⟨by omega, Nat.le_refl _, d0, d2, 0, _, rfl, by omega, dn, .nil _ _⟩
    · rintro k fe G ⟨q1, q4, q5, q6, q33, q34, hlo, hnG, g0, g2, i, u, q35, hk, gn, hu⟩
      simp (decide := true) only [↓VW_region, ↓VW_seq, ↓VW_cond, ↓vbindN_normal, ↓VO_nil, ↓VO_cons, ↓VS_bin, ↓vfev_tmp, ↓vupd_same, Now_any, Got_some, q34, q35, vbin_lss]
      refine TestV_dec (fun hlt => ?_) (fun hge => ?_)
      · have hi : i < an.length := by omega
        have n1 : B.next ≠ G.next := by omega
        have n2 : B.next + 1 ≠ G.next := by omega
        have n3 : σ.next + 1 ≠ G.next := by omega
        have hcut := cutL_take ps t.events.length an i hi
        have hwi : w64 ((t.events.length : Int) + i) = ((t.events.length + i : Nat) : Int) := by rw [w64_ok (by omega) (by omega)]; omega
        simp (decide := true) only [↓VW_skip, ↓VW_region, ↓VW_seq, ↓VW_block, ↓vbindN_normal, ↓VO_nil, ↓VO_cons, ↓VO_cons_drop, ↓VS_mv, ↓VS_load, ↓VS_fa, ↓VS_ia, ↓VS_zeroA, ↓VS_store, ↓vfev_tmp, ↓vupd_same, ↓vupd_ne, Now_any, Got_some, List.map_cons, List.map_nil, vst_ptr, vstB_cells, vpart_agg, cs_agg, vAll_v, vAll_nil, Need_true, ne_eq, List.append_nil, List.nil_append, q33, q35, via_vl hi, wAns, vld_vep hi, eAns, heap_box, ↓reduceIte, List.length_cons, List.length_nil, List.drop_zero, List.drop_succ_cons, List.take_succ_cons, List.take_zero, Nat.zero_add, Nat.reduceAdd, Nat.reduceLeDiff, and_self, vsplice]
        generalize an[i] = e at hcut ⊢
        generalize hH : (G.box [vi 0, vi 0, vi 0, vi 0, vi 0, vi 0] 60 6).write G.next [vi e.q.node, vi e.q.handler, vi e.q.count, vi e.q.index, vi e.q.copy, vi e.n] 60 6 G.next = H
        have h5 : H.heap G.next = .cells [vi e.q.node, vi e.q.handler, vi e.q.count, vi e.q.index, vi e.q.copy, vi e.n] 60 6 G.next := by rw [← hH, heap_write_self]
        have hold : ∀ id, id ≠ G.next → H.heap id = G.heap id := fun id hid => by rw [← hH, heap_write_ne _ _ _ _ _ _ _ hid, heap_box_ne _ _ _ _ _ hid]
        have h0 := (hold _ n1).trans g0
        have hn5 := (hold _ n2).trans gn
        have h2 := (hold _ n3).trans g2
        have nH : H.next = G.next + 1 := by rw [← hH]; rfl
        have lH : H.low = min G.low G.next := by rw [← hH, low_write, low_box]
        have huH : App H D.next u (cutL ps t.events.length (an.take i)) := hu.keep (by omega) (fun tk _ _ => by rw [← hH]; rfl)
        clear hH
        simp (decide := true) only [↓VO_cons, ↓VS_mv, ↓VS_call, ↓VS_load, ↓VS_bin, ↓VS_len, ↓vfev_tmp, ↓vupd_same, ↓vupd_ne, Now_any, Got_some, List.map_cons, List.map_nil, ↓vld_ptr, vrdB_cells, vadd_ptr, len_vl, vpart_one, ne_eq, Nat.add_zero, ↓reduceIte, List.length_cons, List.length_nil, List.drop_zero, List.take_succ_cons, List.take_zero, Nat.zero_add, Nat.reduceAdd, Nat.reduceLeDiff, q1, q5, h0, vbin_add, hwi]
        refine VCall.dat (contains_any ps ((t.events.length + i : Nat) : Int) hp) ⟨Fg.rfl _, Fg.rfl _, trivial⟩ (fun I hs2 => ?_)
        have nI := hs2.next
        have lI := hs2.low
        have i0 := (hs2.heap _ (by omega)).trans h0
        have in5 := (hs2.heap _ (by omega)).trans hn5
        have i2 := (hs2.heap _ (by omega)).trans h2
        have i5 := (hs2.heap _ (by omega)).trans h5
        have huI := huH.sub hs2
        simp (decide := true) only [↓VW_cond, ↓vbindN_normal, ↓VO_nil, ↓VO_cons, ↓VS_un, ↓vfev_tmp, ↓vupd_same, Now_any, Got_some, vun_not]
        refine TestV_bool (fun hb => ?_) (fun hb => ?_)
        · have hc : ps.contains ((t.events.length + i : Nat) : Int) = false := by simpa using hb
          rw [hc] at hcut
          simp (decide := true) only [↓VW_region, ↓VO_cons, ↓VS_load, ↓VS_fa, ↓VS_buildSlice, ↓vfev_tmp, ↓vupd_same, ↓vupd_ne, Now_any, Got_some, List.map_cons, List.map_nil, ↓vld_ptr, vrdB_cells, vadd_ptr, vpart_agg, vpart_one, ne_eq, ↓reduceIte, List.length_cons, List.length_nil, List.drop_zero, List.drop_succ_cons, List.take_succ_cons, List.take_zero, Nat.zero_add, Nat.reduceAdd, Nat.reduceLeDiff, q6, in5, i5]
          refine VBuild.own rfl rfl rfl ?_
          simp (decide := true) only [↓VO_cons, ↓VS_append, ↓vfev_tmp, ↓vupd_same, ↓vupd_ne, Now_any, cs_agg, ne_eq]
          have huJ : App I.newTok D.next u (cutL ps t.events.length (an.take i)) := huI.sub (Sub.newTok _)
          have hx : vcont I.newTok 6 (.own 6 1 (List.map VV.fg [vi e.q.node, vi e.q.handler, vi e.q.count, vi e.q.index, vi e.q.copy, vi e.n]) I.next) = some ([e].length, vencs [e]) := by
            simp only [List.map_cons, List.map_nil, fg_int, vencs_one]; rfl
          have hcl := cutL_len ps (an.take i) t.events.length
          simp only [List.length_take] at hcl
          obtain ⟨u2, J, a1, a2, a3, a4⟩ := huJ.push (esz := 6) (bytes := 48) hx rfl (by unfold reach; simp; omega) (by decide) (by rw [next_newTok]; omega)
          refine VAppend.own a1 ?_
          have j0 := (congrFun a3.heap B.next).trans i0
          have j2 := (congrFun a3.heap (σ.next + 1)).trans i2
          have jn := (congrFun a3.heap (B.next + 1)).trans in5
          have jx := a3.next
          have jl := a3.low
          simp only [next_newTok, low_newTok] at jx jl
          have m0 : B.next ≠ B.next + 1 := by omega
          have m2 : σ.next + 1 ≠ B.next + 1 := by omega
          simp (decide := true) only [↓VW_region, ↓vbindN_normal, ↓vbindB_normal, ↓vbindL_normal, ↓VO_nil, ↓VO_cons, ↓VO_cons_drop, ↓VS_mv, ↓VS_fa, ↓VS_bin, ↓VS_store, ↓vfev_tmp, ↓vfev_int, ↓vupd_same, ↓vupd_ne, Now_any, Got_some, vst_ptr, vstB_cells, vadd_ptr, vAll_nil, ne_eq, next_write, q6, jn, a2.cs, a2.all, vsplice1, Nat.zero_add, List.length_cons, List.length_nil, Nat.reduceAdd, Nat.reduceLeDiff, and_self, ↓reduceIte, q35, vbin_add, w64_1 hi (by omega : an.length ≤ 1000000), q1, q4, q5, q33, q34, true_and]
          refine ⟨k - 1, by omega, by rw [low_write]; omega, by omega, by rw [heap_write_ne _ _ _ _ _ _ _ m0]; exact j0, by rw [heap_write_ne _ _ _ _ _ _ _ m2]; exact j2, i + 1, u2, rfl, by omega, heap_write_self _ _ _ _ _ _, ?_⟩
          rw [hcut]
          exact a2.keep (Nat.le_refl _) (fun _ _ _ => rfl)
        · have hc : ps.contains ((t.events.length + i : Nat) : Int) = true := by simpa using hb
          rw [hc] at hcut
          simp (decide := true) only [↓VW_skip, ↓VW_region, ↓vbindN_normal, ↓vbindB_normal, ↓vbindL_normal, ↓VO_nil, ↓VO_cons, ↓VS_mv, ↓VS_bin, ↓vfev_tmp, ↓vfev_int, ↓vupd_same, ↓vupd_ne, Now_any, Got_some, ne_eq, q35, vbin_add, w64_1 hi (by omega : an.length ≤ 1000000), q1, q4, q5, q6, q33, q34, true_and]
          refine ⟨k - 1, by omega, by omega, by omega, i0, i2, i + 1, u, rfl, by omega, in5, ?_⟩
          rw [hcut]
          simpa using huI
      · simp (decide := true) only [↓VW_exit, ↓vbindN_exit, ↓vbindL_exit, ↓vatExit_self, ↓vupd_ne, ne_eq, q4, q6, true_and]
        rw [List.take_of_length_le (by omega)] at hu
        exact ⟨hlo, g2, u, gn, hu.rd⟩
    · rintro fe G ⟨q4, q6, hlo, g2, u2, gn, hu2⟩
      simp (decide := true) only [↓VW_ret, ↓VW_region, ↓VW_seq, ↓vbindN_normal, ↓vbindB_self, ↓vatEnd_ret, ↓VO_nil, ↓VO_cons, ↓VO_cons_drop, ↓VS_load, ↓VS_store, ↓vfev_tmp, ↓vupd_same, ↓vupd_ne, Now_any, Got_some, vrs_one, vr1_cell, List.map_cons, List.map_nil, ↓vld_ptr, vrdB_cells, vst_ptr, vstB_cells, vpart_agg, cs_agg, vAll_nil, ne_eq, List.append_nil, List.nil_append, heap_write, ↓reduceIte, List.length_cons, List.length_nil, List.drop_zero, List.drop_succ_cons, List.take_succ_cons, List.take_zero, Nat.zero_add, Nat.reduceAdd, Nat.reduceLeDiff, and_self, q4, q6, gn, g2, hu1.all, hu2.all, vsplice, fg_agg, hu1.fg, hu2.fg]
      refine ⟨by rw [low_write]; omega, ?_⟩
      rw [hw]
end Go.Proofs.Ytmbbebfpjclghaa

set_option linter.unusedSimpArgs false
set_option linter.unusedSectionVars false
set_option linter.unusedVariables false
namespace Go.Proofs.Ytmbbebfpjclghaa
open Go Go.RowKit

theorem veqf_evt (neg : Bool) (x y : Evt) : veqf [1, 1, 1, 1, 1, 1, 1, 1] neg (.agg [vi x.kind, vi x.node, vi x.arg, vi x.msg.node, vi x.msg.handler, vi x.msg.count, vi x.msg.index, vi x.msg.copy]) (.agg [vi y.kind, vi y.node, vi y.arg, vi y.msg.node, vi y.msg.handler, vi y.msg.count, vi y.msg.index, vi y.msg.copy]) = some (vb (notIf neg (decide (x = y)))) := by
  have h := eqfv_evt neg x y
  simp only [eqfv, Option.map_eq_some_iff] at h
  obtain ⟨r, h1, h2⟩ := h
  have e1 : vvals [vi x.kind, vi x.node, vi x.arg, vi x.msg.node, vi x.msg.handler, vi x.msg.count, vi x.msg.index, vi x.msg.copy] = some x.cs := rfl
  have e2 : vvals [vi y.kind, vi y.node, vi y.arg, vi y.msg.node, vi y.msg.handler, vi y.msg.count, vi y.msg.index, vi y.msg.copy] = some y.cs := rfl
  simp only [veqf, e1, e2, Option.bind_some]
  have h1' : eqL [1, 1, 1, 1, 1, 1, 1, 1] x.cs y.cs = some r := h1
  rw [h1', Option.map_some, h2]
theorem veqf_ans (neg : Bool) (x y : Ans) : veqf [1, 1, 1, 1, 1, 1] neg (.agg [vi x.q.node, vi x.q.handler, vi x.q.count, vi x.q.index, vi x.q.copy, vi x.n]) (.agg [vi y.q.node, vi y.q.handler, vi y.q.count, vi y.q.index, vi y.q.copy, vi y.n]) = some (vb (notIf neg (decide (x = y)))) := by
  have h := eqfv_ans neg x y
  simp only [eqfv, Option.map_eq_some_iff] at h
  obtain ⟨r, h1, h2⟩ := h
  have e1 : vvals [vi x.q.node, vi x.q.handler, vi x.q.count, vi x.q.index, vi x.q.copy, vi x.n] = some x.cs := rfl
  have e2 : vvals [vi y.q.node, vi y.q.handler, vi y.q.count, vi y.q.index, vi y.q.copy, vi y.n] = some y.cs := rfl
  simp only [veqf, e1, e2, Option.bind_some]
  have h1' : eqL [1, 1, 1, 1, 1, 1] x.cs y.cs = some r := h1
  rw [h1', Option.map_some, h2]

theorem list_eq_of {α : Type} {l m : List α} (hlen : l.length = m.length) (h : ∀ j (h1 : j < l.length) (h2 : j < m.length), l[j] = m[j]) : l = m := List.ext_getElem hlen h
theorem equalE_any (l m : List Evt) (hl : l.length ≤ 1000000) (hm : m.length ≤ 1000000) : VD Try.prog 26 [vl l, vl m] (vb (decide (l = m))) := by
  intro σ
  refine VC_body XF26 ?_
  simp (decide := true) only [↓VW_region, ↓VW_seq, ↓VW_cond, ↓vbindN_normal, ↓VO_nil, ↓VO_cons, ↓VS_mv, ↓VS_bin, ↓VS_len, ↓vfev_tmp, ↓vfev_bool, ↓vupd_same, ↓vupd_ne, ↓vfe0_zero, ↓vfe0_succ, Now_any, Got_some, len_vl, ne_eq, xf26, vbin_neq]
  refine TestV_dec (fun hne => ?_) (fun heq => ?_)
  · simp (decide := true) only [↓VW_ret, ↓VW_region, ↓VW_seq, ↓vbindN_normal, ↓vbindN_ret, ↓vatEnd_ret, ↓VO_nil, ↓VO_cons, ↓VS_mv, ↓vfev_bool, ↓vupd_same, Now_any, Got_some, vrs_one, vr1_tmp, fg_bool]
    have : l ≠ m := fun h => hne (by rw [h])
    exact ⟨Nat.le_refl _, by rw [decide_eq_false this]⟩
  · have hlen : l.length = m.length := by omega
    simp (decide := true) only [↓VW_skip, ↓VW_region, ↓VW_seq, ↓VW_block, ↓VW_stuck, ↓vbindN_normal, ↓VO_nil, ↓VO_cons, ↓VS_mv, ↓VS_len, ↓vfev_tmp, ↓vfev_int, ↓vupd_same, ↓vupd_ne, ↓vfe0_zero, Now_any, Got_some, len_vl, ne_eq]
    refine VW_loopR 0 (fun k fe G => fe 0 = vl l ∧ fe 1 = vl m ∧ fe 12 = vi l.length ∧ σ.next ≤ G.low ∧ ∃ i : Nat, fe 13 = vi i ∧ k + i = l.length ∧ ∀ j (h : j < l.length) (h2 : j < m.length), j < i → l[j] = m[j])
      (fun fe G => σ.next ≤ G.low ∧ l = m) l.length ?_ ?_ ?_
    · simp (decide := true) only [↓vupd_same, ↓vupd_ne, ↓vfe0_zero, ↓vfe0_succ, ne_eq, true_and]
      exact ⟨Nat.le_refl _, 0, rfl, by omega, fun j _ _ h => by omega⟩
    · rintro k fe G ⟨h0, h1, h12, hlo, i, h13, hk, hall⟩
      simp (decide := true) only [↓VW_region, ↓VW_seq, ↓VW_cond, ↓vbindN_normal, ↓VO_nil, ↓VO_cons, ↓VS_bin, ↓vfev_tmp, ↓vupd_same, Now_any, Got_some, h12, h13, vbin_lss]
      refine TestV_dec (fun hlt => ?_) (fun hge => ?_)
      · have hi : i < l.length := by omega
        have hi2 : i < m.length := by omega
        simp (decide := true) only [↓VW_skip, ↓VW_ret, ↓VW_region, ↓VW_draw, ↓VW_seq, ↓VW_block, ↓VW_cond, ↓vbindN_normal, ↓vatEnd_ret, ↓VO_nil, ↓VO_cons, List.zip_cons_cons, List.zip_nil_left, ↓VM_nil, ↓VM_cons, ↓vearlyP_false, ↓VS_mv, ↓VS_load, ↓VS_ia, ↓VS_bin, ↓VS_eqf, ↓vfev_tmp, ↓vfev_int, ↓vfev_bool, ↓vupd_same, ↓vupd_ne, Now_any, Got_some, vrs_one, vr1_tmp, vpart_agg, ne_eq, h0, h1, h13, via_vl hi, via_vl hi2, wEvt, vld_vep hi, vld_vep hi2, eEvt, List.drop_zero, List.take_succ_cons, List.take_zero, Nat.zero_add, Nat.reduceLeDiff, veqf_evt]
        refine TestV_bool (fun hne => ?_) (fun heq => ?_)
        · simp (decide := true) only [↓VW_ret, ↓VW_region, ↓VW_seq, ↓vbindN_normal, ↓vbindN_ret, ↓vbindB_ret, ↓vbindL_ret, ↓vatExit_ret, ↓vatEnd_ret, ↓VO_nil, ↓VO_cons, ↓VS_mv, ↓vfev_bool, ↓vupd_same, Now_any, Got_some, vrs_one, vr1_tmp, fg_bool]
          have hne' : l[i] ≠ m[i] := by simpa [notIf] using hne
          have : l ≠ m := fun h => hne' (by simp only [h])
          exact ⟨hlo, by rw [decide_eq_false this]⟩
        · have he : l[i] = m[i] := by simpa [notIf] using heq
          simp (decide := true) only [↓VW_skip, ↓VW_region, ↓vbindN_normal, ↓vbindB_normal, ↓vbindL_normal, ↓VO_nil, ↓VO_cons, ↓VS_mv, ↓VS_bin, ↓vfev_tmp, ↓vfev_int, ↓vupd_same, ↓vupd_ne, Now_any, Got_some, ne_eq, h0, h1, h12, h13, vbin_add, w64_1 hi hl, true_and]
          refine ⟨k - 1, by omega, hlo, i + 1, rfl, by omega, fun j hj hj2 hlt => ?_⟩
          by_cases e : j = i
          · subst e; exact he
          · exact hall j hj hj2 (by omega)
      · simp (decide := true) only [↓VW_exit, ↓vbindN_exit, ↓vbindL_exit, ↓vatExit_self]
        exact ⟨hlo, list_eq_of hlen fun j h1 h2 => hall j h1 h2 (by omega)⟩
    · rintro fe G ⟨hlo, h⟩
      simp (decide := true) only [↓VW_ret, ↓VW_region, ↓VW_seq, ↓vbindN_normal, ↓vbindB_self, ↓vatEnd_ret, ↓VO_nil, ↓VO_cons, ↓VS_mv, ↓vfev_bool, ↓vupd_same, Now_any, Got_some, vrs_one, vr1_tmp, fg_bool]
      exact ⟨hlo, by rw [decide_eq_true h]⟩

def equalT (a b : Tape) : Bool := decide (a.events = b.events) && eqE (ansF a.answers).1 (ansF b.answers).1
theorem equalT_any (a b : Tape) (h1 : a.events.length ≤ 1000000) (h2 : b.events.length ≤ 1000000) (h3 : a.answers.length ≤ 1000000) (h4 : b.answers.length ≤ 1000000) : VD Try.prog 11 [tapeV a, tapeV b] (vb (equalT a b)) := by
  intro σ
  refine VC_body XF11 ?_
  simp (decide := true) only [↓VW_ret, ↓VW_region, ↓VW_draw, ↓VW_seq, ↓vbindN_normal, ↓vatEnd_ret, ↓VO_nil, ↓VO_cons, List.zip_cons_cons, List.zip_nil_left, ↓VM_cons, ↓vearlyP_false, ↓VS_mv, ↓VS_call, ↓VS_load, ↓VS_fa, ↓VS_box, ↓vfev_tmp, ↓vfev_bool, ↓vupd_same, ↓vupd_ne, ↓vfe0_zero, ↓vfe0_succ, Now_any, Got_some, vrs_one, vr1_tmp, List.map_cons, List.map_nil, ↓vld_ptr, vrdB_cells, vadd_ptr, vpart_one, cs_agg, vAll_vl, vAll_nil, Need_true, ne_eq, Nat.add_zero, next_box, next_fresh, heap_box, ↓reduceIte, Nat.left_eq_add, List.length_cons, List.length_nil, List.drop_zero, List.take_succ_cons, List.take_zero, Nat.zero_add, Nat.add_assoc, Nat.reduceAdd, Nat.reduceLeDiff, xf11, tapeV]
  generalize hA : ((σ.fresh.box [vl a.events, vl a.answers] 26 2).box [vl b.events, vl b.answers] 26 2) = A
  have nA : A.next = σ.next + 2 := by rw [← hA]; rfl
  have lA : A.low = σ.next := by rw [← hA]; rfl
  have g0 : A.heap σ.next = .cells [vl a.events, vl a.answers] 26 2 σ.next := by rw [← hA, heap_box_ne _ _ _ _ _ (by simp [next_box, next_fresh])]; exact heap_box_self _ _ _ _
  have g1 : A.heap (σ.next + 1) = .cells [vl b.events, vl b.answers] 26 2 (σ.next + 1) := by rw [← hA]; exact heap_box_self _ _ _ _
  clear hA
  refine VCall.dat (equalE_any a.events b.events h1 h2) ⟨Fg.rfl _, Fg.rfl _, trivial⟩ (fun B hs => ?_)
  have b0 := (hs.heap _ (by omega)).trans g0
  have b1 := (hs.heap _ (by omega)).trans g1
  have nB := hs.next
  have lB := hs.low
  by_cases he : a.events = b.events
  · have e1 : decide (a.events = b.events) = true := decide_eq_true he
    simp (decide := true) only [↓VM_cons, ↓VM_guard, ↓vearlyP_false, ↓VS_mv, ↓VS_call, ↓VS_load, ↓vfev_tmp, ↓vupd_same, ↓vupd_ne, Now_any, Got_some, PickV_tt, List.map_cons, List.map_nil, ↓vld_ptr, vrdB_cells, vpart_agg, ne_eq, ↓reduceIte, List.length_cons, List.length_nil, List.drop_zero, List.take_succ_cons, List.take_zero, Nat.zero_add, Nat.reduceAdd, Nat.reduceLeDiff, e1, b0]
    have hx : σ.next < A.next := by omega
    have hx1 : σ.next + 1 < A.next := by omega
    refine VCall.pure (VC.less (answers_any a h3 _) ⟨Fg.rfl _, trivial⟩) (fun _ _ h => h) ?_
    rintro v C ⟨m1, rfl, p1, p2, p3⟩ hs2
    have c1 := (hs2.heap _ (by omega)).trans b1
    have nC := hs2.next
    have lC := hs2.low
    simp (decide := true) only [↓VM_guard, ↓vearlyP_false, ↓vearly_load, VLow_ptr, oldU_same, oldU_ne, allOld_any, oldOpd_tmp, keepsOld, Bool.and_true, ↓VS_call, ↓VS_load, ↓vfev_tmp, ↓vupd_same, ↓vupd_ne, Now_any, Got_some, PickV_tt, List.map_cons, List.map_nil, ↓vld_ptr, vrdB_cells, vpart_agg, Need_true, ne_eq, ↓reduceIte, List.length_cons, List.length_nil, List.drop_zero, List.take_succ_cons, List.take_zero, Nat.zero_add, Nat.reduceAdd, Nat.reduceLeDiff, Nat.lt_add_one, c1]
    refine VCall.pure (VC.less (answers_any b h4 _) ⟨Fg.rfl _, trivial⟩) (fun _ _ h => h) ?_
    rintro v D ⟨m2, rfl, q1, q2, q3⟩ hs3
    have d1 := (hs3.heap _ p2).trans p3
    have lD := hs3.low
    simp (decide := true) only [↓VM_guard, ↓vearlyP_false, ↓VS_call, ↓vfev_tmp, ↓vupd_same, ↓vupd_ne, PickV_tt, List.map_cons, List.map_nil, ne_eq]
    refine VCall.data (mapsEqualV D d1 q3 (ansF_good _) (ansF_good _)) ⟨Fg.rfl _, Fg.rfl _, trivial⟩ (fun E hs4 => ?_)
    have lE := hs4.low
    simp (decide := true) only [↓vbindN_normal, ↓VM_nil, ↓VM_cons, ↓vearlyP_false, ↓VS_mv, ↓VS_pick, ↓vfev_tmp, ↓vfev_bool, ↓vupd_same, ↓vupd_ne, Now_any, Got_some, ne_eq, vpick_t, fg_bool]
    exact ⟨by omega, by rw [equalT, e1, Bool.true_and]⟩
  · have e1 : decide (a.events = b.events) = false := decide_eq_false he
    simp (decide := true) only [↓vbindN_normal, ↓VM_nil, ↓VM_cons, ↓VM_guard, ↓vearlyP_false, ↓VS_mv, ↓VS_pick, ↓vfev_tmp, ↓vfev_bool, ↓vupd_same, ↓vupd_ne, Now_any, Got_some, PickV_ft, ne_eq, vpick_f, e1, fg_bool]
    exact ⟨by omega, by rw [equalT, e1, Bool.false_and]⟩

/-- a part, in order (the first fit). -/
def fitL {α : Type} [DecidableEq α] : List α → List α → List α
  | p, [] => p
  | [], _ :: _ => []
  | a :: p, b :: l => if b = a then fitL p l else fitL (a :: p) l

theorem fitL_nil {α : Type} [DecidableEq α] (l : List α) : fitL [] l = [] := by cases l <;> rfl
theorem fitL_end {α : Type} [DecidableEq α] (p : List α) : fitL p [] = p := by cases p <;> rfl
def isPart {α : Type} [DecidableEq α] (p l : List α) : Bool := (fitL p l).isEmpty
theorem fitL_yes {α : Type} [DecidableEq α] {p l : List α} {a i : Nat} (ha : a < p.length) (hi : i < l.length) (h : l[i] = p[a]) : fitL (p.drop a) (l.drop i) = fitL (p.drop (a + 1)) (l.drop (i + 1)) := by
  rw [List.drop_eq_getElem_cons ha, List.drop_eq_getElem_cons hi, fitL, if_pos h]
theorem fitL_no {α : Type} [DecidableEq α] {p l : List α} {a i : Nat} (ha : a < p.length) (hi : i < l.length) (h : l[i] ≠ p[a]) : fitL (p.drop a) (l.drop i) = fitL (p.drop a) (l.drop (i + 1)) := by
  rw [List.drop_eq_getElem_cons ha, List.drop_eq_getElem_cons hi, fitL, if_neg h]
theorem isPart_iff {α : Type} [DecidableEq α] {p l : List α} {a i : Nat} (h : fitL (p.drop a) (l.drop i) = fitL p l) (ha : a ≤ p.length) (hend : ¬ (i < l.length ∧ a < p.length)) : isPart p l = decide (a = p.length) := by
  unfold isPart
  rw [← h]
  by_cases e : a = p.length
  · rw [decide_eq_true e, e, List.drop_length, fitL_nil]; rfl
  · rw [decide_eq_false e]
    have hi : l.length ≤ i := by omega
    rw [List.drop_of_length_le hi, fitL_end]
    have : p.drop a ≠ [] := by
      intro h
      have := congrArg List.length h
      simp at this
      omega
    cases hq : p.drop a with
    | nil => exact absurd hq this
    | cons _ _ => rfl
def partOfT (t f : Tape) : Bool := isPart t.events f.events && isPart t.answers f.answers

theorem partOf_any (t f : Tape) (h1 : t.events.length ≤ 100000) (h2 : f.events.length ≤ 100000) (h3 : t.answers.length ≤ 100000) (h4 : f.answers.length ≤ 100000) : VD Try.prog 13 [tapeV t, tapeV f] (vb (partOfT t f)) := by
  intro σ
  refine VC_body XF13 ?_
  simp (decide := true) only [↓VW_region, ↓VW_seq, ↓VW_block, ↓VW_stuck, ↓vbindN_normal, ↓VO_nil, ↓VO_cons, ↓VS_mv, ↓VS_box, ↓vfev_tmp, ↓vfev_int, ↓vfev_bool, ↓vupd_ne, ↓vfe0_zero, ↓vfe0_succ, Now_any, cs_agg, vAll_vl, vAll_nil, Need_true, ne_eq, next_box, next_fresh, List.length_cons, List.length_nil, Nat.zero_add, Nat.reduceAdd, xf13, tapeV]
  generalize hA : ((σ.fresh.box [vl t.events, vl t.answers] 26 2).box [vl f.events, vl f.answers] 26 2) = A
  have lA : A.low = σ.next := by rw [← hA]; rfl
  have g0 : A.heap σ.next = .cells [vl t.events, vl t.answers] 26 2 σ.next := by rw [← hA, heap_box_ne _ _ _ _ _ (by simp [next_box, next_fresh])]; exact heap_box_self _ _ _ _
  have g1 : A.heap (σ.next + 1) = .cells [vl f.events, vl f.answers] 26 2 (σ.next + 1) := by rw [← hA]; exact heap_box_self _ _ _ _
  clear hA
  refine VW_loopR 0 (fun k fe G => fe 2 = .ptr σ.next 0 ∧ fe 3 = .ptr (σ.next + 1) 0 ∧ G = A ∧ ∃ i a : Nat, fe 6 = vi i ∧ fe 5 = vi a ∧ k + i = f.events.length ∧ a ≤ t.events.length ∧ fitL (t.events.drop a) (f.events.drop i) = fitL t.events f.events)
    (fun fe G => fe 2 = .ptr σ.next 0 ∧ fe 3 = .ptr (σ.next + 1) 0 ∧ G = A ∧ ∃ a : Nat, fe 5 = vi a ∧ a ≤ t.events.length ∧ isPart t.events f.events = decide (a = t.events.length)) f.events.length ?_ ?_ ?_
  · simp (decide := true) only [↓vupd_same, ↓vupd_ne, ne_eq, true_and]
    exact ⟨0, 0, rfl, rfl, by omega, by omega, rfl⟩
  · rintro k fe G ⟨q2, q3, rfl, i, a, q6, q5, hk, ha, hfit⟩
    by_cases hi : i < f.events.length
    · by_cases hat : a < t.events.length
      · have c1 : decide ((i : Int) < f.events.length) = true := decide_eq_true (by omega)
        have c2 : decide ((a : Int) < t.events.length) = true := decide_eq_true (by omega)
        simp (decide := true) only [↓VW_skip, ↓VW_region, ↓VW_draw, ↓VW_seq, ↓VW_block, ↓VW_cond, ↓vbindN_normal, ↓VO_nil, ↓VO_cons, ↓VO_guard, List.zip_cons_cons, List.zip_nil_left, ↓VM_nil, ↓VM_cons, ↓vearlyP_false, ↓VS_mv, ↓VS_load, ↓VS_fa, ↓VS_ia, ↓VS_bin, ↓VS_len, ↓VS_eqf, ↓VS_pick, ↓vfev_tmp, ↓vfev_int, ↓vfev_bool, ↓vupd_same, ↓vupd_ne, Now_any, Got_some, TestV_true, PickV_tt, ↓vld_ptr, vrdB_cells, vadd_ptr, len_vl, vpart_agg, vpart_one, ne_eq, vpick_t, notIf_ff, Nat.add_zero, ↓reduceIte, List.length_cons, List.length_nil, List.drop_zero, List.take_succ_cons, List.take_zero, Nat.zero_add, Nat.reduceAdd, Nat.reduceLeDiff, q2, q3, q5, q6, g0, g1, vbin_lss, c1, c2, via_vl hi, via_vl hat, wEvt, vld_vep hi, vld_vep hat, eEvt, veqf_evt]
        refine TestV_bool (fun he => ?_) (fun he => ?_)
        · have he : f.events[i] = t.events[a] := by simpa [notIf] using he
          simp (decide := true) only [↓VW_region, ↓vbindN_normal, ↓vbindB_normal, ↓vbindL_normal, ↓VO_nil, ↓VO_cons, ↓VS_mv, ↓VS_bin, ↓vfev_tmp, ↓vfev_int, ↓vupd_same, ↓vupd_ne, Now_any, Got_some, ne_eq, q5, q6, vbin_add, w64_1 hi (by omega : f.events.length ≤ 1000000), w64_1 hat (by omega : t.events.length ≤ 1000000), q2, q3, true_and]
          exact ⟨k - 1, by omega, i + 1, a + 1, rfl, rfl, by omega, by omega, by rw [← fitL_yes hat hi he]; exact hfit⟩
        · have he : f.events[i] ≠ t.events[a] := by simpa [notIf] using he
          simp (decide := true) only [↓VW_skip, ↓VW_region, ↓vbindN_normal, ↓vbindB_normal, ↓vbindL_normal, ↓VO_nil, ↓VO_cons, ↓VS_mv, ↓VS_bin, ↓vfev_tmp, ↓vfev_int, ↓vupd_same, ↓vupd_ne, Now_any, Got_some, ne_eq, q5, q6, vbin_add, w64_1 hi (by omega : f.events.length ≤ 1000000), q2, q3, true_and]
          exact ⟨k - 1, by omega, i + 1, a, rfl, rfl, by omega, by omega, by rw [← fitL_no hat hi he]; exact hfit⟩
      · have c1 : decide ((i : Int) < f.events.length) = true := decide_eq_true (by omega)
        have c2 : decide ((a : Int) < t.events.length) = false := decide_eq_false (by omega)
        simp (decide := true) only [↓VW_exit, ↓VW_region, ↓VW_seq, ↓VW_cond, ↓vbindN_normal, ↓vbindN_exit, ↓vbindL_exit, ↓vatExit_self, ↓VO_nil, ↓VO_cons, ↓VO_guard, ↓VS_mv, ↓VS_load, ↓VS_fa, ↓VS_bin, ↓VS_len, ↓VS_pick, ↓vfev_tmp, ↓vfev_bool, ↓vupd_same, ↓vupd_ne, Now_any, Got_some, TestV_false, PickV_tt, ↓vld_ptr, vrdB_cells, vadd_ptr, len_vl, vpart_one, ne_eq, vpick_t, Nat.add_zero, ↓reduceIte, List.length_cons, List.length_nil, List.drop_zero, List.take_succ_cons, List.take_zero, Nat.zero_add, Nat.reduceAdd, Nat.reduceLeDiff, true_and, q2, q3, q5, q6, g0, g1, vbin_lss, c1, c2]
        exact ⟨a, rfl, ha, isPart_iff hfit ha (by omega)⟩
    · have c1 : decide ((i : Int) < f.events.length) = false := decide_eq_false (by omega)
      simp (decide := true) only [↓VW_exit, ↓VW_region, ↓VW_seq, ↓VW_cond, ↓vbindN_normal, ↓vbindN_exit, ↓vbindL_exit, ↓vatExit_self, ↓VO_nil, ↓VO_cons, ↓VO_guard, ↓VS_mv, ↓VS_load, ↓VS_fa, ↓VS_bin, ↓VS_len, ↓VS_pick, ↓vfev_tmp, ↓vfev_bool, ↓vupd_same, ↓vupd_ne, Now_any, Got_some, TestV_false, PickV_ft, ↓vld_ptr, vrdB_cells, vadd_ptr, len_vl, vpart_one, ne_eq, vpick_f, Nat.add_zero, ↓reduceIte, List.length_cons, List.length_nil, List.drop_zero, List.take_succ_cons, List.take_zero, Nat.zero_add, Nat.reduceAdd, Nat.reduceLeDiff, true_and, q2, q3, q5, q6, g1, vbin_lss, c1]
      exact ⟨a, rfl, ha, isPart_iff hfit ha (by omega)⟩
  · rintro fe G ⟨q2, q3, rfl, a, q5, ha, hp⟩
    simp (decide := true) only [↓VW_region, ↓VW_seq, ↓VW_cond, ↓vbindN_normal, ↓vbindB_self, ↓VO_nil, ↓VO_cons, ↓VS_mv, ↓VS_load, ↓VS_fa, ↓VS_bin, ↓VS_len, ↓vfev_tmp, ↓vupd_same, ↓vupd_ne, Now_any, Got_some, ↓vld_ptr, vrdB_cells, vadd_ptr, len_vl, vpart_one, ne_eq, Nat.add_zero, ↓reduceIte, List.length_cons, List.length_nil, List.drop_zero, List.take_succ_cons, List.take_zero, Nat.zero_add, Nat.reduceAdd, Nat.reduceLeDiff, q2, q5, g0, vbin_lss]
    refine TestV_dec (fun hlt => ?_) (fun hge => ?_)
    · simp (decide := true) only [↓VW_ret, ↓VW_region, ↓VW_seq, ↓vbindN_normal, ↓vbindN_ret, ↓vatEnd_ret, ↓VO_nil, ↓VO_cons, ↓VS_mv, ↓vfev_bool, ↓vupd_same, Now_any, Got_some, vrs_one, vr1_tmp, fg_bool]
      refine ⟨by omega, ?_⟩
      rw [partOfT, hp, decide_eq_false (by omega), Bool.false_and]
    · have e1 : isPart t.events f.events = true := by rw [hp]; exact decide_eq_true (by omega)
      simp (decide := true) only [↓VW_skip, ↓VW_region, ↓VW_seq, ↓VW_block, ↓VW_stuck, ↓vbindN_normal, ↓VO_nil, ↓VO_cons, ↓VS_mv, ↓vfev_int, Now_any]
      refine VW_loopR 2 (fun k fe H => fe 2 = .ptr σ.next 0 ∧ fe 3 = .ptr (σ.next + 1) 0 ∧ H = G ∧ ∃ i a : Nat, fe 7 = vi i ∧ fe 5 = vi a ∧ k + i = f.answers.length ∧ a ≤ t.answers.length ∧ fitL (t.answers.drop a) (f.answers.drop i) = fitL t.answers f.answers)
        (fun fe H => fe 2 = .ptr σ.next 0 ∧ H = G ∧ ∃ a : Nat, fe 5 = vi a ∧ a ≤ t.answers.length ∧ isPart t.answers f.answers = decide (a = t.answers.length)) f.answers.length ?_ ?_ ?_
      · simp (decide := true) only [↓vupd_same, ↓vupd_ne, ne_eq, q2, q3, true_and]
        exact ⟨0, 0, rfl, rfl, by omega, by omega, rfl⟩
      · rintro k fe H ⟨q2, q3, rfl, i, a, q6, q5, hk, ha, hfit⟩
        by_cases hi : i < f.answers.length
        · by_cases hat : a < t.answers.length
          · have c1 : decide ((i : Int) < f.answers.length) = true := decide_eq_true (by omega)
            have c2 : decide ((a : Int) < t.answers.length) = true := decide_eq_true (by omega)
            simp (decide := true) only [↓VW_skip, ↓VW_region, ↓VW_draw, ↓VW_seq, ↓VW_block, ↓VW_cond, ↓vbindN_normal, ↓VO_nil, ↓VO_cons, ↓VO_guard, List.zip_cons_cons, List.zip_nil_left, ↓VM_nil, ↓VM_cons, ↓vearlyP_false, ↓VS_mv, ↓VS_load, ↓VS_fa, ↓VS_ia, ↓VS_bin, ↓VS_len, ↓VS_eqf, ↓VS_pick, ↓vfev_tmp, ↓vfev_int, ↓vfev_bool, ↓vupd_same, ↓vupd_ne, Now_any, Got_some, TestV_true, PickV_tt, ↓vld_ptr, vrdB_cells, vadd_ptr, len_vl, vpart_agg, vpart_one, ne_eq, vpick_t, notIf_ff, ↓reduceIte, List.length_cons, List.length_nil, List.drop_zero, List.drop_succ_cons, List.take_succ_cons, List.take_zero, Nat.zero_add, Nat.reduceAdd, Nat.reduceLeDiff, q2, q3, q5, q6, g0, g1, vbin_lss, c1, c2, via_vl hi, via_vl hat, wAns, vld_vep hi, vld_vep hat, eAns, veqf_ans]
            refine TestV_bool (fun he => ?_) (fun he => ?_)
            · have he : f.answers[i] = t.answers[a] := by simpa [notIf] using he
              simp (decide := true) only [↓VW_region, ↓vbindN_normal, ↓vbindB_normal, ↓vbindL_normal, ↓VO_nil, ↓VO_cons, ↓VS_mv, ↓VS_bin, ↓vfev_tmp, ↓vfev_int, ↓vupd_same, ↓vupd_ne, Now_any, Got_some, ne_eq, q5, q6, vbin_add, w64_1 hi (by omega : f.answers.length ≤ 1000000), w64_1 hat (by omega : t.answers.length ≤ 1000000), q2, q3, true_and]
              exact ⟨k - 1, by omega, i + 1, a + 1, rfl, rfl, by omega, by omega, by rw [← fitL_yes hat hi he]; exact hfit⟩
            · have he : f.answers[i] ≠ t.answers[a] := by simpa [notIf] using he
              simp (decide := true) only [↓VW_skip, ↓VW_region, ↓vbindN_normal, ↓vbindB_normal, ↓vbindL_normal, ↓VO_nil, ↓VO_cons, ↓VS_mv, ↓VS_bin, ↓vfev_tmp, ↓vfev_int, ↓vupd_same, ↓vupd_ne, Now_any, Got_some, ne_eq, q5, q6, vbin_add, w64_1 hi (by omega : f.answers.length ≤ 1000000), q2, q3, true_and]
              exact ⟨k - 1, by omega, i + 1, a, rfl, rfl, by omega, by omega, by rw [← fitL_no hat hi he]; exact hfit⟩
          · have c1 : decide ((i : Int) < f.answers.length) = true := decide_eq_true (by omega)
            have c2 : decide ((a : Int) < t.answers.length) = false := decide_eq_false (by omega)
            simp (decide := true) only [↓VW_exit, ↓VW_region, ↓VW_seq, ↓VW_cond, ↓vbindN_normal, ↓vbindN_exit, ↓vbindL_exit, ↓vatExit_self, ↓VO_nil, ↓VO_cons, ↓VO_guard, ↓VS_mv, ↓VS_load, ↓VS_fa, ↓VS_bin, ↓VS_len, ↓VS_pick, ↓vfev_tmp, ↓vfev_bool, ↓vupd_same, ↓vupd_ne, Now_any, Got_some, TestV_false, PickV_tt, ↓vld_ptr, vrdB_cells, vadd_ptr, len_vl, vpart_one, ne_eq, vpick_t, ↓reduceIte, List.length_cons, List.length_nil, List.drop_zero, List.drop_succ_cons, List.take_succ_cons, List.take_zero, Nat.zero_add, Nat.reduceAdd, Nat.reduceLeDiff, true_and, q2, q3, q5, q6, g0, g1, vbin_lss, c1, c2]
            exact ⟨a, rfl, ha, isPart_iff hfit ha (by omega)⟩
        · have c1 : decide ((i : Int) < f.answers.length) = false := decide_eq_false (by omega)
          simp (decide := true) only [↓VW_exit, ↓VW_region, ↓VW_seq, ↓VW_cond, ↓vbindN_normal, ↓vbindN_exit, ↓vbindL_exit, ↓vatExit_self, ↓VO_nil, ↓VO_cons, ↓VO_guard, ↓VS_mv, ↓VS_load, ↓VS_fa, ↓VS_bin, ↓VS_len, ↓VS_pick, ↓vfev_tmp, ↓vfev_bool, ↓vupd_same, ↓vupd_ne, Now_any, Got_some, TestV_false, PickV_ft, ↓vld_ptr, vrdB_cells, vadd_ptr, len_vl, vpart_one, ne_eq, vpick_f, ↓reduceIte, List.length_cons, List.length_nil, List.drop_zero, List.drop_succ_cons, List.take_succ_cons, List.take_zero, Nat.zero_add, Nat.reduceAdd, Nat.reduceLeDiff, true_and, q2, q3, q5, q6, g1, vbin_lss, c1]
          exact ⟨a, rfl, ha, isPart_iff hfit ha (by omega)⟩
      · rintro fe H ⟨q2, rfl, a, q5, ha, hp2⟩
        simp (decide := true) only [↓VW_ret, ↓VW_region, ↓VW_seq, ↓vbindN_normal, ↓vbindB_self, ↓vatEnd_ret, ↓VO_nil, ↓VO_cons, ↓VS_mv, ↓VS_load, ↓VS_fa, ↓VS_bin, ↓VS_len, ↓vfev_tmp, ↓vupd_same, ↓vupd_ne, Now_any, Got_some, vrs_one, vr1_tmp, ↓vld_ptr, vrdB_cells, vadd_ptr, len_vl, vpart_one, ne_eq, ↓reduceIte, List.length_cons, List.length_nil, List.drop_zero, List.drop_succ_cons, List.take_succ_cons, List.take_zero, Nat.zero_add, Nat.reduceAdd, Nat.reduceLeDiff, q2, q5, g0, vbin_eql, fg_bool]
        refine ⟨by omega, ?_⟩
        rw [partOfT, e1, Bool.true_and, hp2]
        congr 2
        rw [Bool.eq_iff_iff]
        simp only [decide_eq_true_eq]
        omega

/-- the elements that belong to the bits of a number, and what is left of it. -/
def pickL {α : Type} : Int → List α → List α
  | _, [] => []
  | b, a :: r => if b.tmod 2 = 1 then a :: pickL (b.tdiv 2) r else pickL (b.tdiv 2) r
def bitsL : Nat → Int → Int
  | 0, b => b
  | n + 1, b => bitsL n (b.tdiv 2)
theorem pickL_append {α : Type} : ∀ (l m : List α) (b : Int), pickL b (l ++ m) = pickL b l ++ pickL (bitsL l.length b) m := by
  intro l
  induction l with
  | nil => intro m b; rfl
  | cons a l ih =>
    intro m b
    simp only [List.cons_append, pickL, List.length_cons, bitsL]
    rw [ih]
    split <;> rfl
theorem bitsL_succ : ∀ (n : Nat) (b : Int), bitsL (n + 1) b = (bitsL n b).tdiv 2 := by
  intro n
  induction n with
  | zero => intro b; rfl
  | succ n ih => intro b; rw [bitsL, ih, bitsL]
theorem pickL_take {α : Type} (b : Int) (l : List α) (i : Nat) (hi : i < l.length) : pickL b (l.take (i + 1)) = pickL b (l.take i) ++ (if (bitsL i b).tmod 2 = 1 then [l[i]] else []) := by
  rw [List.take_add_one, List.getElem?_eq_getElem hi, pickL_append]
  congr 1
  rw [List.length_take, Nat.min_eq_left (by omega)]
  simp only [Option.toList, pickL]
theorem bitsL_bd (n : Nat) : ∀ (b : Int), 0 ≤ b → b ≤ 1000000 → 0 ≤ bitsL n b ∧ bitsL n b ≤ 1000000 := by
  induction n with
  | zero => intro b h1 h2; exact ⟨h1, h2⟩
  | succ n ih =>
    intro b h1 h2
    refine ih _ ?_ ?_
    · rw [Int.tdiv_eq_ediv_of_nonneg h1]; omega
    · rw [Int.tdiv_eq_ediv_of_nonneg h1]; omega
theorem pickL_len {α : Type} : ∀ (l : List α) (b : Int), (pickL b l).length ≤ l.length := by
  intro l
  induction l with
  | nil => intro b; simp [pickL]
  | cons a l ih =>
    intro b
    have := ih (b.tdiv 2)
    simp only [pickL]
    split <;> simp <;> omega

/-- a keeper in memory. -/
def KeepAt (σ : VSt) (kp : Nat) (t : Tape) (bits : Int) (odd : Bool) : Prop := ∃ ty z b, σ.heap kp = .cells [vl t.events, vl t.answers, vi bits, vb odd] ty z b
theorem KeepAt.sub {σ σ' : VSt} {kp : Nat} {t : Tape} {bits : Int} {odd : Bool} (h : KeepAt σ kp t bits odd) (k : Sub σ σ') (hk : kp < σ.next) : KeepAt σ' kp t bits odd := by
  obtain ⟨ty, z, b, h⟩ := h
  exact ⟨ty, z, b, (k.heap kp hk).trans h⟩
theorem w64_tdiv {b : Int} (h0 : 0 ≤ b) (h1 : b ≤ 1000000) : w64 (b.tdiv 2) = b.tdiv 2 := by
  rw [Int.tdiv_eq_ediv_of_nonneg h0]
  exact w64_ok (by omega) (by omega)
def needE (t : Tape) (bits : Int) : List Evt := pickL bits t.events
def needA (t : Tape) (bits : Int) : List Ans := pickL (bitsL t.events.length bits) t.answers

theorem needs_any (t : Tape) (bits : Int) (odd : Bool) (hb0 : 0 ≤ bits) (hb1 : bits ≤ 1000000) (h1 : t.events.length ≤ 100000) (h2 : t.answers.length ≤ 100000) (kp : Nat) (σ : VSt) (hk : KeepAt σ kp t bits odd) (hkp : kp < σ.next) :
    VC Try.prog 8 [.ptr kp 0] σ (fun r σ' => σ.next ≤ σ'.low ∧ r.fg = .tup [vl (needE t bits), vl (needA t bits)]) := by
  obtain ⟨ty, z, bb, hk⟩ := hk
  refine VC_body XF8 ?_
  have hk0 : σ.fresh.heap kp = .cells [vl t.events, vl t.answers, vi bits, vb odd] ty z bb := hk
  simp (decide := true) only [↓VW_region, ↓VW_seq, ↓VW_block, ↓VW_stuck, ↓vbindN_normal, ↓VO_nil, ↓VO_cons, ↓VS_mv, ↓VS_load, ↓VS_fa, ↓VS_nilck, ↓vfev_tmp, ↓vfev_int, ↓vfev_nilS, ↓vupd_same, ↓vupd_ne, ↓vfe0_zero, Now_any, Got_some, ↓vld_ptr, vrdB_cells, vadd_ptr, vnilck_ptr, vpart_one, ne_eq, ↓reduceIte, List.length_cons, List.length_nil, List.drop_zero, List.drop_succ_cons, List.take_succ_cons, List.take_zero, Nat.zero_add, Nat.reduceAdd, Nat.reduceLeDiff, xf8, hk0]
  refine VW_loopR 0 (fun k fe G => fe 0 = .ptr kp 0 ∧ fe 5 = .v (.slice none 0 0) ∧ σ.next ≤ G.low ∧ σ.next ≤ G.next ∧ G.heap kp = .cells [vl t.events, vl t.answers, vi bits, vb odd] ty z bb ∧ ∃ i : Nat, fe 7 = vi i ∧ fe 6 = vi (bitsL i bits) ∧ k + i = t.events.length ∧ App G σ.next (fe 4) (pickL bits (t.events.take i)))
    (fun fe G => fe 0 = .ptr kp 0 ∧ fe 5 = .v (.slice none 0 0) ∧ σ.next ≤ G.low ∧ σ.next ≤ G.next ∧ G.heap kp = .cells [vl t.events, vl t.answers, vi bits, vb odd] ty z bb ∧ fe 6 = vi (bitsL t.events.length bits) ∧ Rd (fe 4) (needE t bits)) t.events.length ?_ ?_ ?_
  · simp (decide := true) only [↓vupd_same, ↓vupd_ne, ↓vfe0_zero, ne_eq, next_fresh, true_and]
    exact ⟨Nat.le_refl _, Nat.le_refl _, hk, 0, rfl, rfl, by omega, .nil _ _⟩
  · rintro k fe G ⟨q0, q5, hlo, hn, gk, i, q7, q6, hki, hu⟩
    simp (decide := true) only [↓VW_region, ↓VW_seq, ↓VW_cond, ↓vbindN_normal, ↓VO_nil, ↓VO_cons, ↓VS_mv, ↓VS_load, ↓VS_fa, ↓VS_bin, ↓VS_len, ↓VS_nilck, ↓vfev_tmp, ↓vupd_same, ↓vupd_ne, Now_any, Got_some, ↓vld_ptr, vrdB_cells, vadd_ptr, vnilck_ptr, len_vl, vpart_one, ne_eq, Nat.add_zero, ↓reduceIte, List.length_cons, List.length_nil, List.drop_zero, List.take_succ_cons, List.take_zero, Nat.zero_add, Nat.reduceAdd, Nat.reduceLeDiff, q0, q7, gk, vbin_lss]
    refine TestV_dec (fun hlt => ?_) (fun hge => ?_)
    · have hi : i < t.events.length := by omega
      have hbd := bitsL_bd i bits hb0 hb1
      have hp := pickL_take bits t.events i hi
      have hs := bitsL_succ i bits
      have ne2 : (2 : Int) ≠ 0 := by decide
      simp (decide := true) only [↓VW_skip, ↓VW_region, ↓VW_seq, ↓VW_block, ↓VW_cond, ↓vbindN_normal, ↓VO_nil, ↓VO_cons, ↓VS_mv, ↓VS_bin, ↓vfev_tmp, ↓vfev_int, ↓vupd_same, ↓vupd_ne, Now_any, Got_some, ne_eq, q6, vbin_rem _ _ ne2, vbin_eql]
      refine TestV_dec (fun h1' => ?_) (fun h0' => ?_)
      · rw [if_pos h1'] at hp
        simp (decide := true) only [↓VW_region, ↓VO_cons, ↓VS_mv, ↓VS_load, ↓VS_fa, ↓VS_ia, ↓VS_nilck, ↓VS_buildSlice, ↓vfev_tmp, ↓vupd_same, ↓vupd_ne, Now_any, Got_some, List.map_cons, List.map_nil, ↓vld_ptr, vrdB_cells, vadd_ptr, vnilck_ptr, vpart_agg, vpart_one, ne_eq, Nat.add_zero, ↓reduceIte, List.length_cons, List.length_nil, List.drop_zero, List.take_succ_cons, List.take_zero, Nat.zero_add, Nat.reduceAdd, Nat.reduceLeDiff, q0, q7, gk, via_vl hi, wEvt, vld_vep hi, eEvt]
        refine VBuild.own rfl rfl rfl ?_
        simp (decide := true) only [↓VO_cons, ↓VS_append, ↓vfev_tmp, ↓vupd_same, ↓vupd_ne, Now_any, cs_agg, ne_eq]
        generalize t.events[i] = e at hp ⊢
        have huJ : App G.newTok σ.next (fe 4) (pickL bits (t.events.take i)) := hu.sub (Sub.newTok _)
        have hx : vcont G.newTok 8 (.own 8 1 (List.map VV.fg [vi e.kind, vi e.node, vi e.arg, vi e.msg.node, vi e.msg.handler, vi e.msg.count, vi e.msg.index, vi e.msg.copy]) G.next) = some ([e].length, vencs [e]) := by
          simp only [List.map_cons, List.map_nil, fg_int, vencs_one]; rfl
        have hcl := pickL_len (t.events.take i) bits
        simp only [List.length_take] at hcl
        obtain ⟨u2, J, a1, a2, a3, a4⟩ := huJ.push (esz := 8) (bytes := 64) hx rfl (by unfold reach; simp; omega) (by decide) (by rw [next_newTok]; omega)
        refine VAppend.own a1 ?_
        have jk := (congrFun a3.heap kp).trans gk
        have jx := a3.next
        have jl := a3.low
        simp only [next_newTok, low_newTok] at jx jl
        simp (decide := true) only [↓VW_region, ↓vbindN_normal, ↓vbindB_normal, ↓vbindL_normal, ↓VO_nil, ↓VO_cons, ↓VS_mv, ↓VS_bin, ↓vfev_tmp, ↓vfev_int, ↓vupd_same, ↓vupd_ne, Now_any, Got_some, ne_eq, q0, q5, q6, q7, vbin_quo _ _ ne2, w64_tdiv hbd.1 hbd.2, vbin_add, w64_1 hi (by omega : t.events.length ≤ 1000000), true_and]
        exact ⟨k - 1, by omega, by omega, by omega, jk, i + 1, rfl, by rw [hs], by omega, by rw [hp]; exact a2⟩
      · rw [if_neg h0', List.append_nil] at hp
        simp (decide := true) only [↓VW_skip, ↓VW_region, ↓vbindN_normal, ↓vbindB_normal, ↓vbindL_normal, ↓VO_nil, ↓VO_cons, ↓VS_mv, ↓VS_bin, ↓vfev_tmp, ↓vfev_int, ↓vupd_same, ↓vupd_ne, Now_any, Got_some, ne_eq, q0, q5, q6, q7, vbin_quo _ _ ne2, w64_tdiv hbd.1 hbd.2, vbin_add, w64_1 hi (by omega : t.events.length ≤ 1000000), true_and]
        exact ⟨k - 1, by omega, hlo, hn, gk, i + 1, rfl, by rw [hs], by omega, by rw [hp]; exact hu⟩
    · obtain rfl : i = t.events.length := by omega
      simp (decide := true) only [↓VW_exit, ↓vbindN_exit, ↓vbindL_exit, ↓vatExit_self, ↓vupd_ne, ne_eq, q0, q5, q6, true_and]
      rw [List.take_of_length_le (Nat.le_refl _)] at hu
      exact ⟨hlo, hn, gk, hu.rd⟩
  · rintro fe D ⟨q0, q5, hlo, hnD, dk, q6, hE⟩
    have hbd0 := bitsL_bd t.events.length bits hb0 hb1
    have hneed : needA t bits = pickL (bitsL t.events.length bits) t.answers := rfl
    generalize bitsL t.events.length bits = bits2 at q6 hneed hbd0
    simp (decide := true) only [↓VW_region, ↓VW_seq, ↓VW_block, ↓VW_stuck, ↓vbindN_normal, ↓vbindB_self, ↓VO_nil, ↓VO_cons, ↓VS_mv, ↓vfev_int, Now_any]
    refine VW_loopR 2 (fun k fe' G => fe' 0 = .ptr kp 0 ∧ fe' 4 = fe 4 ∧ σ.next ≤ G.low ∧ D.next ≤ G.next ∧ G.heap kp = .cells [vl t.events, vl t.answers, vi bits, vb odd] ty z bb ∧ ∃ i : Nat, fe' 8 = vi i ∧ fe' 6 = vi (bitsL i bits2) ∧ k + i = t.answers.length ∧ App G D.next (fe' 5) (pickL bits2 (t.answers.take i)))
      (fun fe' G => fe' 4 = fe 4 ∧ σ.next ≤ G.low ∧ Rd (fe' 5) (needA t bits)) t.answers.length ?_ ?_ ?_
    · simp (decide := true) only [↓vupd_same, ↓vupd_ne, ne_eq, q0, q5, q6, true_and]
      exact ⟨by omega, Nat.le_refl _, dk, 0, rfl, rfl, by omega, .nil _ _⟩
    · rintro k fe' G ⟨q0, q4, hlo, hn, gk, i, q7, q6, hki, hu⟩
      simp (decide := true) only [↓VW_region, ↓VW_seq, ↓VW_cond, ↓vbindN_normal, ↓VO_nil, ↓VO_cons, ↓VS_mv, ↓VS_load, ↓VS_fa, ↓VS_bin, ↓VS_len, ↓VS_nilck, ↓vfev_tmp, ↓vupd_same, ↓vupd_ne, Now_any, Got_some, ↓vld_ptr, vrdB_cells, vadd_ptr, vnilck_ptr, len_vl, vpart_one, ne_eq, Nat.add_zero, ↓reduceIte, List.length_cons, List.length_nil, List.drop_zero, List.drop_succ_cons, List.take_succ_cons, List.take_zero, Nat.zero_add, Nat.reduceAdd, Nat.reduceLeDiff, q0, q7, gk, vbin_lss]
      refine TestV_dec (fun hlt => ?_) (fun hge => ?_)
      · have hi : i < t.answers.length := by omega
        have hbd := bitsL_bd i bits2 hbd0.1 hbd0.2
        have hp := pickL_take bits2 t.answers i hi
        have hs := bitsL_succ i bits2
        have ne2 : (2 : Int) ≠ 0 := by decide
        simp (decide := true) only [↓VW_skip, ↓VW_region, ↓VW_seq, ↓VW_block, ↓VW_cond, ↓vbindN_normal, ↓VO_nil, ↓VO_cons, ↓VS_mv, ↓VS_bin, ↓vfev_tmp, ↓vfev_int, ↓vupd_same, ↓vupd_ne, Now_any, Got_some, ne_eq, q6, vbin_rem _ _ ne2, vbin_eql]
        refine TestV_dec (fun h1' => ?_) (fun h0' => ?_)
        · rw [if_pos h1'] at hp
          simp (decide := true) only [↓VW_region, ↓VO_cons, ↓VS_mv, ↓VS_load, ↓VS_fa, ↓VS_ia, ↓VS_nilck, ↓VS_buildSlice, ↓vfev_tmp, ↓vupd_same, ↓vupd_ne, Now_any, Got_some, List.map_cons, List.map_nil, ↓vld_ptr, vrdB_cells, vadd_ptr, vnilck_ptr, vpart_agg, vpart_one, ne_eq, Nat.add_zero, ↓reduceIte, List.length_cons, List.length_nil, List.drop_zero, List.drop_succ_cons, List.take_succ_cons, List.take_zero, Nat.zero_add, Nat.reduceAdd, Nat.reduceLeDiff, q0, q7, gk, via_vl hi, wAns, vld_vep hi, eAns]
          refine VBuild.own rfl rfl rfl ?_
          simp (decide := true) only [↓VO_cons, ↓VS_append, ↓vfev_tmp, ↓vupd_same, ↓vupd_ne, Now_any, cs_agg, ne_eq]
          generalize t.answers[i] = e at hp ⊢
          have huJ : App G.newTok D.next (fe' 5) (pickL bits2 (t.answers.take i)) := hu.sub (Sub.newTok _)
          have hx : vcont G.newTok 6 (.own 6 1 (List.map VV.fg [vi e.q.node, vi e.q.handler, vi e.q.count, vi e.q.index, vi e.q.copy, vi e.n]) G.next) = some ([e].length, vencs [e]) := by
            simp only [List.map_cons, List.map_nil, fg_int, vencs_one]; rfl
          have hcl := pickL_len (t.answers.take i) bits2
          simp only [List.length_take] at hcl
          obtain ⟨u2, J, a1, a2, a3, a4⟩ := huJ.push (esz := 6) (bytes := 48) hx rfl (by unfold reach; simp; omega) (by decide) (by rw [next_newTok]; omega)
          refine VAppend.own a1 ?_
          have jk := (congrFun a3.heap kp).trans gk
          have jx := a3.next
          have jl := a3.low
          simp only [next_newTok, low_newTok] at jx jl
          simp (decide := true) only [↓VW_region, ↓vbindN_normal, ↓vbindB_normal, ↓vbindL_normal, ↓VO_nil, ↓VO_cons, ↓VS_mv, ↓VS_bin, ↓vfev_tmp, ↓vfev_int, ↓vupd_same, ↓vupd_ne, Now_any, Got_some, ne_eq, q0, q4, q6, q7, vbin_quo _ _ ne2, w64_tdiv hbd.1 hbd.2, vbin_add, w64_1 hi (by omega : t.answers.length ≤ 1000000), true_and]
          exact ⟨k - 1, by omega, by omega, by omega, jk, i + 1, rfl, by rw [hs], by omega, by rw [hp]; exact a2⟩
        · rw [if_neg h0', List.append_nil] at hp
          simp (decide := true) only [↓VW_skip, ↓VW_region, ↓vbindN_normal, ↓vbindB_normal, ↓vbindL_normal, ↓VO_nil, ↓VO_cons, ↓VS_mv, ↓VS_bin, ↓vfev_tmp, ↓vfev_int, ↓vupd_same, ↓vupd_ne, Now_any, Got_some, ne_eq, q0, q4, q6, q7, vbin_quo _ _ ne2, w64_tdiv hbd.1 hbd.2, vbin_add, w64_1 hi (by omega : t.answers.length ≤ 1000000), true_and]
          exact ⟨k - 1, by omega, hlo, hn, gk, i + 1, rfl, by rw [hs], by omega, by rw [hp]; exact hu⟩
      · simp (decide := true) only [↓VW_exit, ↓vbindN_exit, ↓vbindL_exit, ↓vatExit_self, ↓vupd_ne, ne_eq, q4, true_and]
        rw [List.take_of_length_le (by omega)] at hu
        exact ⟨hlo, by rw [hneed]; exact hu.rd⟩
    · rintro fe' G ⟨q4, hlo, hA⟩
      simp (decide := true) only [↓VW_ret, ↓VW_region, ↓VW_seq, ↓vbindN_normal, ↓vbindB_self, ↓vatEnd_ret, ↓VO_nil, ↓VO_cons, ↓VS_mv, ↓vfev_tmp, ↓vupd_same, ↓vupd_ne, Now_any, Got_some, vrs_two, vr1_tmp, Option.bind_some, List.map_cons, List.map_nil, ne_eq, q4, fg_tup, hE.fg, hA.fg]
      exact ⟨hlo, trivial⟩

/-- the keeper's condition. -/
def failsK (t : Tape) (bits : Int) (odd : Bool) (x : Tape) : Bool :=
  if odd = true ∧ (x.events.length : Int).tmod 2 = 0 ∧ x.events.length ≠ t.events.length then false else partOfT ⟨needE t bits, needA t bits⟩ x
theorem fails_any (t x : Tape) (bits : Int) (odd : Bool) (hb0 : 0 ≤ bits) (hb1 : bits ≤ 1000000) (h1 : t.events.length ≤ 100000) (h2 : t.answers.length ≤ 100000) (h3 : x.events.length ≤ 100000) (h4 : x.answers.length ≤ 100000) (kp : Nat) (σ : VSt) (hk : KeepAt σ kp t bits odd) (hkp : kp < σ.next) :
    VC Try.prog 10 [.ptr kp 0, tapeV x] σ (fun r σ' => σ.next ≤ σ'.low ∧ r.fg = vb (failsK t bits odd x)) := by
  refine VC_body XF10 ?_
  simp (decide := true) only [↓VW_region, ↓VW_seq, ↓vbindN_normal, ↓VO_nil, ↓VO_cons, ↓VS_mv, ↓VS_call, ↓VS_box, ↓vfev_tmp, ↓vfev_bool, ↓vupd_same, ↓vupd_ne, ↓vfe0_zero, ↓vfe0_succ, Now_any, List.map_cons, List.map_nil, cs_agg, vAll_vl, vAll_nil, Need_true, ne_eq, next_fresh, List.length_cons, List.length_nil, Nat.zero_add, Nat.reduceAdd, xf10, tapeV]
  have hkA : KeepAt (σ.fresh.box [vl x.events, vl x.answers] 26 2) kp t bits odd := by
    obtain ⟨ty, z, b, hk⟩ := hk
    exact ⟨ty, z, b, by rw [heap_box_ne _ _ _ _ _ (by rw [next_fresh]; omega)]; exact hk⟩
  have g0 : (σ.fresh.box [vl x.events, vl x.answers] 26 2).heap σ.next = .cells [vl x.events, vl x.answers] 26 2 σ.next := heap_box_self _ _ _ _
  have nA : (σ.fresh.box [vl x.events, vl x.answers] 26 2).next = σ.next + 1 := rfl
  have lA : (σ.fresh.box [vl x.events, vl x.answers] 26 2).low = σ.next := rfl
  generalize σ.fresh.box [vl x.events, vl x.answers] 26 2 = A at hkA g0 nA lA ⊢
  refine VCall.data (needs_any t bits odd hb0 hb1 h1 h2 kp A hkA (by omega)) ⟨Fg.rfl _, trivial⟩ (fun B hs => ?_)
  obtain ⟨ty, z, b, hkB⟩ := hkA.sub hs (by omega)
  have b0 := (hs.heap _ (by omega)).trans g0
  have nB := hs.next
  have lB := hs.low
  have ne2 : (2 : Int) ≠ 0 := by decide
  have rest : ∀ (hc : ¬ (odd = true ∧ (x.events.length : Int).tmod 2 = 0 ∧ x.events.length ≠ t.events.length)), failsK t bits odd x = partOfT ⟨needE t bits, needA t bits⟩ x := fun hc => by unfold failsK; rw [if_neg hc]
  have hE : (needE t bits).length ≤ 100000 := Nat.le_trans (pickL_len _ _) h1
  have hA : (needA t bits).length ≤ 100000 := Nat.le_trans (pickL_len _ _) h2
  cases odd with
  | false =>
    simp (decide := true) only [↓VW_skip, ↓VW_region, ↓VW_draw, ↓VW_seq, ↓VW_cond, ↓vbindN_normal, ↓VO_nil, ↓VO_cons, List.zip_cons_cons, List.zip_nil_left, ↓VM_nil, ↓VM_cons, ↓VM_guard, ↓vearlyP_false, ↓VS_mv, ↓VS_call, ↓VS_load, ↓VS_fa, ↓VS_ext, ↓VS_nilck, ↓VS_pick, ↓VS_build, ↓vfev_tmp, ↓vfev_bool, ↓vupd_same, ↓vupd_ne, ↓vfe0_zero, Now_any, Got_some, TestV_false, PickV_ft, List.map_cons, List.map_nil, ↓vld_ptr, vrdB_cells, vadd_ptr, vnilck_ptr, vext_zero, vext_one, vpart_agg, vpart_one, cs_vl, ne_eq, vpick_f, List.append_nil, List.nil_append, List.cons_append, ↓reduceIte, List.length_cons, List.length_nil, List.drop_zero, List.drop_succ_cons, List.take_succ_cons, List.take_zero, Nat.zero_add, Nat.reduceAdd, Nat.reduceLeDiff, and_true, and_self, hkB, vfill_nil, vfill_cons, vsplice, List.append_assoc, b0]
    refine VCall.dat (partOf_any ⟨needE t bits, needA t bits⟩ x hE h3 hA h4) ⟨Fg.rfl _, Fg.rfl _, trivial⟩ (fun C hs2 => ?_)
    have lC := hs2.low
    simp (decide := true) only [↓VW_ret, ↓vbindN_normal, ↓vatEnd_ret, ↓VO_nil, ↓VO_cons, ↓VS_mv, ↓vfev_tmp, ↓vupd_same, Now_any, Got_some, vrs_one, vr1_tmp, fg_bool]
    exact ⟨by omega, by rw [rest (by simp)]⟩
  | true =>
    by_cases hm : (x.events.length : Int).tmod 2 = 0
    · have c1 : decide ((x.events.length : Int).tmod 2 = 0) = true := decide_eq_true hm
      by_cases hl : x.events.length = t.events.length
      · have c2 : decide ((x.events.length : Int) ≠ t.events.length) = false := decide_eq_false (by omega)
        simp (decide := true) only [↓VW_skip, ↓VW_region, ↓VW_draw, ↓VW_seq, ↓VW_cond, ↓vbindN_normal, ↓VO_nil, ↓VO_cons, List.zip_cons_cons, List.zip_nil_left, ↓VM_nil, ↓VM_cons, ↓VM_guard, ↓vearlyP_false, ↓VS_mv, ↓VS_call, ↓VS_load, ↓VS_fa, ↓VS_bin, ↓VS_len, ↓VS_ext, ↓VS_nilck, ↓VS_pick, ↓VS_build, ↓vfev_tmp, ↓vfev_int, ↓vfev_bool, ↓vupd_same, ↓vupd_ne, ↓vfe0_zero, Now_any, Got_some, TestV_false, PickV_tt, List.map_cons, List.map_nil, ↓vld_ptr, vrdB_cells, vadd_ptr, vnilck_ptr, vext_zero, vext_one, len_vl, vpart_agg, vpart_one, cs_vl, ne_eq, vpick_t, List.append_nil, List.nil_append, List.cons_append, Nat.add_zero, ↓reduceIte, List.length_cons, List.length_nil, List.drop_zero, List.drop_succ_cons, List.take_succ_cons, List.take_zero, Nat.zero_add, Nat.reduceAdd, Nat.reduceLeDiff, and_true, and_self, hkB, b0, vbin_rem _ _ ne2, vbin_eql, c1, vbin_neq, c2, vfill_nil, vfill_cons, vsplice, List.append_assoc]
        refine VCall.dat (partOf_any ⟨needE t bits, needA t bits⟩ x hE h3 hA h4) ⟨Fg.rfl _, Fg.rfl _, trivial⟩ (fun C hs2 => ?_)
        have lC := hs2.low
        simp (decide := true) only [↓VW_ret, ↓vbindN_normal, ↓vatEnd_ret, ↓VO_nil, ↓VO_cons, ↓VS_mv, ↓vfev_tmp, ↓vupd_same, Now_any, Got_some, vrs_one, vr1_tmp, fg_bool]
        exact ⟨by omega, by rw [rest (fun h => h.2.2 hl)]⟩
      · have c2 : decide ((x.events.length : Int) ≠ t.events.length) = true := decide_eq_true (by omega)
        simp (decide := true) only [↓VW_ret, ↓VW_region, ↓VW_draw, ↓VW_seq, ↓VW_cond, ↓vbindN_normal, ↓vbindN_ret, ↓vatEnd_ret, ↓VO_nil, ↓VO_cons, List.zip_cons_cons, List.zip_nil_left, ↓VM_nil, ↓VM_cons, ↓VM_guard, ↓vearlyP_false, ↓VS_mv, ↓VS_load, ↓VS_fa, ↓VS_bin, ↓VS_len, ↓VS_ext, ↓VS_nilck, ↓VS_pick, ↓VS_build, ↓vfev_tmp, ↓vfev_int, ↓vfev_bool, ↓vupd_same, ↓vupd_ne, ↓vfe0_zero, Now_any, Got_some, TestV_true, PickV_tt, vrs_one, vr1_tmp, List.map_cons, List.map_nil, ↓vld_ptr, vrdB_cells, vadd_ptr, vnilck_ptr, vext_zero, vext_one, len_vl, vpart_one, ne_eq, vpick_t, Nat.add_zero, ↓reduceIte, List.length_cons, List.length_nil, List.drop_zero, List.drop_succ_cons, List.take_succ_cons, List.take_zero, Nat.zero_add, Nat.reduceAdd, Nat.reduceLeDiff, hkB, b0, vbin_rem _ _ ne2, vbin_eql, c1, vbin_neq, c2, fg_bool]
        exact ⟨by omega, by unfold failsK; rw [if_pos ⟨rfl, hm, hl⟩]⟩
    · have c1 : decide ((x.events.length : Int).tmod 2 = 0) = false := decide_eq_false hm
      simp (decide := true) only [↓VW_skip, ↓VW_region, ↓VW_draw, ↓VW_seq, ↓VW_cond, ↓vbindN_normal, ↓VO_nil, ↓VO_cons, List.zip_cons_cons, List.zip_nil_left, ↓VM_nil, ↓VM_cons, ↓VM_guard, ↓vearlyP_false, ↓VS_mv, ↓VS_call, ↓VS_load, ↓VS_fa, ↓VS_bin, ↓VS_len, ↓VS_ext, ↓VS_nilck, ↓VS_pick, ↓VS_build, ↓vfev_tmp, ↓vfev_int, ↓vfev_bool, ↓vupd_same, ↓vupd_ne, ↓vfe0_zero, Now_any, Got_some, TestV_false, PickV_tt, PickV_ft, List.map_cons, List.map_nil, ↓vld_ptr, vrdB_cells, vadd_ptr, vnilck_ptr, vext_zero, vext_one, len_vl, vpart_agg, vpart_one, cs_vl, ne_eq, vpick_t, vpick_f, List.append_nil, List.nil_append, List.cons_append, Nat.add_zero, ↓reduceIte, List.length_cons, List.length_nil, List.drop_zero, List.drop_succ_cons, List.take_succ_cons, List.take_zero, Nat.zero_add, Nat.reduceAdd, Nat.reduceLeDiff, and_true, and_self, hkB, b0, vbin_rem _ _ ne2, vbin_eql, c1, vfill_nil, vfill_cons, vsplice, List.append_assoc]
      refine VCall.dat (partOf_any ⟨needE t bits, needA t bits⟩ x hE h3 hA h4) ⟨Fg.rfl _, Fg.rfl _, trivial⟩ (fun C hs2 => ?_)
      have lC := hs2.low
      simp (decide := true) only [↓VW_ret, ↓vbindN_normal, ↓vatEnd_ret, ↓VO_nil, ↓VO_cons, ↓VS_mv, ↓vfev_tmp, ↓vupd_same, Now_any, Got_some, vrs_one, vr1_tmp, fg_bool]
      exact ⟨by omega, by rw [rest (fun h => hm h.2.1)]⟩
end Go.Proofs.Ytmbbebfpjclghaa

set_option linter.unusedSimpArgs false
set_option linter.unusedSectionVars false
set_option linter.unusedVariables false
namespace Go.Proofs.Ytmbbebfpjclghaa
open Go Go.RowKit

theorem cloneI_any (l : List Int) (hl : l.length ≤ 1000000) (σ : VSt) : VC Try.prog 41 [vl l] σ (fun r σ' => σ.next ≤ σ'.low ∧ App σ' σ.next r l) := by
  refine VC_body XF41 ?_
  simp (decide := true) only [↓VW_region, ↓VW_seq, ↓vbindN_normal, ↓VO_nil, ↓VO_cons, ↓VS_mv, ↓VS_eqs, ↓vfev_tmp, ↓vfev_nilS, ↓vupd_same, ↓vupd_ne, ↓vfe0_zero, Now_any, ne_eq, xf41]
  refine VEqs.lst (fun h => by rw [List.eq_nil_of_length_eq_zero h]; rfl) (fun h => ?_) ?_
  · simp (decide := true) only [↓VW_ret, ↓VW_region, ↓VW_seq, ↓VW_cond, ↓vbindN_normal, ↓vbindN_ret, ↓vatEnd_ret, ↓VO_nil, ↓VO_cons, ↓VS_mv, ↓vfev_tmp, ↓vfev_nilS, ↓vupd_same, Now_any, Got_some, TestV_true, vrs_one, vr1_tmp, notIf_ff]
    rw [List.eq_nil_of_length_eq_zero h]
    exact ⟨Nat.le_refl _, .nil _ _⟩
  · simp (decide := true) only [↓VW_skip, ↓VW_region, ↓VW_seq, ↓VW_cond, ↓vbindN_normal, ↓VO_nil, ↓VO_cons, ↓VS_buildSlice, ↓vfev_tmp, ↓vupd_same, Now_any, TestV_false, List.map_nil, notIf_ff]
    refine VBuild.own rfl rfl rfl ?_
    simp (decide := true) only [↓VO_cons, ↓VS_mv, ↓VS_append, ↓vfev_tmp, ↓vupd_same, ↓vupd_ne, ↓vfe0_zero, Now_any, ne_eq, next_fresh]
    have h0 : App σ.fresh.newTok σ.next (.own 1 0 [] σ.next) ([] : List Int) := .inr ⟨σ.next, rfl, by simp [VSt.newTok, VSt.fresh], Nat.le_refl _, by simp [VSt.newTok, VSt.fresh]⟩
    obtain ⟨r, σ1, a1, a2, a3, a4⟩ := h0.push (esz := 1) (bytes := 8) (vcont_vl σ.fresh.newTok l rfl) rfl (by unfold reach; simp; omega) (by decide) (by simp [VSt.newTok, VSt.fresh])
    refine VAppend.own a1 ?_
    simp (decide := true) only [↓VW_ret, ↓vbindN_normal, ↓vatEnd_ret, ↓VO_nil, ↓VO_cons, ↓VS_mv, ↓vfev_tmp, ↓vupd_same, Now_any, Got_some, vrs_one, vr1_tmp, notIf_ff, next_fresh]
    have := a3.low
    simp only [low_newTok, low_fresh] at this
    exact ⟨by omega, by simpa using a2⟩
theorem withoutI_any (l : List Int) (i j : Nat) (hi : i ≤ l.length) (hj : j ≤ l.length) (hl : l.length ≤ 100000) (σ : VSt) : VC Try.prog 42 [vl l, vi i, vi j] σ (fun r σ' => σ.next ≤ σ'.low ∧ App σ' σ.next r (Shr.rmv l i j)) := by
  refine VC_body XF42 ?_
  simp (decide := true) only [↓VW_ret, ↓VW_region, ↓VW_draw, ↓VW_seq, ↓vbindN_normal, ↓vatEnd_ret, ↓VO_nil, ↓VO_cons, List.zip_cons_cons, List.zip_nil_left, ↓VM_cons, ↓vearlyP_false, ↓VS_mv, ↓VS_call, ↓VS_sl, ↓vfev_tmp, ↓vfev_nilS, ↓vupd_same, ↓vupd_ne, ↓vfe0_zero, ↓vfe0_succ, Now_any, Got_some, vrs_one, vr1_tmp, Option.map_some, Option.map_none, List.map_cons, List.map_nil, ne_eq, next_fresh, xf42, vsl_hi (l := l) wInt.symm hi]
  refine VCall.pure (cloneI_any (l.take i) (by simp; omega) _) (fun _ _ h => h) ?_
  rintro v A hv hs
  have lA := hs.low
  have nA := hs.next
  simp only [low_fresh] at lA
  simp (decide := true) only [↓VM_cons, ↓vearlyP_false, ↓vearly_sl, VLow_vl, oldU_same, oldU_ne, allOld_any, oldOpd_tmp, keepsOld, ↓VS_mv, ↓VS_append, ↓VS_sl, ↓vfev_tmp, ↓vupd_same, ↓vupd_ne, ↓vfe0_zero, ↓vfe0_succ, Now_any, Got_some, Option.map_some, Option.map_none, ne_eq, vsl_lo (l := l) wInt.symm hj]
  obtain ⟨r, B, a1, a2, a3, a4⟩ := hv.push (esz := 1) (bytes := 8) (vcont_vl A (l.drop j) rfl) rfl (by unfold reach; simp; omega) (by decide) (by simpa using nA)
  refine VAppend.own a1 ?_
  simp (decide := true) only [↓vbindN_normal, ↓VM_nil, ↓VM_cons, ↓vearlyP_false, ↓VS_mv, ↓vfev_tmp, ↓vupd_same, Now_any]
  have := a3.low
  rw [next_fresh] at this
  exact ⟨by omega, a2⟩

theorem lessV (a b : Int) : VD Try.prog 39 [vi a, vi b] (vb (decide (a < b))) := by
  intro σ
  have hn : ∀ (c : Int), VD Try.prog 50 [vi c] (vb false) := by
    intro c σ
    refine VC_body XF50 ?_
    have : decide (c ≠ c) = false := decide_eq_false (by simp)
    simp (decide := true) only [↓VW_ret, ↓VW_region, ↓VW_seq, ↓vbindN_normal, ↓vatEnd_ret, ↓VO_nil, ↓VO_cons, ↓VS_mv, ↓VS_bin, ↓vfev_tmp, ↓vfev_bool, ↓vupd_same, ↓vupd_ne, ↓vfe0_zero, Now_any, Got_some, vrs_one, vr1_tmp, ne_eq, xf50, vbin_neq, fg_bool]
    exact ⟨Nat.le_refl _, rfl⟩
  refine VC_body XF39 ?_
  simp (decide := true) only [↓VW_region, ↓VW_seq, ↓vbindN_normal, ↓VO_nil, ↓VO_cons, ↓VS_mv, ↓VS_call, ↓vfev_tmp, ↓vfev_bool, ↓vupd_same, ↓vupd_ne, ↓vfe0_zero, Now_any, List.map_cons, List.map_nil, ne_eq, xf39]
  refine VCall.dat (hn a) ⟨Fg.rfl _, trivial⟩ (fun A hs => ?_)
  have lA := hs.low
  simp (decide := true) only [↓VW_ret, ↓vbindN_normal, ↓vatEnd_ret, ↓VO_nil, ↓VO_cons, ↓VO_guard, ↓VS_mv, ↓VS_bin, ↓VS_pick, ↓vfev_tmp, ↓vfev_bool, ↓vupd_same, ↓vupd_ne, ↓vfe0_zero, ↓vfe0_succ, Now_any, Got_some, PickV_ft, PickV_ff, vrs_one, vr1_tmp, ne_eq, vpick_f, vbin_lss, fg_bool, low_fresh] at lA ⊢
  first
    | exact ⟨by rw [lA]; exact Nat.le_refl _, trivial⟩
    | (cases decide (a < b) <;> simp (decide := true) only [↓VW_skip, ↓VW_exit, ↓VW_ret, ↓VW_region, ↓VW_draw, ↓VW_seq, ↓VW_block, ↓VW_cond, ↓VW_stuck, ↓VW_range, ↓vbindN_normal, ↓vbindN_exit, ↓vbindN_ret, ↓vbindB_normal, ↓vbindB_ret, ↓vbindB_self, ↓vbindB_ne, ↓vbindL_normal, ↓vbindL_exit, ↓vbindL_ret, ↓vatExit_self, ↓vatExit_ne, ↓vatExit_ret, ↓vatEnd_normal, ↓vatEnd_ret, ↓VO_nil, ↓VO_cons, ↓VO_cons_drop, ↓VO_guard, ↓VO_guard_drop, List.zip_cons_cons, List.zip_nil_left, ↓VM_nil, ↓VM_cons, ↓VM_cons_drop, ↓VM_guard, ↓VM_guard_drop, ↓vearlyP_false, ↓vearly_load, ↓vearly_sl, VLow_ptr, VLow_slice, VLow_v, VLow_ep, VLow_lst, VLow_own, VLow_vep, VLow_vl, VLow_vo, oldU_same, oldU_ne, allOld_any, oldOpd_tmp, oldOpd_const, keepsOld, Bool.and_true, Bool.true_and, Bool.and_false, Bool.false_and, ↓VS_mv, ↓VS_call, ↓VS_callv, ↓VS_load, ↓VS_fa, ↓VS_fld, ↓VS_ia, ↓VS_iaArr, ↓VS_idx, ↓VS_bin, ↓VS_len, ↓VS_lenStr, ↓VS_ext, ↓VS_eqf, ↓VS_eqb, ↓VS_eqp, ↓VS_eqs, ↓VS_un, ↓VS_cvi, ↓VS_cvs, ↓VS_nilck, ↓VS_pick, ↓VS_mkFunc, ↓VS_mkIface, ↓VS_build, ↓VS_box, ↓VS_zeroA, ↓VS_zeroI, ↓VS_zeroB, ↓VS_zeroT, ↓VS_zeroS, ↓VS_zeroP, ↓VS_zeroM, ↓VS_zeroF, ↓VS_store, ↓VS_buildSlice, ↓VS_append, ↓VS_copy, ↓VS_clr, ↓VS_sl, ↓VS_slStr, ↓VS_idxStr, ↓VS_mkSlice, ↓VS_minmax, ↓VS_extra0, ↓VS_extraL, ↓VS_extraM, readsE, ↓vfev_tmp, ↓vfev_int, ↓vfev_bool, ↓vfev_str, ↓vfev_nilS, ↓vfev_nilP, ↓vfev_nilM, ↓vfev_nilF, ↓vfev_nilI, ↓vfev_agg, ↓vfev_tup, ↓vfev_func, ↓vupd_same, ↓vupd_ne, ↓vfe0_zero, ↓vfe0_succ, Now_any, Got_some, TestV_true, TestV_false, PickV_tt, PickV_ft, PickV_tf, PickV_ff, PickV_undef, vrs_one, vrs_two, vrs_three, vrs_four, vrs_nil, vr1_tmp, vr1_cell, Option.bind_some, Option.map_some, Option.map_none, List.map_cons, List.map_nil, ↓vld_ptr, vrdB_cells, vst_ptr, vstB_cells, vadd_ptr, vadd_ep, vadd_vep, vnilck_ptr, vnilck_ep, vnilck_vep, vnilck_fn, vext_zero, vext_one, vext_two, vext_three, len_vl, len_vo, vlenv_nil, vlenv_slice, vpart_agg, vpart_one, cs_agg, cs_v, cs_vl, cs_vo, cs_lst, cs_own, cs_slice, cs_ptr, cs_map, cs_fn, vAll_v, vAll_vl, vAll_vo, vAll_lst, vAll_own, vAll_slice, vAll_ptr, vAll_map, vAll_fn, vAll_nil, VCallv_func, VCallv_yield, Need_true, ne_eq, Nat.reduceEqDiff, not_false_eq_true, vpick_t, vpick_f, notIf_tt, notIf_tf, notIf_ff, vun_not, veqb_b, VEqs_own, VEqs_slice, VEqs_nil, flatL_int, flatL_bool, flatL_str, flatL_slice, flatL_ptr, flatL_map, flatL_fn, flatL_nil, List.append_nil, List.nil_append, List.cons_append, Nat.add_zero, next_box, next_write, next_newTok, next_useTok, next_fresh, Bool.not_false, Bool.not_true, fg_bool] <;> exact ⟨by rw [lA]; exact Nat.le_refl _, trivial⟩)
theorem isNaNV (c : Int) : VD Try.prog 40 [vi c] (vb false) := by
  intro σ
  refine VC_body XF40 ?_
  have : decide (c ≠ c) = false := decide_eq_false (by simp)
  simp (decide := true) only [↓VW_ret, ↓VW_region, ↓VW_seq, ↓vbindN_normal, ↓vatEnd_ret, ↓VO_nil, ↓VO_cons, ↓VS_mv, ↓VS_bin, ↓vfev_tmp, ↓vfev_bool, ↓vupd_same, ↓vupd_ne, ↓vfe0_zero, Now_any, Got_some, vrs_one, vr1_tmp, ne_eq, xf40, vbin_neq, fg_bool]
  exact ⟨Nat.le_refl _, rfl⟩

theorem mid_u64 {i j : Nat} (h : i + j ≤ 1000000) : w64 ((i : Int) + j) = ((i + j : Nat) : Int) := by rw [w64_ok (by omega) (by omega)]; omega
theorem vcvi_u64 (n : Nat) (h : n ≤ 1000000) : vcvi .u64 (vi n) = some (.v (.int .u64 n)) := by
  have := cviv_u64 (n : Int) (by omega) (by omega)
  simp only [cviv, Option.some.injEq, Value.int.injEq, true_and] at this
  simp only [vcvi, this]
theorem vbin_shr1 (n : Nat) : vbin .shr (.v (.int .u64 n)) (.v (.int .u64 1)) = some (.v (.int .u64 ((n / 2 : Nat) : Int))) := by
  rw [vbin_v, xbin_shr1 _ (by omega)]; rfl
theorem vcvi_i64 (n : Nat) (h : n ≤ 1000000) : vcvi .i64 (.v (.int .u64 n)) = some (vi n) := by
  have := cviv_i64 (n : Int) (by omega) (by omega)
  simp only [cviv, Option.some.injEq, Value.int.injEq, true_and] at this
  simp only [vcvi, this]
/-- slices.BinarySearch in a list that rises. -/
theorem bsearch_any (l : List Int) (x : Int) (hs : l.Pairwise (· < ·)) (hl : l.length ≤ 100000) (σ : VSt) : VC Try.prog 23 [vl l, vi x] σ (fun r σ' => σ.next ≤ σ'.low ∧ ∃ i : Nat, r = .tup [vi i, vb (l.contains x)]) := by
  refine VC_body XF23 ?_
  simp (decide := true) only [↓VW_region, ↓VW_seq, ↓VW_block, ↓VW_stuck, ↓vbindN_normal, ↓VO_nil, ↓VO_cons, ↓VS_mv, ↓VS_len, ↓vfev_tmp, ↓vfev_int, ↓vfev_bool, ↓vupd_same, ↓vupd_ne, ↓vfe0_zero, Now_any, Got_some, len_vl, ne_eq, xf23]
  have hsg : ∀ a b (ha : a < l.length) (hb : b < l.length), a < b → l[a] < l[b] := fun a b ha hb hab => List.pairwise_iff_getElem.1 hs a b ha hb hab
  refine VW_loopR 0 (fun k fe G => fe 0 = vl l ∧ fe 1 = vi x ∧ fe 6 = vi l.length ∧ σ.next ≤ G.low ∧ ∃ i j : Nat, fe 7 = vi i ∧ fe 8 = vi j ∧ k = j - i ∧ i ≤ j ∧ j ≤ l.length ∧ (∀ a (h : a < l.length), a < i → l[a] < x) ∧ ∀ a (h : a < l.length), j ≤ a → x ≤ l[a])
    (fun fe G => fe 0 = vl l ∧ fe 1 = vi x ∧ fe 6 = vi l.length ∧ σ.next ≤ G.low ∧ ∃ i : Nat, fe 7 = vi i ∧ i ≤ l.length ∧ (∀ a (h : a < l.length), a < i → l[a] < x) ∧ ∀ a (h : a < l.length), i ≤ a → x ≤ l[a]) l.length ?_ ?_ ?_
  · simp (decide := true) only [↓vupd_same, ↓vupd_ne, ↓vfe0_zero, ↓vfe0_succ, ne_eq, true_and]
    exact ⟨Nat.le_refl _, 0, l.length, rfl, rfl, by omega, by omega, by omega, fun _ _ h => by omega, fun _ _ h => by omega⟩
  · rintro k fe G ⟨q0, q1, q6, hlo, i, j, q7, q8, hk, hij, hj, h1, h2⟩
    simp (decide := true) only [↓VW_region, ↓VW_seq, ↓VW_cond, ↓vbindN_normal, ↓VO_nil, ↓VO_cons, ↓VS_mv, ↓VS_bin, ↓vfev_tmp, ↓vupd_same, ↓vupd_ne, Now_any, Got_some, ne_eq, q7, q8, vbin_lss]
    refine TestV_dec (fun hlt => ?_) (fun hge => ?_)
    · have hm : (i + j) / 2 < l.length := by omega
      simp (decide := true) only [↓VW_skip, ↓VW_region, ↓VW_seq, ↓VW_block, ↓vbindN_normal, ↓VO_nil, ↓VO_cons, ↓VS_mv, ↓VS_call, ↓VS_load, ↓VS_ia, ↓VS_bin, ↓VS_cvi, ↓vfev_tmp, ↓vfev_int, ↓vupd_same, ↓vupd_ne, Now_any, Got_some, List.map_cons, List.map_nil, vpart_one, ne_eq, q7, q8, vbin_add, mid_u64 (by omega : i + j ≤ 1000000), vcvi_u64 _ (by omega : i + j ≤ 1000000), vbin_shr1, vcvi_i64 _ (by omega : (i + j) / 2 ≤ 1000000), q0, q1, via_vl hm, wInt, vld_vep hm, eInt, List.drop_zero, List.take_succ_cons, List.take_zero]
      refine VCall.dat (lessV _ _) ⟨Fg.rfl _, Fg.rfl _, trivial⟩ (fun A hsA => ?_)
      have lA := hsA.low
      simp (decide := true) only [↓VW_cond, ↓vbindN_normal, ↓VO_nil, ↓vfev_tmp, ↓vupd_same]
      refine TestV_dec (fun hlt2 => ?_) (fun hge2 => ?_)
      · simp (decide := true) only [↓VW_region, ↓vbindB_normal, ↓vbindL_normal, ↓VO_nil, ↓VO_cons, ↓VS_mv, ↓VS_bin, ↓vfev_tmp, ↓vfev_int, ↓vupd_same, ↓vupd_ne, Now_any, Got_some, ne_eq, vbin_add, w64_1 hm (by omega : l.length ≤ 1000000), q0, q1, q6, q8, true_and]
        refine ⟨j - ((i + j) / 2 + 1), by omega, by omega, _, j, rfl, rfl, rfl, by omega, hj, fun a ha hlt => ?_, h2⟩
        by_cases e : a = (i + j) / 2
        · subst e; exact hlt2
        · have := hsg a _ ha hm (by omega); omega
      · simp (decide := true) only [↓VW_region, ↓vbindB_normal, ↓vbindL_normal, ↓VO_nil, ↓VO_cons, ↓VS_mv, ↓vfev_tmp, ↓vupd_same, ↓vupd_ne, Now_any, ne_eq, q0, q1, q6, q7, true_and]
        refine ⟨(i + j) / 2 - i, by omega, by omega, i, _, rfl, rfl, rfl, by omega, by omega, h1, fun a ha hle => ?_⟩
        by_cases e : a = (i + j) / 2
        · subst e; omega
        · have := hsg _ a hm ha (by omega); omega
    · obtain rfl : i = j := by omega
      simp (decide := true) only [↓VW_exit, ↓vbindN_exit, ↓vbindL_exit, ↓vatExit_self, ↓vupd_ne, ne_eq, q0, q1, q6, q7, true_and]
      exact ⟨hlo, i, rfl, hj, h1, h2⟩
  · rintro fe G ⟨q0, q1, q6, hlo, i, q7, hi, h1, h2⟩
    by_cases hlt : i < l.length
    · have c1 : decide ((i : Int) < l.length) = true := decide_eq_true (by omega)
      by_cases he : l[i] = x
      · have c2 : decide (l[i] = x) = true := decide_eq_true he
        simp (decide := true) only [↓VW_ret, ↓VW_region, ↓VW_seq, ↓vbindN_normal, ↓vbindB_self, ↓vatEnd_ret, ↓VO_nil, ↓VO_cons, ↓VO_guard, ↓VS_mv, ↓VS_load, ↓VS_ia, ↓VS_bin, ↓VS_pick, ↓vfev_tmp, ↓vfev_bool, ↓vupd_same, ↓vupd_ne, Now_any, Got_some, PickV_tt, PickV_tf, PickV_undef, vrs_two, vr1_tmp, Option.bind_some, vpart_one, ne_eq, vpick_t, q0, q1, q6, q7, vbin_lss, c1, via_vl hlt, wInt, vld_vep hlt, eInt, List.drop_zero, List.take_succ_cons, List.take_zero, vbin_eql, c2]
        refine ⟨hlo, i, ?_⟩
        have : l.contains x = true := by rw [List.contains_iff_mem, ← he]; exact List.getElem_mem _
        rw [this]
      · have c2 : decide (l[i] = x) = false := decide_eq_false he
        simp (decide := true) only [↓VW_region, ↓VW_seq, ↓vbindN_normal, ↓vbindB_self, ↓VO_cons, ↓VO_guard, ↓VS_mv, ↓VS_call, ↓VS_load, ↓VS_ia, ↓VS_bin, ↓vfev_tmp, ↓vupd_same, ↓vupd_ne, Now_any, Got_some, PickV_tt, PickV_ff, List.map_cons, List.map_nil, vpart_one, ne_eq, q0, q1, q6, q7, vbin_lss, c1, via_vl hlt, wInt, vld_vep hlt, eInt, List.drop_zero, List.take_succ_cons, List.take_zero, vbin_eql, c2]
        refine VCall.dat (isNaNV _) ⟨Fg.rfl _, trivial⟩ (fun A hsA => ?_)
        have lA := hsA.low
        simp (decide := true) only [↓VW_ret, ↓vbindN_normal, ↓vatEnd_ret, ↓VO_nil, ↓VO_cons, ↓VO_guard, ↓VS_mv, ↓VS_pick, ↓vfev_tmp, ↓vfev_bool, ↓vupd_same, ↓vupd_ne, Now_any, Got_some, PickV_tt, PickV_ft, PickV_ff, vrs_two, vr1_tmp, Option.bind_some, ne_eq, vpick_t, vpick_f]
        refine ⟨by omega, i, ?_⟩
        have : l.contains x = false := by
          rw [Bool.eq_false_iff, ne_eq, List.contains_iff_mem]
          intro hmem
          obtain ⟨a, ha, rfl⟩ := List.getElem_of_mem hmem
          by_cases ea : a < i
          · have := h1 a ha ea; omega
          · by_cases ea2 : a = i
            · subst ea2; exact he rfl
            · have := hsg i a hlt ha (by omega); have := h2 i hlt (Nat.le_refl _); omega
        rw [this]
    · have c1 : decide ((i : Int) < l.length) = false := decide_eq_false (by omega)
      simp (decide := true) only [↓VW_ret, ↓VW_region, ↓VW_seq, ↓vbindN_normal, ↓vbindB_self, ↓vatEnd_ret, ↓VO_nil, ↓VO_cons, ↓VO_guard, ↓VS_mv, ↓VS_bin, ↓VS_pick, ↓vfev_tmp, ↓vfev_bool, ↓vupd_same, ↓vupd_ne, Now_any, Got_some, PickV_ft, PickV_undef, vrs_two, vr1_tmp, Option.bind_some, ne_eq, vpick_f, q6, q7, vbin_lss, c1]
      refine ⟨hlo, i, ?_⟩
      have : l.contains x = false := by
        rw [Bool.eq_false_iff, ne_eq, List.contains_iff_mem]
        intro hmem
        obtain ⟨a, ha, rfl⟩ := List.getElem_of_mem hmem
        have := h1 a ha (by omega); omega
      rw [this]

/-- What is asked of a condition: it gives p, and counts how often it was asked. -/
structure Cond (gf : FuncId) (ga gb : List VV) (p : List Int → Bool) (L0 : List Int) (Inv : Nat → VSt → Prop) (B lo : Nat) : Prop where
  call : ∀ n l σ, Inv n σ → B ≤ σ.next → l.Sublist L0 → VC Try.prog gf (ga ++ [vl l] ++ gb) σ (fun r σ' => min lo σ.next ≤ σ'.low ∧ r.fg = vb (p l) ∧ Inv (n + 1) σ')
  keep : ∀ n σ σ', Inv n σ → (∀ id, id < B → σ'.heap id = σ.heap id) → Inv n σ'

theorem Cond.use {gf : FuncId} {ga gb : List VV} {p : List Int → Bool} {L0 : List Int} {Inv : Nat → VSt → Prop} {B lo : Nat} (h : Cond gf ga gb p L0 Inv B lo) {n : Nat} {l : List Int} {σ : VSt} {a : VV} {K : VV → VSt → Bool → Prop} (hI : Inv n σ) (hB : B ≤ σ.next) (hl : l.Sublist L0) (ha : Rd a l)
    (hq : ∀ σ', Inv (n + 1) σ' → σ.next ≤ σ'.next → min (min lo σ.next) σ.low ≤ σ'.low → K (vb (p l)) σ' false) : @VCall Try.prog _ gf (ga ++ [a] ++ gb) ⟨((false, false), σ, K)⟩ := by
  have hfg : FgL (ga ++ [a] ++ gb) (ga ++ [vl l] ++ gb) := by
    have h0 : ∀ x : List VV, FgL x x := by
      intro x
      induction x with
      | nil => trivial
      | cons y x ih => exact ⟨Fg.rfl _, ih⟩
    have h1 : ∀ (x y z w : List VV), FgL x y → FgL z w → FgL (x ++ z) (y ++ w) := by
      intro x
      induction x with
      | nil => intro y z w h1 h2; cases y with
        | nil => exact h2
        | cons _ _ => cases h1
      | cons u x ih => intro y z w h1 h2; cases y with
        | nil => cases h1
        | cons v y => exact ⟨h1.1, ih y z w h1.2 h2⟩
    exact h1 _ _ _ _ (h1 _ _ _ _ (h0 _) ⟨Fg.of ha.fg, trivial⟩) (h0 _)
  refine VCall.any (Q := fun v σ' => v = vb (p l) ∧ min lo σ.next ≤ σ'.low ∧ Inv (n + 1) σ') ?_ ?_
  · refine VG.mono (VG.resFg (VC.less (h.call n l σ hI hB hl) hfg)) ?_
    rintro v σ' ⟨v0, rfl, h1, h2, h3⟩
    exact ⟨h2, h1, h3⟩
  · rintro v σ' ⟨rfl, h1, h2⟩ hn hfr
    refine hq _ (h.keep _ _ _ h2 fun _ _ => rfl) hn ?_
    show min (min lo σ.next) σ.low ≤ min σ.low σ'.low
    omega

theorem list_any {gf : FuncId} {ga gb : List VV} {p : List Int → Bool} {l0 : List Int} {Inv : Nat → VSt → Prop} {B lo : Nat} (hC : Cond gf ga gb p l0 Inv B lo) (hN : l0.length ≤ 10000) (n0 : Nat) (σ : VSt) (hI : Inv n0 σ) (hB : B ≤ σ.next) {a : VV}
    (ha : VC Try.prog 41 [a] σ.fresh (fun r σ' => σ.fresh.next ≤ σ'.low ∧ App σ' σ.next r l0)) :
    VC Try.prog 24 [a, .fn gf ga gb] σ (fun r σ' => min lo σ.next ≤ σ'.low ∧ r.fg = vl (Shr.run p l0).1 ∧ Inv (n0 + (Shr.run p l0).2) σ') := by
  refine VC_body XF24 ?_
  simp (decide := true) only [↓VW_region, ↓VW_seq, ↓vbindN_normal, ↓VO_nil, ↓VO_cons, ↓VS_mv, ↓VS_call, ↓vfev_tmp, ↓vfev_nilS, ↓vupd_same, ↓vupd_ne, ↓vfe0_zero, Now_any, List.map_cons, List.map_nil, ne_eq, xf24]
  refine VCall.pure ha (fun _ _ h => h) ?_
  rintro v0 A hv0 hsA
  have hr0 := hv0.rd
  have lA := hsA.low
  have nA := hsA.next
  simp only [low_fresh] at lA
  rw [next_fresh] at nA
  have hIA : Inv n0 A := hC.keep _ _ _ hI fun id hid => hsA.heap id (by rw [next_fresh]; omega)
  have loA : min lo σ.next ≤ A.low := by omega
  clear hv0 hsA lA
  simp (decide := true) only [↓VW_region, ↓VW_seq, ↓vbindN_normal, ↓VO_nil, ↓VO_cons, ↓VS_mv, ↓VS_call, ↓vfev_tmp, ↓vupd_same, ↓vupd_ne, ↓vfe0_zero, ↓vfe0_succ, Now_any, List.map_cons, List.map_nil, ne_eq]
  refine VCall.pure (VC.less (cloneI_any l0 (by omega) _) ⟨Fg.of hr0.fg, trivial⟩) (fun _ _ h => h) ?_
  rintro v1 A1 hv1 hs1
  have l1 := hs1.low
  have n1 := hs1.next
  simp (decide := true) only [↓VO_cons, ↓VS_callv, ↓vfev_tmp, ↓vupd_same, ↓vupd_ne, Now_any, List.map_cons, List.map_nil, VCallv_func, ne_eq]
  refine hC.use (hC.keep _ _ _ hIA fun id hid => hs1.heap id (by omega)) (by omega) (List.Sublist.refl _) hv1.rd (fun A2 hI2 n2 l2 => ?_)
  simp (decide := true) only [↓VW_cond, ↓vbindN_normal, ↓VO_nil, ↓VO_cons, ↓VS_un, ↓vfev_tmp, ↓vupd_same, Now_any, Got_some, vun_not]
  have lo2 : min lo σ.next ≤ A2.low := by omega
  have nx2 : σ.next ≤ A2.next := by omega
  clear l2 n2 hs1 hv1 l1 n1 hIA loA nA
  refine TestV_bool (fun hno => ?_) (fun hyes => ?_)
  · have hp : p l0 = false := by simpa using hno
    simp (decide := true) only [↓VW_ret, ↓VW_region, ↓VW_seq, ↓vbindN_normal, ↓vbindN_ret, ↓vatEnd_ret, ↓VO_nil, ↓VO_cons, ↓VS_mv, ↓vfev_tmp, ↓vupd_same, ↓vupd_ne, Now_any, Got_some, vrs_one, vr1_tmp, ne_eq, hr0.fg]
    rw [Shr.run_no p l0 hp]
    exact ⟨lo2, rfl, hI2⟩
  have hp : p l0 = true := by simpa using hyes
  simp (decide := true) only [↓VW_skip, ↓VW_region, ↓VW_seq, ↓VW_block, ↓VW_stuck, ↓vbindN_normal, ↓VO_nil, ↓VO_cons, ↓VS_mv, ↓VS_len, ↓vfev_tmp, ↓vfev_int, ↓vfev_bool, ↓vupd_same, ↓vupd_ne, Now_any, Got_some, ne_eq, hr0.len]
  refine VW_loopR 0 (fun k fe G => fe 0 = v0 ∧ fe 1 = .fn gf ga gb ∧ fe 20 = vi l0.length ∧ min lo σ.next ≤ G.low ∧ σ.next ≤ G.next ∧ ∃ i : Nat, fe 21 = vi i ∧ k + i = l0.length ∧ fe 5 = vb (Shr.scanB p l0 i) ∧ Inv (n0 + 1 + Shr.scanN p l0 i) G)
    (fun fe G => fe 0 = v0 ∧ fe 1 = .fn gf ga gb ∧ min lo σ.next ≤ G.low ∧ σ.next ≤ G.next ∧ fe 5 = vb (Shr.scanB p l0 l0.length) ∧ Inv (n0 + 1 + Shr.scanN p l0 l0.length) G) l0.length ?_ ?_ ?_
  · simp (decide := true) only [↓vupd_same, ↓vupd_ne, ↓vfe0_zero, ↓vfe0_succ, ne_eq, true_and]
    exact ⟨lo2, nx2, 0, rfl, by omega, rfl, hI2⟩
  · rintro k fe G ⟨q0, q1, q20, hlo, hn, i, q21, hk, q5, hIG⟩
    simp (decide := true) only [↓VW_region, ↓VW_seq, ↓VW_cond, ↓vbindN_normal, ↓VO_nil, ↓VO_cons, ↓VS_bin, ↓vfev_tmp, ↓vupd_same, Now_any, Got_some, q20, q21, vbin_lss]
    refine TestV_dec (fun hlt => ?_) (fun hge => ?_)
    · have hi : i < l0.length := by omega
      simp (decide := true) only [↓VW_skip, ↓VW_region, ↓VW_seq, ↓VW_block, ↓vbindN_normal, ↓VO_nil, ↓VO_cons, ↓VO_guard, ↓VS_mv, ↓vfev_tmp, ↓vupd_same, ↓vupd_ne, Now_any, ne_eq, q5, q21]
      cases hb : Shr.scanB p l0 i with
      | false =>
        simp (decide := true) only [↓VW_region, ↓vbindN_normal, ↓vbindB_normal, ↓vbindL_normal, ↓VO_nil, ↓VO_cons, ↓VO_guard, ↓VS_mv, ↓VS_bin, ↓VS_pick, ↓vfev_tmp, ↓vfev_int, ↓vfev_bool, ↓vupd_same, ↓vupd_ne, Now_any, Got_some, PickV_ft, ne_eq, vpick_f, q0, q1, q20, q21, vbin_add, w64_1 hi (by omega : l0.length ≤ 1000000), true_and]
        refine ⟨k - 1, by omega, hlo, hn, i + 1, rfl, by omega, ?_, ?_⟩
        · rw [Shr.scanB, hb, Bool.false_and]
        · rw [Shr.scanN, hb]; simpa using hIG
      | true =>
        simp (decide := true) only [↓VO_guard, ↓VS_mv, ↓VS_call, ↓VS_bin, ↓vfev_tmp, ↓vfev_int, ↓vupd_same, ↓vupd_ne, Now_any, Got_some, PickV_tt, List.map_cons, List.map_nil, ne_eq, q0, q1, vbin_add, w64_1 hi (by omega : l0.length ≤ 1000000)]
        refine VCall.pure (VC.less (withoutI_any l0 i (i + 1) (by omega) (by omega) (by omega) _) ⟨Fg.of hr0.fg, Fg.rfl _, Fg.rfl _, trivial⟩) (fun _ _ h => h) ?_
        rintro v2 H hv2 hs2
        have l2 := hs2.low
        have n2 := hs2.next
        simp (decide := true) only [↓VO_guard, ↓VS_callv, ↓vfev_tmp, ↓vupd_same, ↓vupd_ne, Now_any, PickV_tt, List.map_cons, List.map_nil, VCallv_func, ne_eq]
        refine hC.use (hC.keep _ _ _ hIG fun id hid => hs2.heap id (by omega)) (by omega) (Shr.rmv_sub l0 i (i + 1) (by omega)) hv2.rd (fun H2 hI3 n3 l3 => ?_)
        simp (decide := true) only [↓VW_region, ↓vbindN_normal, ↓vbindB_normal, ↓vbindL_normal, ↓VO_nil, ↓VO_cons, ↓VO_guard, ↓VS_mv, ↓VS_bin, ↓VS_un, ↓VS_pick, ↓vfev_tmp, ↓vfev_int, ↓vfev_bool, ↓vupd_same, ↓vupd_ne, Now_any, Got_some, PickV_tt, ne_eq, vpick_t, vun_not, q0, q1, q20, q21, vbin_add, w64_1 hi (by omega : l0.length ≤ 1000000), true_and]
        refine ⟨k - 1, by omega, by omega, by omega, i + 1, rfl, by omega, ?_, ?_⟩
        · rw [Shr.scanB, hb, Bool.true_and]
        · rw [Shr.scanN, hb]; exact hI3
    · obtain rfl : i = l0.length := by omega
      simp (decide := true) only [↓VW_exit, ↓vbindN_exit, ↓vbindL_exit, ↓vatExit_self, ↓vupd_ne, ne_eq, q0, q1, q5, true_and]
      exact ⟨hlo, hn, hIG⟩
  · rintro fe G ⟨q0, q1, hlo, hn, q5, hIG⟩
    simp (decide := true) only [↓VW_region, ↓VW_seq, ↓VW_cond, ↓vbindN_normal, ↓vbindB_self, ↓VO_nil, ↓VO_cons, ↓VS_mv, ↓vfev_tmp, ↓vupd_same, Now_any, q5]
    have hrun1 : (Shr.run p l0) = if Shr.scanB p l0 l0.length = true then (l0, 1 + Shr.scanN p l0 l0.length) else Shr.outer p (l0.length + (l0.length + 1) / 2) l0 ((l0.length + 1) / 2) (1 + Shr.scanN p l0 l0.length) := by
      unfold Shr.run
      rw [if_neg (by rw [hp]; decide)]
    refine TestV_bool (fun hm => ?_) (fun hm => ?_)
    · rw [if_pos hm] at hrun1
      simp (decide := true) only [↓VW_ret, ↓VW_region, ↓VW_seq, ↓vbindN_normal, ↓vbindN_ret, ↓vatEnd_ret, ↓VO_nil, ↓VO_cons, ↓VS_mv, ↓vfev_tmp, ↓vupd_same, ↓vupd_ne, Now_any, Got_some, vrs_one, vr1_tmp, ne_eq, q0, hr0.fg]
      rw [hrun1]
      exact ⟨hlo, rfl, by rw [← Nat.add_assoc]; exact hIG⟩
    rw [if_neg (by rw [hm]; decide)] at hrun1
    have hsz : w64 ((l0.length : Int) + 1) = ((l0.length + 1 : Nat) : Int) := by rw [w64_ok (by omega) (by omega)]; omega
    have hhalf : ∀ m : Nat, m ≤ 100000 → w64 ((m : Int).tdiv 2) = ((m / 2 : Nat) : Int) := fun m hm => by
      rw [Int.tdiv_eq_ediv_of_nonneg (by omega), w64_ok (by omega) (by omega)]; omega
    have ne2 : (2 : Int) ≠ 0 := by decide
    simp (decide := true) only [↓VW_skip, ↓VW_region, ↓VW_seq, ↓VW_block, ↓VW_stuck, ↓vbindN_normal, ↓VO_nil, ↓VO_cons, ↓VS_mv, ↓VS_bin, ↓VS_len, ↓vfev_tmp, ↓vfev_int, ↓vupd_same, ↓vupd_ne, Now_any, Got_some, ne_eq, q0, hr0.len, vbin_add, hsz, vbin_quo _ _ ne2, hhalf _ (by omega : l0.length + 1 ≤ 100000)]
    generalize hR : Shr.outer p (l0.length + (l0.length + 1) / 2) l0 ((l0.length + 1) / 2) (1 + Shr.scanN p l0 l0.length) = R at hrun1
    refine VW_loopR 2 (fun k fe G => fe 1 = .fn gf ga gb ∧ min lo σ.next ≤ G.low ∧ σ.next ≤ G.next ∧ ∃ (l : List Int) (sz n : Nat), Rd (fe 0) l ∧ l.Sublist l0 ∧ fe 7 = vi sz ∧ sz ≤ 50000 ∧ k = l.length + sz ∧ Inv (n0 + n) G ∧ Shr.outer p (l.length + sz) l sz n = R)
      (fun fe G => min lo σ.next ≤ G.low ∧ Rd (fe 0) R.1 ∧ Inv (n0 + R.2) G) (l0.length + (l0.length + 1) / 2) ?_ ?_ ?_
    · simp (decide := true) only [↓vupd_same, ↓vupd_ne, ne_eq, q1, true_and]
      exact ⟨hlo, hn, l0, _, 1 + Shr.scanN p l0 l0.length, by rw [q0]; exact hr0, List.Sublist.refl _, rfl, by omega, rfl, by rw [← Nat.add_assoc]; exact hIG, hR⟩
    · rintro k fe G ⟨q1, hlo, hn, l, sz, n, hrl, hlN, q7, hsz5, hk, hIG, hout⟩
      have hlN2 := hlN.length_le
      simp (decide := true) only [↓VW_region, ↓VW_seq, ↓VW_cond, ↓vbindN_normal, ↓VO_nil, ↓VO_cons, ↓VS_mv, ↓VS_bin, ↓vfev_tmp, ↓vfev_int, ↓vupd_same, Now_any, Got_some, q7, vbin_gtr]
      refine TestV_dec (fun hpos => ?_) (fun hzero => ?_)
      · have hsp : 0 < sz := by omega
        simp (decide := true) only [↓VW_skip, ↓VW_region, ↓VW_seq, ↓VW_block, ↓VW_stuck, ↓vbindN_normal, ↓VO_nil, ↓VO_cons, ↓VS_mv, ↓vfev_int, ↓vfev_bool, Now_any]
        generalize hW : Shr.inner p sz l.length l 0 false n = W
        have hWl : W.1.length ≤ l.length := by rw [← hW]; exact Shr.inner_len _ _ _ _ _ _ _
        have hWs : W.1.Sublist l0 := by rw [← hW]; exact (Shr.inner_sub _ _ _ _ _ _ _).trans hlN
        refine VW_loopR 4 (fun k fe G => fe 1 = .fn gf ga gb ∧ fe 7 = vi sz ∧ min lo σ.next ≤ G.low ∧ σ.next ≤ G.next ∧ ∃ (l' : List Int) (f m : Nat) (r : Bool), Rd (fe 0) l' ∧ l'.Sublist l0 ∧ l'.length ≤ l.length ∧ fe 9 = vi f ∧ f ≤ 100000 ∧ fe 8 = vb r ∧ k = l'.length - f ∧ Inv (n0 + m) G ∧ Shr.inner p sz (l'.length - f) l' f r m = W)
          (fun fe G => fe 1 = .fn gf ga gb ∧ fe 7 = vi sz ∧ min lo σ.next ≤ G.low ∧ σ.next ≤ G.next ∧ Rd (fe 0) W.1 ∧ fe 8 = vb W.2.1 ∧ Inv (n0 + W.2.2) G) l.length ?_ ?_ ?_
        · simp (decide := true) only [↓vupd_same, ↓vupd_ne, ne_eq, q1, q7, true_and]
          exact ⟨hlo, hn, l, 0, n, false, hrl, hlN, Nat.le_refl _, rfl, by omega, rfl, by omega, hIG, by simpa using hW⟩
        · rintro k fe G ⟨q1, q7, hlo, hn, l', f, m, r, hrl', hls, hll, q9, hf5, q8, hk, hIG, hin⟩
          simp (decide := true) only [↓VW_region, ↓VW_seq, ↓VW_cond, ↓vbindN_normal, ↓VO_nil, ↓VO_cons, ↓VS_mv, ↓VS_bin, ↓VS_len, ↓vfev_tmp, ↓vupd_same, ↓vupd_ne, Now_any, Got_some, ne_eq, q9, hrl'.len, vbin_lss]
          refine TestV_dec (fun hlt => ?_) (fun hge => ?_)
          · have hf : f < l'.length := by omega
            have hadd : w64 ((f : Int) + sz) = ((f + sz : Nat) : Int) := by rw [w64_ok (by omega) (by omega)]; omega
            have hmin : (if (((f + sz : Nat) : Int)) < (l'.length : Int) then ((f + sz : Nat) : Int) else (l'.length : Int)) = ((min l'.length (f + sz) : Nat) : Int) := by
              split <;> omega
            simp (decide := true) only [↓VW_skip, ↓VW_region, ↓VW_seq, ↓VW_block, ↓vbindN_normal, ↓VO_cons, ↓VS_mv, ↓VS_call, ↓VS_bin, ↓VS_len, ↓VS_minmax, ↓vfev_tmp, ↓vupd_same, ↓vupd_ne, Now_any, Got_some, List.map_cons, List.map_nil, ne_eq, q7, q9, hrl'.len, vbin_add, hadd, vmm_min, hmin]
            refine VCall.pure (VC.less (withoutI_any l' f (min l'.length (f + sz)) (by omega) (by omega) (by omega) _) ⟨Fg.of hrl'.fg, Fg.rfl _, Fg.rfl _, trivial⟩) (fun _ _ h => h) ?_
            rintro v2 H hv2 hs2
            have l2 := hs2.low
            have n2 := hs2.next
            have hrm := Shr.rmv_length l' f (min l'.length (f + sz)) (by omega) (by omega)
            simp (decide := true) only [↓VW_region, ↓VW_seq, ↓vbindN_normal, ↓VO_nil, ↓VO_cons, ↓VS_mv, ↓VS_call, ↓vfev_tmp, ↓vupd_same, ↓vupd_ne, Now_any, List.map_cons, List.map_nil, ne_eq]
            refine VCall.pure (VC.less (cloneI_any (Shr.rmv l' f (min l'.length (f + sz))) (by omega) _) ⟨Fg.of hv2.rd.fg, trivial⟩) (fun _ _ h => h) ?_
            rintro v3 H1 hv3 hs3
            have l3 := hs3.low
            have n3 := hs3.next
            simp (decide := true) only [↓VO_cons, ↓VS_callv, ↓vfev_tmp, ↓vupd_same, ↓vupd_ne, Now_any, List.map_cons, List.map_nil, VCallv_func, ne_eq, q1]
            refine hC.use (hC.keep _ _ _ hIG fun id hid => (hs3.heap id (by omega)).trans (hs2.heap id (by omega))) (by omega) ((Shr.rmv_sub l' f _ (by omega)).trans hls) hv3.rd (fun H2 hI4 n4 l4 => ?_)
            simp (decide := true) only [↓VW_cond, ↓vbindN_normal, ↓VO_nil, ↓vfev_tmp, ↓vupd_same]
            refine TestV_bool (fun hy => ?_) (fun hy => ?_)
            · simp (decide := true) only [↓VW_region, ↓vbindB_normal, ↓vbindL_normal, ↓VO_nil, ↓VO_cons, ↓VS_mv, ↓vfev_tmp, ↓vfev_bool, ↓vupd_same, ↓vupd_ne, Now_any, ne_eq, q1, q7, q9, true_and]
              refine ⟨_, ?_, by omega, by omega, Shr.rmv l' f (min l'.length (f + sz)), f, m + 1, true, hv2.rd, (Shr.rmv_sub l' f _ (by omega)).trans hls, by omega, rfl, hf5, rfl, rfl, hI4, ?_⟩
              · omega
              · rw [← hin, Shr.inner_yes p sz hsp l' f _ r m hf rfl hy]
            · simp (decide := true) only [↓VW_region, ↓vbindB_normal, ↓vbindL_normal, ↓VO_nil, ↓VO_cons, ↓VS_mv, ↓VS_bin, ↓vfev_tmp, ↓vupd_same, ↓vupd_ne, Now_any, Got_some, ne_eq, q1, q7, q8, q9, vbin_add, hadd, true_and]
              refine ⟨_, ?_, by omega, by omega, l', f + sz, m + 1, r, hrl', hls, hll, rfl, by omega, rfl, rfl, hI4, ?_⟩
              · omega
              · rw [← hin, Shr.inner_no p sz hsp l' f _ r m hf rfl hy]
          · rw [Shr.inner_end p sz l' f r m (by omega)] at hin
            subst hin
            simp (decide := true) only [↓VW_exit, ↓vbindN_exit, ↓vbindL_exit, ↓vatExit_self, ↓vupd_ne, ne_eq, q1, q7, q8, true_and]
            exact ⟨hlo, hn, hrl', hIG⟩
        · rintro fe G ⟨q1, q7, hlo, hn, hrW, q8, hIG⟩
          simp (decide := true) only [↓VW_region, ↓VW_seq, ↓VW_cond, ↓vbindN_normal, ↓vbindB_self, ↓VO_nil, ↓VO_cons, ↓VS_mv, ↓VS_bin, ↓vfev_tmp, ↓vfev_int, ↓vupd_same, Now_any, Got_some, q7, vbin_gtr]
          refine TestV_dec (fun h1s => ?_) (fun h1s => ?_)
          · have h1s : 1 < sz := by omega
            simp (decide := true) only [↓VW_region, ↓vbindB_normal, ↓vbindL_normal, ↓VO_nil, ↓VO_cons, ↓VS_mv, ↓VS_bin, ↓vfev_tmp, ↓vfev_int, ↓vupd_same, ↓vupd_ne, Now_any, Got_some, ne_eq, q1, q7, vbin_quo _ _ ne2, hhalf sz (by omega), true_and]
            refine ⟨_, ?_, hlo, hn, W.1, sz / 2, W.2.2, hrW, hWs, rfl, by omega, rfl, hIG, ?_⟩
            · omega
            · rw [← hout]; exact (Shr.outer_big p l W.1 sz n W.2.2 W.2.1 h1s (by rw [hW])).symm
          · obtain rfl : sz = 1 := by omega
            simp (decide := true) only [↓VW_region, ↓VW_seq, ↓VW_cond, ↓vbindN_normal, ↓VO_nil, ↓VO_cons, ↓VS_mv, ↓VS_un, ↓vfev_tmp, ↓vupd_same, ↓vupd_ne, Now_any, Got_some, ne_eq, vun_not, q8]
            cases hr : W.2.1 with
            | false =>
              simp (decide := true) only [↓VW_exit, ↓vbindB_ne, ↓vbindL_exit, ↓vatExit_self, ↓vupd_ne, TestV_true, ne_eq, Bool.not_false]
              have := Shr.outer_end p l W.1 n W.2.2 (by rw [hW, ← hr])
              rw [hout] at this
              rw [this]
              exact ⟨hlo, hrW, hIG⟩
            | true =>
              simp (decide := true) only [↓VW_skip, ↓vbindB_normal, ↓vbindL_normal, ↓vupd_ne, TestV_false, ne_eq, Bool.not_true, q1, q7, true_and]
              obtain ⟨e1, e2⟩ := Shr.outer_more p l W.1 n W.2.2 (by rw [hW, ← hr])
              refine ⟨_, ?_, hlo, hn, W.1, 1, W.2.2, hrW, hWs, rfl, by omega, rfl, hIG, by rw [← e1]; exact hout⟩
              omega
      · obtain rfl : sz = 0 := by omega
        rw [Shr.outer_none] at hout
        subst hout
        simp (decide := true) only [↓VW_exit, ↓vbindN_exit, ↓vbindL_exit, ↓vatExit_self, ↓vupd_ne, ne_eq]
        exact ⟨hlo, hrl, hIG⟩
    · rintro fe G ⟨hlo, hrR, hIG⟩
      simp (decide := true) only [↓VW_ret, ↓VW_region, ↓VW_seq, ↓vbindN_normal, ↓vbindB_self, ↓vatEnd_ret, ↓VO_nil, ↓VO_cons, ↓VS_mv, ↓vfev_tmp, ↓vupd_same, Now_any, Got_some, vrs_one, vr1_tmp, hrR.fg]
      rw [hrun1]
      exact ⟨hlo, rfl, hIG⟩
end Go.Proofs.Ytmbbebfpjclghaa

set_option linter.unusedSimpArgs false
set_option linter.unusedSectionVars false
set_option linter.unusedVariables false
namespace Go.Proofs.Ytmbbebfpjclghaa
open Go Go.RowKit

theorem via_slI {id n c i : Nat} (hi : i < n) : via 1 (.slice id 0 n c) (vi i) = some (.ptr id i) := by
  simp only [via]
  rw [if_pos ⟨by omega, by omega⟩]
  simp
theorem vrdB_I {l : List Int} {i : Nat} (h : i < l.length) (t : TypeId) (z b : Nat) : vrdB (.cells (vencs l) t z b) false i 1 = some (vi l[i]) := by
  rw [vrdB_cells, if_pos (by rw [vencs_length, wInt]; omega)]
  have := vencs_part l i h 0 1 (by rw [wInt]; omega)
  rw [wInt, Nat.mul_one, Nat.add_zero] at this
  rw [this]
  rfl
theorem vstB_I {l : List Int} {i : Nat} (h : i < l.length) (σ : VSt) (id : Nat) (x : Int) (t : TypeId) (z b : Nat) : vstB σ id 1 i [vi x] (.cells (vencs l) t z b) = some (σ.write id (vencs (l.set i x)) t z b) := by
  rw [vstB_cells, if_pos ⟨rfl, by rw [vencs_length, wInt]; omega, rfl⟩]
  have := vencs_set l i h x
  rw [wInt, Nat.mul_one, eInt] at this
  rw [this]
theorem rep0 (n : Nat) : ((rep n [Value.int .i64 0]).map VV.v) = vencs (List.replicate n (0 : Int)) := by
  induction n with
  | zero => rfl
  | succ n ih =>
    rw [List.replicate_succ, vencs_cons, ← ih]
    simp [rep, List.replicate_succ, eInt]
theorem vmk_I (n : Nat) (e : TypeId) (σ : VSt) (h : n ≤ 1000000) : vmk e 1 8 [.int .i64 0] (vi n) (vi n) σ = some (.slice σ.next 0 n n, σ.box (vencs (List.replicate n (0 : Int))) e 1) := by
  simp only [vmk]
  rw [if_pos ⟨by omega, by omega, by unfold reach; omega, by decide, rfl, rfl⟩]
  simp only [Int.toNat_natCast, rep0]

def upTo (n : Nat) : List Int := (List.range n).map fun (i : Nat) => (i : Int)
theorem upTo_length (n : Nat) : (upTo n).length = n := by simp [upTo]
theorem upTo_get (n i : Nat) (h : i < (upTo n).length) : (upTo n)[i] = i := by simp [upTo]
theorem upTo_sorted (n : Nat) : (upTo n).Pairwise (· < ·) := by
  rw [List.pairwise_iff_getElem]
  intro i j hi hj hij
  rw [upTo_get, upTo_get]
  omega
theorem upTo_fill (n i : Nat) (h : i < n) : ((upTo i ++ List.replicate (n - i) (0 : Int)).set i i) = upTo (i + 1) ++ List.replicate (n - (i + 1)) 0 := by
  apply List.ext_getElem
  · simp [upTo]; omega
  · intro j h1 h2
    simp only [List.getElem_set, List.getElem_append, upTo, List.length_map, List.length_range, List.getElem_map, List.getElem_range, List.getElem_replicate]
    split
    · rename_i e; subst e; rw [dif_pos (by omega)]
    · split
      · rw [dif_pos (by omega)]
      · rw [dif_neg (by omega)]

theorem cloneS_any (l : List Int) (hl : l.length ≤ 100000) (id : Nat) (σ : VSt) {t : TypeId} {z b : Nat} (hg : σ.heap id = .cells (vencs l) t z b) : VC Try.prog 41 [.slice id 0 l.length l.length] σ (fun r σ' => σ.next ≤ σ'.low ∧ App σ' σ.next r l) := by
  refine VC_body XF41 ?_
  simp (decide := true) only [↓VW_skip, ↓VW_region, ↓VW_seq, ↓VW_cond, ↓vbindN_normal, ↓VO_nil, ↓VO_cons, ↓VS_mv, ↓VS_eqs, ↓VS_buildSlice, ↓vfev_tmp, ↓vfev_nilS, ↓vupd_same, ↓vupd_ne, ↓vfe0_zero, Now_any, TestV_false, List.map_nil, ne_eq, notIf_ff, VEqs_slice, xf41]
  refine VBuild.own rfl rfl rfl ?_
  simp (decide := true) only [↓VO_cons, ↓VS_mv, ↓VS_append, ↓vfev_tmp, ↓vupd_same, ↓vupd_ne, ↓vfe0_zero, Now_any, ne_eq, next_fresh]
  have h0 : App σ.fresh.newTok σ.next (.own 1 0 [] σ.next) ([] : List Int) := .inr ⟨σ.next, rfl, by simp [VSt.newTok, VSt.fresh], Nat.le_refl _, by simp [VSt.newTok, VSt.fresh]⟩
  have hx : vcont σ.fresh.newTok 1 (.slice id 0 l.length l.length) = some (l.length, vencs l) := by
    have hg' : σ.fresh.newTok.heap id = .cells (vencs l) t z b := hg
    simp only [vcont, hg']
    rw [if_pos (by rw [vencs_length, wInt]; omega), List.drop_zero, List.take_of_length_le (by rw [vencs_length, wInt]; omega)]
  obtain ⟨r, σ1, a1, a2, a3, a4⟩ := h0.push (esz := 1) (bytes := 8) hx rfl (by unfold reach; simp; omega) (by decide) (by simp [VSt.newTok, VSt.fresh])
  refine VAppend.own a1 ?_
  simp (decide := true) only [↓VW_ret, ↓vbindN_normal, ↓vatEnd_ret, ↓VO_nil, ↓VO_cons, ↓VS_mv, ↓vfev_tmp, ↓vupd_same, Now_any, Got_some, vrs_one, vr1_tmp, notIf_ff, next_fresh]
  have := a3.low
  simp only [low_newTok, low_fresh] at this
  exact ⟨by omega, by simpa using a2⟩

/-- the places that are left out. -/
def leftOf (n : Nat) (l : List Int) : List Int := (upTo n).filter fun x => !l.contains x
theorem leftOf_len (n : Nat) (l : List Int) : (leftOf n l).length ≤ n := by
  have := List.length_filter_le (fun x => !l.contains x) (upTo n)
  rw [upTo_length] at this
  exact this

/-- what the closures of Tape need in memory. -/
structure TapeM (σ : VSt) (pa pt ar : Nat) (t : Tape) (n : Nat) : Prop where
  all : ∃ ty z b, σ.heap pa = .cells [.slice ar 0 n n] ty z b
  tape : ∃ ty z b, σ.heap pt = .cells [vl t.events, vl t.answers] ty z b
  arr : ∃ ty z b, σ.heap ar = .cells (vencs (upTo n)) ty z b
theorem TapeM.keep {σ σ' : VSt} {pa pt ar : Nat} {t : Tape} {n : Nat} (h : TapeM σ pa pt ar t n) (k1 : σ'.heap pa = σ.heap pa) (k2 : σ'.heap pt = σ.heap pt) (k3 : σ'.heap ar = σ.heap ar) : TapeM σ' pa pt ar t n :=
  ⟨by rw [k1]; exact h.all, by rw [k2]; exact h.tape, by rw [k3]; exact h.arr⟩

theorem keep_any (t : Tape) (n : Nat) (hn : n ≤ 100000) (l : List Int) (hl : l.length ≤ 100000) (hls : l.Pairwise (· < ·)) (h1 : t.events.length ≤ 100000) (h2 : t.answers.length ≤ 12) (pa pt ar : Nat) (σ : VSt) (hM : TapeM σ pa pt ar t n) (ha : pa < σ.next) (ht : pt < σ.next) (har : ar < σ.next) :
    VC Try.prog 22 [vl l, .ptr pa 0, .ptr pt 0] σ (fun r σ' => σ.next ≤ σ'.low ∧ r.fg = tapeV (withoutT t (leftOf n l))) := by
  refine VC_body XF22 ?_
  obtain ⟨ya, za, ba, ga⟩ := hM.all
  have ga' : σ.fresh.heap pa = .cells [.slice ar 0 n n] ya za ba := ga
  have hne : pa ≠ σ.next := by omega
  simp (decide := true) only [↓VW_region, ↓VW_seq, ↓VW_block, ↓VW_stuck, ↓vbindN_normal, ↓VO_nil, ↓VO_cons, ↓VS_mv, ↓VS_load, ↓VS_len, ↓VS_zeroA, ↓vfev_tmp, ↓vfev_int, ↓vfev_nilS, ↓vupd_same, ↓vupd_ne, ↓vfe0_zero, ↓vfe0_succ, Now_any, Got_some, List.map_cons, List.map_nil, ↓vld_ptr, vrdB_cells, vlenv_slice, vpart_one, Need_true, ne_eq, next_fresh, xf22, heap_box_ne _ _ _ _ _ (show pa ≠ σ.fresh.next from hne), ga', vrdB_cells, List.length_cons, List.length_nil, Nat.zero_add, Nat.reduceAdd, Nat.reduceLeDiff, ↓reduceIte, List.drop_zero, List.take_succ_cons, List.take_zero]
  have hMA : TapeM (σ.fresh.box [.v (.slice none 0 0), .v (.slice none 0 0)] 26 2) pa pt ar t n := hM.keep (heap_box_ne _ _ _ _ _ (show pa ≠ σ.next by omega)) (heap_box_ne _ _ _ _ _ (show pt ≠ σ.next by omega)) (heap_box_ne _ _ _ _ _ (show ar ≠ σ.next by omega))
  have g0 : (σ.fresh.box [.v (.slice none 0 0), .v (.slice none 0 0)] 26 2).heap σ.next = .cells [.v (.slice none 0 0), .v (.slice none 0 0)] 26 2 σ.next := heap_box_self _ _ _ _
  have nA : (σ.fresh.box [.v (.slice none 0 0), .v (.slice none 0 0)] 26 2).next = σ.next + 1 := rfl
  have lA : (σ.fresh.box [.v (.slice none 0 0), .v (.slice none 0 0)] 26 2).low = σ.next := rfl
  generalize σ.fresh.box [.v (.slice none 0 0), .v (.slice none 0 0)] 26 2 = A at hMA g0 nA lA ⊢
  refine VW_loopR 0 (fun k fe G => fe 0 = vl l ∧ fe 1 = .ptr pa 0 ∧ fe 2 = .ptr pt 0 ∧ fe 4 = .ptr σ.next 0 ∧ fe 10 = .slice ar 0 n n ∧ fe 11 = vi n ∧ σ.next ≤ G.low ∧ A.next ≤ G.next ∧ TapeM G pa pt ar t n ∧ G.heap σ.next = .cells [.v (.slice none 0 0), .v (.slice none 0 0)] 26 2 σ.next ∧ ∃ i : Nat, fe 12 = vi i ∧ k + i = n ∧ App G A.next (fe 5) (((upTo n).take i).filter fun x => !l.contains x))
    (fun fe G => fe 2 = .ptr pt 0 ∧ fe 4 = .ptr σ.next 0 ∧ σ.next ≤ G.low ∧ A.next ≤ G.next ∧ TapeM G pa pt ar t n ∧ G.heap σ.next = .cells [.v (.slice none 0 0), .v (.slice none 0 0)] 26 2 σ.next ∧ Rd (fe 5) (leftOf n l)) n ?_ ?_ ?_
  · simp (decide := true) only [↓vupd_same, ↓vupd_ne, ↓vfe0_zero, ↓vfe0_succ, ne_eq, true_and]
    exact ⟨by omega, Nat.le_refl _, hMA, g0, 0, rfl, by omega, .nil _ _⟩
  · rintro k fe G ⟨q0, q1, q2, q4, q10, q11, hlo, hnx, hMG, gr, i, q12, hk, hu⟩
    simp (decide := true) only [↓VW_region, ↓VW_seq, ↓VW_cond, ↓vbindN_normal, ↓VO_nil, ↓VO_cons, ↓VS_bin, ↓vfev_tmp, ↓vupd_same, Now_any, Got_some, q11, q12, vbin_lss]
    refine TestV_dec (fun hlt => ?_) (fun hge => ?_)
    · have hi : i < n := by omega
      have hiu : i < (upTo n).length := by rw [upTo_length]; exact hi
      obtain ⟨yr, zr, br, gar⟩ := hMG.arr
      have htake : ((upTo n).take (i + 1)).filter (fun x => !l.contains x) = ((upTo n).take i).filter (fun x => !l.contains x) ++ (if l.contains (i : Int) then [] else [(i : Int)]) := by
        rw [List.take_add_one, List.getElem?_eq_getElem hiu, List.filter_append, upTo_get]
        congr 1
        simp only [Option.toList, List.filter_cons, List.filter_nil]
        cases l.contains (i : Int) <;> rfl
      simp (decide := true) only [↓VW_skip, ↓VW_region, ↓VW_seq, ↓VW_block, ↓vbindN_normal, ↓VO_nil, ↓VO_cons, ↓VS_mv, ↓VS_call, ↓VS_load, ↓VS_ia, ↓vfev_tmp, ↓vupd_same, ↓vupd_ne, Now_any, Got_some, List.map_cons, List.map_nil, ↓vld_ptr, ne_eq, q10, q12, via_slI hi, gar, vrdB_I hiu, upTo_get, q0]
      refine VCall.pure (VC.less (bsearch_any l i hls hl G) ⟨Fg.rfl _, Fg.rfl _, trivial⟩) (fun _ _ h => h) ?_
      rintro v H ⟨pos, rfl⟩ hs
      have nH := hs.next
      have lH := hs.low
      have hMH : TapeM H pa pt ar t n := hMG.keep (hs.heap _ (by omega)) (hs.heap _ (by omega)) (hs.heap _ (by omega))
      have hr := (hs.heap σ.next (by omega)).trans gr
      have huH := hu.sub hs
      simp (decide := true) only [↓VW_region, ↓VW_seq, ↓VW_cond, ↓vbindN_normal, ↓VO_nil, ↓VO_cons, ↓VS_mv, ↓VS_ext, ↓VS_un, ↓vfev_tmp, ↓vupd_same, ↓vupd_ne, Now_any, Got_some, vext_zero, vext_one, ne_eq, vun_not]
      refine TestV_bool (fun hb => ?_) (fun hb => ?_)
      · have hc : l.contains (i : Int) = false := by simpa using hb
        rw [hc] at htake
        simp (decide := true) only [↓VW_region, ↓VO_cons, ↓VS_mv, ↓VS_buildSlice, ↓vfev_tmp, ↓vupd_same, ↓vupd_ne, Now_any, List.map_cons, List.map_nil, ne_eq]
        refine VBuild.own rfl rfl rfl ?_
        simp (decide := true) only [↓VO_cons, ↓VS_append, ↓vfev_tmp, ↓vupd_same, ↓vupd_ne, Now_any, cs_v, ne_eq]
        have huJ : App H.newTok A.next (fe 5) (((upTo n).take i).filter fun x => !l.contains x) := huH.sub (Sub.newTok _)
        have hx : vcont H.newTok 1 (.own 1 1 (List.map VV.fg [vi i]) H.next) = some ([(i : Int)].length, vencs [(i : Int)]) := by
          simp only [List.map_cons, List.map_nil, fg_int, vencs_one]; rfl
        have hcl := List.length_filter_le (fun x => !l.contains x) ((upTo n).take i)
        simp only [List.length_take, upTo_length] at hcl
        obtain ⟨u2, J, a1, a2, a3, a4⟩ := huJ.push (esz := 1) (bytes := 8) hx rfl (by unfold reach; simp only [List.length_cons, List.length_nil]; omega) (by decide) (by rw [next_newTok]; omega)
        refine VAppend.own a1 ?_
        have jx := a3.next
        have jl := a3.low
        simp only [next_newTok, low_newTok] at jx jl
        simp (decide := true) only [↓VW_region, ↓vbindN_normal, ↓vbindB_normal, ↓vbindL_normal, ↓VO_nil, ↓VO_cons, ↓VS_mv, ↓VS_bin, ↓vfev_tmp, ↓vfev_int, ↓vupd_same, ↓vupd_ne, Now_any, Got_some, ne_eq, q0, q1, q2, q4, q10, q11, q12, vbin_add, w64_1 hi (by omega : n ≤ 1000000), true_and]
        exact ⟨k - 1, by omega, by omega, by omega, hMH.keep (congrFun a3.heap _) (congrFun a3.heap _) (congrFun a3.heap _), (congrFun a3.heap _).trans hr, i + 1, rfl, by omega, by rw [htake]; exact a2⟩
      · have hc : l.contains (i : Int) = true := by simpa using hb
        rw [hc] at htake
        simp (decide := true) only [↓VW_skip, ↓VW_region, ↓vbindN_normal, ↓vbindB_normal, ↓vbindL_normal, ↓VO_nil, ↓VO_cons, ↓VS_mv, ↓VS_bin, ↓vfev_tmp, ↓vfev_int, ↓vupd_same, ↓vupd_ne, Now_any, Got_some, ne_eq, q0, q1, q2, q4, q10, q11, q12, vbin_add, w64_1 hi (by omega : n ≤ 1000000), true_and]
        exact ⟨k - 1, by omega, by omega, by omega, hMH, hr, i + 1, rfl, by omega, by rw [htake]; simpa using huH⟩
    · simp (decide := true) only [↓VW_exit, ↓vbindN_exit, ↓vbindL_exit, ↓vatExit_self, ↓vupd_ne, ne_eq, q2, q4, true_and]
      rw [List.take_of_length_le (by rw [upTo_length]; omega)] at hu
      exact ⟨hlo, hnx, hMG, gr, hu.rd⟩
  · rintro fe G ⟨q2, q4, hlo, hnx, hMG, gr, hu⟩
    obtain ⟨yt, zt, bt, gt⟩ := hMG.tape
    have hleft := leftOf_len n l
    simp (decide := true) only [↓VW_region, ↓VW_seq, ↓vbindN_normal, ↓vbindB_self, ↓VO_cons, ↓VS_mv, ↓VS_call, ↓VS_load, ↓vfev_tmp, ↓vupd_same, ↓vupd_ne, Now_any, Got_some, List.map_cons, List.map_nil, ↓vld_ptr, vrdB_cells, vpart_agg, ne_eq, ↓reduceIte, List.length_cons, List.length_nil, List.drop_zero, List.take_succ_cons, List.take_zero, Nat.zero_add, Nat.reduceAdd, Nat.reduceLeDiff, q2, gt]
    refine VCall.dat (without_any t (leftOf n l) h1 h2 (by omega)) ⟨Fg.rfl _, Fg.of hu.fg, trivial⟩ (fun H hs => ?_)
    have hr := (hs.heap σ.next (by omega)).trans gr
    have lH := hs.low
    simp (decide := true) only [↓VW_ret, ↓vbindN_normal, ↓vatEnd_ret, ↓VO_nil, ↓VO_cons_drop, ↓VS_store, ↓vfev_tmp, ↓vupd_same, ↓vupd_ne, Now_any, Got_some, vrs_one, vr1_cell, List.map_cons, List.map_nil, ↓vld_ptr, vrdB_cells, vst_ptr, vstB_cells, vpart_agg, cs_agg, vAll_vl, vAll_nil, ne_eq, List.append_nil, List.nil_append, heap_write, ↓reduceIte, List.length_cons, List.length_nil, List.drop_zero, List.drop_succ_cons, List.take_succ_cons, List.take_zero, Nat.zero_add, Nat.reduceAdd, Nat.reduceLeDiff, and_true, and_self, q4, tapeV, hr, vsplice, fg_agg, fg_vl]
    rw [low_write]; omega

/-- the condition on lists of places. -/
def condT (t : Tape) (bits : Int) (odd : Bool) (n : Nat) (l : List Int) : Bool := failsK t bits odd (withoutT t (leftOf n l))
theorem withoutT_len (t : Tape) (ps : List Int) : (withoutT t ps).events.length ≤ t.events.length ∧ (withoutT t ps).answers.length ≤ t.answers.length :=
  ⟨cutL_len _ _ _, Nat.le_trans (cutL_len _ _ _) (normA_len _)⟩
/-- the second closure. -/
theorem tape2_any (t : Tape) (bits : Int) (odd : Bool) (hb0 : 0 ≤ bits) (hb1 : bits ≤ 1000000) (n : Nat) (hn : n ≤ 100000) (l : List Int) (hl : l.length ≤ 100000) (hls : l.Pairwise (· < ·)) (h1 : t.events.length ≤ 100000) (h2 : t.answers.length ≤ 12) (pa pt ar pf pk kp : Nat) (σ : VSt) (hM : TapeM σ pa pt ar t n) (ha : pa < σ.next) (ht : pt < σ.next) (har : ar < σ.next)
    (hk : KeepAt σ kp t bits odd) (hkp : kp < σ.next) (hf : ∃ ty z b, σ.heap pf = .cells [.fn 10 [.ptr kp 0] []] ty z b) (hpf : pf < σ.next) (hg : ∃ ty z b, σ.heap pk = .cells [.fn 22 [] [.ptr pa 0, .ptr pt 0]] ty z b) :
    VC Try.prog 25 [vl l, .ptr pf 0, .ptr pk 0] σ (fun r σ' => σ.next ≤ σ'.low ∧ r.fg = vb (condT t bits odd n l)) := by
  refine VC_body XF25 ?_
  obtain ⟨y1, z1, b1, g1⟩ := hf
  obtain ⟨y2, z2, b2, g2⟩ := hg
  have g1' : σ.fresh.heap pf = .cells [.fn 10 [.ptr kp 0] []] y1 z1 b1 := g1
  have g2' : σ.fresh.heap pk = .cells [.fn 22 [] [.ptr pa 0, .ptr pt 0]] y2 z2 b2 := g2
  simp (decide := true) only [↓VW_ret, ↓VW_region, ↓VW_draw, ↓VW_seq, ↓vbindN_normal, ↓vatEnd_ret, ↓VO_nil, ↓VO_cons, List.zip_cons_cons, List.zip_nil_left, ↓VM_cons, ↓vearlyP_false, ↓VS_mv, ↓VS_callv, ↓VS_load, ↓vfev_tmp, ↓vfev_bool, ↓vupd_same, ↓vupd_ne, ↓vfe0_zero, ↓vfe0_succ, Now_any, Got_some, vrs_one, vr1_tmp, List.map_cons, List.map_nil, ↓vld_ptr, vrdB_cells, vpart_one, VCallv_func, ne_eq, List.nil_append, List.cons_append, next_fresh, ↓reduceIte, List.length_cons, List.length_nil, List.drop_zero, List.take_succ_cons, List.take_zero, Nat.zero_add, Nat.reduceLeDiff, xf25, g1', g2']
  refine VCall.data (keep_any t n hn l hl hls h1 h2 pa pt ar σ.fresh (hM.keep rfl rfl rfl) ha ht har) ⟨Fg.rfl _, Fg.rfl _, Fg.rfl _, trivial⟩ (fun A hs => ?_)
  have lA := hs.low
  have nA := hs.next
  rw [low_fresh] at lA
  rw [next_fresh] at nA
  simp (decide := true) only [↓VM_cons, ↓vearlyP_false, ↓VS_callv, ↓vfev_tmp, ↓vupd_same, ↓vupd_ne, Now_any, List.map_cons, List.map_nil, VCallv_func, ne_eq, List.append_nil, List.nil_append, List.cons_append, List.append_nil]
  obtain ⟨e1, e2⟩ := withoutT_len t (leftOf n l)
  refine VCall.data (fails_any t (withoutT t (leftOf n l)) bits odd hb0 hb1 h1 (by omega) (by omega) (by omega) kp A ((show KeepAt σ.fresh kp t bits odd from hk).sub hs hkp) (by omega)) ⟨Fg.rfl _, Fg.rfl _, trivial⟩ (fun B hs2 => ?_)
  have lB := hs2.low
  simp (decide := true) only [↓vbindN_normal, ↓VM_nil, ↓VM_cons, ↓vearlyP_false, ↓VS_mv, ↓vfev_tmp, ↓vupd_same, Now_any, fg_bool]
  exact ⟨by omega, rfl⟩

def shrunk (t : Tape) (bits : Int) (odd : Bool) : Tape := withoutT t (leftOf (partsN t) (Shr.run (condT t bits odd (partsN t)) (upTo (partsN t))).1)
theorem sub_sorted {n : Nat} {l : List Int} (h : l.Sublist (upTo n)) : l.Pairwise (· < ·) := (upTo_sorted n).sublist h
theorem shrinkTape_any (t0 : Tape) (bits : Int) (odd : Bool) (hb0 : 0 ≤ bits) (hb1 : bits ≤ 1000000) (h1 : t0.events.length ≤ 1000) (h2 : t0.answers.length ≤ 12) (kp : Nat) (σ : VSt) (hk : KeepAt σ kp (normT t0) bits odd) (hkp : kp < σ.next) :
    VC Try.prog 9 [tapeV t0, .fn 10 [.ptr kp 0] []] σ (fun r σ' => σ.next ≤ σ'.low ∧ r.fg = tapeV (shrunk (normT t0) bits odd)) := by
  refine VC_body XF9 ?_
  simp (decide := true) only [↓VW_region, ↓VW_seq, ↓vbindN_normal, ↓VO_nil, ↓VO_cons, ↓VS_call, ↓VS_load, ↓VS_box, ↓VS_zeroA, ↓vfev_tmp, ↓vupd_same, ↓vupd_ne, ↓vfe0_zero, ↓vfe0_succ, Now_any, Got_some, List.map_cons, List.map_nil, ↓vld_ptr, vrdB_cells, vpart_agg, cs_agg, cs_fn, vAll_vl, vAll_fn, vAll_nil, Need_true, ne_eq, next_box, next_fresh, heap_box, ↓reduceIte, Nat.left_eq_add, List.length_cons, List.length_nil, List.drop_zero, List.take_succ_cons, List.take_zero, Nat.zero_add, Nat.add_assoc, Nat.reduceAdd, Nat.reduceLeDiff, xf9, tapeV]
  generalize hA : (((σ.fresh.box [vl t0.events, vl t0.answers] 26 2).box [.fn 10 [.ptr kp 0] []] _ 1).box [.v (.slice none 0 0), .v (.slice none 0 0)] 26 2) = A
  have nA : A.next = σ.next + 3 := by rw [← hA]; rfl
  have lA : A.low = σ.next := by rw [← hA]; rfl
  have a0 : A.heap σ.next = .cells [vl t0.events, vl t0.answers] 26 2 σ.next := by
    rw [← hA, heap_box_ne _ _ _ _ _ (by simp [next_box, next_fresh]; omega), heap_box_ne _ _ _ _ _ (by simp [next_box, next_fresh])]; exact heap_box_self _ _ _ _
  have a1 : ∃ ty z b, A.heap (σ.next + 1) = .cells [.fn 10 [.ptr kp 0] []] ty z b := by
    exact ⟨_, _, _, (congrArg (fun X => X.heap (σ.next + 1)) hA.symm).trans ((heap_box_ne _ _ _ _ _ (by simp [next_box, next_fresh])).trans (heap_box_self _ _ _ _))⟩
  have a2 : A.heap (σ.next + 2) = .cells [.v (.slice none 0 0), .v (.slice none 0 0)] 26 2 (σ.next + 2) := by rw [← hA]; exact heap_box_self _ _ _ _
  have aK : KeepAt A kp (normT t0) bits odd := by
    obtain ⟨ty, z, b, hk⟩ := hk
    refine ⟨ty, z, b, ?_⟩
    rw [← hA, heap_box_ne _ _ _ _ _ (by simp [next_box, next_fresh]; omega), heap_box_ne _ _ _ _ _ (by simp [next_box, next_fresh]; omega), heap_box_ne _ _ _ _ _ (by simp [next_fresh]; omega)]; exact hk
  clear hA
  refine VCall.dat (normal_any t0 (by omega) h2) ⟨Fg.rfl _, trivial⟩ (fun B hs => ?_)
  have nB := hs.next
  have lB := hs.low
  have b0 := (hs.heap σ.next (by omega)).trans a0
  obtain ⟨y1, z1, c1, a1⟩ := a1
  have b1 := (hs.heap (σ.next + 1) (by omega)).trans a1
  have b2 := (hs.heap (σ.next + 2) (by omega)).trans a2
  have bK := aK.sub hs (by omega)
  have htE : (normT t0).events.length ≤ 1000 := h1
  have htA : (normT t0).answers.length ≤ 12 := Nat.le_trans (normA_len _) h2
  have hpl : partsN (normT t0) ≤ 1012 := by
    have := ansF_len (normT t0).answers
    unfold partsN; omega
  generalize normT t0 = t at bK htE htA hpl ⊢
  simp (decide := true) only [↓VW_region, ↓VW_seq, ↓vbindN_normal, ↓VO_nil, ↓VO_cons, ↓VO_cons_drop, ↓VS_call, ↓VS_load, ↓VS_store, ↓vfev_tmp, ↓vupd_same, ↓vupd_ne, Now_any, Got_some, List.map_cons, List.map_nil, ↓vld_ptr, vrdB_cells, vst_ptr, vstB_cells, vpart_agg, cs_agg, vAll_vl, vAll_nil, ne_eq, List.append_nil, List.nil_append, heap_write, ↓reduceIte, List.length_cons, List.length_nil, List.drop_zero, List.drop_succ_cons, List.take_succ_cons, List.take_zero, Nat.zero_add, Nat.reduceAdd, Nat.reduceLeDiff, and_self, tapeV, b0, vsplice]
  generalize hC : B.write σ.next [vl t.events, vl t.answers] 26 2 σ.next = C
  have nC : C.next = B.next := by rw [← hC]; rfl
  have lC : C.low = σ.next := by rw [← hC, low_write]; omega
  have c0 : C.heap σ.next = .cells [vl t.events, vl t.answers] 26 2 σ.next := by rw [← hC, heap_write_self]
  have hold : ∀ id, id ≠ σ.next → C.heap id = B.heap id := fun id hid => by rw [← hC, heap_write_ne _ _ _ _ _ _ _ hid]
  clear hC
  have c1 := (hold (σ.next + 1) (by omega)).trans b1
  have c2 := (hold (σ.next + 2) (by omega)).trans b2
  have cK : KeepAt C kp t bits odd := by
    obtain ⟨ty, z, b, hk⟩ := bK
    exact ⟨ty, z, b, (hold kp (by omega)).trans hk⟩
  refine VCall.dat (parts_any t (by omega) (by omega)) ⟨Fg.rfl _, trivial⟩ (fun D hs2 => ?_)
  have nD := hs2.next
  have lD := hs2.low
  have d0 := (hs2.heap σ.next (by omega)).trans c0
  have d1 := (hs2.heap (σ.next + 1) (by omega)).trans c1
  have d2 := (hs2.heap (σ.next + 2) (by omega)).trans c2
  have dK := cK.sub hs2 (by omega)
  have hrun : shrunk t bits odd = withoutT t (leftOf (partsN t) (Shr.run (condT t bits odd (partsN t)) (upTo (partsN t))).1) := rfl
  generalize partsN t = n at hpl hrun ⊢
  simp (decide := true) only [↓VW_region, ↓VW_seq, ↓VW_block, ↓VW_stuck, ↓vbindN_normal, ↓VO_nil, ↓VO_cons, ↓VO_cons_drop, ↓VS_mv, ↓VS_load, ↓VS_len, ↓VS_zeroS, ↓VS_store, ↓VS_mkSlice, ↓vfev_tmp, ↓vfev_int, ↓vupd_same, ↓vupd_ne, Now_any, Got_some, ↓vld_ptr, vrdB_cells, vst_ptr, vstB_cells, vlenv_slice, vpart_one, cs_slice, vAll_slice, vAll_nil, ne_eq, List.append_nil, List.nil_append, next_box, heap_box, heap_write, ↓reduceIte, List.length_cons, List.length_nil, List.drop_zero, List.drop_succ_cons, List.take_succ_cons, List.take_zero, Nat.zero_add, Nat.reduceLeDiff, and_self, vmk_I n _ D (by omega), vsplice]
  generalize hE : ((D.box (vencs (List.replicate n (0 : Int))) 3 1).box [.v (.slice none 0 0)] 22 1).write (D.next + 1) [.slice D.next 0 n n] 22 1 (D.next + 1) = E
  have nE : E.next = D.next + 2 := by rw [← hE]; rfl
  have lE : E.low = D.low := by rw [← hE, low_write, low_box, low_box]; omega
  have e3 : E.heap (D.next + 1) = .cells [.slice D.next 0 n n] 22 1 (D.next + 1) := by rw [← hE, heap_write_self]
  have e4 : E.heap D.next = .cells (vencs (List.replicate n (0 : Int))) 3 1 D.next := by rw [← hE, heap_write_ne _ _ _ _ _ _ _ (by omega), heap_box_ne _ _ _ _ _ (by simp [next_box])]; exact heap_box_self _ _ _ _
  have hold : ∀ id, id < D.next → E.heap id = D.heap id := fun id hid => by rw [← hE, heap_write_ne _ _ _ _ _ _ _ (by omega), heap_box_ne _ _ _ _ _ (by rw [next_box]; omega), heap_box_ne _ _ _ _ _ (by omega)]
  clear hE
  refine VW_loopR 0 (fun k fe G => fe 2 = .ptr σ.next 0 ∧ fe 3 = .ptr (σ.next + 1) 0 ∧ fe 4 = .ptr (σ.next + 2) 0 ∧ fe 5 = .ptr (D.next + 1) 0 ∧ fe 14 = vi n ∧ σ.next ≤ G.low ∧ G.next = E.next ∧ (∀ id, id < D.next → G.heap id = D.heap id) ∧ G.heap (D.next + 1) = .cells [.slice D.next 0 n n] 22 1 (D.next + 1) ∧ ∃ i : Nat, fe 15 = vi i ∧ k + i = n ∧ G.heap D.next = .cells (vencs (upTo i ++ List.replicate (n - i) (0 : Int))) 3 1 D.next)
    (fun fe G => fe 2 = .ptr σ.next 0 ∧ fe 3 = .ptr (σ.next + 1) 0 ∧ fe 4 = .ptr (σ.next + 2) 0 ∧ fe 5 = .ptr (D.next + 1) 0 ∧ σ.next ≤ G.low ∧ G.next = E.next ∧ (∀ id, id < D.next → G.heap id = D.heap id) ∧ G.heap (D.next + 1) = .cells [.slice D.next 0 n n] 22 1 (D.next + 1) ∧ G.heap D.next = .cells (vencs (upTo n)) 3 1 D.next) n ?_ ?_ ?_
  · simp (decide := true) only [↓vupd_same, ↓vupd_ne, ne_eq, true_and]
    exact ⟨by omega, hold, e3, 0, rfl, by omega, e4⟩
  · rintro k fe G ⟨q2, q3, q4, q5, q14, hlo, hnx, hG, g3, i, q15, hk, g4⟩
    simp (decide := true) only [↓VW_region, ↓VW_seq, ↓VW_cond, ↓vbindN_normal, ↓VO_nil, ↓VO_cons, ↓VS_bin, ↓vfev_tmp, ↓vupd_same, Now_any, Got_some, q14, q15, vbin_lss]
    refine TestV_dec (fun hlt => ?_) (fun hge => ?_)
    · have hi : i < n := by omega
      have hil : i < (upTo i ++ List.replicate (n - i) (0 : Int)).length := by simp [upTo_length]; omega
      simp (decide := true) only [↓VW_skip, ↓VW_region, ↓VW_seq, ↓VW_block, ↓vbindN_normal, ↓vbindB_normal, ↓vbindL_normal, ↓VO_nil, ↓VO_cons, ↓VO_cons_drop, ↓VS_mv, ↓VS_load, ↓VS_ia, ↓VS_bin, ↓VS_store, ↓vfev_tmp, ↓vfev_int, ↓vupd_same, ↓vupd_ne, Now_any, Got_some, ↓vld_ptr, vrdB_cells, vst_ptr, vpart_one, cs_v, ne_eq, next_write, q5, q15, g3, vrdB_cells, List.length_cons, List.length_nil, Nat.zero_add, Nat.reduceLeDiff, ↓reduceIte, List.drop_zero, List.take_succ_cons, List.take_zero, via_slI hi, g4, vstB_I hil, upTo_fill n i hi, vbin_add, w64_1 hi (by omega : n ≤ 1000000), q2, q3, q4, q14, true_and]
      refine ⟨k - 1, by omega, by rw [low_write]; omega, hnx, fun id hid => ?_, ?_, i + 1, rfl, by omega, heap_write_self _ _ _ _ _ _⟩
      · rw [heap_write_ne _ _ _ _ _ _ _ (by omega)]; exact hG id hid
      · rw [heap_write_ne _ _ _ _ _ _ _ (by omega)]; exact g3
    · obtain rfl : i = n := by omega
      rw [Nat.sub_self, List.replicate_zero, List.append_nil] at g4
      simp (decide := true) only [↓VW_exit, ↓vbindN_exit, ↓vbindL_exit, ↓vatExit_self, ↓vupd_ne, ne_eq, q2, q3, q4, q5, true_and]
      exact ⟨hlo, hnx, hG, g3, g4⟩
  · rintro fe G ⟨q2, q3, q4, q5, hlo, hnx, hG, g3, g4⟩
    simp (decide := true) only [↓VW_ret, ↓VW_region, ↓VW_draw, ↓VW_seq, ↓vbindN_normal, ↓vbindB_self, ↓vatEnd_ret, ↓VO_nil, ↓VO_cons, ↓VO_cons_drop, List.zip_cons_cons, List.zip_nil_left, ↓VM_cons, ↓vearlyP_false, ↓VS_load, ↓VS_mkFunc, ↓VS_zeroF, ↓VS_store, ↓vfev_tmp, ↓vupd_same, ↓vupd_ne, Now_any, Got_some, vrs_one, vr1_cell, List.map_cons, List.map_nil, ↓vld_ptr, vrdB_cells, vst_ptr, vstB_cells, vpart_one, cs_fn, vAll_fn, vAll_nil, ne_eq, List.append_nil, List.nil_append, next_box, next_write, heap_box_self, heap_write_self, ↓reduceIte, List.length_cons, List.length_nil, List.drop_zero, List.drop_succ_cons, List.take_succ_cons, List.take_zero, Nat.zero_add, Nat.reduceLeDiff, and_self, q5, q2, vsplice]
    generalize hH : (G.box [.v .nilFunc] _ 1).write G.next [.fn 22 [] [.ptr (D.next + 1) 0, .ptr σ.next 0]] _ 1 G.next = H
    have nH : H.next = G.next + 1 := by rw [← hH]; rfl
    have lH : H.low = min G.low G.next := by rw [← hH, low_write, low_box]
    have h6 : ∃ ty z b, H.heap G.next = .cells [.fn 22 [] [.ptr (D.next + 1) 0, .ptr σ.next 0]] ty z b := ⟨_, _, _, by rw [← hH, heap_write_self]⟩
    have hold2 : ∀ id, id < G.next → H.heap id = G.heap id := fun id hid => by rw [← hH, heap_write_ne _ _ _ _ _ _ _ (by omega), heap_box_ne _ _ _ _ _ (by omega)]
    clear hH
    obtain ⟨y6, z6, b6, h6⟩ := h6
    have h0 := (hold2 σ.next (by omega)).trans ((hG σ.next (by omega)).trans d0)
    have h1' := (hold2 (σ.next + 1) (by omega)).trans ((hG (σ.next + 1) (by omega)).trans d1)
    have h2' := (hold2 (σ.next + 2) (by omega)).trans ((hG (σ.next + 2) (by omega)).trans d2)
    have h3 := (hold2 (D.next + 1) (by omega)).trans g3
    have h4 := (hold2 D.next (by omega)).trans g4
    have hK : KeepAt H kp t bits odd := by
      obtain ⟨ty, z, b, hk⟩ := dK
      exact ⟨ty, z, b, (hold2 kp (by omega)).trans ((hG kp (by omega)).trans hk)⟩
    have hM : TapeM H (D.next + 1) σ.next D.next t n := ⟨⟨_, _, _, h3⟩, ⟨_, _, _, h0⟩, ⟨_, _, _, h4⟩⟩
    simp (decide := true) only [↓VM_cons, ↓vearlyP_false, ↓VS_call, ↓VS_mkFunc, ↓vfev_tmp, ↓vupd_same, ↓vupd_ne, Now_any, Got_some, List.map_cons, List.map_nil, vrdB_cells, vpart_one, ne_eq, ↓reduceIte, List.length_cons, List.length_nil, List.drop_zero, List.take_succ_cons, List.take_zero, Nat.zero_add, Nat.reduceLeDiff, q3, h3]
    have hC : Cond 25 [] [.ptr (σ.next + 1) 0, .ptr G.next 0] (condT t bits odd n) (upTo n) (fun _ X => TapeM X (D.next + 1) σ.next D.next t n ∧ KeepAt X kp t bits odd ∧ (∃ ty z b, X.heap (σ.next + 1) = .cells [.fn 10 [.ptr kp 0] []] ty z b) ∧ ∃ ty z b, X.heap G.next = .cells [.fn 22 [] [.ptr (D.next + 1) 0, .ptr σ.next 0]] ty z b) H.next H.next := by
      refine ⟨?_, ?_⟩
      · rintro m l X ⟨xM, xK, xf, xg⟩ hX hl
        have hll := hl.length_le
        rw [upTo_length] at hll
        have hh := VG.frame (P := Try.prog) (tape2_any t bits odd hb0 hb1 n (by omega) l (by omega) (sub_sorted hl) (by omega) htA (D.next + 1) σ.next D.next (σ.next + 1) G.next kp X xM (by omega) (by omega) (by omega) xK (by omega) xf (by omega) xg)
        refine VG.mono (P := Try.prog) hh ?_
        rintro v Y ⟨⟨w1, w2⟩, w3, w4, w5, w6⟩
        have hY : ∀ id, id < H.next → Y.heap id = X.heap id := fun id hid => (w5 id (by omega) (by omega)).1
        refine ⟨by omega, w2, xM.keep (hY _ (by omega)) (hY _ (by omega)) (hY _ (by omega)), ?_, ?_, ?_⟩
        · obtain ⟨ty, z, b, hk⟩ := xK; exact ⟨ty, z, b, (hY kp (by omega)).trans hk⟩
        · obtain ⟨ty, z, b, hk⟩ := xf; exact ⟨ty, z, b, (hY _ (by omega)).trans hk⟩
        · obtain ⟨ty, z, b, hk⟩ := xg; exact ⟨ty, z, b, (hY _ (by omega)).trans hk⟩
      · rintro m X Y ⟨xM, xK, xf, xg⟩ hY
        refine ⟨xM.keep (hY _ (by omega)) (hY _ (by omega)) (hY _ (by omega)), ?_, ?_, ?_⟩
        · obtain ⟨ty, z, b, hk⟩ := xK; exact ⟨ty, z, b, (hY kp (by omega)).trans hk⟩
        · obtain ⟨ty, z, b, hk⟩ := xf; exact ⟨ty, z, b, (hY _ (by omega)).trans hk⟩
        · obtain ⟨ty, z, b, hk⟩ := xg; exact ⟨ty, z, b, (hY _ (by omega)).trans hk⟩
    have hcl := cloneS_any (upTo n) (by rw [upTo_length]; omega) D.next H.fresh (t := 3) (z := 1) (b := D.next) h4
    rw [upTo_length] at hcl
    have hlist := list_any hC (by rw [upTo_length]; omega) 0 H ⟨hM, hK, ⟨_, _, _, h1'⟩, ⟨_, _, _, h6⟩⟩ (Nat.le_refl _) hcl
    refine VCall.pure (Q := fun v _ => v = vl (Shr.run (condT t bits odd n) (upTo n)).1) ?_ (fun _ _ h => h) ?_
    · refine VG.mono (P := Try.prog) (VG.resFg hlist) ?_
      rintro v X ⟨v0, rfl, w1, w2, _⟩
      exact ⟨by omega, w2⟩
    · rintro v X rfl hsX
      have nX := hsX.next
      have lX := hsX.low
      have hrl : ((Shr.run (condT t bits odd n) (upTo n)).1).Sublist (upTo n) := Shr.run_sub _ _
      have hrl2 := hrl.length_le
      rw [upTo_length] at hrl2
      have x2 := (hsX.heap _ (by omega)).trans h2'
      simp (decide := true) only [↓VM_cons, ↓vearlyP_false, ↓VS_callv, ↓vfev_tmp, ↓vupd_same, ↓vupd_ne, Now_any, List.map_cons, List.map_nil, VCallv_func, ne_eq, List.nil_append, List.cons_append, List.nil_append]
      refine VCall.data (keep_any t n (by omega) _ (by omega) (sub_sorted hrl) (by omega) htA (D.next + 1) σ.next D.next X (hM.keep (hsX.heap _ (by omega)) (hsX.heap _ (by omega)) (hsX.heap _ (by omega))) (by omega) (by omega) (by omega)) ⟨Fg.rfl _, Fg.rfl _, Fg.rfl _, trivial⟩ (fun Y hsY => ?_)
      have lY := hsY.low
      have y2 := (hsY.heap _ (by omega)).trans x2
      rw [← hrun]
      simp (decide := true) only [↓vbindN_normal, ↓VM_nil, ↓VM_cons_drop, ↓vearlyP_false, ↓VS_store, ↓vfev_tmp, ↓vupd_same, ↓vupd_ne, Now_any, Got_some, List.map_cons, List.map_nil, ↓vld_ptr, vrdB_cells, vst_ptr, vstB_cells, vpart_agg, cs_agg, vAll_vl, vAll_nil, ne_eq, List.append_nil, List.nil_append, heap_write, ↓reduceIte, List.length_cons, List.length_nil, List.drop_zero, List.drop_succ_cons, List.take_succ_cons, List.take_zero, Nat.zero_add, Nat.reduceAdd, Nat.reduceLeDiff, and_true, and_self, tapeV, q4, y2, vsplice, fg_agg, fg_vl]
      rw [low_write]
      omega
end Go.Proofs.Ytmbbebfpjclghaa
