/- The evaluator of closed computations: quick forms of the common operations. No program in sight. -/
import Derived.Test.YtofjnhdgkhfgnaaDoorKc
set_option linter.unusedVariables false
set_option linter.unusedSimpArgs false
set_option linter.unusedSectionVars false
namespace Go.Proofs.YtofjnhdgkhfgnaaDoor
open Go Go.RowKit

/-- an operand, handed on. -/
noncomputable def qv (env : T4) (x : Operand) (k : Value → Bool) : Bool := @Operand.rec (fun _ => Bool) (fun t => @Option.rec Value (fun _ => Bool) (k undef) (fun v => k v) (get4 (pt t) env)) (fun v => k v) (fun g => k (.pointer (some ⟨g, 0, none⟩))) (fun f => k (.func (.func f) #[] #[])) x
theorem qv_eq (env : T4) (x : Operand) (k : Value → Bool) : qv env x k = k (qval env x) := by
  cases x with
  | tmp t => simp only [qv, qval]; cases get4 (pt t) env <;> rfl
  | _ => rfl
/-- a number, a slice in memory, a pointer into memory; or else. -/
noncomputable def asInt (v : Value) (k : IntKind → Int → Bool) : Bool := @Value.rec (fun _ => Bool) (fun _ => Unit) (fun _ => Unit) (fun _ => false) (fun i n => k i n) (fun _ _ => false) (fun _ _ _ => false) (fun _ => false) (fun _ => false) (fun _ _ _ => false) (fun _ => false) (fun _ => false) (fun _ _ _ _ _ => false) false (fun _ _ _ => false) false (fun _ _ => false) (fun _ _ => false) (fun _ _ => ()) () (fun _ _ _ _ => ()) v
theorem asInt_ok {v : Value} {k : IntKind → Int → Bool} (h : asInt v k = true) : ∃ i n, v = .int i n ∧ k i n = true := by
  cases v <;> first | exact ⟨_, _, rfl, h⟩ | cases h
noncomputable def asAddr (a : Option Addr) (k : Nat → Nat → Bool) : Bool := @Option.rec Addr (fun _ => Bool) false (fun a => @Addr.rec (fun _ => Bool) (fun b o p => @Option.rec Nat (fun _ => Bool) (k b o) (fun _ => false) p) a) a
theorem asAddr_ok {a : Option Addr} {k : Nat → Nat → Bool} (h : asAddr a k = true) : ∃ b o, a = some ⟨b, o, none⟩ ∧ k b o = true := by
  rcases a with _ | ⟨b, o, _ | p⟩
  · cases h
  · exact ⟨b, o, rfl, h⟩
  · cases h
noncomputable def asPtr (v : Value) (k : Nat → Nat → Bool) : Bool := @Value.rec (fun _ => Bool) (fun _ => Unit) (fun _ => Unit) (fun _ => false) (fun i n => false) (fun _ _ => false) (fun _ _ _ => false) (fun _ => false) (fun a => asAddr a k) (fun _ _ _ => false) (fun _ => false) (fun _ => false) (fun _ _ _ _ _ => false) false (fun _ _ _ => false) false (fun _ _ => false) (fun _ _ => false) (fun _ _ => ()) () (fun _ _ _ _ => ()) v
theorem asPtr_ok {v : Value} {k : Nat → Nat → Bool} (h : asPtr v k = true) : ∃ b o, v = .pointer (some ⟨b, o, none⟩) ∧ k b o = true := by
  cases v <;> first | (obtain ⟨b, o, rfl, h⟩ := asAddr_ok h; exact ⟨b, o, rfl, h⟩) | cases h
noncomputable def asSlice (v : Value) (k : Option Addr → Nat → Nat → Bool) : Bool := @Value.rec (fun _ => Bool) (fun _ => Unit) (fun _ => Unit) (fun _ => false) (fun i n => false) (fun _ _ => false) (fun _ _ _ => false) (fun _ => false) (fun a => false) (fun a n c => k a n c) (fun _ => false) (fun _ => false) (fun _ _ _ _ _ => false) false (fun _ _ _ => false) false (fun _ _ => false) (fun _ _ => false) (fun _ _ => ()) () (fun _ _ _ _ => ()) v
theorem asSlice_ok {v : Value} {k : Option Addr → Nat → Nat → Bool} (h : asSlice v k = true) : ∃ a n c, v = .slice a n c ∧ k a n c = true := by
  cases v <;> first | exact ⟨_, _, _, rfl, h⟩ | cases h
noncomputable def asStr (v : Value) (k : ByteArray → Bool) : Bool := @Value.rec (fun _ => Bool) (fun _ => Unit) (fun _ => Unit) (fun _ => false) (fun i n => false) (fun _ _ => false) (fun _ _ _ => false) (fun s => k s) (fun a => false) (fun a n c => false) (fun _ => false) (fun _ => false) (fun _ _ _ _ _ => false) false (fun _ _ _ => false) false (fun _ _ => false) (fun _ _ => false) (fun _ _ => ()) () (fun _ _ _ _ => ()) v
theorem asStr_ok {v : Value} {k : ByteArray → Bool} (h : asStr v k = true) : ∃ s, v = .string s ∧ k s = true := by
  cases v <;> first | exact ⟨_, rfl, h⟩ | cases h
noncomputable def asBool (v : Value) (k : Bool → Bool) : Bool := @Value.rec (fun _ => Bool) (fun _ => Unit) (fun _ => Unit) (fun b => k b) (fun i n => false) (fun _ _ => false) (fun _ _ _ => false) (fun s => false) (fun a => false) (fun a n c => false) (fun _ => false) (fun _ => false) (fun _ _ _ _ _ => false) false (fun _ _ _ => false) false (fun _ _ => false) (fun _ _ => false) (fun _ _ => ()) () (fun _ _ _ _ => ()) v
theorem asBool_ok {v : Value} {k : Bool → Bool} (h : asBool v k = true) : ∃ b, v = .bool b ∧ k b = true := by
  cases v <;> first | exact ⟨_, rfl, h⟩ | cases h
noncomputable def asTup (v : Value) (k : List Value → Bool) : Bool := @Value.rec (fun _ => Bool) (fun _ => Unit) (fun _ => Unit) (fun b => false) (fun i n => false) (fun _ _ => false) (fun _ _ _ => false) (fun s => false) (fun a => false) (fun a n c => false) (fun _ => false) (fun _ => false) (fun _ _ _ _ _ => false) false (fun _ _ _ => false) false (fun _ _ => false) (fun a _ => k a.toList) (fun _ _ => ()) () (fun _ _ _ _ => ()) v
theorem asTup_ok {v : Value} {k : List Value → Bool} (h : asTup v k = true) : ∃ a, v = .tuple a ∧ k a.toList = true := by
  cases v <;> first | exact ⟨_, rfl, h⟩ | cases h
/-- the places of a value. -/
noncomputable def vcells (v : Value) : List Value := @Value.rec (fun _ => List Value) (fun _ => Unit) (fun _ => Unit) (fun b => [v]) (fun i n => [v]) (fun _ _ => [v]) (fun _ _ _ => [v]) (fun s => [v]) (fun a => [v]) (fun a n c => [v]) (fun _ => [v]) (fun _ => [v]) (fun _ _ _ _ _ => [v]) [v] (fun _ _ _ => [v]) [v] (fun a _ => a.toList) (fun a _ => [v]) (fun _ _ => ()) () (fun _ _ _ _ => ()) v
theorem vcells_eq (v : Value) : vcells v = v.cells.toList := by cases v <;> rfl

/-- numbers. -/
noncomputable def kw (n : Int) (k : Int → Bool) : Bool := fI (IntKind.i64.wrap n) k
theorem kw_eq (n : Int) (k : Int → Bool) : kw n k = k (IntKind.i64.wrap n) := fI_eq _ _
theorem wrap_small {n : Nat} (h : n ≤ 9223372036854775807) : IntKind.i64.wrap (n : Int) = n := by
  simp only [IntKind.wrap, IntKind.bits, IntKind.signed]
  have : (n : Int) % 18446744073709551616 = n := Int.emod_eq_of_lt (by omega) (by omega)
  simp [this]
  omega
theorem wrap_neg {n : Nat} (h : n ≤ 9223372036854775807) : IntKind.i64.wrap (Int.negSucc n) = Int.negSucc n := by
  simp only [IntKind.wrap, IntKind.bits, IntKind.signed]
  have : (Int.negSucc n) % 18446744073709551616 = 18446744073709551616 + Int.negSucc n := by omega
  simp [this]
  omega
noncomputable def kpos (n : Nat) (k : Int → Bool) : Bool := @Bool.rec (fun _ => Bool) (kw n k) (fN n fun n => k (.ofNat n)) (Nat.ble n 9223372036854775807)
theorem kpos_eq (n : Nat) (k : Int → Bool) : kpos n k = k (IntKind.i64.wrap (n : Int)) := by
  unfold kpos
  by_cases h : n ≤ 9223372036854775807
  · have : Nat.ble n 9223372036854775807 = true := by rw [Nat.ble_eq]; exact h
    rw [this, wrap_small h]
    exact fN_eq n _
  · have : Nat.ble n 9223372036854775807 = false := by rw [← Bool.not_eq_true, Nat.ble_eq]; exact h
    rw [this]
    exact kw_eq _ _
noncomputable def knegS (n : Nat) (k : Int → Bool) : Bool := @Bool.rec (fun _ => Bool) (kw (.negSucc n) k) (fN n fun n => k (.negSucc n)) (Nat.ble n 9223372036854775807)
theorem knegS_eq (n : Nat) (k : Int → Bool) : knegS n k = k (IntKind.i64.wrap (.negSucc n)) := by
  unfold knegS
  by_cases h : n ≤ 9223372036854775807
  · have : Nat.ble n 9223372036854775807 = true := by rw [Nat.ble_eq]; exact h
    rw [this, wrap_neg h]
    exact fN_eq n _
  · have : Nat.ble n 9223372036854775807 = false := by rw [← Bool.not_eq_true, Nat.ble_eq]; exact h
    rw [this]
    exact kw_eq _ _
/-- a number, by its sign. -/
noncomputable def two (a b : Int) (pp : Nat → Nat → Bool) (pn np nn : Nat → Nat → Bool) : Bool := @Int.rec (fun _ => Bool) (fun m => @Int.rec (fun _ => Bool) (fun n => pp m n) (fun n => pn m n) b) (fun m => @Int.rec (fun _ => Bool) (fun n => np m n) (fun n => nn m n) b) a
theorem two_nn (m n : Nat) (pp pn np nn : Nat → Nat → Bool) : two (.negSucc m) (.negSucc n) pp pn np nn = nn m n := rfl
noncomputable def kadd (a b : Int) (k : Int → Bool) : Bool := two a b (fun m n => kpos (Nat.add m n) k)
  (fun m n => @Bool.rec (fun _ => Bool) (knegS (Nat.sub n m) k) (kpos (Nat.sub (Nat.sub m n) 1) k) (Nat.ble (Nat.succ n) m))
  (fun m n => @Bool.rec (fun _ => Bool) (knegS (Nat.sub m n) k) (kpos (Nat.sub (Nat.sub n m) 1) k) (Nat.ble (Nat.succ m) n)) (fun m n => kw (Int.negSucc m + Int.negSucc n) k)
theorem ble_t {a b : Nat} (h : a ≤ b) : Nat.ble a b = true := by rw [Nat.ble_eq]; exact h
theorem ble_f {a b : Nat} (h : ¬ a ≤ b) : Nat.ble a b = false := by rw [← Bool.not_eq_true, Nat.ble_eq]; exact h
theorem kadd_eq (a b : Int) (k : Int → Bool) : kadd a b k = k (IntKind.i64.wrap (a + b)) := by
  cases a with
  | ofNat m =>
    cases b with
    | ofNat n => exact (kpos_eq (m + n) k).trans rfl
    | negSucc n =>
      show @Bool.rec (fun _ => Bool) (knegS (n - m) k) (kpos (m - n - 1) k) (Nat.ble (n + 1) m) = _
      by_cases h : n + 1 ≤ m
      · rw [ble_t h]
        show kpos (m - n - 1) k = _
        rw [kpos_eq]; congr 2; simp only [Int.ofNat_eq_natCast]; omega
      · rw [ble_f h]
        show knegS (n - m) k = _
        rw [knegS_eq]; congr 2; simp only [Int.ofNat_eq_natCast]; omega
  | negSucc m =>
    cases b with
    | ofNat n =>
      show @Bool.rec (fun _ => Bool) (knegS (m - n) k) (kpos (n - m - 1) k) (Nat.ble (m + 1) n) = _
      by_cases h : m + 1 ≤ n
      · rw [ble_t h]
        show kpos (n - m - 1) k = _
        rw [kpos_eq]; congr 2; simp only [Int.ofNat_eq_natCast]; omega
      · rw [ble_f h]
        show knegS (m - n) k = _
        rw [knegS_eq]; congr 2; simp only [Int.ofNat_eq_natCast]; omega
    | negSucc n =>
      unfold kadd
      rw [two_nn, kw_eq]
noncomputable def ksub (a b : Int) (k : Int → Bool) : Bool := two a b (fun m n => @Bool.rec (fun _ => Bool) (knegS (Nat.sub (Nat.sub n m) 1) k) (kpos (Nat.sub m n) k) (Nat.ble n m))
  (fun m n => kpos (Nat.succ (Nat.add m n)) k) (fun m n => kw (Int.negSucc m - Int.ofNat n) k) (fun m n => kw (Int.negSucc m - Int.negSucc n) k)
theorem ksub_eq (a b : Int) (k : Int → Bool) : ksub a b k = k (IntKind.i64.wrap (a - b)) := by
  cases a with
  | ofNat m =>
    cases b with
    | ofNat n =>
      show @Bool.rec (fun _ => Bool) (knegS (n - m - 1) k) (kpos (m - n) k) (Nat.ble n m) = _
      by_cases h : n ≤ m
      · rw [ble_t h]
        show kpos (m - n) k = _
        rw [kpos_eq]; congr 2; simp only [Int.ofNat_eq_natCast]; omega
      · rw [ble_f h]
        show knegS (n - m - 1) k = _
        rw [knegS_eq]; congr 2; simp only [Int.ofNat_eq_natCast]; omega
    | negSucc n =>
      show kpos (m + n + 1) k = _
      rw [kpos_eq]; congr 2
  | negSucc m => cases b <;> exact kw_eq _ _
noncomputable def kmul (a b : Int) (k : Int → Bool) : Bool := two a b (fun m n => kpos (Nat.mul m n) k) (fun m n => kw (Int.ofNat m * Int.negSucc n) k) (fun m n => kw (Int.negSucc m * Int.ofNat n) k) (fun m n => kw (Int.negSucc m * Int.negSucc n) k)
theorem kmul_eq (a b : Int) (k : Int → Bool) : kmul a b k = k (IntKind.i64.wrap (a * b)) := by
  cases a <;> cases b <;> first | exact (kpos_eq _ k).trans rfl | exact kw_eq _ _
noncomputable def ilt (a b : Int) (k : Bool → Bool) : Bool := two a b (fun m n => fB (Nat.ble (Nat.succ m) n) k) (fun _ _ => k false) (fun _ _ => k true) (fun m n => fB (Nat.ble (Nat.succ n) m) k)
theorem ble_dec {a b : Nat} {p : Prop} [Decidable p] (h : a ≤ b ↔ p) : Nat.ble a b = decide p := by
  by_cases hp : p
  · rw [ble_t (h.2 hp), decide_eq_true hp]
  · rw [ble_f (fun e => hp (h.1 e)), decide_eq_false hp]
theorem ilt_eq (a b : Int) (k : Bool → Bool) : ilt a b k = k (decide (a < b)) := by
  cases a with
  | ofNat m =>
    cases b with
    | ofNat n => exact (fB_eq _ k).trans (by rw [ble_dec (p := Int.ofNat m < Int.ofNat n)]; simp only [Int.ofNat_eq_natCast]; omega)
    | negSucc n => show k false = _; rw [decide_eq_false (by simp only [Int.ofNat_eq_natCast]; omega)]
  | negSucc m =>
    cases b with
    | ofNat n => show k true = _; rw [decide_eq_true (by simp only [Int.ofNat_eq_natCast]; omega)]
    | negSucc n => exact (fB_eq _ k).trans (by rw [ble_dec (p := Int.negSucc m < Int.negSucc n)]; omega)
noncomputable def ieq (a b : Int) (k : Bool → Bool) : Bool := two a b (fun m n => fB (Nat.beq m n) k) (fun _ _ => k false) (fun _ _ => k false) (fun m n => fB (Nat.beq m n) k)
theorem beq_dec {a b : Nat} {p : Prop} [Decidable p] (h : a = b ↔ p) : Nat.beq a b = decide p := by
  by_cases hp : p
  · rw [beq_t (h.2 hp), decide_eq_true hp]
  · rw [beq_f (fun e => hp (h.1 e)), decide_eq_false hp]
theorem ieq_eq (a b : Int) (k : Bool → Bool) : ieq a b k = k (a == b) := by
  have hb : (a == b) = decide (a = b) := rfl
  rw [hb]
  cases a with
  | ofNat m =>
    cases b with
    | ofNat n => exact (fB_eq _ k).trans (by rw [beq_dec (p := Int.ofNat m = Int.ofNat n)]; simp only [Int.ofNat_eq_natCast]; omega)
    | negSucc n => show k false = _; rw [decide_eq_false (by simp)]
  | negSucc m =>
    cases b with
    | ofNat n => show k false = _; rw [decide_eq_false (by simp)]
    | negSucc n => exact (fB_eq _ k).trans (by rw [beq_dec (p := Int.negSucc m = Int.negSucc n)]; simp)
noncomputable def is64 (i : IntKind) : Bool := @IntKind.rec (fun _ => Bool) false false false true false false false false i
/-- an operation on two numbers. -/
noncomputable def kbinS (op : BinOp) (a b : Value) (k : Value → Bool) : Bool := @Option.rec Value (fun _ => Bool) false (fun v => fV v k) (xbin op a b)
noncomputable def kbin64 (op : BinOp) (a b : Int) (k : Value → Bool) : Bool := @BinOp.rec (fun _ => Bool) (kadd a b fun n => k (.int .i64 n)) (ksub a b fun n => k (.int .i64 n)) (kmul a b fun n => k (.int .i64 n))
  (kbinS .quo (.int .i64 a) (.int .i64 b) k) (kbinS .rem (.int .i64 a) (.int .i64 b) k) (kbinS .and (.int .i64 a) (.int .i64 b) k) (kbinS .or (.int .i64 a) (.int .i64 b) k) (kbinS .xor (.int .i64 a) (.int .i64 b) k) (kbinS .shl (.int .i64 a) (.int .i64 b) k) (kbinS .shr (.int .i64 a) (.int .i64 b) k) (kbinS .andNot (.int .i64 a) (.int .i64 b) k)
  (ieq a b fun r => k (.bool r)) (ieq a b fun r => fB (not r) fun r => k (.bool r)) (ilt a b fun r => k (.bool r)) (ilt b a fun r => fB (not r) fun r => k (.bool r)) (ilt b a fun r => k (.bool r)) (ilt a b fun r => fB (not r) fun r => k (.bool r)) op
theorem kbinS_ok {op : BinOp} {a b : Value} {k : Value → Bool} (h : kbinS op a b k = true) : ∃ v, xbin op a b = some v ∧ k v = true := by
  unfold kbinS at h
  cases e : xbin op a b with
  | none => rw [e] at h; cases h
  | some v =>
    rw [e] at h
    exact ⟨v, rfl, (fV_eq v k).symm.trans h⟩
theorem kbin64_ok {op : BinOp} {a b : Int} {k : Value → Bool} (h : kbin64 op a b k = true) : ∃ v, xbin op (.int .i64 a) (.int .i64 b) = some v ∧ k v = true := by
  cases op
  case add => exact ⟨_, rfl, (kadd_eq a b _).symm.trans h⟩
  case sub => exact ⟨_, rfl, (ksub_eq a b _).symm.trans h⟩
  case mul => exact ⟨_, rfl, (kmul_eq a b _).symm.trans h⟩
  case eql => exact ⟨_, rfl, (ieq_eq a b _).symm.trans h⟩
  case neq => exact ⟨_, rfl, by
    have := (ieq_eq a b _).symm.trans h
    rwa [fB_eq] at this⟩
  case lss => exact ⟨_, rfl, (ilt_eq a b _).symm.trans h⟩
  case gtr => exact ⟨_, rfl, (ilt_eq b a _).symm.trans h⟩
  case leq => exact ⟨_, rfl, by
    have := (ilt_eq b a _).symm.trans h
    rw [fB_eq] at this
    rw [← this]; congr 2
    rw [← decide_not]
    exact decide_eq_decide.2 (by omega)⟩
  case geq => exact ⟨_, rfl, by
    have := (ilt_eq a b _).symm.trans h
    rw [fB_eq] at this
    rw [← this]; congr 2
    rw [← decide_not]
    exact decide_eq_decide.2 (by omega)⟩
  all_goals exact kbinS_ok h
noncomputable def streq (s t : ByteArray) : Bool := eqBytes s.data.toList t.data.toList
theorem streq_eq (s t : ByteArray) : streq s t = (s.toList == t.toList) := by
  rw [ByteArray.toList_eq, ByteArray.toList_eq]
  unfold streq
  generalize s.data.toList = l
  generalize t.data.toList = m
  cases h : eqBytes l m with
  | true => rw [eqBytes_ok h]; simp
  | false =>
    symm
    rw [beq_eq_false_iff_ne]
    rintro rfl
    rw [eqBytes_self] at h
    cases h
noncomputable def kbin (op : BinOp) (a b : Value) (k : Value → Bool) : Bool := @Value.rec (fun _ => Bool) (fun _ => Unit) (fun _ => Unit) (fun _ => false) (fun i m => @Bool.rec (fun _ => Bool) (kbinS op a b k) (asInt b fun j n => @Bool.rec (fun _ => Bool) (kbinS op a b k) (kbin64 op m n k) (is64 j)) (is64 i)) (fun _ _ => false) (fun _ _ _ => false) (fun s => @BinOp.rec (fun _ => Bool) (kbinS .add a b k) false false false false false false false false false false (asStr b fun t => fB (streq s t) fun r => k (.bool r)) (asStr b fun t => fB (not (streq s t)) fun r => k (.bool r)) (kbinS .lss a b k) (kbinS .leq a b k) (kbinS .gtr a b k) (kbinS .geq a b k) op) (fun a => false) (fun a n c => false) (fun _ => false) (fun _ => false) (fun _ _ _ _ _ => false) false (fun _ _ _ => false) false (fun _ _ => false) (fun _ _ => false) (fun _ _ => ()) () (fun _ _ _ _ => ()) a
theorem is64_ok {i : IntKind} (h : is64 i = true) : i = .i64 := by cases i <;> first | rfl | cases h
theorem kbin_ok {op : BinOp} {a b : Value} {k : Value → Bool} (h : kbin op a b k = true) : ∃ v, xbin op a b = some v ∧ k v = true := by
  cases a with
  | int i m =>
    have h : @Bool.rec (fun _ => Bool) (kbinS op (.int i m) b k) (asInt b fun j n => @Bool.rec (fun _ => Bool) (kbinS op (.int i m) b k) (kbin64 op m n k) (is64 j)) (is64 i) = true := h
    cases hi : is64 i with
    | false => rw [hi] at h; exact kbinS_ok h
    | true =>
      rw [hi] at h
      obtain ⟨j, n, rfl, h⟩ := asInt_ok h
      cases hj : is64 j with
      | false => rw [hj] at h; exact kbinS_ok h
      | true =>
        rw [hj] at h
        rw [is64_ok hi, is64_ok hj]
        exact kbin64_ok h
  | string s =>
    cases op
    case eql =>
      obtain ⟨t, rfl, h'⟩ := asStr_ok h
      rw [fB_eq, streq_eq] at h'
      exact ⟨_, rfl, h'⟩
    case neq =>
      obtain ⟨t, rfl, h'⟩ := asStr_ok h
      rw [fB_eq, streq_eq] at h'
      exact ⟨_, rfl, h'⟩
    all_goals first | exact kbinS_ok h | cases h
  | _ => cases h
end Go.Proofs.YtofjnhdgkhfgnaaDoor
