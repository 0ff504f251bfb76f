import Derived.Test.YtbblenohgednjaaX2
/- A part of the walking machine: shown once for every program of the model; no condition of its own. -/
/- The operations: what each does to a heap of small numbers; which numbers it looks at. -/
namespace Go.X

structure Res where
  asm : List Prop
  need : List Prop
  val : SV
  wrs : List (Nat × Option Blk)
  news : List Blk

inductive Rd where
  | ret (r : Res)
  | fail
  | get (id : Nat) (k : Blk → Rd)

def Rd.run (hp : Hp) : Rd → Option (Res × List Nat)
  | .ret r => some (r, [])
  | .fail => none
  | .get id k => match hp id with
    | some b => ((k b).run hp).map fun (r, l) => (r, id :: l)
    | none => none

/-- What was not looked at does not matter. -/
theorem Rd.run_congr {hp hp' : Hp} : ∀ {x : Rd} {r : Res} {l : List Nat}, x.run hp = some (r, l) → (∀ i ∈ l, hp' i = hp i) → x.run hp' = some (r, l)
  | .ret r, _, _, h, _ => h
  | .fail, _, _, h, _ => by cases h
  | .get id k, r, l, h, hl => by
    simp only [Rd.run] at h ⊢
    cases hb : hp id with
    | none => simp [hb] at h
    | some b =>
      simp only [hb] at h
      cases hk : (k b).run hp with
      | none => simp [hk] at h
      | some p =>
        obtain ⟨r', l'⟩ := p
        simp [hk] at h
        obtain ⟨rfl, rfl⟩ := h
        rw [hl id (by simp), hb]
        simp only
        rw [Rd.run_congr hk (fun i hi => hl i (by simp [hi]))]
        rfl

def val1 (v : V) : Rd := .ret ⟨[], [], .ev v, [], []⟩
def valN (ns : List Prop) (v : V) : Rd := .ret ⟨[], ns, .ev v, [], []⟩

/-! ### Numbers -/
/-- A number as the model has it: its kind, its value, whether it is written out. -/
def SC.num : SC → Option (IntKind × Int × Bool)
  | .u64 s x => some (.u64, x.toNat, s)
  | .u32 s x => some (.u32, x.toNat, s)
  | .u8 s x => some (.u8, x.toNat, s)
  | .int k s n => some (k, n, s)
  | _ => none

theorem SC.num_enc {ρ : Nat → Addr} {v : SC} {k : IntKind} {n : Int} {s : Bool} (h : v.num = some (k, n, s)) : v.enc ρ = .int k n := by
  cases v <;> simp [SC.num] at h <;> obtain ⟨rfl, rfl, rfl⟩ := h <;> rfl

/-- A number of a kind, from one that is known to be of it. -/
def ofNum (k : IntKind) (s : Bool) (n : Int) : SC :=
  match k with
  | .u64 => .u64 s (BitVec.ofInt 64 n)
  | .u32 => .u32 s (BitVec.ofInt 32 n)
  | .u8 => .u8 s (BitVec.ofInt 8 n)
  | k => .int k s n

theorem ofNum_enc {ρ : Nat → Addr} (k : IntKind) (s : Bool) (n : Int) (h : k.wrap n = n) : (ofNum k s n).enc ρ = .int k n := by
  cases k <;> simp only [ofNum, SC.enc] <;> congr 1 <;> simp [IntKind.wrap, IntKind.bits, IntKind.signed] at h <;> simp [BitVec.toNat_ofInt] <;> omega

def arith (op : BinOp) (x y : SC) : Option SC :=
  match op, x, y with
  | .add, .u64 s a, .u64 t b => some (.u64 (s && t) (a + b))
  | .sub, .u64 s a, .u64 t b => some (.u64 (s && t) (a - b))
  | .mul, .u64 s a, .u64 t b => some (.u64 (s && t) (a * b))
  | .and, .u64 s a, .u64 t b => some (.u64 (s && t) (a &&& b))
  | .or, .u64 s a, .u64 t b => some (.u64 (s && t) (a ||| b))
  | .xor, .u64 s a, .u64 t b => some (.u64 (s && t) (a ^^^ b))
  | .andNot, .u64 s a, .u64 t b => some (.u64 (s && t) (a &&& ~~~b))
  | .add, .u32 s a, .u32 t b => some (.u32 (s && t) (a + b))
  | .sub, .u32 s a, .u32 t b => some (.u32 (s && t) (a - b))
  | .mul, .u32 s a, .u32 t b => some (.u32 (s && t) (a * b))
  | .and, .u32 s a, .u32 t b => some (.u32 (s && t) (a &&& b))
  | .or, .u32 s a, .u32 t b => some (.u32 (s && t) (a ||| b))
  | .xor, .u32 s a, .u32 t b => some (.u32 (s && t) (a ^^^ b))
  | .andNot, .u32 s a, .u32 t b => some (.u32 (s && t) (a &&& ~~~b))
  | .add, .u8 s a, .u8 t b => some (.u8 (s && t) (a + b))
  | .sub, .u8 s a, .u8 t b => some (.u8 (s && t) (a - b))
  | .mul, .u8 s a, .u8 t b => some (.u8 (s && t) (a * b))
  | .and, .u8 s a, .u8 t b => some (.u8 (s && t) (a &&& b))
  | .or, .u8 s a, .u8 t b => some (.u8 (s && t) (a ||| b))
  | .xor, .u8 s a, .u8 t b => some (.u8 (s && t) (a ^^^ b))
  | .andNot, .u8 s a, .u8 t b => some (.u8 (s && t) (a &&& ~~~b))
  | .add, .int .i64 s a, .int .i64 t b => some (.int .i64 (s && t) (IntKind.i64.wrap (a + b)))
  | .sub, .int .i64 s a, .int .i64 t b => some (.int .i64 (s && t) (IntKind.i64.wrap (a - b)))
  | .mul, .int .i64 s a, .int .i64 t b => some (.int .i64 (s && t) (IntKind.i64.wrap (a * b)))
  | .and, .int .i64 s a, .int .i64 t b => some (.int .i64 (s && t) (BitVec.ofInt 64 a &&& BitVec.ofInt 64 b).toInt)
  | .or, .int .i64 s a, .int .i64 t b => some (.int .i64 (s && t) (BitVec.ofInt 64 a ||| BitVec.ofInt 64 b).toInt)
  | .xor, .int .i64 s a, .int .i64 t b => some (.int .i64 (s && t) (BitVec.ofInt 64 a ^^^ BitVec.ofInt 64 b).toInt)
  | .andNot, .int .i64 s a, .int .i64 t b => some (.int .i64 (s && t) (BitVec.ofInt 64 a &&& ~~~BitVec.ofInt 64 b).toInt)
  | _, _, _ => none

/-- Comparisons. -/
def cmpN (op : BinOp) (a b : Nat) : Option Bool :=
  match op with
  | .eql => some (decide (a = b)) | .neq => some (!decide (a = b)) | .lss => some (decide (a < b)) | .leq => some (decide (a ≤ b)) | .gtr => some (decide (b < a)) | .geq => some (decide (b ≤ a))
  | _ => none

def cmpB {w : Nat} (op : BinOp) (a b : BitVec w) : Option Bool :=
  match op with
  | .eql => some (a == b) | .neq => some (!(a == b)) | .lss => some (BitVec.ult a b) | .leq => some (BitVec.ule a b) | .gtr => some (BitVec.ult b a) | .geq => some (BitVec.ule b a)
  | _ => none

def cmpI (op : BinOp) (a b : Int) : Option Bool :=
  match op with
  | .eql => some (decide (a = b)) | .neq => some (!decide (a = b)) | .lss => some (decide (a < b)) | .leq => some (decide (a ≤ b)) | .gtr => some (decide (b < a)) | .geq => some (decide (b ≤ a))
  | _ => none

def compare (op : BinOp) (x y : SC) : Option SC :=
  match x, y with
  | .u64 s a, .u64 t b => (cmpB op a b).map (.bool (s && t))
  | .u32 s a, .u32 t b => (cmpB op a b).map (.bool (s && t))
  | .u8 s a, .u8 t b => (cmpB op a b).map (.bool (s && t))
  | .int k s a, .int k' t b => if k = k' then (cmpI op a b).map (.bool (s && t)) else none
  | _, _ => none

/-- The count of a shift, where it is not below nought. -/
def shCount : SC → Option (List Prop × Nat × Bool)
  | .u64 t b => some ([], b.toNat, t)
  | .u32 t b => some ([], b.toNat, t)
  | .u8 t b => some ([], b.toNat, t)
  | .int _ t n => if t then (if 0 ≤ n then some ([], n.toNat, t) else none) else some ([0 ≤ n], n.toNat, t)
  | _ => none

def shiftBy (x y : SC) (op : BinOp) : Option (List Prop × SC) :=
  match shCount y with
  | none => none
  | some (ns, n, t) =>
    match op, x with
    | .shl, .u64 s a => some (ns, .u64 (s && t) (a <<< min n 64))
    | .shr, .u64 s a => some (ns, .u64 (s && t) (a >>> min n 64))
    | .shl, .u32 s a => some (ns, .u32 (s && t) (a <<< min n 32))
    | .shr, .u32 s a => some (ns, .u32 (s && t) (a >>> min n 32))
    | .shl, .u8 s a => some (ns, .u8 (s && t) (a <<< min n 8))
    | .shr, .u8 s a => some (ns, .u8 (s && t) (a >>> min n 8))
    | .shl, .int .i64 s a => some (ns, .int .i64 (s && t) (IntKind.i64.wrap (a * 2 ^ min n 64)))
    | .shr, .int .i64 s a => some (ns, .int .i64 (s && t) (a.fdiv (2 ^ min n 64)))
    | _, _ => none

/-- Division. -/
def divide (op : BinOp) (x y : SC) : Option (List Prop × SC) :=
  match op, x, y with
  | .quo, .u64 s a, .u64 t b => if t && decide (b = 0) then none else some (if t then [] else [b ≠ 0], .u64 (s && t) (a / b))
  | .rem, .u64 s a, .u64 t b => if t && decide (b = 0) then none else some (if t then [] else [b ≠ 0], .u64 (s && t) (a % b))
  | .quo, .int .i64 s a, .int .i64 t b => if t && decide (b = 0) then none else some (if t then [] else [b ≠ 0], .int .i64 (s && t) (IntKind.i64.wrap (a.tdiv b)))
  | .rem, .int .i64 s a, .int .i64 t b => if t && decide (b = 0) then none else some (if t then [] else [b ≠ 0], .int .i64 (s && t) (a.tmod b))
  | .rem, .u8 s a, .u8 t b => if t && decide (b = 0) then none else some (if t then [] else [b ≠ 0], .u8 (s && t) (a % b))
  | .rem, .u32 s a, .u32 t b => if t && decide (b = 0) then none else some (if t then [] else [b ≠ 0], .u32 (s && t) (a % b))
  | _, _, _ => none

def SC.conv (k : IntKind) (x : SC) : Option SC :=
  match k, x with
  | .u64, .u64 s a => some (.u64 s a)
  | .u64, .u32 s a => some (.u64 s (a.setWidth 64))
  | .u64, .u8 s a => some (.u64 s (a.setWidth 64))
  | .u64, .int _ s n => some (.u64 s (BitVec.ofInt 64 n))
  | .u32, .u64 s a => some (.u32 s (a.setWidth 32))
  | .u32, .u32 s a => some (.u32 s a)
  | .u32, .int _ s n => some (.u32 s (BitVec.ofInt 32 n))
  | .u8, .u64 s a => some (.u8 s (a.setWidth 8))
  | .u8, .u8 s a => some (.u8 s a)
  | .u8, .int _ s n => some (.u8 s (BitVec.ofInt 8 n))
  | .i64, .u64 s a => some (.int .i64 s a.toInt)
  | .i64, .u32 s a => some (.int .i64 s a.toNat)
  | .i64, .u8 s a => some (.int .i64 s a.toNat)
  | .i64, .int _ s n => some (.int .i64 s (IntKind.i64.wrap n))
  | _, _ => none

section
variable {P : Program} {w : World} {ρ : Nat → Addr}

theorem wrap_u64 (n : Int) : IntKind.u64.wrap n = n % 18446744073709551616 := by simp [IntKind.wrap, IntKind.bits, IntKind.signed]
theorem wrap_u32 (n : Int) : IntKind.u32.wrap n = n % 4294967296 := by simp [IntKind.wrap, IntKind.bits, IntKind.signed]
theorem wrap_u8 (n : Int) : IntKind.u8.wrap n = n % 256 := by simp [IntKind.wrap, IntKind.bits, IntKind.signed]
theorem wrap_i64 (n : Int) : IntKind.i64.wrap n = (n + 9223372036854775808) % 18446744073709551616 - 9223372036854775808 := by
  simp [IntKind.wrap, IntKind.bits, IntKind.signed]; split <;> omega

theorem wrap_i64_toNat (x : BitVec 64) : IntKind.i64.wrap x.toNat = x.toInt := by
  rw [wrap_i64, BitVec.toInt_eq_toNat_cond]; have := x.isLt; split <;> omega

theorem ofInt_toNat {w : Nat} (x : BitVec w) : BitVec.ofInt w (x.toNat : Int) = x := by simp
theorem wrap_u64_toNat (x : BitVec 64) : IntKind.u64.wrap (x.toNat : Int) = x.toNat := by rw [wrap_u64]; have := x.isLt; omega
theorem wrap_u32_toNat (x : BitVec 32) : IntKind.u32.wrap (x.toNat : Int) = x.toNat := by rw [wrap_u32]; have := x.isLt; omega
theorem wrap_u8_toNat (x : BitVec 8) : IntKind.u8.wrap (x.toNat : Int) = x.toNat := by rw [wrap_u8]; have := x.isLt; omega

theorem sub_toNat_int {w : Nat} (a b : BitVec w) : ((a - b).toNat : Int) = ((a.toNat : Int) - b.toNat) % (2 ^ w : Nat) := by
  have h : (a - b).toNat = ((2 ^ w - b.toNat) + a.toNat) % 2 ^ w := by simp [BitVec.toNat_sub]
  rw [h]
  have hb := b.isLt
  have e : (((2 ^ w - b.toNat) + a.toNat : Nat) : Int) = ((a.toNat : Int) - b.toNat) + (2 ^ w : Nat) := by omega
  rw [Int.natCast_emod, e, Int.add_emod_right]

theorem arith_spec {op : BinOp} {x y z : SC} (h : arith op x y = some z) (t : TypeId) : (binOp op t (x.enc ρ) (y.enc ρ)).run P w = .ok (z.enc ρ) w := by
  unfold arith at h
  split at h <;> first | (cases h; done) | skip
  all_goals
    simp only [Option.some.injEq] at h
    subst h
    simp only [SC.enc, binOp, ne_eq, not_true, if_false, Op.intArith, Op.intBits, Sem.run_pure, IntKind.bits, ofInt_toNat, wrap_u64_toNat, wrap_u32_toNat, wrap_u8_toNat, wrap_i64_toNat]
  all_goals try rfl
  all_goals
    congr 2
    first
      | (rw [wrap_u64, sub_toNat_int]; rfl)
      | (rw [wrap_u32, sub_toNat_int]; rfl)
      | (rw [wrap_u8, sub_toNat_int]; rfl)
      | (rw [wrap_u64, BitVec.toNat_add]; omega)
      | (rw [wrap_u32, BitVec.toNat_add]; omega)
      | (rw [wrap_u8, BitVec.toNat_add]; omega)
      | (rw [wrap_u64, BitVec.toNat_mul, Int.natCast_emod, Int.natCast_mul]; rfl)
      | (rw [wrap_u32, BitVec.toNat_mul, Int.natCast_emod, Int.natCast_mul]; rfl)
      | (rw [wrap_u8, BitVec.toNat_mul, Int.natCast_emod, Int.natCast_mul]; rfl)

theorem beq_int (a b : Int) : (a == b) = decide (a = b) := by by_cases h : a = b <;> simp [h]

theorem compare_spec {op : BinOp} {x y z : SC} (h : compare op x y = some z) (t : TypeId) : (binOp op t (x.enc ρ) (y.enc ρ)).run P w = .ok (z.enc ρ) w := by
  unfold compare at h
  split at h <;> first | (cases h; done) | skip
  case h_4 =>
    split at h
    · rename_i e; subst e
      cases op <;> simp [cmpI] at h <;> subst h <;> simp [SC.enc, binOp, Op.intCmp, beq_int, bne]
    · cases h
  all_goals
    cases op <;> simp [cmpB] at h <;> subst h <;> simp [SC.enc, binOp, Op.intCmp, beq_int, bne, BitVec.ult, BitVec.ule] <;>
    (try (rw [Bool.eq_iff_iff]; simp only [decide_eq_true_eq, beq_iff_eq]; exact ⟨fun h => BitVec.eq_of_toNat_eq (by omega), fun h => by rw [h]⟩))

theorem fdiv_pow (a n : Nat) : (a : Int).fdiv (2 ^ n) = ((a >>> n : Nat) : Int) := by
  rw [Int.fdiv_eq_ediv_of_nonneg _ (by exact Int.le_of_lt (Int.pow_pos (by decide))), Nat.shiftRight_eq_div_pow]; simp

theorem shl_wrap {w : Nat} (a : BitVec w) (n : Nat) : ((a <<< n).toNat : Int) = ((a.toNat : Int) * 2 ^ n) % (2 ^ w : Nat) := by
  simp [BitVec.toNat_shiftLeft, Nat.shiftLeft_eq]

theorem shCount_spec {y : SC} {ns : List Prop} {n : Nat} {t : Bool} (h : shCount y = some (ns, n, t)) (hn : ∀ p ∈ ns, p) : ∃ k, y.enc ρ = .int k (n : Int) := by
  cases y <;> simp only [shCount] at h <;> try (cases h; done)
  case int k t n =>
    split at h
    · split at h
      · simp at h
        obtain ⟨rfl, rfl, rfl⟩ := h
        exact ⟨k, by simp only [SC.enc]; congr 1; omega⟩
      · cases h
    · simp at h
      obtain ⟨rfl, rfl, rfl⟩ := h
      have : 0 ≤ n := hn _ (by simp)
      exact ⟨k, by simp only [SC.enc]; congr 1; omega⟩
  all_goals
    simp at h
    obtain ⟨_, rfl, _⟩ := h
    exact ⟨_, rfl⟩

theorem shiftBy_spec {op : BinOp} {x y : SC} {ns : List Prop} {z : SC} (h : shiftBy x y op = some (ns, z)) (hn : ∀ p ∈ ns, p) (t : TypeId) : (binOp op t (x.enc ρ) (y.enc ρ)).run P w = .ok (z.enc ρ) w := by
  unfold shiftBy at h
  cases hy : shCount y with
  | none => simp [hy] at h
  | some q =>
    obtain ⟨ns', n, tt⟩ := q
    simp only [hy] at h
    split at h <;> first | (cases h; done) | skip
    all_goals
      simp only [Option.some.injEq, Prod.mk.injEq] at h
      obtain ⟨rfl, rfl⟩ := h
      obtain ⟨k, e⟩ := shCount_spec (ρ := ρ) hy hn
      rw [e]
      simp only [SC.enc, binOp, Op.shift, Int.not_ofNat_neg, if_false, Int.toNat_natCast, IntKind.bits, Sem.run_pure, fdiv_pow]
    all_goals try rfl
    all_goals try (simp only [BitVec.toNat_ushiftRight]; done)
    all_goals
      congr 2
      first
        | (rw [wrap_u64, shl_wrap]; rfl)
        | (rw [wrap_u32, shl_wrap]; rfl)
        | (rw [wrap_u8, shl_wrap]; rfl)

theorem divide_spec {op : BinOp} {x y : SC} {ns : List Prop} {z : SC} (h : divide op x y = some (ns, z)) (hn : ∀ p ∈ ns, p) (t : TypeId) : (binOp op t (x.enc ρ) (y.enc ρ)).run P w = .ok (z.enc ρ) w := by
  unfold divide at h
  split at h <;> first | (cases h; done) | skip
  all_goals
    rename_i s a tt b
    split at h <;> first | (cases h; done) | skip
    rename_i hc
    simp only [Option.some.injEq, Prod.mk.injEq] at h
    obtain ⟨rfl, rfl⟩ := h
    have hb : b ≠ 0 := by
      by_cases ht : tt = true
      · subst ht; simpa using hc
      · exact hn _ (by simp [ht])
  · have hb' : (b.toNat : Int) ≠ 0 := fun e => hb (BitVec.eq_of_toNat_eq (by simpa using e))
    simp only [SC.enc, binOp, ne_eq, not_true, if_false, Op.intDiv, hb', Sem.run_pure]
    congr 2
    rw [wrap_u64, BitVec.toNat_udiv, ← Int.ofNat_tdiv]
    have h1 := Nat.div_le_self a.toNat b.toNat
    have h2 := a.isLt
    generalize a.toNat / b.toNat = q at *
    omega
  · have hb' : (b.toNat : Int) ≠ 0 := fun e => hb (BitVec.eq_of_toNat_eq (by simpa using e))
    simp only [SC.enc, binOp, ne_eq, not_true, if_false, Op.intDiv, hb', Sem.run_pure]
    congr 2
  · simp only [SC.enc, binOp, ne_eq, not_true, if_false, Op.intDiv, hb, Sem.run_pure]
  · simp only [SC.enc, binOp, ne_eq, not_true, if_false, Op.intDiv, hb, Sem.run_pure]
  · have hb' : (b.toNat : Int) ≠ 0 := fun e => hb (BitVec.eq_of_toNat_eq (by simpa using e))
    simp only [SC.enc, binOp, ne_eq, not_true, if_false, Op.intDiv, hb', Sem.run_pure]
    congr 2
  · have hb' : (b.toNat : Int) ≠ 0 := fun e => hb (BitVec.eq_of_toNat_eq (by simpa using e))
    simp only [SC.enc, binOp, ne_eq, not_true, if_false, Op.intDiv, hb', Sem.run_pure]
    congr 2

theorem conv_spec {k : IntKind} {x z : SC} (h : x.conv k = some z) : ∃ k' n, x.enc ρ = .int k' n ∧ z.enc ρ = .int k (k.wrap n) := by
  unfold SC.conv at h
  split at h <;> first | (cases h; done) | skip
  all_goals
    simp only [Option.some.injEq] at h
    subst h
    refine ⟨_, _, rfl, ?_⟩
    simp only [SC.enc, wrap_i64_toNat, wrap_u64_toNat, wrap_u32_toNat, wrap_u8_toNat]
  all_goals try rfl
  all_goals
    congr 1
    first
      | (rw [wrap_u64, BitVec.toNat_ofInt]; simp; omega)
      | (rw [wrap_u32, BitVec.toNat_ofInt]; simp; omega)
      | (rw [wrap_u8, BitVec.toNat_ofInt]; simp; omega)
      | (rename_i s a; have h1 := a.isLt; rw [wrap_u64, BitVec.toNat_setWidth, Nat.mod_eq_of_lt (by omega)]; omega)
      | (rename_i s a; rw [wrap_u32, BitVec.toNat_setWidth, Int.natCast_emod]; rfl)
      | (rename_i s a; rw [wrap_u8, BitVec.toNat_setWidth, Int.natCast_emod]; rfl)
      | (rename_i s a; have h1 := a.isLt; rw [wrap_i64]; omega)

end
/-! ### Trees -/
inductive T (α : Type) where
  | leaf (a : α)
  | ite (b : Bool) (x y : T α)
  | need (p : Prop) (t : T α)
  | asm (p : Prop) (t : T α)
  | all (f : (Nat → Nat) → T α)
  | fail

def holds {α : Type} : T α → (α → Prop) → Prop
  | .leaf a, Q => Q a
  | .ite b x y, Q => (b = true → holds x Q) ∧ (b = false → holds y Q)
  | .need p t, Q => p ∧ holds t Q
  | .asm p t, Q => p → holds t Q
  | .all f, Q => ∀ c, holds (f c) Q
  | .fail, _ => False

theorem holds_mono {α : Type} {Q Q' : α → Prop} (h : ∀ a, Q a → Q' a) : ∀ {t : T α}, holds t Q → holds t Q'
  | .leaf _, ht => h _ ht
  | .ite _ _ _, ht => ⟨fun hb => holds_mono h (ht.1 hb), fun hb => holds_mono h (ht.2 hb)⟩
  | .need _ _, ht => ⟨ht.1, holds_mono h ht.2⟩
  | .asm _ _, ht => fun hp => holds_mono h (ht hp)
  | .all _, ht => fun c => holds_mono h (ht c)
  | .fail, ht => ht

def T.bind {α β : Type} : T α → (α → T β) → T β
  | .leaf a, f => f a
  | .ite b x y, f => .ite b (x.bind f) (y.bind f)
  | .need p t, f => .need p (t.bind f)
  | .asm p t, f => .asm p (t.bind f)
  | .all g, f => .all fun c => (g c).bind f
  | .fail, _ => .fail

theorem holds_bind {α β : Type} {f : α → T β} {Q : β → Prop} : ∀ {t : T α}, holds (t.bind f) Q ↔ holds t (fun a => holds (f a) Q)
  | .leaf _ => Iff.rfl
  | .ite b x y => by simp only [T.bind, holds, holds_bind]
  | .need p t => by simp only [T.bind, holds, holds_bind]
  | .asm p t => by simp only [T.bind, holds, holds_bind]
  | .all g => by simp only [T.bind, holds, holds_bind]
  | .fail => Iff.rfl

def needs {α : Type} : List Prop → T α → T α
  | [], t => t
  | p :: r, t => .need p (needs r t)
def asms {α : Type} : List Prop → T α → T α
  | [], t => t
  | p :: r, t => .asm p (asms r t)

theorem holds_needs {α : Type} {Q : α → Prop} {t : T α} : ∀ {l : List Prop}, holds (needs l t) Q ↔ (∀ p ∈ l, p) ∧ holds t Q
  | [] => by simp [needs]
  | p :: r => by simp only [needs, holds, holds_needs, List.forall_mem_cons, and_assoc]
theorem holds_asms {α : Type} {Q : α → Prop} {t : T α} : ∀ {l : List Prop}, holds (asms l t) Q ↔ ((∀ p ∈ l, p) → holds t Q)
  | [] => by simp [asms]
  | p :: r => by simp only [asms, holds, holds_asms, List.forall_mem_cons, and_imp]


end Go.X
