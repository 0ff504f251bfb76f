import Derived.Test.YtbblenohgednjaaX5b
/- A part of the walking machine: shown once for every program of the model; no condition of its own. -/
/- The operations of a region. -/
namespace Go.X

structure Env where
  P : Program
  stTy : TypeId
  F : FuncId → Option (List V → Nat → Nat → Rd)
  /-- Whose model hangs on the number that is left open. -/
  C : FuncId → Bool
  /-- Models that have more than one answer. -/
  B : FuncId → Option (List V → Nat → Hp → T (Res × List Nat))

def applyWrs (hp : Hp) : List (Nat × Option Blk) → Hp
  | [] => hp
  | (i, b) :: r => applyWrs (upd hp i b) r

def applyNews (hp : Hp) : Nat → List Blk → Hp
  | _, [] => hp
  | i, b :: r => applyNews (upd hp i (some b)) (i + 1) r

def applyRes (hp : Hp) (fid : Nat) (r : Res) : Hp := applyNews (applyWrs hp r.wrs) fid r.news

/-! ### Noughts -/
def SC.noId : SC → Bool
  | .ptr _ | .ptrIf _ _ | .slc _ _ _ _ => false
  | _ => true
def Seg.noId : Seg → Bool
  | .one v => v.noId
  | .recs _ _ _ => false
  | _ => true
def segsNoId : List Seg → Bool
  | [] => true
  | g :: r => g.noId && segsNoId r

theorem SC.noId_inA {v : SC} (h : v.noId = true) (A : Nat → Prop) : v.inA A := by cases v <;> simp [SC.noId] at h <;> trivial
theorem segsNoId_inA : ∀ {l : List Seg}, segsNoId l = true → ∀ A, segsInA A l
  | [], _, A => fun g hg => by simp at hg
  | g :: r, h, A => by
    simp only [segsNoId, Bool.and_eq_true] at h
    intro x hx
    rcases List.mem_cons.1 hx with rfl | hx
    · cases x <;> simp [Seg.noId] at h <;> first | trivial | exact SC.noId_inA h.1 A
    · exact segsNoId_inA h.2 A x hx

def zeroFieldsW (g : TypeId → Option (List Seg)) : List Field → Option (List Seg)
  | [] => some []
  | f :: r => match g f.type, zeroFieldsW g r with
    | some a, some b => some (a ++ b)
    | _, _ => none

def zeroSegs (P : Program) (stTy : TypeId) : Nat → TypeId → Option (List Seg)
  | 0, _ => none
  | d + 1, t =>
    if t = stTy then some [.st St.zero] else
    match P.underlying t with
    | some (.int k) => some [.one (ofNum k true 0)]
    | some .bool => some [.one (.bool true false)]
    | some .string => some [.one (.str true .empty)]
    | some (.pointer _) => some [.one .nil]
    | some (.slice _) => some [.one .slcNil]
    | some (.struct fs) => zeroFieldsW (zeroSegs P stTy d) fs.toList
    | some (.array n e) => match P.underlying e with
      | some (.int .u64) => some [.u64s true n fun _ => 0]
      | some (.int .u8) => some [.u8s true n fun _ => 0]
      | some (.int k) => some [.ints k true n fun _ => 0]
      | some .bool => some [.bools true n fun _ => false]
      | _ => (zeroSegs P stTy d e).map fun l => (List.replicate n l).flatten
    | _ => none

def vEq : Value → Value → Bool
  | .int k a, .int k' b => decide (k = k') && decide (a = b)
  | .bool a, .bool b => a == b
  | .string a, .string b => a.size == 0 && b.size == 0
  | .pointer none, .pointer none => true
  | .slice none 0 0, .slice none 0 0 => true
  | _, _ => false

theorem vEq_spec {x y : Value} (h : vEq x y = true) : x = y := by
  unfold vEq at h
  split at h
  · simp at h; obtain ⟨rfl, rfl⟩ := h; rfl
  · simp at h; rw [h]
  · rename_i a b
    congr 1
    obtain ⟨⟨a⟩⟩ := a
    obtain ⟨⟨b⟩⟩ := b
    simp [ByteArray.size] at h
    simp [h.1, h.2]
  · rfl
  · rfl
  · cases h

def vEqL : List Value → List Value → Bool
  | [], [] => true
  | x :: r, y :: s => vEq x y && vEqL r s
  | _, _ => false

theorem vEqL_spec : ∀ {x y : List Value}, vEqL x y = true → x = y
  | [], [], _ => rfl
  | x :: r, y :: s, h => by
    simp only [vEqL, Bool.and_eq_true] at h
    rw [vEq_spec h.1, vEqL_spec h.2]
  | [], _ :: _, h => by simp [vEqL] at h
  | _ :: _, [], h => by simp [vEqL] at h

def zeroV (E : Env) (t : TypeId) : Option (List Seg) :=
  match zeroSegs E.P E.stTy 6 t, (E.P.info? t).bind (·.zero) with
  | some g, some z => if segsNoId g && vEqL (cellsOf (fun _ => default) g) z.cells.toList then some g else none
  | _, _ => none

theorem zeroV_spec {E : Env} {t : TypeId} {g : List Seg} (h : zeroV E t = some g) (ρ : Nat → Addr) (w : World) :
    ∃ z, (zeroValue t).run E.P w = .ok z w ∧ z.cells = (cellsOf ρ g).toArray ∧ ∀ A, segsInA A g := by
  unfold zeroV at h
  split at h
  · rename_i g' z h1 h2
    split at h
    · rename_i hc
      simp only [Bool.and_eq_true] at hc
      simp at h; subst h
      obtain ⟨i, hi, hz⟩ := Option.bind_eq_some_iff.1 h2
      refine ⟨z, by simp [zeroValue, run_info hi, hz], ?_, segsNoId_inA hc.1⟩
      have e1 := vEqL_spec hc.2
      have e2 : cellsOf ρ g' = cellsOf (fun _ => default) g' := cellsOf_congr (A := fun _ => False) (fun _ h => h.elim) (segsNoId_inA hc.1 _)
      rw [e2, e1]
    · cases h
  · cases h

/-! ### Values -/
def V.segs : V → Option (List Seg)
  | .sc v => some [.one v]
  | .agg g => some g
  | .fn _ _ _ => none

theorem V.segs_spec {v : V} {g : List Seg} (h : v.segs = some g) (ρ : Nat → Addr) : (v.enc ρ).cells = (cellsOf ρ g).toArray ∧ ∀ A, v.inA A → segsInA A g := by
  cases v with
  | sc v => simp [V.segs] at h; subst h; exact ⟨by rw [V.enc, V.cells_sc]; rfl, fun A hA x hx => by simp at hx; subst hx; exact hA⟩
  | agg l => simp [V.segs] at h; subst h; exact ⟨rfl, fun A hA => hA⟩
  | fn _ _ _ => simp [V.segs] at h

def V.ofValue : Value → SV
  | .int .u64 n => if 0 ≤ n ∧ n < 18446744073709551616 then .ev (.sc (.u64 true (BitVec.ofNat 64 n.toNat))) else .any
  | .int .u32 n => if 0 ≤ n ∧ n < 4294967296 then .ev (.sc (.u32 true (BitVec.ofNat 32 n.toNat))) else .any
  | .int .u8 n => if 0 ≤ n ∧ n < 256 then .ev (.sc (.u8 true (BitVec.ofNat 8 n.toNat))) else .any
  | .int k n => .ev (.sc (.int k true n))
  | .bool b => .ev (.sc (.bool true b))
  | .string s => .ev (.sc (.str true s))
  | .pointer none => .ev (.sc .nil)
  | .slice none 0 0 => .ev (.sc .slcNil)
  | _ => .any

theorem V.ofValue_spec (v : Value) (ρ : Nat → Addr) (A : Nat → Prop) : R ρ A (V.ofValue v) v := by
  unfold V.ofValue
  split
  · split
    · rename_i n h; refine ⟨trivial, ?_⟩; simp only [V.enc, SC.enc]; congr 1; simp; omega
    · trivial
  · split
    · rename_i n h; refine ⟨trivial, ?_⟩; simp only [V.enc, SC.enc]; congr 1; simp; omega
    · trivial
  · split
    · rename_i n h; refine ⟨trivial, ?_⟩; simp only [V.enc, SC.enc]; congr 1; simp; omega
    · trivial
  all_goals first | exact ⟨trivial, rfl⟩ | trivial

def ovOf (tm : Nat → SV) : Operand → SV
  | .tmp t => tm t
  | .const v => V.ofValue v
  | .func f => .ev (.fn (.func f) [] [])
  | .global _ => .any

def asV : SV → Option V
  | .ev v => some v
  | _ => none
def asSC : SV → Option SC
  | .ev (.sc v) => some v
  | _ => none
def asXA : SV → Option (List Prop × XA)
  | .ev (.sc (.ptr a)) => some ([], a)
  | .ev (.sc (.ptrIf b a)) => some ([b = true], a)
  | _ => none

theorem asV_spec {x : SV} {v : V} (h : asV x = some v) : x = .ev v := by cases x <;> simp [asV] at h; rw [h]
theorem asSC_spec {x : SV} {v : SC} (h : asSC x = some v) : x = .ev (.sc v) := by
  unfold asSC at h; split at h <;> simp at h; rw [h]
theorem asXA_spec {x : SV} {ns : List Prop} {a : XA} (h : asXA x = some (ns, a)) {ρ : Nat → Addr} {A : Nat → Prop} {u : Value} (hr : R ρ A x u) (hn : ∀ p ∈ ns, p) : u = .pointer (some (a.enc ρ)) ∧ A a.id := by
  unfold asXA at h
  split at h <;> simp at h
  · obtain ⟨rfl, rfl⟩ := h
    exact ⟨hr.2, hr.1⟩
  · obtain ⟨rfl, rfl⟩ := h
    rename_i b _
    have hb : b = true := hn (b = true) (by simp)
    refine ⟨?_, hr.1⟩
    rw [hr.2]; simp [V.enc, SC.enc, hb]

def optRd : Option Rd → Rd
  | some x => x
  | none => .fail

def retV (v : V) : Rd := .ret ⟨[], [], .ev v, [], []⟩
def retVN (ns : List Prop) (v : V) : Rd := .ret ⟨[], ns, .ev v, [], []⟩

def newx (fid : Nat) (g : List Seg) (t : TypeId) : Rd := .ret ⟨[], [], .ev (.sc (.ptr ⟨fid, 0, none⟩)), [], [⟨g, 0, t, true⟩]⟩

/-- A slot that must have been filled. -/
def ungrd (x : SV) : Rd := match x with
  | .grd g v => retVN [g = true] v
  | x => .ret ⟨[], [], x, [], []⟩

/-- What a choice comes to. -/
def pickx (c x y : SV) : Rd :=
  match asSC c with
  | some (.bool true b) => if b then ungrd x else ungrd y
  | some (.bool false b) =>
    match x, y with
    | .ev (.sc (.bool _ p)), .ev (.sc (.bool _ q)) => retV (.sc (.bool false (bif b then p else q)))
    | .ev (.sc (.bool _ p)), .grd g (.sc (.bool _ q)) => retVN [b = false → g = true] (.sc (.bool false (bif b then p else q)))
    | .grd g (.sc (.bool _ p)), .ev (.sc (.bool _ q)) => retVN [b = true → g = true] (.sc (.bool false (bif b then p else q)))
    | _, _ => .fail
  | _ => .fail

def nilx (x : SV) : Rd :=
  match asXA x with
  | some (ns, a) => .ret ⟨[], ns, .ev (.sc (.ptr a)), [], []⟩
  | none => match x with
    | .ev (.fn f _ _) => match f with
      | .func _ => .ret ⟨[], [], x, [], []⟩
      | _ => .fail
    | _ => .fail

def loadx (E : Env) (t : TypeId) (x : SV) : Rd :=
  match asXA x, E.P.underlying t with
  | some (ns, a), some _ => .get a.id fun b => match loadV E.P t a b with
    | some (ms, v) => retVN (ns ++ ms) (match v with | .agg g => .agg (fuse g) | v => v)
    | none => .fail
  | _, _ => .fail

def storex (E : Env) (t : TypeId) (x y : SV) : Rd :=
  match asXA x, asV y, E.P.underlying t with
  | some (ns, a), some v, some _ => match v.segs with
    | some g => if segsLen g = E.P.cellsOf t then .get a.id fun b => match storeB a v b with
      | some (ms, b') => .ret ⟨[], ns ++ ms, .any, [(a.id, some b')], []⟩
      | none => .fail
      else .fail
    | none => .fail
  | _, _, _ => .fail

def fieldAddrx (E : Env) (t : TypeId) (x : SV) (f : Nat) : Rd :=
  match asXA x, E.P.underlying t with
  | some (ns, a), some (.struct fs) => match fs[f]? with
    | some fd => match E.P.underlying fd.type with
      | some _ => if E.P.cellsOf fd.type = 0 then .fail else
        retVN ns (.sc (.ptr (match a.dyn with
          | none => { a with off := a.off + fd.offset }
          | some d => { a with dyn := some { d with sub := d.sub + fd.offset } })))
      | none => .fail
    | none => .fail
  | _, _ => .fail

/-- Element 'i' of what begins at 'a'. -/
def elemXA (a : XA) (s : Bool) (i sz n : Nat) : Option XA :=
  match a.dyn with
  | none => if s then some { a with off := a.off + i * sz } else some { a with dyn := some ⟨i, sz, 0, n⟩ }
  | some d => if s then some { a with dyn := some { d with sub := d.sub + i * sz } }
    else if d.sz = sz ∧ d.sub = 0 then some { a with dyn := some ⟨d.i + i, sz, 0, 0⟩ } else none

theorem elemXA_spec {a b : XA} {s : Bool} {i sz n : Nat} (h : elemXA a s i sz n = some b) (ρ : Nat → Addr) : b.enc ρ = (a.enc ρ).add (i * sz) ∧ b.id = a.id := by
  unfold elemXA at h
  split at h
  · rename_i hd
    split at h
    · simp at h; subst h; simp [XA.enc, XA.o, hd, Addr.add_add]
    · simp at h; subst h; simp [XA.enc, XA.o, hd, Addr.add_add]
  · rename_i d hd
    split at h
    · simp at h; subst h; simp [XA.enc, XA.o, hd, Addr.add_add]; congr 1; omega
    · split at h
      · rename_i e
        obtain ⟨e1, e2⟩ := e
        simp at h; subst h
        simp only [XA.enc, XA.o, hd, Addr.add_add, and_true]
        congr 1
        rw [e1, e2, Nat.add_mul]; omega
      · cases h

def indexAddrx (E : Env) (t : TypeId) (x ix : SV) : Rd :=
  match asSC ix with
  | none => .fail
  | some i => match i.num with
    | none => .fail
    | some (_, n, s) =>
      match E.P.underlying t with
      | some (.array len e) => match asXA x, E.P.underlying e with
        | some (ns, a), some _ =>
          if s && !decide (0 ≤ n ∧ n < len) then .fail else
          match elemXA a s n.toNat (E.P.cellsOf e) len with
          | some b => retVN (ns ++ if s then [] else [0 ≤ n ∧ n < len]) (.sc (.ptr b))
          | none => .fail
        | _, _ => .fail
      | some (.slice e) => match x, E.P.underlying e with
        | .ev (.sc (.slc a sl len _)), some _ =>
          if s && sl then (if 0 ≤ n ∧ n < len then match elemXA a true n.toNat (E.P.cellsOf e) len with
            | some b => retV (.sc (.ptr b))
            | none => .fail else .fail)
          else match elemXA a false n.toNat (E.P.cellsOf e) len with
          | some b => retVN [0 ≤ n ∧ n < len] (.sc (.ptr b))
          | none => .fail
        | _, _ => .fail
      | _ => .fail

/-- A part of a row. -/
def partx (E : Env) (t : TypeId) (g : List Seg) (off : Nat) : Option V :=
  if isAggT E.P t then match split g off with
    | some (_, r) => match split r (E.P.cellsOf t) with
      | some (y, _) => some (.agg (fuse y))
      | none => none
    | none => none
  else (rd g off).map .sc

def fieldx (E : Env) (t : TypeId) (x : SV) (f : Nat) : Rd :=
  match x, E.P.underlying t with
  | .ev (.agg g), some (.struct fs) => match fs[f]? with
    | some fd => match E.P.underlying fd.type with
      | some _ => optRd ((partx E fd.type g fd.offset).map retV)
      | none => .fail
    | none => .fail
  | _, _ => .fail

def byteAt (x : ByteArray) (i : Nat) : BitVec 8 := ((x.data.toList[i]?).getD 0).toBitVec

def indexx (E : Env) (t : TypeId) (x ix : SV) : Rd :=
  match asSC ix with
  | none => .fail
  | some i => match i.num with
    | none => .fail
    | some (_, n, s) =>
      match E.P.underlying t, x with
      | some (.array len e), .ev (.agg g) => match E.P.underlying e with
        | some _ =>
          if s then (if 0 ≤ n ∧ n < len then optRd ((partx E e g (n.toNat * E.P.cellsOf e)).map retV) else .fail)
          else if isAggT E.P e then match dynCells g 0 ⟨n.toNat, E.P.cellsOf e, 0, len⟩ (E.P.cellsOf e) with
            | some (ps, l) => retVN ((0 ≤ n ∧ n < len) :: ps) (.agg (l.map .one))
            | none => .fail
          else match dynCell g 0 ⟨n.toNat, E.P.cellsOf e, 0, len⟩ with
            | some (p, v) => retVN [0 ≤ n ∧ n < len, p] (.sc v)
            | none => .fail
        | none => .fail
      | some .string, .ev (.sc (.str st b)) => retVN [0 ≤ n ∧ n < b.data.toList.length] (.sc (.u8 (s && st) (byteAt b n.toNat)))
      | _, _ => .fail

def extractx (x : SV) (i : Nat) : Rd :=
  match x with
  | .tup l => match l[i]? with
    | some v => retV v
    | none => .fail
  | _ => .fail

def bytesOf (n : Nat) (f : Nat → BitVec 8) : ByteArray := ⟨((List.range n).map fun i => UInt8.ofBitVec (f i)).toArray⟩

/-- The bytes of a slice. -/
def bytesAt (segs : List Seg) (a : XA) (len : Nat) : Option (List Prop × (Nat → BitVec 8)) :=
  match segs, a.dyn with
  | [.u8s _ m f], none => if a.off = 0 then some ([len ≤ m], f) else some ([a.off + len ≤ m], fun i => f (a.off + i))
  | [.u8s _ m f], some d => if a.off = 0 ∧ d.sz = 1 ∧ d.sub = 0 then some ([d.i + len ≤ m], fun i => f (d.i + i)) else none
  | _, _ => none

def convertx (E : Env) (src dst : TypeId) (x : SV) : Rd :=
  match E.P.underlying src, E.P.underlying dst with
  | some _, some (.int k) => match asSC x with
    | some v => optRd ((v.conv k).map fun z => retV (.sc z))
    | none => .fail
  | some (.slice e), some .string => match E.P.underlying e, x with
    | some (.int .u8), .ev (.sc .slcNil) => retV (.sc (.str true .empty))
    | some (.int .u8), .ev (.sc (.slc a _ len _)) => .get a.id fun b => match bytesAt b.segs a len with
      | some (ns, f) => retVN ns (.sc (.str false (bytesOf len f)))
      | none => .fail
    | _, _ => .fail
  | some .string, some .string => match asSC x with
    | some (.str s b) => retV (.sc (.str s b))
    | _ => .fail
  | _, _ => .fail

def unx (op : UnOp) (x : SV) : Rd :=
  match op, asSC x with
  | .not, some (.bool s b) => retV (.sc (.bool s (!b)))
  | .neg, some (.u64 s b) => retV (.sc (.u64 s (0 - b)))
  | .neg, some (.int .i64 s b) => retV (.sc (.int .i64 s (IntKind.i64.wrap (0 - b))))
  | .xor, some (.u64 s b) => retV (.sc (.u64 s (~~~b)))
  | _, _ => .fail

def nilEq (x y : SC) : Option Bool :=
  match x, y with
  | .nil, .nil => some true
  | .ptr _, .nil => some false
  | .nil, .ptr _ => some false
  | .ptrIf b _, .nil => some (!b)
  | .nil, .ptrIf b _ => some (!b)
  | _, _ => none

/-- Whether this is known without looking. -/
def SC.stat : SC → Bool
  | .u64 s _ | .u32 s _ | .u8 s _ | .int _ s _ | .bool s _ | .str s _ => s
  | .ptrIf _ _ => false
  | .slc _ s _ _ => s
  | _ => true
def Seg.stat : Seg → Bool
  | .one v => v.stat
  | .u64s s _ _ | .u8s s _ _ | .ints _ s _ _ | .bools s _ _ => s
  | _ => false
def segsStat : List Seg → Bool
  | [] => true
  | g :: r => g.stat && segsStat r

def strOp (op : BinOp) (x y : ByteArray) (s : Bool) : Option (List Prop × SC) :=
  match op with
  | .eql => some ([], .bool s (x.data.toList == y.data.toList))
  | .neq => some ([], .bool s (!(x.data.toList == y.data.toList)))
  | .add => some ([x.data.toList.length + y.data.toList.length ≤ 9223372036854775807], .str s ⟨(x.data.toList ++ y.data.toList).toArray⟩)
  | _ => none

def binx (E : Env) (op : BinOp) (t : TypeId) (x y : SV) : Rd :=
  match x, y with
  | .ev (.sc a), .ev (.sc b) =>
    match arith op a b with
    | some z => retV (.sc z)
    | none => match compare op a b with
      | some z => retV (.sc z)
      | none => match (match op with | .shl | .shr => shiftBy a b op | .quo | .rem => divide op a b | _ => none) with
        | some (ns, z) => retVN ns (.sc z)
        | none => match a, b with
          | .bool s p, .bool s' q => match op, E.P.underlying t with
            | .eql, some .bool => retV (.sc (.bool (s && s') (p == q)))
            | .neq, some .bool => retV (.sc (.bool (s && s') (!(p == q))))
            | _, _ => .fail
          | .str s p, .str s' q => match strOp op p q (s && s') with
            | some (ns, z) => retVN ns (.sc z)
            | none => .fail
          | a, b => match op, E.P.underlying t, nilEq a b with
            | .eql, some (.pointer _), some r => retV (.sc (.bool (a.stat && b.stat) r))
            | .neq, some (.pointer _), some r => retV (.sc (.bool (a.stat && b.stat) (!r)))
            | _, _, _ => .fail
  | .ev (.agg g), .ev (.agg h) =>
    if isAggT E.P t then match op, aggEq E.P t g h with
      | .eql, some r => retV (.sc (.bool (segsStat g && segsStat h) r))
      | .neq, some r => retV (.sc (.bool (segsStat g && segsStat h) (!r)))
      | _, _ => .fail
    else .fail
  | _, _ => .fail

def mkFnx (fn : Fn) (a b : List SV) : Rd :=
  match mapAll asSC a, mapAll asSC b with
  | some x, some y => retV (.fn fn x y)
  | _, _ => .fail

end Go.X
