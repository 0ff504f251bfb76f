import Derived.Test.YtbblenohgednjaaX7
/- A part of the walking machine: shown once for every program of the model; no condition of its own. -/
/- Operations that make memory, and the builtins. -/
namespace Go.X

/-- A row with a part laid over it. -/
def placeAt (l : List Seg) (off : Nat) (g : List Seg) : Option (List Seg) :=
  match g with
  | [.one v] => wr l off v
  | g => match putRow l off g with
    | some l' => some l'
    | none => match split l off with
      | some (x, r) => match split r (segsLen g) with
        | some (_, z) => some (x ++ (g ++ z))
        | none => none
      | none => none

def putCells (l : List Value) (off : Nat) (v : List Value) : List Value := l.take off ++ (v ++ l.drop (off + v.length))

theorem putCells_spec {x y z v : List Value} {off : Nat} (h1 : x.length = off) (h2 : y.length = v.length) : putCells (x ++ (y ++ z)) off v = x ++ (v ++ z) := by
  subst h1
  unfold putCells
  rw [List.take_left, ← List.drop_drop, List.drop_left, ← h2, List.drop_left]

theorem placeAt_spec {ρ : Nat → Addr} {l l' : List Seg} {off : Nat} {g : List Seg} (h : placeAt l off g = some l') : cellsOf ρ l' = putCells (cellsOf ρ l) off (cellsOf ρ g) ∧ off + segsLen g ≤ segsLen l ∧ ∀ A, segsInA A l → segsInA A g → segsInA A l' := by
  unfold placeAt at h
  split at h
  · rename_i v
    obtain ⟨e1, e2⟩ := wr_spec ρ h
    refine ⟨?_, by simp [segsLen, Seg.len]; omega, fun A hl hg => wr_inA h hl (hg (.one v) (by simp) : (Seg.one v).inA A)⟩
    rw [e1]
    simp only [cellsOf, Seg.cells, List.append_nil, putCells, List.length_singleton]
    rw [List.set_eq_take_append_cons_drop]
    rw [if_pos (by rw [cellsOf_length]; exact e2)]
    rfl
  · split at h
    · rename_i l2 hl2
      simp at h; subst h
      obtain ⟨x, y, z, h1, h2, h3, h4, h5⟩ := putRow_spec (ρ := ρ) hl2
      refine ⟨by rw [h1, h2, putCells_spec h3 h4], ?_, fun A hl _ => h5 A hl⟩
      have := congrArg List.length h1
      rw [cellsOf_length] at this
      simp at this
      rw [cellsOf_length] at h4
      omega
    · split at h
      · rename_i x r hx
        split at h
        · rename_i y z hy
          simp at h; subst h
          have e1 := split_spec ρ hx
          have e2 := split_spec ρ hy
          refine ⟨?_, ?_, fun A hl hg => ?_⟩
          · rw [e1.1, e2.1, cellsOf_append, cellsOf_append, putCells_spec (by rw [cellsOf_length, e1.2]) (by rw [cellsOf_length, cellsOf_length, e2.2])]
          · have := congrArg List.length (e1.1.trans (congrArg (cellsOf ρ x ++ ·) e2.1))
            simp [cellsOf_length] at this
            omega
          · intro t ht
            simp only [List.mem_append] at ht
            rcases ht with ht | ht | ht
            · exact (split_inA hx hl).1 t ht
            · exact hg t ht
            · exact (split_inA hy (split_inA hx hl).2).2 t ht
        · cases h
      · cases h

/-- What 'fill' does with one part. -/
theorem fold_put (cs : List Value) : ∀ (k : Nat) (l : Array Value) (off : Nat), (cs.zipIdx k).foldl (fun (cs : Array Value) (p : Value × Nat) => cs.setIfInBounds (off + p.2) p.1) l = ⟨(cs.zipIdx k).foldl (fun (cs : List Value) (p : Value × Nat) => cs.set (off + p.2) p.1) l.toList⟩ := by
  induction cs with
  | nil => intro k l off; rfl
  | cons c cs ih =>
    intro k l off
    simp only [List.zipIdx_cons, List.foldl_cons]
    rw [ih]
    simp

theorem fold_set (v : List Value) : ∀ (k off : Nat) (x y z : List Value), x.length = off + k → y.length = v.length → (v.zipIdx k).foldl (fun (cs : List Value) (p : Value × Nat) => cs.set (off + p.2) p.1) (x ++ (y ++ z)) = x ++ (v ++ z) := by
  induction v with
  | nil => intro k off x y z _ hy; cases y <;> simp at hy; rfl
  | cons c v ih =>
    intro k off x y z hx hy
    cases y with
    | nil => simp at hy
    | cons d y =>
      simp only [List.zipIdx_cons, List.foldl_cons]
      rw [List.set_append_right _ _ (by omega), hx, Nat.sub_self]
      have := ih (k + 1) off (x ++ [c]) y z (by simp; omega) (by simpa using hy)
      simpa using this

theorem fill_one {cells v : Array Value} {off : Nat} (h : off + v.size ≤ cells.size) : v.zipIdx.foldl (fun cs (p : Value × Nat) => cs.setIfInBounds (off + p.2) p.1) cells = (putCells cells.toList off v.toList).toArray := by
  have e : v.zipIdx.foldl (fun cs (p : Value × Nat) => cs.setIfInBounds (off + p.2) p.1) cells = (v.toList.zipIdx 0).foldl (fun (cs : Array Value) (p : Value × Nat) => cs.setIfInBounds (off + p.2) p.1) cells := by
    rw [← Array.foldl_toList]; simp
  rw [e, fold_put]
  have ec : cells.toList = cells.toList.take off ++ ((cells.toList.drop off).take v.size ++ cells.toList.drop (off + v.size)) := by
    rw [← List.drop_drop, List.take_append_drop, List.take_append_drop]
  rw [ec, fold_set _ 0 off _ _ _ (by simp; omega) (by simp; omega)]
  rw [putCells_spec (by simp; omega) (by simp; omega)]

/-- The parts of a literal, laid over noughts one after the other. -/
def placeAll (ov : Operand → SV) (place : Nat → Option (Nat × Nat)) : List (Nat × Operand) → List Seg → Option (List Seg)
  | [], l => some l
  | (i, x) :: r, l => match place i, asV (ov x) with
    | some (off, size), some v => match v.segs with
      | some g => if segsLen g = size then match placeAt l off g with
        | some l' => placeAll ov place r l'
        | none => none
        else none
      | none => none
    | _, _ => none

theorem placeAll_spec {ρ : Nat → Addr} {A : Nat → Prop} {ov : Operand → SV} {ev : Operand → Value} (hov : ∀ x, R ρ A (ov x) (ev x)) {place : Nat → Option (Nat × Nat)} : ∀ {ps : List (Nat × Operand)} {l l' : List Seg}, placeAll ov place ps l = some l' → segsInA A l →
    Instr.fill place (cellsOf ρ l).toArray (ps.map fun p => (p.1, ev p.2)) = some (cellsOf ρ l').toArray ∧ segsInA A l' ∧ segsLen l' = segsLen l
  | [], l, l', h, hl => by simp [placeAll] at h; subst h; exact ⟨rfl, hl, rfl⟩
  | (i, x) :: r, l, l', h, hl => by
    simp only [placeAll] at h
    split at h
    · rename_i off size v hp hv
      have hxv := asV_spec hv
      split at h
      · rename_i g hg
        split at h
        · rename_i hsz
          split at h
          · rename_i l2 hl2
            obtain ⟨e1, e2, e3⟩ := placeAt_spec (ρ := ρ) hl2
            have hr := hov x
            rw [hxv] at hr
            obtain ⟨c1, c2⟩ := V.segs_spec hg ρ
            have hl2A := e3 A hl (c2 A hr.1)
            obtain ⟨f1, f2, f3⟩ := placeAll_spec hov h hl2A
            have hlen : segsLen l2 = segsLen l := by
              have := congrArg List.length e1
              rw [cellsOf_length] at this
              simp [putCells, cellsOf_length] at this
              omega
            refine ⟨?_, f2, by omega⟩
            simp only [List.map_cons, Instr.fill, hp, hr.2, c1]
            have hc1 : ¬ ((cellsOf ρ g).toArray.size ≠ size) := by simp [cellsOf_length, hsz]
            have hc2 : ¬ (off + (cellsOf ρ g).toArray.size > (cellsOf ρ l).toArray.size) := by simp [cellsOf_length]; omega
            simp only [hc1, hc2, decide_false, Bool.or_self, Bool.false_eq_true, if_false]
            have := fill_one (cells := (cellsOf ρ l).toArray) (v := (cellsOf ρ g).toArray) (off := off) (by simp [cellsOf_length]; omega)
            rw [this]
            simp only []
            rw [← e1]
            exact f1
          · cases h
        · cases h
      · cases h
    · cases h

def fieldPlaces (P : Program) (fs : Array Field) : Array (Nat × Nat) := fs.map fun f => (f.offset, P.cellsOf f.type)

def allKnown (P : Program) : List Field → Bool
  | [] => true
  | f :: r => (P.underlying f.type).isSome && allKnown P r

def buildx (E : Env) (t : TypeId) (parts : Array (Nat × Operand)) (ov : Operand → SV) : Rd :=
  match zeroV E t, E.P.underlying t with
  | some z, some (.struct fs) =>
    if allKnown E.P fs.toList then optRd ((placeAll ov ((fieldPlaces E.P fs)[·]?) parts.toList z).map fun l => retV (.agg (fuse l))) else .fail
  | some z, some (.array _ e) => match E.P.underlying e with
    | some _ => optRd ((placeAll ov (fun i => some (i * E.P.cellsOf e, E.P.cellsOf e)) parts.toList z).map fun l => retV (.agg (fuse l)))
    | none => .fail
  | _, _ => .fail

/-- Noughts in a row: 'n' elements of a type. -/
def zeroRow (E : Env) (e : TypeId) (n : Nat) : Option (List Seg) :=
  match zeroV E e with
  | none => none
  | some z =>
    let is (v : Value) : Bool := vEqL (cellsOf (fun _ => default) z) [v]
    match E.P.underlying e with
    | some (.int .u64) => if is (.int .u64 0) then some [.u64s true n fun _ => 0] else none
    | some (.int .u8) => if is (.int .u8 0) then some [.u8s true n fun _ => 0] else none
    | some (.int .i64) => if is (.int .i64 0) then some [.ints .i64 true n fun _ => 0] else none
    | some .bool => if is (.bool false) then some [.bools true n fun _ => false] else none
    | some _ => some (List.replicate n z).flatten
    | none => none

def buildSlicex (E : Env) (t : TypeId) (len : Nat) (parts : Array (Nat × Operand)) (ov : Operand → SV) (fid : Nat) : Rd :=
  match E.P.underlying t with
  | some (.slice e) => match zeroV E e, E.P.underlying e with
    | some z, some _ =>
      if segsLen z = E.P.cellsOf e ∧ E.P.cellsOf e ≠ 0 ∧ len * E.P.cellsOf e ≤ 16777216 then
        match placeAll ov (fun i => some (i * E.P.cellsOf e, E.P.cellsOf e)) parts.toList (List.replicate len z).flatten with
        | some l => .ret ⟨[], [], .ev (.sc (.slc ⟨fid, 0, none⟩ true len len)), [], [⟨l, 0, e, true⟩]⟩
        | none => .fail
      else .fail
    | _, _ => .fail
  | _ => .fail

def makeSlicex (E : Env) (t : TypeId) (x y : SV) (fid : Nat) : Rd :=
  match E.P.underlying t, asSC x, asSC y with
  | some (.slice e), some (.int .i64 s n), some (.int .i64 s' c) => match zeroRow E e c.toNat, E.P.underlying e with
    | some l, some _ => if E.P.bytesOf e = 0 ∨ E.P.cellsOf e = 0 ∨ (zeroV E e).map segsLen ≠ some (E.P.cellsOf e) then .fail else
      let p : Prop := 0 ≤ n ∧ n ≤ c ∧ E.P.bytesOf e * c ≤ 281474976710656
      if s && s' then (if 0 ≤ n ∧ n ≤ c ∧ E.P.bytesOf e * c ≤ 281474976710656 then .ret ⟨[], [], .ev (.sc (.slc ⟨fid, 0, none⟩ true n.toNat c.toNat)), [], [⟨l, 0, e, true⟩]⟩ else .fail)
      else .ret ⟨[], [p], .ev (.sc (.slc ⟨fid, 0, none⟩ false n.toNat c.toNat)), [], [⟨l, 0, e, true⟩]⟩
    | _, _ => .fail
  | _, _, _ => .fail

/-- A slice's bounds. -/
def boundOf (ov : Operand → SV) (d : Nat) : Option Operand → Option (Int × Bool)
  | none => some (d, true)
  | some x => match asSC (ov x) with
    | some v => match v.num with
      | some (_, n, s) => some (n, s)
      | none => none
    | none => none

def slicex (E : Env) (t : TypeId) (x : Operand) (lo hi mx : Option Operand) (ov : Operand → SV) : Rd :=
  match mx with
  | some _ => .fail
  | none =>
    match E.P.underlying t, ov x with
    | some .string, .ev (.sc (.str _ b)) => match boundOf ov 0 lo, boundOf ov b.size hi with
      | some (l, _), some (h, _) => retVN [0 ≤ l ∧ l ≤ h ∧ h ≤ b.size] (.sc (.str false (b.extract l.toNat h.toNat)))
      | _, _ => .fail
    | some (.slice e), .ev (.sc (.slc a s len cap)) => match boundOf ov 0 lo, boundOf ov len hi, E.P.underlying e with
      | some (l, sl), some (h, sh), some _ =>
        let p : Prop := 0 ≤ l ∧ l ≤ h ∧ h ≤ cap
        if sl && decide (l = 0) then
          (if s && sh then (if l ≤ h ∧ h ≤ len then retVN [p] (.sc (.slc a true h.toNat cap)) else if 0 ≤ l ∧ l ≤ h ∧ h ≤ cap then retV (.sc (.slc a true h.toNat cap)) else .fail)
          else retVN [p] (.sc (.slc a false h.toNat cap)))
        else if s && (sl && sh) then
          (if l ≤ h ∧ h ≤ len ∧ l < len then match elemXA a true l.toNat (E.P.cellsOf e) 0 with
            | some b => retVN [p, l < cap] (.sc (.slc b true (h.toNat - l.toNat) (cap - l.toNat)))
            | none => .fail else if 0 ≤ l ∧ l ≤ h ∧ h ≤ cap ∧ l < cap then match elemXA a true l.toNat (E.P.cellsOf e) 0 with
            | some b => retV (.sc (.slc b true (h.toNat - l.toNat) (cap - l.toNat)))
            | none => .fail else .fail)
        else match elemXA a false (if l.toNat = cap then 0 else l.toNat) (E.P.cellsOf e) 0 with
          | some b => retVN [p] (.sc (.slc b false (h.toNat - l.toNat) (cap - l.toNat)))
          | none => .fail
      | _, _, _ => .fail
    | some (.slice e), .ev (.sc .slcNil) => match boundOf ov 0 lo, boundOf ov 0 hi, E.P.underlying e with
      | some (l, _), some (h, _), some _ => retVN [l = 0 ∧ h = 0] (.sc .slcNil)
      | _, _, _ => .fail
    | some (.array n e), y => match asXA y, boundOf ov 0 lo, boundOf ov n hi, E.P.underlying e with
      | some (ns, a), some (l, sl), some (h, sh), some _ =>
        let p : Prop := 0 ≤ l ∧ l ≤ h ∧ h ≤ n
        if sl && decide (l = 0) then
          (if sh then (if l ≤ h ∧ h ≤ n then retVN ns (.sc (.slc a true h.toNat n)) else .fail)
          else retVN (ns ++ [p]) (.sc (.slc a false h.toNat n)))
        else match elemXA a false (if l.toNat = n then 0 else l.toNat) (E.P.cellsOf e) 0 with
          | some b => retVN (ns ++ [p]) (.sc (.slc b false (h.toNat - l.toNat) (n - l.toNat)))
          | none => .fail
      | _, _, _, _ => .fail
    | _, _ => .fail

def lenx (E : Env) (t : TypeId) (x : SV) : Rd :=
  match E.P.underlying t, x with
  | some .string, .ev (.sc (.str s b)) => retV (.sc (.int .i64 s b.size))
  | some (.slice _), .ev (.sc (.slc _ s len _)) => retV (.sc (.int .i64 s len))
  | some (.slice _), .ev (.sc .slcNil) => retV (.sc (.int .i64 true 0))
  | some (.array n _), _ => retV (.sc (.int .i64 true n))
  | _, _ => .fail

def minFold : List SC → SC → Option SC
  | [], a => some a
  | .int .i64 s y :: r, .int .i64 t x => minFold r (.int .i64 (s && t) (if y < x then y else x))
  | _, _ => none
def maxFold : List SC → SC → Option SC
  | [], a => some a
  | .int .i64 s y :: r, .int .i64 t x => maxFold r (.int .i64 (s && t) (if x < y then y else x))
  | _, _ => none

def minx (xs : List SV) : Rd :=
  match mapAll asSC xs with
  | some (a :: r) => optRd ((minFold r a).map fun z => retV (.sc z))
  | _ => .fail
def maxx (xs : List SV) : Rd :=
  match mapAll asSC xs with
  | some (a :: r) => optRd ((maxFold r a).map fun z => retV (.sc z))
  | _ => .fail

/-- The bytes that are copied. -/
def srcBytes (x : SV) (n : Nat) (k : List Prop → (Nat → BitVec 8) → Rd) : Rd :=
  match x with
  | .ev (.sc (.str _ b)) => k [] fun i => byteAt b i
  | .ev (.sc (.slc a _ _ _)) => .get a.id fun b => match bytesAt b.segs a n with
    | some (ns, f) => k ns f
    | none => .fail
  | .ev (.sc .slcNil) => k [] fun _ => 0
  | _ => .fail

def srcLen : SV → Option (Nat × Bool)
  | .ev (.sc (.str s b)) => some (b.size, s)
  | .ev (.sc (.slc _ s len _)) => some (len, s)
  | .ev (.sc .slcNil) => some (0, true)
  | _ => none

def laid (f g : Nat → BitVec 8) (o n : Nat) : Nat → BitVec 8 := fun j => if o ≤ j ∧ j < o + n then g (j - o) else f j

def copyx (E : Env) (t : TypeId) (d x : SV) : Rd :=
  match E.P.underlying t, d, srcLen x with
  | some (.slice e), .ev (.sc (.slc a s len _)), some (m, s') => match E.P.underlying e with
    | some (.int .u8) =>
      if E.P.cellsOf e = 1 then
        srcBytes x (Nat.min m len) fun ns g => .get a.id fun b =>
          if b.own then
            match b.segs, (match a.dyn with
              | none => some a.off
              | some dd => if a.off = 0 ∧ dd.sz = 1 ∧ dd.sub = 0 then some dd.i else none) with
            | [.u8s _ k f], some o => .ret ⟨[], ns ++ [o + Nat.min m len ≤ k], .ev (.sc (.int .i64 (s && s') (Nat.min m len))), [(a.id, some { b with segs := [.u8s false k (laid f g o (Nat.min m len))] })], []⟩
            | _, _ => .fail
          else .fail
      else .fail
    | _ => .fail
  | _, _, _ => .fail

/-- All that a slice holds. -/
def wholeOf (b : Blk) (a : XA) (s : Bool) (cells : Nat) : Option (List Prop × List Seg) :=
  match a.dyn with
  | some _ => none
  | none =>
    if s then match split b.segs a.off with
      | some (_, r) => match split r cells with
        | some (y, _) => some ([], y)
        | none => none
      | none => none
    else if a.off = 0 then some ([segsLen b.segs = cells], b.segs) else none

/-- What is appended. -/
def srcRow (E : Env) (e : TypeId) (x : SV) (k : List Prop → Nat → Bool → List Seg → Rd) : Rd :=
  match x with
  | .ev (.sc .slcNil) => k [] 0 true []
  | .ev (.sc (.slc a s n _)) => .get a.id fun b => match wholeOf b a s (n * E.P.cellsOf e) with
    | some (ns, l) => k ns n s l
    | none => .fail
  | .ev (.sc (.str s b)) => match E.P.underlying e with
    | some (.int .u8) => if E.P.cellsOf e = 1 then k [] b.size s [.u8s s b.size fun i => byteAt b i] else .fail
    | _ => .fail
  | _ => .fail

def isIntD : TypeDesc → Bool
  | .int _ => true
  | _ => false

def appendK (E : Env) (e : TypeId) (x : SV) (fid c : Nat) (ns : List Prop) (n : Nat) (s : Bool) (l : List Seg) : Rd :=
  match x with
  | .ev (.sc .slcNil) =>
    if s && decide (n = 0) then retVN ns (.sc .slcNil) else
    .ret ⟨[n ≤ c], ns ++ [1 ≤ n, n * E.P.bytesOf e ≤ 137438953472], .ev (.sc (.slc ⟨fid, 0, none⟩ s n c)), [], [⟨l, (c - n) * E.P.cellsOf e, e, true⟩]⟩
  | .ev (.sc (.slc a sa la ca)) => .get a.id fun b =>
    if b.own && decide (b.ty = e) && decide (a.off = 0) then
      match wholeOf b a sa (la * E.P.cellsOf e) with
      | some (ms, m) =>
        .ret ⟨[la + n ≤ c], ns ++ (ms ++ [segsLen b.segs = la * E.P.cellsOf e, ca * E.P.cellsOf e = segsLen b.segs + b.extra, (la + n) * E.P.bytesOf e ≤ 137438953472]),
          .ev (.sc (.slc ⟨fid, 0, none⟩ (s && sa) (la + n) c)), [(a.id, none)], [⟨m ++ l, (c - (la + n)) * E.P.cellsOf e, e, true⟩]⟩
      | none => .fail
    else .fail
  | _ => .fail

def appendx (E : Env) (t t2 : TypeId) (x y : SV) (fid c : Nat) : Rd :=
  match E.P.underlying t, E.P.underlying t2 with
  | some (.slice e), some q =>
    if isIntD q then .fail else
    match E.P.underlying e, zeroV E e with
      | some _, some z => if segsLen z = E.P.cellsOf e ∧ 0 < E.P.cellsOf e ∧ 0 < E.P.bytesOf e then srcRow E e y (appendK E e x fid c) else .fail
      | _, _ => .fail
  | _, _ => .fail

def callx (E : Env) (f : SV) (args : List SV) (fid c : Nat) : Rd :=
  match f, mapAll asV args with
  | .ev (.fn (.func g) first cap), some vs => match E.F g with
    | some M => M (first.map .sc ++ vs ++ cap.map .sc) fid c
    | none => .fail
  | _, _ => .fail

def opx (E : Env) (op : Op) (ov : Operand → SV) (fid c : Nat) : Rd :=
  match op with
  | .move x | .assign x => .ret ⟨[], [], ov x, [], []⟩
  | .pick q x y => pickx (ov q) (ov x) (ov y)
  | .alloc t => match zeroV E t with
    | some z => newx fid z t
    | none => .fail
  | .box t x => match asV (ov x) with
    | some v => match v.segs with
      | some g => newx fid (fuse g) t
      | none => .fail
    | none => .fail
  | .build t parts => buildx E t parts ov
  | .buildSlice t len parts => buildSlicex E t len parts ov fid
  | .load t a => loadx E t (ov a)
  | .store t a v => storex E t (ov a) (ov v)
  | .nilCheck x => nilx (ov x)
  | .binOp op t x y _ => binx E op t (ov x) (ov y)
  | .unOp op _ x => unx op (ov x)
  | .convert s d x => convertx E s d (ov x)
  | .makeFunc fn first cap => mkFnx fn (first.toList.map ov) (cap.toList.map ov)
  | .makeSlice t l c => makeSlicex E t (ov l) (ov c) fid
  | .slice t x lo hi mx => slicex E t x lo hi mx ov
  | .fieldAddr t x f => fieldAddrx E t (ov x) f
  | .field t x f => fieldx E t (ov x) f
  | .indexAddr t x i => indexAddrx E t (ov x) (ov i)
  | .index t x i => indexx E t (ov x) (ov i)
  | .extract x i => extractx (ov x) i
  | .call q => match q.callee with
    | .value f => callx E (ov f) (q.args.toList.map ov) fid c
    | .builtin b => match b, q.args.toList, q.argTypes.toList with
      | .len, [x], [t] => lenx E t (ov x)
      | .min, xs, _ => minx (xs.map ov)
      | .max, xs, _ => maxx (xs.map ov)
      | .append, [x, y], [t, t2] => appendx E t t2 (ov x) (ov y) fid c
      | .copy, [x, y], t :: _ => copyx E t (ov x) (ov y)
      | _, _, _ => .fail
    | _ => .fail
  | _ => .fail

end Go.X
