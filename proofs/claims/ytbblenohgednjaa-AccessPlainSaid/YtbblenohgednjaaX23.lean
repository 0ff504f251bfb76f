import Derived.Test.YtbblenohgednjaaX22
import Derived.Laws.LoneSync
/- A part of the walking machine: shown once for every program of the model; no condition of its own. -/
/- Functions without a body: the atomic ones. -/
namespace Go.X

def atomLoad (args : List V) (_ : Nat) (hp : Hp) : T (Res × List Nat) :=
  match args with
  | [.sc (.ptr a)] => match a.dyn, hp a.id with
    | none, some b => match rd b.segs a.off with
      | some (.u64 _ x) => .leaf (⟨[], [], .ev (.sc (.u64 false x)), [], []⟩, [a.id])
      | _ => .fail
    | _, _ => .fail
  | _ => .fail

theorem atomLoad_ok {P : Program} {g : FuncId} {fn : Func} (hf : P.funcs[g]? = some fn) (hname : (fn.name == "runtime.NumGoroutine") = false) (hb : fn.body.isNone = true) (hn : Extern.findNext fn = none)
    (he : Extern.find fn = some (Extern.Atomic.loadT (.int .u64))) : BModelOk P g atomLoad := by
  refine .inr fun args ρ A hp w fid Q hs hargs _ h => ?_
  unfold atomLoad at h
  split at h
  case h_2 => exact h.elim
  rename_i a
  split at h
  case h_2 => exact h.elim
  rename_i b hd hb'
  split at h
  case h_2 => exact h.elim
  rename_i s x hr
  have hc := hs.cell hb' (rd_spec ρ hr)
  refine ⟨.int .u64 x.toNat, w, ?_, post_ret hs h ⟨trivial, rfl⟩⟩
  have ea : (SC.ptr a).enc ρ = .pointer (some ((ρ a.id).add a.off)) := by simp [SC.enc, XA.enc, XA.o, hd]
  simp only [List.map_cons, List.map_nil, V.enc, ea]
  exact run_call_load hf hname hb hn .u64 he hc

def atomStore (args : List V) (_ : Nat) (hp : Hp) : T (Res × List Nat) :=
  match args with
  | [.sc (.ptr a), .sc (.u64 s x)] => match a.dyn, hp a.id with
    | none, some b => match rd b.segs a.off, wr b.segs a.off (.u64 s x) with
      | some (.u64 _ _), some l => if b.own then .leaf (⟨[], [], .tup [], [(a.id, some { b with segs := l })], []⟩, [a.id]) else .fail
      | _, _ => .fail
    | _, _ => .fail
  | _ => .fail

theorem atomStore_ok {P : Program} {g : FuncId} {fn : Func} (hf : P.funcs[g]? = some fn) (hname : (fn.name == "runtime.NumGoroutine") = false) (hb : fn.body.isNone = true) (hn : Extern.findNext fn = none)
    (he : Extern.find fn = some Extern.Atomic.storeT) : BModelOk P g atomStore := by
  refine .inr fun args ρ A hp w fid Q hs hargs _ h => ?_
  unfold atomStore at h
  split at h
  case h_2 => exact h.elim
  rename_i a s x
  split at h
  case h_2 => exact h.elim
  rename_i b hd hb'
  split at h
  case h_2 => exact h.elim
  rename_i s' y l hr hw
  split at h
  case isFalse => exact h.elim
  rename_i ho
  have hc := hs.cell hb' (rd_spec ρ hr)
  obtain ⟨hl, hlt⟩ := wr_spec ρ hw
  obtain ⟨h1, rest, hrest, h2⟩ := hs.own _ _ hb' ho
  have ea : (ρ a.id).add a.off = ⟨(ρ a.id).block, a.off, none⟩ := own_add h1 _
  have hz : w.frozen? ((ρ a.id).add a.off) = false := by rw [ea]; exact frozen?_of_block h2 _
  have hrun := run_call_store (P := P) hf hname hb hn he hc hz (k := .u64) (y := x.toNat)
  obtain ⟨hn', hk⟩ := h (by simp)
  have hset : w.setCell ((ρ a.id).add a.off) (.int .u64 x.toNat) = World.putBlk w (ρ a.id).block (.cells (cellsOf ρ l ++ rest).toArray b.ty (0, 0)) := by
    rw [ea, setCell_eq h2, hl]
    congr 2
    apply Array.ext'
    simp only [Array.toList_setIfInBounds, List.toList_toArray]
    rw [List.set_append_left _ _ (by rw [cellsOf_length]; exact hlt)]
    rfl
  have e1 : (callFunc g ([V.sc (SC.ptr a), V.sc (SC.u64 s x)].map (V.enc ρ)).toArray).run P w = .ok (.value (.tuple #[])) (w.setCell ((ρ a.id).add a.off) (.int .u64 x.toNat)) := by
    rw [← hrun]
    simp [V.enc, SC.enc, XA.enc, XA.o, hd]
  refine ⟨.tuple #[], w.setCell ((ρ a.id).add a.off) (.int .u64 x.toNat), e1, ?_⟩
  rw [hset]
  have e2 : HSim ρ A (upd hp a.id (some { b with segs := l, extra := b.extra })) (World.putBlk w (ρ a.id).block (.cells (cellsOf ρ l ++ rest).toArray b.ty (0, 0))) :=
    hs.put hb' ho (wr_inA hw (hs.inA _ _ hb') trivial) hrest
  have e3 : Fr (fun k => ∃ i, (∃ ob, (i, ob) ∈ [(a.id, some { b with segs := l })]) ∧ k = (ρ i).block) w (World.putBlk w (ρ a.id).block (.cells (cellsOf ρ l ++ rest).toArray b.ty (0, 0))) :=
    (Fr.putBlk h2).mono fun k _ e => ⟨a.id, ⟨_, List.mem_singleton.2 rfl⟩, e⟩
  exact hk ρ A (.tuple #[]) _ (Ext.refl _ _ _) e2 ⟨by simp, rfl⟩ e3 (fun i h1 h2 => absurd h1 h2)

end Go.X
