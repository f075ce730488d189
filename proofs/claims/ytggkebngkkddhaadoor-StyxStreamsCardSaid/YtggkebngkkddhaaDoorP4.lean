/- Plain law: Decode of what Encode gives is the message. (Printed in part by program.) -/
import Derived.Test.YtggkebngkkddhaaDoorP3
namespace Go.Proofs.YtggkebngkkddhaaDoor
open Go.RowKit

def copyX (m m0 : MV) : Fld → MV
  | .S => { m0 with size := m.size }
  | .v => { m0 with version := m.version }
  | .f => { m0 with fid := m.fid }
  | .u => { m0 with user := m.user }
  | .t => { m0 with tree := m.tree }
  | .q => { m0 with qids := m.qids }
  | .o => { m0 with other := m.other }
  | .c => { m0 with code := m.code }
  | .d => { m0 with old := m.old }
  | .n => { m0 with names := m.names }
  | .Q => { m0 with qids := m.qids }
  | .m => { m0 with mode := m.mode }
  | .N => { m0 with name := m.name }
  | .p => { m0 with perm := m.perm }
  | .O => { m0 with offset := m.offset }
  | .D => { m0 with data := m.data }
  | .i => { m0 with dir := m.dir }

structure MV.Lo (m : MV) : Prop where
  offset : m.offset ≤ 9223372036854775807
  dir : m.dir.Lo
  qids : ∀ q ∈ m.qids, q.p ≤ 9223372036854775807
theorem MV.R.lo {m : MV} (h : m.R) : m.Lo := ⟨h.offset.2, ⟨h.dir.p.2, h.dir.time.2, h.dir.len.2⟩, fun q hq => (h.qids q hq).2⟩

theorem reads_visit (m m0 : MV) (x : Fld) (h : okX m x) (hr : m.Lo) (hq : x = .q → m.qids.length = 1) : Reads (fun i => (VIn 0 0).visit (BIn 0 0) x i m0) (copyX m m0 x) (encX m x) := by
  intro i r hA

  cases x
  case S =>
    obtain ⟨h1, h2⟩ := reads_num m.size 4 h i r hA
    exact ⟨congrArg (fun v => ({ m0 with size := v } : MV)) h1, h2⟩
  case v =>
    obtain ⟨h1, h2⟩ := reads_sized m.version 2 h i r hA
    exact ⟨congrArg (fun v => ({ m0 with version := v } : MV)) h1, h2⟩
  case f =>
    obtain ⟨h1, h2⟩ := reads_num m.fid 4 h i r hA
    exact ⟨congrArg (fun v => ({ m0 with fid := v } : MV)) h1, h2⟩
  case u =>
    obtain ⟨h1, h2⟩ := reads_sized m.user 2 h i r hA
    exact ⟨congrArg (fun v => ({ m0 with user := v } : MV)) h1, h2⟩
  case t =>
    obtain ⟨h1, h2⟩ := reads_sized m.tree 2 h i r hA
    exact ⟨congrArg (fun v => ({ m0 with tree := v } : MV)) h1, h2⟩
  case q =>
    have hl := hq rfl
    match hm : m.qids, hl with
    | [q], _ =>
      have e : the1 m.qids = q := by rw [hm]; rfl
      have hk : okQ q := by have h : okQ (the1 m.qids) := h; rwa [e] at h
      have hA : At i (encQ q ++ r) := by have hA : At i (encQ (the1 m.qids) ++ r) := hA; rwa [e] at hA
      obtain ⟨h1, h2⟩ := reads_qid q hk (hr.qids q (by rw [hm]; exact List.mem_cons_self)) i r hA
      refine ⟨?_, h2⟩
      show ({ m0 with qids := [i.qid.1] } : MV) = { m0 with qids := m.qids }
      rw [h1, hm]
  case o =>
    obtain ⟨h1, h2⟩ := reads_num m.other 4 h i r hA
    exact ⟨congrArg (fun v => ({ m0 with other := v } : MV)) h1, h2⟩
  case c =>
    obtain ⟨h1, h2⟩ := reads_num m.code 2 h i r hA
    exact ⟨congrArg (fun v => ({ m0 with code := v } : MV)) h1, h2⟩
  case d =>
    obtain ⟨h1, h2⟩ := reads_num m.old 2 h i r hA
    exact ⟨congrArg (fun v => ({ m0 with old := v } : MV)) h1, h2⟩
  case n =>
    obtain ⟨h1, h2⟩ := reads_names m.names h.1 h.2 i r hA
    exact ⟨congrArg (fun v => ({ m0 with names := v } : MV)) h1, h2⟩
  case Q =>
    obtain ⟨h1, h2⟩ := reads_qids m.qids h.1 (fun q hq => ⟨h.2 q hq, hr.qids q hq⟩) i r hA
    exact ⟨congrArg (fun v => ({ m0 with qids := v } : MV)) h1, h2⟩
  case m =>
    obtain ⟨h1, h2⟩ := reads_num m.mode 1 h i r hA
    exact ⟨congrArg (fun v => ({ m0 with mode := v } : MV)) h1, h2⟩
  case N =>
    obtain ⟨h1, h2⟩ := reads_sized m.name 2 h i r hA
    exact ⟨congrArg (fun v => ({ m0 with name := v } : MV)) h1, h2⟩
  case p =>
    obtain ⟨h1, h2⟩ := reads_num m.perm 4 h i r hA
    exact ⟨congrArg (fun v => ({ m0 with perm := v } : MV)) h1, h2⟩
  case O =>
    obtain ⟨h1, h2⟩ := reads_least m.offset 0 (by omega) h hr.offset i r hA
    exact ⟨congrArg (fun v => ({ m0 with offset := v } : MV)) h1, h2⟩
  case D =>
    obtain ⟨h1, h2⟩ := reads_sized m.data 4 h i r hA
    exact ⟨congrArg (fun v => ({ m0 with data := v } : MV)) h1, h2⟩
  case i =>
    obtain ⟨h1, h2⟩ := reads_dir m.dir m0.dir h.1 hr.dir h.2.1 h.2.2 i r hA
    exact ⟨congrArg (fun v => ({ m0 with dir := v } : MV)) h1, h2⟩

theorem reads_visits (m : MV) (hr : m.Lo) : ∀ (l : List Fld), (∀ x ∈ l, okX m x) → (Fld.q ∈ l → m.qids.length = 1) → ∀ (m0 : MV) (i : IS) (r : List UInt8), At i (l.flatMap (encX m) ++ r) → ((VIn 0 0).visits (BIn 0 0) l i m0).1 = l.foldl (copyX m) m0 ∧ At ((VIn 0 0).visits (BIn 0 0) l i m0).2 r
  | [], _, _, m0, i, r, hA => ⟨rfl, hA⟩
  | x :: l, h, hq, m0, i, r, hA => by
    rw [List.flatMap_cons, List.append_assoc] at hA
    obtain ⟨h1, h2⟩ := reads_visit m m0 x (h x List.mem_cons_self) hr (fun e => hq (by rw [e]; exact List.mem_cons_self)) i _ hA
    have h1 : ((VIn 0 0).visit (BIn 0 0) x i m0).1 = copyX m m0 x := h1
    have ih := reads_visits m hr l (fun y hy => h y (List.mem_cons_of_mem _ hy)) (fun hy => hq (List.mem_cons_of_mem _ hy)) (copyX m m0 x) _ r h2
    show ((VIn 0 0).visits (BIn 0 0) l ((VIn 0 0).visit (BIn 0 0) x i m0).2 ((VIn 0 0).visit (BIn 0 0) x i m0).1).1 = _ ∧ At ((VIn 0 0).visits (BIn 0 0) l ((VIn 0 0).visit (BIn 0 0) x i m0).2 ((VIn 0 0).visit (BIn 0 0) x i m0).1).2 r
    rw [h1]
    exact ih

theorem copy_100 (tag fid other old size offset mode perm code : Int) (version user tree name : ByteArray) (names : List ByteArray) (qids : List QV) (data : ByteArray) (dir : DV) (h : (MV.mk 100 tag fid other old size offset mode perm version user tree name names qids data dir code).Shaped) :
    [Fld.S, Fld.v].foldl (copyX (MV.mk 100 tag fid other old size offset mode perm version user tree name names qids data dir code)) { MV0 with kind := 100, tag := tag } = MV.mk 100 tag fid other old size offset mode perm version user tree name names qids data dir code := by
  have c : (MV.mk 100 tag fid other old size offset mode perm version user tree name names qids data dir code).blanked.Clear := h
  obtain rfl : fid = 0 := c.fid
  obtain rfl : other = 0 := c.other
  obtain rfl : old = 0 := c.old
  obtain rfl : offset = 0 := c.offset
  obtain rfl : mode = 0 := c.mode
  obtain rfl : perm = 0 := c.perm
  obtain rfl : user = ⟨#[]⟩ := c.user
  obtain rfl : tree = ⟨#[]⟩ := c.tree
  obtain rfl : name = ⟨#[]⟩ := c.name
  obtain rfl : names = [] := c.names
  obtain rfl : qids = [] := c.qids
  obtain rfl : data = ⟨#[]⟩ := c.data
  obtain rfl : dir = DV0 := c.dir
  obtain rfl : code = 0 := c.code
  rfl
theorem copy_101 (tag fid other old size offset mode perm code : Int) (version user tree name : ByteArray) (names : List ByteArray) (qids : List QV) (data : ByteArray) (dir : DV) (h : (MV.mk 101 tag fid other old size offset mode perm version user tree name names qids data dir code).Shaped) :
    [Fld.S, Fld.v].foldl (copyX (MV.mk 101 tag fid other old size offset mode perm version user tree name names qids data dir code)) { MV0 with kind := 101, tag := tag } = MV.mk 101 tag fid other old size offset mode perm version user tree name names qids data dir code := by
  have c : (MV.mk 101 tag fid other old size offset mode perm version user tree name names qids data dir code).blanked.Clear := h
  obtain rfl : fid = 0 := c.fid
  obtain rfl : other = 0 := c.other
  obtain rfl : old = 0 := c.old
  obtain rfl : offset = 0 := c.offset
  obtain rfl : mode = 0 := c.mode
  obtain rfl : perm = 0 := c.perm
  obtain rfl : user = ⟨#[]⟩ := c.user
  obtain rfl : tree = ⟨#[]⟩ := c.tree
  obtain rfl : name = ⟨#[]⟩ := c.name
  obtain rfl : names = [] := c.names
  obtain rfl : qids = [] := c.qids
  obtain rfl : data = ⟨#[]⟩ := c.data
  obtain rfl : dir = DV0 := c.dir
  obtain rfl : code = 0 := c.code
  rfl
theorem copy_102 (tag fid other old size offset mode perm code : Int) (version user tree name : ByteArray) (names : List ByteArray) (qids : List QV) (data : ByteArray) (dir : DV) (h : (MV.mk 102 tag fid other old size offset mode perm version user tree name names qids data dir code).Shaped) :
    [Fld.f, Fld.u, Fld.t].foldl (copyX (MV.mk 102 tag fid other old size offset mode perm version user tree name names qids data dir code)) { MV0 with kind := 102, tag := tag } = MV.mk 102 tag fid other old size offset mode perm version user tree name names qids data dir code := by
  have c : (MV.mk 102 tag fid other old size offset mode perm version user tree name names qids data dir code).blanked.Clear := h
  obtain rfl : other = 0 := c.other
  obtain rfl : old = 0 := c.old
  obtain rfl : size = 0 := c.size
  obtain rfl : offset = 0 := c.offset
  obtain rfl : mode = 0 := c.mode
  obtain rfl : perm = 0 := c.perm
  obtain rfl : version = ⟨#[]⟩ := c.version
  obtain rfl : name = ⟨#[]⟩ := c.name
  obtain rfl : names = [] := c.names
  obtain rfl : qids = [] := c.qids
  obtain rfl : data = ⟨#[]⟩ := c.data
  obtain rfl : dir = DV0 := c.dir
  obtain rfl : code = 0 := c.code
  rfl
theorem copy_103 (tag fid other old size offset mode perm code : Int) (version user tree name : ByteArray) (names : List ByteArray) (qids : List QV) (data : ByteArray) (dir : DV) (h : (MV.mk 103 tag fid other old size offset mode perm version user tree name names qids data dir code).Shaped) :
    [Fld.q].foldl (copyX (MV.mk 103 tag fid other old size offset mode perm version user tree name names qids data dir code)) { MV0 with kind := 103, tag := tag } = MV.mk 103 tag fid other old size offset mode perm version user tree name names qids data dir code := by
  have c := h.2
  obtain rfl : fid = 0 := c.fid
  obtain rfl : other = 0 := c.other
  obtain rfl : old = 0 := c.old
  obtain rfl : size = 0 := c.size
  obtain rfl : offset = 0 := c.offset
  obtain rfl : mode = 0 := c.mode
  obtain rfl : perm = 0 := c.perm
  obtain rfl : version = ⟨#[]⟩ := c.version
  obtain rfl : user = ⟨#[]⟩ := c.user
  obtain rfl : tree = ⟨#[]⟩ := c.tree
  obtain rfl : name = ⟨#[]⟩ := c.name
  obtain rfl : names = [] := c.names
  obtain rfl : data = ⟨#[]⟩ := c.data
  obtain rfl : dir = DV0 := c.dir
  obtain rfl : code = 0 := c.code
  rfl
theorem copy_104 (tag fid other old size offset mode perm code : Int) (version user tree name : ByteArray) (names : List ByteArray) (qids : List QV) (data : ByteArray) (dir : DV) (h : (MV.mk 104 tag fid other old size offset mode perm version user tree name names qids data dir code).Shaped) :
    [Fld.f, Fld.o, Fld.u, Fld.t].foldl (copyX (MV.mk 104 tag fid other old size offset mode perm version user tree name names qids data dir code)) { MV0 with kind := 104, tag := tag } = MV.mk 104 tag fid other old size offset mode perm version user tree name names qids data dir code := by
  have c : (MV.mk 104 tag fid other old size offset mode perm version user tree name names qids data dir code).blanked.Clear := h
  obtain rfl : old = 0 := c.old
  obtain rfl : size = 0 := c.size
  obtain rfl : offset = 0 := c.offset
  obtain rfl : mode = 0 := c.mode
  obtain rfl : perm = 0 := c.perm
  obtain rfl : version = ⟨#[]⟩ := c.version
  obtain rfl : name = ⟨#[]⟩ := c.name
  obtain rfl : names = [] := c.names
  obtain rfl : qids = [] := c.qids
  obtain rfl : data = ⟨#[]⟩ := c.data
  obtain rfl : dir = DV0 := c.dir
  obtain rfl : code = 0 := c.code
  rfl
theorem copy_105 (tag fid other old size offset mode perm code : Int) (version user tree name : ByteArray) (names : List ByteArray) (qids : List QV) (data : ByteArray) (dir : DV) (h : (MV.mk 105 tag fid other old size offset mode perm version user tree name names qids data dir code).Shaped) :
    [Fld.q].foldl (copyX (MV.mk 105 tag fid other old size offset mode perm version user tree name names qids data dir code)) { MV0 with kind := 105, tag := tag } = MV.mk 105 tag fid other old size offset mode perm version user tree name names qids data dir code := by
  have c := h.2
  obtain rfl : fid = 0 := c.fid
  obtain rfl : other = 0 := c.other
  obtain rfl : old = 0 := c.old
  obtain rfl : size = 0 := c.size
  obtain rfl : offset = 0 := c.offset
  obtain rfl : mode = 0 := c.mode
  obtain rfl : perm = 0 := c.perm
  obtain rfl : version = ⟨#[]⟩ := c.version
  obtain rfl : user = ⟨#[]⟩ := c.user
  obtain rfl : tree = ⟨#[]⟩ := c.tree
  obtain rfl : name = ⟨#[]⟩ := c.name
  obtain rfl : names = [] := c.names
  obtain rfl : data = ⟨#[]⟩ := c.data
  obtain rfl : dir = DV0 := c.dir
  obtain rfl : code = 0 := c.code
  rfl
theorem copy_107 (tag fid other old size offset mode perm code : Int) (version user tree name : ByteArray) (names : List ByteArray) (qids : List QV) (data : ByteArray) (dir : DV) (h : (MV.mk 107 tag fid other old size offset mode perm version user tree name names qids data dir code).Shaped) :
    [Fld.c].foldl (copyX (MV.mk 107 tag fid other old size offset mode perm version user tree name names qids data dir code)) { MV0 with kind := 107, tag := tag } = MV.mk 107 tag fid other old size offset mode perm version user tree name names qids data dir code := by
  have c : (MV.mk 107 tag fid other old size offset mode perm version user tree name names qids data dir code).blanked.Clear := h
  obtain rfl : fid = 0 := c.fid
  obtain rfl : other = 0 := c.other
  obtain rfl : old = 0 := c.old
  obtain rfl : size = 0 := c.size
  obtain rfl : offset = 0 := c.offset
  obtain rfl : mode = 0 := c.mode
  obtain rfl : perm = 0 := c.perm
  obtain rfl : version = ⟨#[]⟩ := c.version
  obtain rfl : user = ⟨#[]⟩ := c.user
  obtain rfl : tree = ⟨#[]⟩ := c.tree
  obtain rfl : name = ⟨#[]⟩ := c.name
  obtain rfl : names = [] := c.names
  obtain rfl : qids = [] := c.qids
  obtain rfl : data = ⟨#[]⟩ := c.data
  obtain rfl : dir = DV0 := c.dir
  rfl
theorem copy_108 (tag fid other old size offset mode perm code : Int) (version user tree name : ByteArray) (names : List ByteArray) (qids : List QV) (data : ByteArray) (dir : DV) (h : (MV.mk 108 tag fid other old size offset mode perm version user tree name names qids data dir code).Shaped) :
    [Fld.d].foldl (copyX (MV.mk 108 tag fid other old size offset mode perm version user tree name names qids data dir code)) { MV0 with kind := 108, tag := tag } = MV.mk 108 tag fid other old size offset mode perm version user tree name names qids data dir code := by
  have c : (MV.mk 108 tag fid other old size offset mode perm version user tree name names qids data dir code).blanked.Clear := h
  obtain rfl : fid = 0 := c.fid
  obtain rfl : other = 0 := c.other
  obtain rfl : size = 0 := c.size
  obtain rfl : offset = 0 := c.offset
  obtain rfl : mode = 0 := c.mode
  obtain rfl : perm = 0 := c.perm
  obtain rfl : version = ⟨#[]⟩ := c.version
  obtain rfl : user = ⟨#[]⟩ := c.user
  obtain rfl : tree = ⟨#[]⟩ := c.tree
  obtain rfl : name = ⟨#[]⟩ := c.name
  obtain rfl : names = [] := c.names
  obtain rfl : qids = [] := c.qids
  obtain rfl : data = ⟨#[]⟩ := c.data
  obtain rfl : dir = DV0 := c.dir
  obtain rfl : code = 0 := c.code
  rfl
theorem copy_109 (tag fid other old size offset mode perm code : Int) (version user tree name : ByteArray) (names : List ByteArray) (qids : List QV) (data : ByteArray) (dir : DV) (h : (MV.mk 109 tag fid other old size offset mode perm version user tree name names qids data dir code).Shaped) :
    [].foldl (copyX (MV.mk 109 tag fid other old size offset mode perm version user tree name names qids data dir code)) { MV0 with kind := 109, tag := tag } = MV.mk 109 tag fid other old size offset mode perm version user tree name names qids data dir code := by
  have c : (MV.mk 109 tag fid other old size offset mode perm version user tree name names qids data dir code).blanked.Clear := h
  obtain rfl : fid = 0 := c.fid
  obtain rfl : other = 0 := c.other
  obtain rfl : old = 0 := c.old
  obtain rfl : size = 0 := c.size
  obtain rfl : offset = 0 := c.offset
  obtain rfl : mode = 0 := c.mode
  obtain rfl : perm = 0 := c.perm
  obtain rfl : version = ⟨#[]⟩ := c.version
  obtain rfl : user = ⟨#[]⟩ := c.user
  obtain rfl : tree = ⟨#[]⟩ := c.tree
  obtain rfl : name = ⟨#[]⟩ := c.name
  obtain rfl : names = [] := c.names
  obtain rfl : qids = [] := c.qids
  obtain rfl : data = ⟨#[]⟩ := c.data
  obtain rfl : dir = DV0 := c.dir
  obtain rfl : code = 0 := c.code
  rfl
theorem copy_110 (tag fid other old size offset mode perm code : Int) (version user tree name : ByteArray) (names : List ByteArray) (qids : List QV) (data : ByteArray) (dir : DV) (h : (MV.mk 110 tag fid other old size offset mode perm version user tree name names qids data dir code).Shaped) :
    [Fld.f, Fld.o, Fld.n].foldl (copyX (MV.mk 110 tag fid other old size offset mode perm version user tree name names qids data dir code)) { MV0 with kind := 110, tag := tag } = MV.mk 110 tag fid other old size offset mode perm version user tree name names qids data dir code := by
  have c : (MV.mk 110 tag fid other old size offset mode perm version user tree name names qids data dir code).blanked.Clear := h
  obtain rfl : old = 0 := c.old
  obtain rfl : size = 0 := c.size
  obtain rfl : offset = 0 := c.offset
  obtain rfl : mode = 0 := c.mode
  obtain rfl : perm = 0 := c.perm
  obtain rfl : version = ⟨#[]⟩ := c.version
  obtain rfl : user = ⟨#[]⟩ := c.user
  obtain rfl : tree = ⟨#[]⟩ := c.tree
  obtain rfl : name = ⟨#[]⟩ := c.name
  obtain rfl : qids = [] := c.qids
  obtain rfl : data = ⟨#[]⟩ := c.data
  obtain rfl : dir = DV0 := c.dir
  obtain rfl : code = 0 := c.code
  rfl
theorem copy_111 (tag fid other old size offset mode perm code : Int) (version user tree name : ByteArray) (names : List ByteArray) (qids : List QV) (data : ByteArray) (dir : DV) (h : (MV.mk 111 tag fid other old size offset mode perm version user tree name names qids data dir code).Shaped) :
    [Fld.Q].foldl (copyX (MV.mk 111 tag fid other old size offset mode perm version user tree name names qids data dir code)) { MV0 with kind := 111, tag := tag } = MV.mk 111 tag fid other old size offset mode perm version user tree name names qids data dir code := by
  have c : (MV.mk 111 tag fid other old size offset mode perm version user tree name names qids data dir code).blanked.Clear := h
  obtain rfl : fid = 0 := c.fid
  obtain rfl : other = 0 := c.other
  obtain rfl : old = 0 := c.old
  obtain rfl : size = 0 := c.size
  obtain rfl : offset = 0 := c.offset
  obtain rfl : mode = 0 := c.mode
  obtain rfl : perm = 0 := c.perm
  obtain rfl : version = ⟨#[]⟩ := c.version
  obtain rfl : user = ⟨#[]⟩ := c.user
  obtain rfl : tree = ⟨#[]⟩ := c.tree
  obtain rfl : name = ⟨#[]⟩ := c.name
  obtain rfl : names = [] := c.names
  obtain rfl : data = ⟨#[]⟩ := c.data
  obtain rfl : dir = DV0 := c.dir
  obtain rfl : code = 0 := c.code
  rfl
theorem copy_112 (tag fid other old size offset mode perm code : Int) (version user tree name : ByteArray) (names : List ByteArray) (qids : List QV) (data : ByteArray) (dir : DV) (h : (MV.mk 112 tag fid other old size offset mode perm version user tree name names qids data dir code).Shaped) :
    [Fld.f, Fld.m].foldl (copyX (MV.mk 112 tag fid other old size offset mode perm version user tree name names qids data dir code)) { MV0 with kind := 112, tag := tag } = MV.mk 112 tag fid other old size offset mode perm version user tree name names qids data dir code := by
  have c : (MV.mk 112 tag fid other old size offset mode perm version user tree name names qids data dir code).blanked.Clear := h
  obtain rfl : other = 0 := c.other
  obtain rfl : old = 0 := c.old
  obtain rfl : size = 0 := c.size
  obtain rfl : offset = 0 := c.offset
  obtain rfl : perm = 0 := c.perm
  obtain rfl : version = ⟨#[]⟩ := c.version
  obtain rfl : user = ⟨#[]⟩ := c.user
  obtain rfl : tree = ⟨#[]⟩ := c.tree
  obtain rfl : name = ⟨#[]⟩ := c.name
  obtain rfl : names = [] := c.names
  obtain rfl : qids = [] := c.qids
  obtain rfl : data = ⟨#[]⟩ := c.data
  obtain rfl : dir = DV0 := c.dir
  obtain rfl : code = 0 := c.code
  rfl
theorem copy_113 (tag fid other old size offset mode perm code : Int) (version user tree name : ByteArray) (names : List ByteArray) (qids : List QV) (data : ByteArray) (dir : DV) (h : (MV.mk 113 tag fid other old size offset mode perm version user tree name names qids data dir code).Shaped) :
    [Fld.q, Fld.S].foldl (copyX (MV.mk 113 tag fid other old size offset mode perm version user tree name names qids data dir code)) { MV0 with kind := 113, tag := tag } = MV.mk 113 tag fid other old size offset mode perm version user tree name names qids data dir code := by
  have c := h.2
  obtain rfl : fid = 0 := c.fid
  obtain rfl : other = 0 := c.other
  obtain rfl : old = 0 := c.old
  obtain rfl : offset = 0 := c.offset
  obtain rfl : mode = 0 := c.mode
  obtain rfl : perm = 0 := c.perm
  obtain rfl : version = ⟨#[]⟩ := c.version
  obtain rfl : user = ⟨#[]⟩ := c.user
  obtain rfl : tree = ⟨#[]⟩ := c.tree
  obtain rfl : name = ⟨#[]⟩ := c.name
  obtain rfl : names = [] := c.names
  obtain rfl : data = ⟨#[]⟩ := c.data
  obtain rfl : dir = DV0 := c.dir
  obtain rfl : code = 0 := c.code
  rfl
theorem copy_114 (tag fid other old size offset mode perm code : Int) (version user tree name : ByteArray) (names : List ByteArray) (qids : List QV) (data : ByteArray) (dir : DV) (h : (MV.mk 114 tag fid other old size offset mode perm version user tree name names qids data dir code).Shaped) :
    [Fld.f, Fld.N, Fld.p, Fld.m].foldl (copyX (MV.mk 114 tag fid other old size offset mode perm version user tree name names qids data dir code)) { MV0 with kind := 114, tag := tag } = MV.mk 114 tag fid other old size offset mode perm version user tree name names qids data dir code := by
  have c : (MV.mk 114 tag fid other old size offset mode perm version user tree name names qids data dir code).blanked.Clear := h
  obtain rfl : other = 0 := c.other
  obtain rfl : old = 0 := c.old
  obtain rfl : size = 0 := c.size
  obtain rfl : offset = 0 := c.offset
  obtain rfl : version = ⟨#[]⟩ := c.version
  obtain rfl : user = ⟨#[]⟩ := c.user
  obtain rfl : tree = ⟨#[]⟩ := c.tree
  obtain rfl : names = [] := c.names
  obtain rfl : qids = [] := c.qids
  obtain rfl : data = ⟨#[]⟩ := c.data
  obtain rfl : dir = DV0 := c.dir
  obtain rfl : code = 0 := c.code
  rfl
theorem copy_115 (tag fid other old size offset mode perm code : Int) (version user tree name : ByteArray) (names : List ByteArray) (qids : List QV) (data : ByteArray) (dir : DV) (h : (MV.mk 115 tag fid other old size offset mode perm version user tree name names qids data dir code).Shaped) :
    [Fld.q, Fld.S].foldl (copyX (MV.mk 115 tag fid other old size offset mode perm version user tree name names qids data dir code)) { MV0 with kind := 115, tag := tag } = MV.mk 115 tag fid other old size offset mode perm version user tree name names qids data dir code := by
  have c := h.2
  obtain rfl : fid = 0 := c.fid
  obtain rfl : other = 0 := c.other
  obtain rfl : old = 0 := c.old
  obtain rfl : offset = 0 := c.offset
  obtain rfl : mode = 0 := c.mode
  obtain rfl : perm = 0 := c.perm
  obtain rfl : version = ⟨#[]⟩ := c.version
  obtain rfl : user = ⟨#[]⟩ := c.user
  obtain rfl : tree = ⟨#[]⟩ := c.tree
  obtain rfl : name = ⟨#[]⟩ := c.name
  obtain rfl : names = [] := c.names
  obtain rfl : data = ⟨#[]⟩ := c.data
  obtain rfl : dir = DV0 := c.dir
  obtain rfl : code = 0 := c.code
  rfl
theorem copy_116 (tag fid other old size offset mode perm code : Int) (version user tree name : ByteArray) (names : List ByteArray) (qids : List QV) (data : ByteArray) (dir : DV) (h : (MV.mk 116 tag fid other old size offset mode perm version user tree name names qids data dir code).Shaped) :
    [Fld.f, Fld.O, Fld.S].foldl (copyX (MV.mk 116 tag fid other old size offset mode perm version user tree name names qids data dir code)) { MV0 with kind := 116, tag := tag } = MV.mk 116 tag fid other old size offset mode perm version user tree name names qids data dir code := by
  have c : (MV.mk 116 tag fid other old size offset mode perm version user tree name names qids data dir code).blanked.Clear := h
  obtain rfl : other = 0 := c.other
  obtain rfl : old = 0 := c.old
  obtain rfl : mode = 0 := c.mode
  obtain rfl : perm = 0 := c.perm
  obtain rfl : version = ⟨#[]⟩ := c.version
  obtain rfl : user = ⟨#[]⟩ := c.user
  obtain rfl : tree = ⟨#[]⟩ := c.tree
  obtain rfl : name = ⟨#[]⟩ := c.name
  obtain rfl : names = [] := c.names
  obtain rfl : qids = [] := c.qids
  obtain rfl : data = ⟨#[]⟩ := c.data
  obtain rfl : dir = DV0 := c.dir
  obtain rfl : code = 0 := c.code
  rfl
theorem copy_117 (tag fid other old size offset mode perm code : Int) (version user tree name : ByteArray) (names : List ByteArray) (qids : List QV) (data : ByteArray) (dir : DV) (h : (MV.mk 117 tag fid other old size offset mode perm version user tree name names qids data dir code).Shaped) :
    [Fld.D].foldl (copyX (MV.mk 117 tag fid other old size offset mode perm version user tree name names qids data dir code)) { MV0 with kind := 117, tag := tag } = MV.mk 117 tag fid other old size offset mode perm version user tree name names qids data dir code := by
  have c : (MV.mk 117 tag fid other old size offset mode perm version user tree name names qids data dir code).blanked.Clear := h
  obtain rfl : fid = 0 := c.fid
  obtain rfl : other = 0 := c.other
  obtain rfl : old = 0 := c.old
  obtain rfl : size = 0 := c.size
  obtain rfl : offset = 0 := c.offset
  obtain rfl : mode = 0 := c.mode
  obtain rfl : perm = 0 := c.perm
  obtain rfl : version = ⟨#[]⟩ := c.version
  obtain rfl : user = ⟨#[]⟩ := c.user
  obtain rfl : tree = ⟨#[]⟩ := c.tree
  obtain rfl : name = ⟨#[]⟩ := c.name
  obtain rfl : names = [] := c.names
  obtain rfl : qids = [] := c.qids
  obtain rfl : dir = DV0 := c.dir
  obtain rfl : code = 0 := c.code
  rfl
theorem copy_118 (tag fid other old size offset mode perm code : Int) (version user tree name : ByteArray) (names : List ByteArray) (qids : List QV) (data : ByteArray) (dir : DV) (h : (MV.mk 118 tag fid other old size offset mode perm version user tree name names qids data dir code).Shaped) :
    [Fld.f, Fld.O, Fld.D].foldl (copyX (MV.mk 118 tag fid other old size offset mode perm version user tree name names qids data dir code)) { MV0 with kind := 118, tag := tag } = MV.mk 118 tag fid other old size offset mode perm version user tree name names qids data dir code := by
  have c : (MV.mk 118 tag fid other old size offset mode perm version user tree name names qids data dir code).blanked.Clear := h
  obtain rfl : other = 0 := c.other
  obtain rfl : old = 0 := c.old
  obtain rfl : size = 0 := c.size
  obtain rfl : mode = 0 := c.mode
  obtain rfl : perm = 0 := c.perm
  obtain rfl : version = ⟨#[]⟩ := c.version
  obtain rfl : user = ⟨#[]⟩ := c.user
  obtain rfl : tree = ⟨#[]⟩ := c.tree
  obtain rfl : name = ⟨#[]⟩ := c.name
  obtain rfl : names = [] := c.names
  obtain rfl : qids = [] := c.qids
  obtain rfl : dir = DV0 := c.dir
  obtain rfl : code = 0 := c.code
  rfl
theorem copy_119 (tag fid other old size offset mode perm code : Int) (version user tree name : ByteArray) (names : List ByteArray) (qids : List QV) (data : ByteArray) (dir : DV) (h : (MV.mk 119 tag fid other old size offset mode perm version user tree name names qids data dir code).Shaped) :
    [Fld.S].foldl (copyX (MV.mk 119 tag fid other old size offset mode perm version user tree name names qids data dir code)) { MV0 with kind := 119, tag := tag } = MV.mk 119 tag fid other old size offset mode perm version user tree name names qids data dir code := by
  have c : (MV.mk 119 tag fid other old size offset mode perm version user tree name names qids data dir code).blanked.Clear := h
  obtain rfl : fid = 0 := c.fid
  obtain rfl : other = 0 := c.other
  obtain rfl : old = 0 := c.old
  obtain rfl : offset = 0 := c.offset
  obtain rfl : mode = 0 := c.mode
  obtain rfl : perm = 0 := c.perm
  obtain rfl : version = ⟨#[]⟩ := c.version
  obtain rfl : user = ⟨#[]⟩ := c.user
  obtain rfl : tree = ⟨#[]⟩ := c.tree
  obtain rfl : name = ⟨#[]⟩ := c.name
  obtain rfl : names = [] := c.names
  obtain rfl : qids = [] := c.qids
  obtain rfl : data = ⟨#[]⟩ := c.data
  obtain rfl : dir = DV0 := c.dir
  obtain rfl : code = 0 := c.code
  rfl
theorem copy_120 (tag fid other old size offset mode perm code : Int) (version user tree name : ByteArray) (names : List ByteArray) (qids : List QV) (data : ByteArray) (dir : DV) (h : (MV.mk 120 tag fid other old size offset mode perm version user tree name names qids data dir code).Shaped) :
    [Fld.f].foldl (copyX (MV.mk 120 tag fid other old size offset mode perm version user tree name names qids data dir code)) { MV0 with kind := 120, tag := tag } = MV.mk 120 tag fid other old size offset mode perm version user tree name names qids data dir code := by
  have c : (MV.mk 120 tag fid other old size offset mode perm version user tree name names qids data dir code).blanked.Clear := h
  obtain rfl : other = 0 := c.other
  obtain rfl : old = 0 := c.old
  obtain rfl : size = 0 := c.size
  obtain rfl : offset = 0 := c.offset
  obtain rfl : mode = 0 := c.mode
  obtain rfl : perm = 0 := c.perm
  obtain rfl : version = ⟨#[]⟩ := c.version
  obtain rfl : user = ⟨#[]⟩ := c.user
  obtain rfl : tree = ⟨#[]⟩ := c.tree
  obtain rfl : name = ⟨#[]⟩ := c.name
  obtain rfl : names = [] := c.names
  obtain rfl : qids = [] := c.qids
  obtain rfl : data = ⟨#[]⟩ := c.data
  obtain rfl : dir = DV0 := c.dir
  obtain rfl : code = 0 := c.code
  rfl
theorem copy_121 (tag fid other old size offset mode perm code : Int) (version user tree name : ByteArray) (names : List ByteArray) (qids : List QV) (data : ByteArray) (dir : DV) (h : (MV.mk 121 tag fid other old size offset mode perm version user tree name names qids data dir code).Shaped) :
    [].foldl (copyX (MV.mk 121 tag fid other old size offset mode perm version user tree name names qids data dir code)) { MV0 with kind := 121, tag := tag } = MV.mk 121 tag fid other old size offset mode perm version user tree name names qids data dir code := by
  have c : (MV.mk 121 tag fid other old size offset mode perm version user tree name names qids data dir code).blanked.Clear := h
  obtain rfl : fid = 0 := c.fid
  obtain rfl : other = 0 := c.other
  obtain rfl : old = 0 := c.old
  obtain rfl : size = 0 := c.size
  obtain rfl : offset = 0 := c.offset
  obtain rfl : mode = 0 := c.mode
  obtain rfl : perm = 0 := c.perm
  obtain rfl : version = ⟨#[]⟩ := c.version
  obtain rfl : user = ⟨#[]⟩ := c.user
  obtain rfl : tree = ⟨#[]⟩ := c.tree
  obtain rfl : name = ⟨#[]⟩ := c.name
  obtain rfl : names = [] := c.names
  obtain rfl : qids = [] := c.qids
  obtain rfl : data = ⟨#[]⟩ := c.data
  obtain rfl : dir = DV0 := c.dir
  obtain rfl : code = 0 := c.code
  rfl
theorem copy_122 (tag fid other old size offset mode perm code : Int) (version user tree name : ByteArray) (names : List ByteArray) (qids : List QV) (data : ByteArray) (dir : DV) (h : (MV.mk 122 tag fid other old size offset mode perm version user tree name names qids data dir code).Shaped) :
    [Fld.f].foldl (copyX (MV.mk 122 tag fid other old size offset mode perm version user tree name names qids data dir code)) { MV0 with kind := 122, tag := tag } = MV.mk 122 tag fid other old size offset mode perm version user tree name names qids data dir code := by
  have c : (MV.mk 122 tag fid other old size offset mode perm version user tree name names qids data dir code).blanked.Clear := h
  obtain rfl : other = 0 := c.other
  obtain rfl : old = 0 := c.old
  obtain rfl : size = 0 := c.size
  obtain rfl : offset = 0 := c.offset
  obtain rfl : mode = 0 := c.mode
  obtain rfl : perm = 0 := c.perm
  obtain rfl : version = ⟨#[]⟩ := c.version
  obtain rfl : user = ⟨#[]⟩ := c.user
  obtain rfl : tree = ⟨#[]⟩ := c.tree
  obtain rfl : name = ⟨#[]⟩ := c.name
  obtain rfl : names = [] := c.names
  obtain rfl : qids = [] := c.qids
  obtain rfl : data = ⟨#[]⟩ := c.data
  obtain rfl : dir = DV0 := c.dir
  obtain rfl : code = 0 := c.code
  rfl
theorem copy_123 (tag fid other old size offset mode perm code : Int) (version user tree name : ByteArray) (names : List ByteArray) (qids : List QV) (data : ByteArray) (dir : DV) (h : (MV.mk 123 tag fid other old size offset mode perm version user tree name names qids data dir code).Shaped) :
    [].foldl (copyX (MV.mk 123 tag fid other old size offset mode perm version user tree name names qids data dir code)) { MV0 with kind := 123, tag := tag } = MV.mk 123 tag fid other old size offset mode perm version user tree name names qids data dir code := by
  have c : (MV.mk 123 tag fid other old size offset mode perm version user tree name names qids data dir code).blanked.Clear := h
  obtain rfl : fid = 0 := c.fid
  obtain rfl : other = 0 := c.other
  obtain rfl : old = 0 := c.old
  obtain rfl : size = 0 := c.size
  obtain rfl : offset = 0 := c.offset
  obtain rfl : mode = 0 := c.mode
  obtain rfl : perm = 0 := c.perm
  obtain rfl : version = ⟨#[]⟩ := c.version
  obtain rfl : user = ⟨#[]⟩ := c.user
  obtain rfl : tree = ⟨#[]⟩ := c.tree
  obtain rfl : name = ⟨#[]⟩ := c.name
  obtain rfl : names = [] := c.names
  obtain rfl : qids = [] := c.qids
  obtain rfl : data = ⟨#[]⟩ := c.data
  obtain rfl : dir = DV0 := c.dir
  obtain rfl : code = 0 := c.code
  rfl
theorem copy_124 (tag fid other old size offset mode perm code : Int) (version user tree name : ByteArray) (names : List ByteArray) (qids : List QV) (data : ByteArray) (dir : DV) (h : (MV.mk 124 tag fid other old size offset mode perm version user tree name names qids data dir code).Shaped) :
    [Fld.f].foldl (copyX (MV.mk 124 tag fid other old size offset mode perm version user tree name names qids data dir code)) { MV0 with kind := 124, tag := tag } = MV.mk 124 tag fid other old size offset mode perm version user tree name names qids data dir code := by
  have c : (MV.mk 124 tag fid other old size offset mode perm version user tree name names qids data dir code).blanked.Clear := h
  obtain rfl : other = 0 := c.other
  obtain rfl : old = 0 := c.old
  obtain rfl : size = 0 := c.size
  obtain rfl : offset = 0 := c.offset
  obtain rfl : mode = 0 := c.mode
  obtain rfl : perm = 0 := c.perm
  obtain rfl : version = ⟨#[]⟩ := c.version
  obtain rfl : user = ⟨#[]⟩ := c.user
  obtain rfl : tree = ⟨#[]⟩ := c.tree
  obtain rfl : name = ⟨#[]⟩ := c.name
  obtain rfl : names = [] := c.names
  obtain rfl : qids = [] := c.qids
  obtain rfl : data = ⟨#[]⟩ := c.data
  obtain rfl : dir = DV0 := c.dir
  obtain rfl : code = 0 := c.code
  rfl
theorem copy_125 (tag fid other old size offset mode perm code : Int) (version user tree name : ByteArray) (names : List ByteArray) (qids : List QV) (data : ByteArray) (dir : DV) (h : (MV.mk 125 tag fid other old size offset mode perm version user tree name names qids data dir code).Shaped) :
    [Fld.i].foldl (copyX (MV.mk 125 tag fid other old size offset mode perm version user tree name names qids data dir code)) { MV0 with kind := 125, tag := tag } = MV.mk 125 tag fid other old size offset mode perm version user tree name names qids data dir code := by
  have c : (MV.mk 125 tag fid other old size offset mode perm version user tree name names qids data dir code).blanked.Clear := h
  obtain rfl : fid = 0 := c.fid
  obtain rfl : other = 0 := c.other
  obtain rfl : old = 0 := c.old
  obtain rfl : size = 0 := c.size
  obtain rfl : offset = 0 := c.offset
  obtain rfl : mode = 0 := c.mode
  obtain rfl : perm = 0 := c.perm
  obtain rfl : version = ⟨#[]⟩ := c.version
  obtain rfl : user = ⟨#[]⟩ := c.user
  obtain rfl : tree = ⟨#[]⟩ := c.tree
  obtain rfl : name = ⟨#[]⟩ := c.name
  obtain rfl : names = [] := c.names
  obtain rfl : qids = [] := c.qids
  obtain rfl : data = ⟨#[]⟩ := c.data
  obtain rfl : code = 0 := c.code
  rfl
theorem copy_126 (tag fid other old size offset mode perm code : Int) (version user tree name : ByteArray) (names : List ByteArray) (qids : List QV) (data : ByteArray) (dir : DV) (h : (MV.mk 126 tag fid other old size offset mode perm version user tree name names qids data dir code).Shaped) :
    [Fld.f, Fld.i].foldl (copyX (MV.mk 126 tag fid other old size offset mode perm version user tree name names qids data dir code)) { MV0 with kind := 126, tag := tag } = MV.mk 126 tag fid other old size offset mode perm version user tree name names qids data dir code := by
  have c : (MV.mk 126 tag fid other old size offset mode perm version user tree name names qids data dir code).blanked.Clear := h
  obtain rfl : other = 0 := c.other
  obtain rfl : old = 0 := c.old
  obtain rfl : size = 0 := c.size
  obtain rfl : offset = 0 := c.offset
  obtain rfl : mode = 0 := c.mode
  obtain rfl : perm = 0 := c.perm
  obtain rfl : version = ⟨#[]⟩ := c.version
  obtain rfl : user = ⟨#[]⟩ := c.user
  obtain rfl : tree = ⟨#[]⟩ := c.tree
  obtain rfl : name = ⟨#[]⟩ := c.name
  obtain rfl : names = [] := c.names
  obtain rfl : qids = [] := c.qids
  obtain rfl : data = ⟨#[]⟩ := c.data
  obtain rfl : code = 0 := c.code
  rfl
theorem copy_127 (tag fid other old size offset mode perm code : Int) (version user tree name : ByteArray) (names : List ByteArray) (qids : List QV) (data : ByteArray) (dir : DV) (h : (MV.mk 127 tag fid other old size offset mode perm version user tree name names qids data dir code).Shaped) :
    [].foldl (copyX (MV.mk 127 tag fid other old size offset mode perm version user tree name names qids data dir code)) { MV0 with kind := 127, tag := tag } = MV.mk 127 tag fid other old size offset mode perm version user tree name names qids data dir code := by
  have c : (MV.mk 127 tag fid other old size offset mode perm version user tree name names qids data dir code).blanked.Clear := h
  obtain rfl : fid = 0 := c.fid
  obtain rfl : other = 0 := c.other
  obtain rfl : old = 0 := c.old
  obtain rfl : size = 0 := c.size
  obtain rfl : offset = 0 := c.offset
  obtain rfl : mode = 0 := c.mode
  obtain rfl : perm = 0 := c.perm
  obtain rfl : version = ⟨#[]⟩ := c.version
  obtain rfl : user = ⟨#[]⟩ := c.user
  obtain rfl : tree = ⟨#[]⟩ := c.tree
  obtain rfl : name = ⟨#[]⟩ := c.name
  obtain rfl : names = [] := c.names
  obtain rfl : qids = [] := c.qids
  obtain rfl : data = ⟨#[]⟩ := c.data
  obtain rfl : dir = DV0 := c.dir
  obtain rfl : code = 0 := c.code
  rfl
theorem shaped_copy (m : MV) (hk : (fieldsOf m.kind).isSome = true) (h : m.Shaped) : ((fieldsOf m.kind).getD []).foldl (copyX m) { MV0 with kind := m.kind, tag := m.tag } = m := by
  rcases m with ⟨kind, tag, fid, other, old, size, offset, mode, perm, version, user, tree, name, names, qids, data, dir, code⟩
  rcases fieldsOf_cases _ hk with h0 | h0 | h0 | h0 | h0 | h0 | h0 | h0 | h0 | h0 | h0 | h0 | h0 | h0 | h0 | h0 | h0 | h0 | h0 | h0 | h0 | h0 | h0 | h0 | h0 | h0 | h0
  all_goals (have h0 : kind = _ := h0; subst h0)
  · exact copy_100 tag fid other old size offset mode perm code version user tree name names qids data dir h
  · exact copy_101 tag fid other old size offset mode perm code version user tree name names qids data dir h
  · exact copy_102 tag fid other old size offset mode perm code version user tree name names qids data dir h
  · exact copy_103 tag fid other old size offset mode perm code version user tree name names qids data dir h
  · exact copy_104 tag fid other old size offset mode perm code version user tree name names qids data dir h
  · exact copy_105 tag fid other old size offset mode perm code version user tree name names qids data dir h
  · exact copy_107 tag fid other old size offset mode perm code version user tree name names qids data dir h
  · exact copy_108 tag fid other old size offset mode perm code version user tree name names qids data dir h
  · exact copy_109 tag fid other old size offset mode perm code version user tree name names qids data dir h
  · exact copy_110 tag fid other old size offset mode perm code version user tree name names qids data dir h
  · exact copy_111 tag fid other old size offset mode perm code version user tree name names qids data dir h
  · exact copy_112 tag fid other old size offset mode perm code version user tree name names qids data dir h
  · exact copy_113 tag fid other old size offset mode perm code version user tree name names qids data dir h
  · exact copy_114 tag fid other old size offset mode perm code version user tree name names qids data dir h
  · exact copy_115 tag fid other old size offset mode perm code version user tree name names qids data dir h
  · exact copy_116 tag fid other old size offset mode perm code version user tree name names qids data dir h
  · exact copy_117 tag fid other old size offset mode perm code version user tree name names qids data dir h
  · exact copy_118 tag fid other old size offset mode perm code version user tree name names qids data dir h
  · exact copy_119 tag fid other old size offset mode perm code version user tree name names qids data dir h
  · exact copy_120 tag fid other old size offset mode perm code version user tree name names qids data dir h
  · exact copy_121 tag fid other old size offset mode perm code version user tree name names qids data dir h
  · exact copy_122 tag fid other old size offset mode perm code version user tree name names qids data dir h
  · exact copy_123 tag fid other old size offset mode perm code version user tree name names qids data dir h
  · exact copy_124 tag fid other old size offset mode perm code version user tree name names qids data dir h
  · exact copy_125 tag fid other old size offset mode perm code version user tree name names qids data dir h
  · exact copy_126 tag fid other old size offset mode perm code version user tree name names qids data dir h
  · exact copy_127 tag fid other old size offset mode perm code version user tree name names qids data dir h

theorem fieldsOf_range (k : Int) (h : (fieldsOf k).isSome = true) : 100 ≤ k ∧ k ≤ 127 := by
  rcases fieldsOf_cases k h with rfl | rfl | rfl | rfl | rfl | rfl | rfl | rfl | rfl | rfl | rfl | rfl | rfl | rfl | rfl | rfl | rfl | rfl | rfl | rfl | rfl | rfl | rfl | rfl | rfl | rfl | rfl <;> omega

/-- What Encode gives for a valid message: its parts. -/
theorem encode_parts (m : MV) (s : ByteArray) (h : m.encode = (s, 0)) : (fieldsOf m.kind).isSome = true ∧ m.Shaped ∧ (fitsB m.tag 2 = true ∧ ∀ x ∈ (fieldsOf m.kind).getD [], okX m x) ∧
    ∃ l, l = leB m.kind 1 ++ leB m.tag 2 ++ ((fieldsOf m.kind).getD []).flatMap (encX m) ∧ bs s = leB (l.length + 4 : Nat) 4 ++ l ∧ l.length + 4 ≤ 8192 := by
  unfold MV.encode at h
  cases hk : (fieldsOf m.kind).isSome with
  | false => rw [hk, if_pos rfl] at h; injection h with _ h2; exact absurd h2 (by decide)
  | true =>
    rw [hk, if_neg (by decide)] at h
    cases hs : m.shapedB with
    | false => rw [hs, if_pos rfl] at h; injection h with _ h2; exact absurd h2 (by decide)
    | true =>
      rw [hs, if_neg (by decide)] at h
      by_cases hc : (OS.msg m).done.code ≠ 0
      · rw [if_pos hc] at h; injection h with _ h2; exact absurd h2 hc
      · rw [if_neg hc] at h
        injection h with h1 _
        have hc : (OS.msg m).done.code = 0 := Decidable.byContradiction hc
        unfold OS.code at hc
        have hb : (OS.msg m).bad = false := by
          cases hb : (OS.msg m).bad with
          | false => rfl
          | true => rw [if_pos (show (OS.msg m).done.bad = true from hb)] at hc; cases hc
        have ho : (OS.msg m).done.over = false := by
          cases ho : (OS.msg m).done.over with
          | false => rfl
          | true => rw [if_neg (by show ¬ (OS.msg m).bad = true; rw [hb]; decide), if_pos ho] at hc; cases hc
        have ho2 : ((OS.msg m).over || decide (8192 < (OS.msg m).l.length + 4)) = false := ho
        rw [Bool.or_eq_false_iff] at ho2
        have hkr := fieldsOf_range _ hk
        have hG : Good (OS.mk [] false false) (OS.msg m) _ _ := ((good_little _ m.kind 1 (decide_eq_true (by omega))).comp (good_num _ m.tag 2)).comp (good_visits m ((fieldsOf m.kind).getD []) _)
        obtain ⟨_, _, hl, ⟨_, ht⟩, hx⟩ := hG hb ho2.1
        refine ⟨rfl, (shapedB_iff m).1 hs, ⟨ht, hx⟩, _, rfl, ?_, ?_⟩
        · rw [← h1, bs_mk, hl]; rfl
        · have := of_decide_eq_false ho2.2
          rw [hl] at this
          exact Nat.le_of_not_lt this

theorem leB_small (n : Nat) (h : n < 4294967296) : leVal (leB (n : Int) 4) = n := by rw [leVal_leB, Nat.mod_eq_of_lt (by omega)]

/-- Decode of what Encode gives is the message. -/
theorem decode_encode (m : MV) (s : ByteArray) (hr : m.R) (h : m.encode = (s, 0)) : decode s = (m, 0) ∧ EncOk s := by
  obtain ⟨hk, hsh, ⟨ht, hx⟩, l, hl, hb, h8⟩ := encode_parts m s h
  have hsz : s.size = l.length + 4 := by rw [← bs_length, hb, List.length_append, leB_length]; omega
  have hl3 : 3 ≤ l.length := by rw [hl, List.length_append, List.length_append, leB_length, leB_length]; omega
  have hlen : lenOf s = s.size := by
    rw [lenOf_eq]
    unfold lenL
    rw [if_pos (by rw [bs_length]; omega), hb, List.take_left' (leB_length _ _), leB_small _ (by omega), hsz]
  refine ⟨?_, ⟨by omega, by omega, by rw [← lenOf_eq]; exact hlen⟩⟩
  have hA0 : At (IS.ofMsg s) (leB m.kind 1 ++ (leB m.tag 2 ++ (((fieldsOf m.kind).getD []).flatMap (encX m) ++ []))) := by
    have := at_new (s.extract 4 s.size)
    have e : bs (s.extract 4 s.size) = l := by
      rw [bs_extract, List.take_of_length_le (by rw [bs_length]; exact Nat.le_refl _), hb, List.drop_left' (leB_length _ _)]
    rw [e, hl] at this
    simpa [IS.ofMsg] using this
  have hkr := fieldsOf_range _ hk
  obtain ⟨a1, a2⟩ := reads_num m.kind 1 (decide_eq_true (by omega)) _ _ hA0
  obtain ⟨b1, b2⟩ := reads_num m.tag 2 ht _ _ a2
  have a1 : ((IS.ofMsg s).num 1).1 = m.kind := a1
  have b1 : (((IS.ofMsg s).num 1).2.num 2).1 = m.tag := b1
  have hkn : knd s = m.kind := a1
  obtain ⟨c1, c2⟩ := reads_visits m hr.lo ((fieldsOf m.kind).getD []) hx (fun hq => hsh.one (q_one _ hq)) { MV0 with kind := m.kind, tag := m.tag } _ [] b2
  have hmsg : IS.msg s = (VIn 0 0).visits (BIn 0 0) ((fieldsOf m.kind).getD []) (((IS.ofMsg s).num 1).2.num 2).2 { MV0 with kind := m.kind, tag := m.tag } := by
    show (VIn 0 0).visits (BIn 0 0) ((fieldsOf ((IS.ofMsg s).num 1).1).getD []) _ { MV0 with kind := ((IS.ofMsg s).num 1).1, tag := (((IS.ofMsg s).num 1).2.num 2).1 } = _
    rw [a1, b1]
  obtain ⟨f1, f2, f3⟩ := At.finish (i := (IS.msg s).2) (by rw [hmsg]; exact c2)
  have hcode : (IS.msg s).2.finish.code = 0 := by unfold IS.code; rw [f1, f2, f3]; rfl
  have hm1 : (IS.msg s).1 = m := by rw [hmsg]; exact c1.trans (shaped_copy m hk hsh)
  unfold decode
  rw [if_neg (by omega), if_neg (by rw [hlen]; omega), if_neg (by rw [hlen]; simp), if_neg (by rw [hkn, hk]; decide), if_neg (by rw [hcode]; simp), hm1]
end Go.Proofs.YtggkebngkkddhaaDoor
