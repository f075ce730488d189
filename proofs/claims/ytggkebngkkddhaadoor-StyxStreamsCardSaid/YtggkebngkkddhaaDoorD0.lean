/- A message in memory; what a visitor's calls do to it. -/
import Derived.Test.YtggkebngkkddhaaDoorC3
namespace Go.Proofs.YtggkebngkkddhaaDoor
open Go.RowKit

structure MV where
  kind : Int
  tag : Int
  fid : Int
  other : Int
  old : Int
  size : Int
  offset : Int
  mode : Int
  perm : Int
  version : ByteArray
  user : ByteArray
  tree : ByteArray
  name : ByteArray
  names : List ByteArray
  qids : List QV
  data : ByteArray
  dir : DV
  code : Int
def mcells (m : MV) (vn vq : Value) : Array Value :=
  #[.int .i64 m.kind, .int .i64 m.tag, .int .i64 m.fid, .int .i64 m.other, .int .i64 m.old, .int .i64 m.size, .int .i64 m.offset, .int .i64 m.mode, .int .i64 m.perm,
    .string m.version, .string m.user, .string m.tree, .string m.name, vn, vq, .string m.data,
    .int .i64 m.dir.q.k, .int .i64 m.dir.q.v, .int .i64 m.dir.q.p, .int .i64 m.dir.mode, .int .i64 m.dir.time, .int .i64 m.dir.len, .string m.dir.name, .string m.dir.owner, .string m.dir.group, .string m.dir.last, .int .i64 m.code]

/-- What a visitor does with lists and a Dir. -/
structure Vis.Big (V : Vis) where
  fnames : FuncId
  fqids : FuncId
  fdir : FuncId
  names : V.σ → List ByteArray → List ByteArray × V.σ
  qids : V.σ → List QV → List QV × V.σ
  dir : V.σ → DV → DV × V.σ
  preN : Value → List ByteArray → Prop
  preQ : Value → List QV → Prop

/-- Behind a visit of a list: what p holds reads as in R. -/
def LPost (V : Vis) (F : Nat → Prop) (w : World) (p : Addr) (vs : Value) (st' : V.σ) (R : World → Value → Prop) (e : Ending) (w' : World) : Prop :=
  e = .returned (.tuple #[]) ∧ ∃ vs' F', V.inv st' F' w' ∧ (∀ c, F' c → F c ∨ w.heap.size ≤ c) ∧ Fr F (w.setCell p vs') w' ∧ R w' vs' ∧ Apart vs' F' ∧ (∀ S : Nat → Prop, (∀ c, S c → c < w.heap.size) → Apart vs S → Apart vs' S)

structure Vis.BigGood (V : Vis) (B : V.Big) : Prop where
  mnames : Meth V.T V.v "acheron/styx.names" B.fnames
  mqids : Meth V.T V.v "acheron/styx.qids" B.fqids
  mdir : Meth V.T V.v "acheron/styx.dir" B.fdir
  hnames : ∀ st b o F w vs l, V.inv st F w → ¬ F b → w.cell? ⟨b, o, none⟩ = some vs → w.frozen? ⟨b, o, none⟩ = false → StrsAt w vs l → Apart vs F → B.preN vs l → V.fit st (sizes l + 20) →
    Calls Tryd.prog B.fnames #[V.v, .pointer (some ⟨b, o, none⟩)] w (LPost V F w ⟨b, o, none⟩ vs (B.names st l).2 (fun w' v' => StrsAt w' v' (B.names st l).1))
  hqids : ∀ st b o F w vs l, V.inv st F w → ¬ F b → w.cell? ⟨b, o, none⟩ = some vs → w.frozen? ⟨b, o, none⟩ = false → QidsAt w vs l → Apart vs F → B.preQ vs l → (∀ q ∈ l, i64r q.p) → V.fit st (13 * l.length + 100) →
    Calls Tryd.prog B.fqids #[V.v, .pointer (some ⟨b, o, none⟩)] w (LPost V F w ⟨b, o, none⟩ vs (B.qids st l).2 (fun w' v' => QidsAt w' v' (B.qids st l).1))
  hdir : ∀ st b o F w d, V.inv st F w → ¬ F b → DAt w b o d → NoFrz w b → d.R → V.fit st (d.room + 400) →
    Calls Tryd.prog B.fdir #[V.v, .pointer (some ⟨b, o, none⟩)] w (fun e w' => e = .returned (.tuple #[]) ∧ VS V F w (B.dir st d).2 (setD w b o (B.dir st d).1) w')

theorem Apart.mono {v : Value} {S S' : Nat → Prop} (h : Apart v S) (hs : ∀ c, S' c → S c) : Apart v S' := fun a n c e hn x => h a n c e hn (hs _ x)
theorem Apart.or {v : Value} {S S' : Nat → Prop} (h : Apart v S) (h' : Apart v S') : Apart v (fun c => S c ∨ S' c) := fun a n c e hn x => x.elim (h a n c e hn) (h' a n c e hn)
theorem StrsAt.lt {w : World} {v : Value} {l : List ByteArray} (h : StrsAt w v l) {a : Addr} {n c : Nat} (e : v = .slice (some a) n c) (hn : 0 < n) : a.block < w.heap.size := by
  obtain ⟨oa, cap, rfl, h⟩ := h
  injection e with e1 e2 e3
  subst e1 e2
  obtain ⟨b, o, e, hc⟩ := h 0 _ (List.getElem?_eq_getElem hn)
  injection e with e
  subst e
  exact cell_lt hc
theorem QidsAt.lt {w : World} {v : Value} {l : List QV} (h : QidsAt w v l) {a : Addr} {n c : Nat} (e : v = .slice (some a) n c) (hn : 0 < n) : a.block < w.heap.size := by
  obtain ⟨oa, cap, rfl, h⟩ := h
  injection e with e1 e2 e3
  subst e1 e2
  obtain ⟨b, o, e, hc⟩ := h 0 _ (List.getElem?_eq_getElem hn)
  injection e with e
  subst e
  exact cell_lt hc.1.1
theorem NoFrz.at {w : World} {b : Nat} (h : NoFrz w b) (o n : Nat) : NoFrzAt w b o n := fun i _ => h (o + i)
theorem Blk.noFrz {w : World} {g : Nat} {t : TypeId} {cs : Array Value} (h : Blk w g t cs) : NoFrz w g := fun o => h.frozen o

/-- Where a visitor stands between the fields of a message that lies in block b; S: blocks in which its lists do not lie. -/
structure MS (V : Vis) (F S : Nat → Prop) (w : World) (b : Nat) (st : V.σ) (m : MV) (vn vq : Value) (w' : World) : Prop where
  ex : ∃ F', V.inv st F' w' ∧ (∀ c, F' c → F c ∨ w.heap.size ≤ c) ∧ Apart vn F' ∧ Apart vq F'
  nb : ¬ F b
  lt : b < w.heap.size
  blk : Blk w' b 31 (mcells m vn vq)
  ns : StrsAt w' vn m.names
  qs : QidsAt w' vq m.qids
  an : Apart vn (fun c => c = b)
  aq : Apart vq (fun c => c = b)
  fr : Fr (fun c => F c ∨ c = b) w w'
  sl : ∀ c, S c → c < w.heap.size
  sn : Apart vn S
  sq : Apart vq S

theorem MS.drew {V : Vis} (hV : V.Good) {F S : Nat → Prop} {w w' : World} {b : Nat} {st : V.σ} {m : MV} {vn vq : Value} (h : MS V F S w b st m vn vq w') : MS V F S w b st m vn vq w'.drew := by
  obtain ⟨F', hi, hF, a1, a2⟩ := h.ex
  exact ⟨⟨F', hV.drew _ _ _ hi, hF, a1, a2⟩, h.nb, h.lt, h.blk, h.ns, h.qs, h.an, h.aq, h.fr.drew, h.sl, h.sn, h.sq⟩

/-- Behind a visit that writes b and what is the visitor's alone. -/
theorem MS.after {V : Vis} {F S F' F2 : Nat → Prop} {w wk w' : World} {b : Nat} {st st' : V.σ} {m m' : MV} {vn vq : Value} (h : MS V F S w b st m vn vq wk) (hF : ∀ c, F' c → F c ∨ w.heap.size ≤ c) (a1 : Apart vn F') (a2 : Apart vq F')
    (hi : V.inv st' F2 w') (hF2 : ∀ c, F2 c → F' c ∨ wk.heap.size ≤ c) (hfr : Fr (fun c => F' c ∨ c = b) wk w') (hb : Blk w' b 31 (mcells m' vn vq)) (en : m'.names = m.names) (eq : m'.qids = m.qids) : MS V F S w b st' m' vn vq w' := by
  have hsz := h.fr.1
  refine ⟨⟨F2, hi, fun c hc => ?_, fun a n c e hn x => ?_, fun a n c e hn x => ?_⟩, h.nb, h.lt, hb, ?_, ?_, h.an, h.aq, ?_, h.sl, h.sn, h.sq⟩
  · rcases hF2 c hc with x | x
    · exact hF c x
    · exact .inr (by omega)
  · rcases hF2 _ x with y | y
    · exact a1 a n c e hn y
    · have := h.ns.lt e hn; omega
  · rcases hF2 _ x with y | y
    · exact a2 a n c e hn y
    · have := h.qs.lt e hn; omega
  · rw [en]; exact h.ns.fr hfr (a1.or h.an)
  · rw [eq]; exact h.qs.fr hfr (a2.or h.aq)
  · refine h.fr.trans_ hfr (fun c hc hl => ?_)
    rcases hc with x | x
    · rcases hF c x with y | y
      · exact .inl y
      · omega
    · exact .inr x

/-- A visit of one cell of the message. -/
theorem MS.call {V : Vis} {F S : Nat → Prop} {w wk : World} {b o : Nat} {st st' : V.σ} {m m' : MV} {vn vq old u : Value} {f : FuncId} {args : Array Value} (hc : VCall V f args st ⟨b, o, none⟩ old u st') (h : MS V F S w b st m vn vq wk)
    (ho : (mcells m vn vq)[o]? = some old) (hu : (mcells m vn vq).setIfInBounds o u = mcells m' vn vq) (en : m'.names = m.names) (eq : m'.qids = m.qids) :
    Calls Tryd.prog f args wk (fun e w' => e = .returned (.tuple #[]) ∧ MS V F S w b st' m' vn vq w') := by
  obtain ⟨F', hi, hF, a1, a2⟩ := h.ex
  have hb' : ¬ F' b := fun x => (hF _ x).elim h.nb (fun e => by have := h.lt; omega)
  refine (hc F' wk hi hb' (by rw [h.blk.cell]; exact ho) (h.blk.frozen o)).mono ?_
  rintro e w' ⟨rfl, F2, hi2, hF2, hfr2, hs2⟩
  refine ⟨rfl, h.after hF a1 a2 hi2 hF2 ?_ ?_ en eq⟩
  · exact ((Fr.refl _ wk).set (p := ⟨b, o, none⟩) (Or.inr rfl) u).trans (hfr2.mono (fun c x => .inl x))
  · have := h.blk.set_ o u
    rw [hu] at this
    exact hfr2.blk this hb'

theorem set_cell {w : World} {b o : Nat} {t : TypeId} {cs cs' : Array Value} {u : Value} (h : Blk w b t cs) (e : cs.setIfInBounds o u = cs') : Blk (w.setCell ⟨b, o, none⟩ u) b t cs' := e ▸ h.set_ o u
theorem blk_setD {w : World} {b : Nat} {m : MV} {vn vq : Value} (h : Blk w b 31 (mcells m vn vq)) (d : DV) : Blk (setD w b 16 d) b 31 (mcells { m with dir := d } vn vq) := by
  unfold setD setQ
  have h0 := set_cell (o := 16) (u := .int .i64 d.q.k) (cs' := mcells { m with dir := { m.dir with q := { m.dir.q with k := d.q.k } } } vn vq) h rfl
  have h1 := set_cell (o := 17) (u := .int .i64 d.q.v) (cs' := mcells { m with dir := { m.dir with q := { d.q with p := m.dir.q.p } } } vn vq) h0 rfl
  have h2 := set_cell (o := 18) (u := .int .i64 d.q.p) (cs' := mcells { m with dir := { m.dir with q := d.q } } vn vq) h1 rfl
  have h3 := set_cell (o := 19) (u := .int .i64 d.mode) (cs' := mcells { m with dir := { m.dir with q := d.q, mode := d.mode } } vn vq) h2 rfl
  have h4 := set_cell (o := 20) (u := .int .i64 d.time) (cs' := mcells { m with dir := { m.dir with q := d.q, mode := d.mode, time := d.time } } vn vq) h3 rfl
  have h5 := set_cell (o := 21) (u := .int .i64 d.len) (cs' := mcells { m with dir := { m.dir with q := d.q, mode := d.mode, time := d.time, len := d.len } } vn vq) h4 rfl
  have h6 := set_cell (o := 22) (u := .string d.name) (cs' := mcells { m with dir := { m.dir with q := d.q, mode := d.mode, time := d.time, len := d.len, name := d.name } } vn vq) h5 rfl
  have h7 := set_cell (o := 23) (u := .string d.owner) (cs' := mcells { m with dir := { m.dir with q := d.q, mode := d.mode, time := d.time, len := d.len, name := d.name, owner := d.owner } } vn vq) h6 rfl
  have h8 := set_cell (o := 24) (u := .string d.group) (cs' := mcells { m with dir := { d with last := m.dir.last } } vn vq) h7 rfl
  exact set_cell (o := 25) (u := .string d.last) (cs' := mcells { m with dir := d } vn vq) h8 rfl
theorem MS.dat {V : Vis} {F S : Nat → Prop} {w wk : World} {b : Nat} {st : V.σ} {m : MV} {vn vq : Value} (h : MS V F S w b st m vn vq wk) : DAt wk b 16 m.dir :=
  ⟨⟨h.blk.cell 16, h.blk.cell 17, h.blk.cell 18⟩, h.blk.cell 19, h.blk.cell 20, h.blk.cell 21, h.blk.cell 22, h.blk.cell 23, h.blk.cell 24, h.blk.cell 25⟩

section
variable {V : Vis} {B : V.Big} {F S : Nat → Prop} {w wk : World} {b : Nat} {st : V.σ} {m : MV} {vn vq : Value}

theorem MS.dir (hB : V.BigGood B) (h : MS V F S w b st m vn vq wk) (hr : m.dir.R) (hfit : V.fit st (m.dir.room + 400)) :
    Calls Tryd.prog B.fdir #[V.v, .pointer (some ⟨b, 16, none⟩)] wk (fun e w' => e = .returned (.tuple #[]) ∧ MS V F S w b (B.dir st m.dir).2 { m with dir := (B.dir st m.dir).1 } vn vq w') := by
  obtain ⟨F', hi, hF, a1, a2⟩ := h.ex
  have hb' : ¬ F' b := fun x => (hF _ x).elim h.nb (fun e => by have := h.lt; omega)
  refine (hB.hdir st b 16 F' wk m.dir hi hb' h.dat h.blk.noFrz hr hfit).mono ?_
  rintro e w' ⟨rfl, F2, hi2, hF2, hfr2, hs2⟩
  refine ⟨rfl, h.after hF a1 a2 hi2 hF2 ?_ ?_ rfl rfl⟩
  · exact ((Fr.refl _ wk).setD_ 16 _ (Or.inr rfl)).trans (hfr2.mono (fun c x => .inl x))
  · exact hfr2.blk (blk_setD h.blk _) hb'

theorem MS.names (hB : V.BigGood B) (h : MS V F S w b st m vn vq wk) (hp : B.preN vn m.names) (hfit : V.fit st (sizes m.names + 20)) :
    Calls Tryd.prog B.fnames #[V.v, .pointer (some ⟨b, 13, none⟩)] wk (fun e w' => e = .returned (.tuple #[]) ∧ ∃ vn', MS V F S w b (B.names st m.names).2 { m with names := (B.names st m.names).1 } vn' vq w') := by
  obtain ⟨F', hi, hF, a1, a2⟩ := h.ex
  have hb' : ¬ F' b := fun x => (hF _ x).elim h.nb (fun e => by have := h.lt; omega)
  refine (hB.hnames st b 13 F' wk vn m.names hi hb' (h.blk.cell 13) (h.blk.frozen 13) h.ns a1 hp hfit).mono ?_
  rintro e w' ⟨rfl, vn', F2, hi2, hF2, hfr2, hR, hA, hS⟩
  have hblk : Blk w' b 31 (mcells { m with names := (B.names st m.names).1 } vn' vq) := by
    have := h.blk.set_ 13 vn'
    exact hfr2.blk this hb'
  have hfr : Fr (fun c => F' c ∨ c = b) wk w' := ((Fr.refl _ wk).set (p := ⟨b, 13, none⟩) (Or.inr rfl) vn').trans (hfr2.mono (fun c x => .inl x))
  refine ⟨rfl, vn', ⟨⟨F2, hi2, fun c hc => ?_, hA, fun a n c e hn x => ?_⟩, h.nb, h.lt, hblk, hR, h.qs.fr hfr (a2.or h.aq), hS _ (fun c hc => by subst hc; exact h.blk.lt) h.an, h.aq, ?_, h.sl, hS S (fun c hc => Nat.lt_of_lt_of_le (h.sl c hc) h.fr.1) h.sn, h.sq⟩⟩
  · rcases hF2 c hc with x | x
    · exact hF c x
    · have := h.fr.1; exact .inr (by omega)
  · rcases hF2 _ x with y | y
    · exact a2 a n c e hn y
    · have := h.qs.lt e hn; omega
  · refine h.fr.trans_ hfr (fun c hc hl => ?_)
    rcases hc with x | x
    · rcases hF c x with y | y
      · exact .inl y
      · omega
    · exact .inr x

theorem MS.qids (hB : V.BigGood B) (h : MS V F S w b st m vn vq wk) (hp : B.preQ vq m.qids) (hr : ∀ q ∈ m.qids, i64r q.p) (hfit : V.fit st (13 * m.qids.length + 100)) :
    Calls Tryd.prog B.fqids #[V.v, .pointer (some ⟨b, 14, none⟩)] wk (fun e w' => e = .returned (.tuple #[]) ∧ ∃ vq', MS V F S w b (B.qids st m.qids).2 { m with qids := (B.qids st m.qids).1 } vn vq' w') := by
  obtain ⟨F', hi, hF, a1, a2⟩ := h.ex
  have hb' : ¬ F' b := fun x => (hF _ x).elim h.nb (fun e => by have := h.lt; omega)
  refine (hB.hqids st b 14 F' wk vq m.qids hi hb' (h.blk.cell 14) (h.blk.frozen 14) h.qs a2 hp hr hfit).mono ?_
  rintro e w' ⟨rfl, vq', F2, hi2, hF2, hfr2, hR, hA, hS⟩
  have hblk : Blk w' b 31 (mcells { m with qids := (B.qids st m.qids).1 } vn vq') := by
    have := h.blk.set_ 14 vq'
    exact hfr2.blk this hb'
  have hfr : Fr (fun c => F' c ∨ c = b) wk w' := ((Fr.refl _ wk).set (p := ⟨b, 14, none⟩) (Or.inr rfl) vq').trans (hfr2.mono (fun c x => .inl x))
  refine ⟨rfl, vq', ⟨⟨F2, hi2, fun c hc => ?_, fun a n c e hn x => ?_, hA⟩, h.nb, h.lt, hblk, h.ns.fr hfr (a1.or h.an), hR, h.an, hS _ (fun c hc => by subst hc; exact h.blk.lt) h.aq, ?_, h.sl, h.sn, hS S (fun c hc => Nat.lt_of_lt_of_le (h.sl c hc) h.fr.1) h.sq⟩⟩
  · rcases hF2 c hc with x | x
    · exact hF c x
    · have := h.fr.1; exact .inr (by omega)
  · rcases hF2 _ x with y | y
    · exact a1 a n c e hn y
    · have := h.ns.lt e hn; omega
  · refine h.fr.trans_ hfr (fun c hc hl => ?_)
    rcases hc with x | x
    · rcases hF c x with y | y
      · exact .inl y
      · omega
    · exact .inr x

theorem MS.n_size (hV : V.Good) (h : MS V F S w b st m vn vq wk) (hfit : V.fit st 8) :
    Calls Tryd.prog V.fnum #[V.v, .pointer (some ⟨b, 5, none⟩), .int .i64 4] wk (fun e w' => e = .returned (.tuple #[]) ∧ MS V F S w b (V.num st m.size 4).2 { m with size := (V.num st m.size 4).1 } vn vq w') :=
  MS.call (hV.hnum st b 5 m.size 4 (by omega) hfit) h rfl rfl rfl rfl
theorem MS.tag_ (hV : V.Good) (h : MS V F S w b st m vn vq wk) (hfit : V.fit st 8) :
    Calls Tryd.prog V.fnum #[V.v, .pointer (some ⟨b, 1, none⟩), .int .i64 2] wk (fun e w' => e = .returned (.tuple #[]) ∧ MS V F S w b (V.num st m.tag 2).2 { m with tag := (V.num st m.tag 2).1 } vn vq w') :=
  MS.call (hV.hnum st b 1 m.tag 2 (by omega) hfit) h rfl rfl rfl rfl
theorem MS.n_fid (hV : V.Good) (h : MS V F S w b st m vn vq wk) (hfit : V.fit st 8) :
    Calls Tryd.prog V.fnum #[V.v, .pointer (some ⟨b, 2, none⟩), .int .i64 4] wk (fun e w' => e = .returned (.tuple #[]) ∧ MS V F S w b (V.num st m.fid 4).2 { m with fid := (V.num st m.fid 4).1 } vn vq w') :=
  MS.call (hV.hnum st b 2 m.fid 4 (by omega) hfit) h rfl rfl rfl rfl
theorem MS.n_other (hV : V.Good) (h : MS V F S w b st m vn vq wk) (hfit : V.fit st 8) :
    Calls Tryd.prog V.fnum #[V.v, .pointer (some ⟨b, 3, none⟩), .int .i64 4] wk (fun e w' => e = .returned (.tuple #[]) ∧ MS V F S w b (V.num st m.other 4).2 { m with other := (V.num st m.other 4).1 } vn vq w') :=
  MS.call (hV.hnum st b 3 m.other 4 (by omega) hfit) h rfl rfl rfl rfl
theorem MS.n_perm (hV : V.Good) (h : MS V F S w b st m vn vq wk) (hfit : V.fit st 8) :
    Calls Tryd.prog V.fnum #[V.v, .pointer (some ⟨b, 8, none⟩), .int .i64 4] wk (fun e w' => e = .returned (.tuple #[]) ∧ MS V F S w b (V.num st m.perm 4).2 { m with perm := (V.num st m.perm 4).1 } vn vq w') :=
  MS.call (hV.hnum st b 8 m.perm 4 (by omega) hfit) h rfl rfl rfl rfl
theorem MS.n_old (hV : V.Good) (h : MS V F S w b st m vn vq wk) (hfit : V.fit st 8) :
    Calls Tryd.prog V.fnum #[V.v, .pointer (some ⟨b, 4, none⟩), .int .i64 2] wk (fun e w' => e = .returned (.tuple #[]) ∧ MS V F S w b (V.num st m.old 2).2 { m with old := (V.num st m.old 2).1 } vn vq w') :=
  MS.call (hV.hnum st b 4 m.old 2 (by omega) hfit) h rfl rfl rfl rfl
theorem MS.n_mode (hV : V.Good) (h : MS V F S w b st m vn vq wk) (hfit : V.fit st 8) :
    Calls Tryd.prog V.fnum #[V.v, .pointer (some ⟨b, 7, none⟩), .int .i64 1] wk (fun e w' => e = .returned (.tuple #[]) ∧ MS V F S w b (V.num st m.mode 1).2 { m with mode := (V.num st m.mode 1).1 } vn vq w') :=
  MS.call (hV.hnum st b 7 m.mode 1 (by omega) hfit) h rfl rfl rfl rfl
theorem MS.t_version (hV : V.Good) (h : MS V F S w b st m vn vq wk) (hfit : V.fit st (m.version.size + 8)) :
    Calls Tryd.prog V.ftext #[V.v, .pointer (some ⟨b, 9, none⟩)] wk (fun e w' => e = .returned (.tuple #[]) ∧ MS V F S w b (V.text st m.version).2 { m with version := (V.text st m.version).1 } vn vq w') :=
  MS.call (hV.htext st b 9 m.version hfit) h rfl rfl rfl rfl
theorem MS.t_user (hV : V.Good) (h : MS V F S w b st m vn vq wk) (hfit : V.fit st (m.user.size + 8)) :
    Calls Tryd.prog V.ftext #[V.v, .pointer (some ⟨b, 10, none⟩)] wk (fun e w' => e = .returned (.tuple #[]) ∧ MS V F S w b (V.text st m.user).2 { m with user := (V.text st m.user).1 } vn vq w') :=
  MS.call (hV.htext st b 10 m.user hfit) h rfl rfl rfl rfl
theorem MS.t_tree (hV : V.Good) (h : MS V F S w b st m vn vq wk) (hfit : V.fit st (m.tree.size + 8)) :
    Calls Tryd.prog V.ftext #[V.v, .pointer (some ⟨b, 11, none⟩)] wk (fun e w' => e = .returned (.tuple #[]) ∧ MS V F S w b (V.text st m.tree).2 { m with tree := (V.text st m.tree).1 } vn vq w') :=
  MS.call (hV.htext st b 11 m.tree hfit) h rfl rfl rfl rfl
theorem MS.t_name (hV : V.Good) (h : MS V F S w b st m vn vq wk) (hfit : V.fit st (m.name.size + 8)) :
    Calls Tryd.prog V.ftext #[V.v, .pointer (some ⟨b, 12, none⟩)] wk (fun e w' => e = .returned (.tuple #[]) ∧ MS V F S w b (V.text st m.name).2 { m with name := (V.text st m.name).1 } vn vq w') :=
  MS.call (hV.htext st b 12 m.name hfit) h rfl rfl rfl rfl
theorem MS.d_data (hV : V.Good) (h : MS V F S w b st m vn vq wk) (hfit : V.fit st (m.data.size + 8)) :
    Calls Tryd.prog V.fdata #[V.v, .pointer (some ⟨b, 15, none⟩)] wk (fun e w' => e = .returned (.tuple #[]) ∧ MS V F S w b (V.data st m.data).2 { m with data := (V.data st m.data).1 } vn vq w') :=
  MS.call (hV.hdata st b 15 m.data hfit) h rfl rfl rfl rfl
theorem MS.l_offset (hV : V.Good) (h : MS V F S w b st m vn vq wk) (hr : i64r m.offset) (hfit : V.fit st 8) :
    Calls Tryd.prog V.flong #[V.v, .pointer (some ⟨b, 6, none⟩)] wk (fun e w' => e = .returned (.tuple #[]) ∧ MS V F S w b (V.long st m.offset).2 { m with offset := (V.long st m.offset).1 } vn vq w') :=
  MS.call (hV.hlong st b 6 m.offset hr hfit) h rfl rfl rfl rfl
end
end Go.Proofs.YtggkebngkkddhaaDoor
