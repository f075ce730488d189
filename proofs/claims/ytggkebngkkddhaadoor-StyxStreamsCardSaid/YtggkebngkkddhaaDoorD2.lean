/- What a visitor does with the fields of a message, a letter each. -/
import Derived.Test.YtggkebngkkddhaaDoorD1
namespace Go.Proofs.YtggkebngkkddhaaDoor
open Go.RowKit

inductive Fld | S | v | f | u | t | q | o | c | d | n | Q | m | N | p | O | D | i
  deriving DecidableEq

/-- The fields of a kind. -/
def fieldsOf (k : Int) : Option (List Fld) :=
  if k = 100 ∨ k = 101 then some [.S, .v] else if k = 102 then some [.f, .u, .t] else if k = 103 ∨ k = 105 then some [.q] else if k = 104 then some [.f, .o, .u, .t]
  else if k = 107 then some [.c] else if k = 108 then some [.d] else if k = 110 then some [.f, .o, .n] else if k = 111 then some [.Q] else if k = 112 then some [.f, .m]
  else if k = 114 then some [.f, .N, .p, .m] else if k = 113 ∨ k = 115 then some [.q, .S] else if k = 116 then some [.f, .O, .S] else if k = 117 then some [.D]
  else if k = 118 then some [.f, .O, .D] else if k = 119 then some [.S] else if k = 120 ∨ k = 122 ∨ k = 124 then some [.f] else if k = 125 then some [.i] else if k = 126 then some [.f, .i]
  else if k = 109 ∨ k = 121 ∨ k = 123 ∨ k = 127 then some [] else none

/-- Kinds with one qid. -/
def isOne (k : Int) : Bool := decide (k = 103 ∨ k = 105 ∨ k = 113 ∨ k = 115)

/-- A visit of one field. -/
def Vis.visit (V : Vis) (B : V.Big) (x : Fld) (st : V.σ) (m : MV) : MV × V.σ :=
  match x with
  | .S => ({ m with size := (V.num st m.size 4).1 }, (V.num st m.size 4).2)
  | .v => ({ m with version := (V.text st m.version).1 }, (V.text st m.version).2)
  | .f => ({ m with fid := (V.num st m.fid 4).1 }, (V.num st m.fid 4).2)
  | .u => ({ m with user := (V.text st m.user).1 }, (V.text st m.user).2)
  | .t => ({ m with tree := (V.text st m.tree).1 }, (V.text st m.tree).2)
  | .q => V.one st m
  | .o => ({ m with other := (V.num st m.other 4).1 }, (V.num st m.other 4).2)
  | .c => ({ m with code := (V.num st m.code 2).1 }, (V.num st m.code 2).2)
  | .d => ({ m with old := (V.num st m.old 2).1 }, (V.num st m.old 2).2)
  | .n => ({ m with names := (B.names st m.names).1 }, (B.names st m.names).2)
  | .Q => ({ m with qids := (B.qids st m.qids).1 }, (B.qids st m.qids).2)
  | .m => ({ m with mode := (V.num st m.mode 1).1 }, (V.num st m.mode 1).2)
  | .N => ({ m with name := (V.text st m.name).1 }, (V.text st m.name).2)
  | .p => ({ m with perm := (V.num st m.perm 4).1 }, (V.num st m.perm 4).2)
  | .O => ({ m with offset := (V.long st m.offset).1 }, (V.long st m.offset).2)
  | .D => ({ m with data := (V.data st m.data).1 }, (V.data st m.data).2)
  | .i => ({ m with dir := (B.dir st m.dir).1 }, (B.dir st m.dir).2)
def Vis.visits (V : Vis) (B : V.Big) : List Fld → V.σ → MV → MV × V.σ
  | [], st, m => (m, st)
  | x :: l, st, m => V.visits B l (V.visit B x st m).2 (V.visit B x st m).1
def Vis.fields (V : Vis) (B : V.Big) (st : V.σ) (m : MV) : MV × V.σ := V.visits B ((fieldsOf m.kind).getD []) st m

/-- How many bytes a message has, or a bit less than it takes. -/
def MV.need (m : MV) : Nat := m.version.size + m.user.size + m.tree.size + m.name.size + m.data.size + sizes m.names + 13 * m.qids.length + m.dir.room + 1000
structure MV.R (m : MV) : Prop where
  offset : i64r m.offset
  dir : m.dir.R
  qids : ∀ q ∈ m.qids, i64r q.p

/-- What is asked ahead of fields. -/
structure FPre (V : Vis) (B : V.Big) (F S : Nat → Prop) (w : World) (b : Nat) (st : V.σ) (m : MV) (vn vq : Value) (wk : World) : Prop where
  hV : V.Good
  hB : V.BigGood B
  h : MS V F S w b st m vn vq wk
  r : m.R
  fit : V.fit st m.need
  pn : B.preN vn m.names
  pq : B.preQ vq m.qids
  qf : isOne m.kind = true → QFree V S w vn vq
  one : isOne m.kind = true → m.qids = [] ∨ ∃ q, m.qids = [q]
end Go.Proofs.YtggkebngkkddhaaDoor
