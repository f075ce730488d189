/- The walk through Same, of two equal messages. (Printed by gen_f1.py.) -/
import Derived.Test.YtggkebngkkddhaaDoorF0
namespace Go.Proofs.YtggkebngkkddhaaDoor
open Go.RowKit

theorem Blk.two {W : World} {t : TypeId} {ca cb : Array Value} : Blk ((W.alloc (.cells ca t)).alloc (.cells cb t)) W.heap.size t ca ∧ Blk ((W.alloc (.cells ca t)).alloc (.cells cb t)) (W.heap.size + 1) t cb :=
  ⟨(Blk.new W t ca).alloc _, by have := Blk.new (W.alloc (.cells ca t)) t cb; simpa using this⟩

set_option maxRecDepth 20000 in
set_option maxHeartbeats 4000000 in
theorem same_yes (a : MV) (an aq bn bq : Value) (W : World) (han : StrsAt W an a.names) (haq : QidsAt W aq a.qids) (hbn : StrsAt W bn a.names) (hbq : QidsAt W bq a.qids) (hl : a.names.length ≤ 1000000) (hl2 : a.qids.length ≤ 1000000) :
    Calls Tryd.prog 9 #[.agg (mcells a an aq), .agg (mcells a bn bq)] W (fun e w' => e = .returned (.bool true) ∧ Fr none_ W w') := by
  obtain ⟨hA, hB⟩ := Blk.two (W := W) (t := 31) (ca := mcells a an aq) (cb := mcells a bn bq)
  have hf : Fr none_ W ((W.alloc (.cells (mcells a an aq) 31)).alloc (.cells (mcells a bn bq) 31)) := ((Fr.refl _ W).alloc _).alloc _
  have c1 : ((W.alloc (.cells (mcells a an aq) 31)).alloc (.cells (mcells a bn bq) 31)).cell? ⟨W.heap.size, 13, none⟩ = some an := hA.cell 13
  have c2 : ((W.alloc (.cells (mcells a an aq) 31)).alloc (.cells (mcells a bn bq) 31)).cell? ⟨W.heap.size + 1, 13, none⟩ = some bn := hB.cell 13
  have H1 := Lib.hid (equalStrs_any an bn a.names a.names _ (han.fr hf (fun _ _ _ _ _ x => x)) (hbn.fr hf (fun _ _ _ _ _ x => x)) hl)
  have H2 : Hid (∀ w2, Fr none_ W w2 → Calls Tryd.prog 35 #[aq, bq] w2 (Tells (a.qids = a.qids) w2)) := Lib.hid (fun w2 h => equalQids_any aq bq a.qids a.qids w2 (haq.fr h (fun _ _ _ _ _ x => x)) (hbq.fr h (fun _ _ _ _ _ x => x)) hl2)
  have HF := Lib.hid hf
  have HA := Lib.hid hA
  have HB := Lib.hid hB
  clear han haq hbn hbq hl hl2 hA hB hf
  go_enter Tryd.func9, Tryd.ntmps9
  go_wp2_with fail
  refine H1.out.mono ?_
  rintro _ w2 ⟨r1, hr1, rfl, hf2⟩
  have d1 : w2.cell? ⟨W.heap.size, 14, none⟩ = some aq := (hf2.blk HA.out (fun x => x)).cell 14
  have d2 : w2.cell? ⟨W.heap.size + 1, 14, none⟩ = some bq := (hf2.blk HB.out (fun x => x)).cell 14
  have H3 := Lib.hid (H2.out w2 (HF.out.trans hf2))
  have HF2 := Lib.hid (HF.out.trans hf2)
  have HA2 := Lib.hid (hf2.blk HA.out (fun x => x))
  have HB2 := Lib.hid (hf2.blk HB.out (fun x => x))
  obtain rfl : r1 = true := hr1.2 (by trivial)
  clear hf2 hr1 c1 c2 H1 H2 HA HB HF
  go_wp2_with fail
  refine H3.out.mono ?_
  rintro _ w3 ⟨r2, hr2, rfl, hf3⟩
  have hA3 := hf3.blk HA2.out (fun x => x)
  have hB3 := hf3.blk HB2.out (fun x => x)
  have x0 : w3.cell? ⟨W.heap.size, 0, none⟩ = some (.int .i64 a.kind) := hA3.cell 0
  have x1 : w3.cell? ⟨W.heap.size, 1, none⟩ = some (.int .i64 a.tag) := hA3.cell 1
  have x2 : w3.cell? ⟨W.heap.size, 2, none⟩ = some (.int .i64 a.fid) := hA3.cell 2
  have x3 : w3.cell? ⟨W.heap.size, 3, none⟩ = some (.int .i64 a.other) := hA3.cell 3
  have x4 : w3.cell? ⟨W.heap.size, 4, none⟩ = some (.int .i64 a.old) := hA3.cell 4
  have x5 : w3.cell? ⟨W.heap.size, 5, none⟩ = some (.int .i64 a.size) := hA3.cell 5
  have x6 : w3.cell? ⟨W.heap.size, 6, none⟩ = some (.int .i64 a.offset) := hA3.cell 6
  have x7 : w3.cell? ⟨W.heap.size, 7, none⟩ = some (.int .i64 a.mode) := hA3.cell 7
  have x8 : w3.cell? ⟨W.heap.size, 8, none⟩ = some (.int .i64 a.perm) := hA3.cell 8
  have x9 : w3.cell? ⟨W.heap.size, 9, none⟩ = some (.string a.version) := hA3.cell 9
  have x10 : w3.cell? ⟨W.heap.size, 10, none⟩ = some (.string a.user) := hA3.cell 10
  have x11 : w3.cell? ⟨W.heap.size, 11, none⟩ = some (.string a.tree) := hA3.cell 11
  have x12 : w3.cell? ⟨W.heap.size, 12, none⟩ = some (.string a.name) := hA3.cell 12
  have x15 : w3.cell? ⟨W.heap.size, 15, none⟩ = some (.string a.data) := hA3.cell 15
  have x16 : w3.cell? ⟨W.heap.size, 16, none⟩ = some (.int .i64 a.dir.q.k) := hA3.cell 16
  have x17 : w3.cell? ⟨W.heap.size, 17, none⟩ = some (.int .i64 a.dir.q.v) := hA3.cell 17
  have x18 : w3.cell? ⟨W.heap.size, 18, none⟩ = some (.int .i64 a.dir.q.p) := hA3.cell 18
  have x19 : w3.cell? ⟨W.heap.size, 19, none⟩ = some (.int .i64 a.dir.mode) := hA3.cell 19
  have x20 : w3.cell? ⟨W.heap.size, 20, none⟩ = some (.int .i64 a.dir.time) := hA3.cell 20
  have x21 : w3.cell? ⟨W.heap.size, 21, none⟩ = some (.int .i64 a.dir.len) := hA3.cell 21
  have x22 : w3.cell? ⟨W.heap.size, 22, none⟩ = some (.string a.dir.name) := hA3.cell 22
  have x23 : w3.cell? ⟨W.heap.size, 23, none⟩ = some (.string a.dir.owner) := hA3.cell 23
  have x24 : w3.cell? ⟨W.heap.size, 24, none⟩ = some (.string a.dir.group) := hA3.cell 24
  have x25 : w3.cell? ⟨W.heap.size, 25, none⟩ = some (.string a.dir.last) := hA3.cell 25
  have x26 : w3.cell? ⟨W.heap.size, 26, none⟩ = some (.int .i64 a.code) := hA3.cell 26
  have y0 : w3.cell? ⟨W.heap.size + 1, 0, none⟩ = some (.int .i64 a.kind) := hB3.cell 0
  have y1 : w3.cell? ⟨W.heap.size + 1, 1, none⟩ = some (.int .i64 a.tag) := hB3.cell 1
  have y2 : w3.cell? ⟨W.heap.size + 1, 2, none⟩ = some (.int .i64 a.fid) := hB3.cell 2
  have y3 : w3.cell? ⟨W.heap.size + 1, 3, none⟩ = some (.int .i64 a.other) := hB3.cell 3
  have y4 : w3.cell? ⟨W.heap.size + 1, 4, none⟩ = some (.int .i64 a.old) := hB3.cell 4
  have y5 : w3.cell? ⟨W.heap.size + 1, 5, none⟩ = some (.int .i64 a.size) := hB3.cell 5
  have y6 : w3.cell? ⟨W.heap.size + 1, 6, none⟩ = some (.int .i64 a.offset) := hB3.cell 6
  have y7 : w3.cell? ⟨W.heap.size + 1, 7, none⟩ = some (.int .i64 a.mode) := hB3.cell 7
  have y8 : w3.cell? ⟨W.heap.size + 1, 8, none⟩ = some (.int .i64 a.perm) := hB3.cell 8
  have y9 : w3.cell? ⟨W.heap.size + 1, 9, none⟩ = some (.string a.version) := hB3.cell 9
  have y10 : w3.cell? ⟨W.heap.size + 1, 10, none⟩ = some (.string a.user) := hB3.cell 10
  have y11 : w3.cell? ⟨W.heap.size + 1, 11, none⟩ = some (.string a.tree) := hB3.cell 11
  have y12 : w3.cell? ⟨W.heap.size + 1, 12, none⟩ = some (.string a.name) := hB3.cell 12
  have y15 : w3.cell? ⟨W.heap.size + 1, 15, none⟩ = some (.string a.data) := hB3.cell 15
  have y16 : w3.cell? ⟨W.heap.size + 1, 16, none⟩ = some (.int .i64 a.dir.q.k) := hB3.cell 16
  have y17 : w3.cell? ⟨W.heap.size + 1, 17, none⟩ = some (.int .i64 a.dir.q.v) := hB3.cell 17
  have y18 : w3.cell? ⟨W.heap.size + 1, 18, none⟩ = some (.int .i64 a.dir.q.p) := hB3.cell 18
  have y19 : w3.cell? ⟨W.heap.size + 1, 19, none⟩ = some (.int .i64 a.dir.mode) := hB3.cell 19
  have y20 : w3.cell? ⟨W.heap.size + 1, 20, none⟩ = some (.int .i64 a.dir.time) := hB3.cell 20
  have y21 : w3.cell? ⟨W.heap.size + 1, 21, none⟩ = some (.int .i64 a.dir.len) := hB3.cell 21
  have y22 : w3.cell? ⟨W.heap.size + 1, 22, none⟩ = some (.string a.dir.name) := hB3.cell 22
  have y23 : w3.cell? ⟨W.heap.size + 1, 23, none⟩ = some (.string a.dir.owner) := hB3.cell 23
  have y24 : w3.cell? ⟨W.heap.size + 1, 24, none⟩ = some (.string a.dir.group) := hB3.cell 24
  have y25 : w3.cell? ⟨W.heap.size + 1, 25, none⟩ = some (.string a.dir.last) := hB3.cell 25
  have y26 : w3.cell? ⟨W.heap.size + 1, 26, none⟩ = some (.int .i64 a.code) := hB3.cell 26
  have HF3 := Lib.hid (HF2.out.trans hf3)
  obtain rfl : r2 = true := hr2.2 (by trivial)
  clear hf3 hr2 d1 d2 H3 HA2 HB2 HF2 hA3 hB3
  go_wp2
  go_ret
  exact ⟨rfl, HF3.out⟩
end Go.Proofs.YtggkebngkkddhaaDoor
