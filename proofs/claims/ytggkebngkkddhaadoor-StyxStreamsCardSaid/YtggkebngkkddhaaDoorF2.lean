/- The walks through room and Few. -/
import Derived.Test.YtggkebngkkddhaaDoorF0
import Derived.Deep.RegionHeld3
namespace Go.Proofs.YtggkebngkkddhaaDoor
open Go.RowKit

def dcells (d : DV) : Array Value := #[.int .i64 d.q.k, .int .i64 d.q.v, .int .i64 d.q.p, .int .i64 d.mode, .int .i64 d.time, .int .i64 d.len, .string d.name, .string d.owner, .string d.group, .string d.last]
theorem room_any (d : DV) (W : World) (hs : d.room ≤ 100000000000000000) : Calls Tryd.prog 44 #[.agg (dcells d)] W (fun e w' => e = .returned (.int .i64 d.room) ∧ Fr none_ W w') := by
  have hb := Blk.new W 28 (dcells d)
  have c6 : (W.alloc (.cells (dcells d) 28)).cell? ⟨W.heap.size, 6, none⟩ = some (.string d.name) := hb.cell 6
  have c7 : (W.alloc (.cells (dcells d) 28)).cell? ⟨W.heap.size, 7, none⟩ = some (.string d.owner) := hb.cell 7
  have c8 : (W.alloc (.cells (dcells d) 28)).cell? ⟨W.heap.size, 8, none⟩ = some (.string d.group) := hb.cell 8
  have c9 : (W.alloc (.cells (dcells d) 28)).cell? ⟨W.heap.size, 9, none⟩ = some (.string d.last) := hb.cell 9
  have HF : Hid (Fr none_ W (W.alloc (.cells (dcells d) 28))) := Lib.hid ((Fr.refl _ W).alloc _)
  unfold DV.room at *
  clear hb
  go_enter Tryd.func44, Tryd.ntmps44
  go_wp2
  go_ret
  exact ⟨by simp, HF.out⟩
-- printed: Few
def sumB (l : List ByteArray) : Nat := (l.map (·.size)).sum
/-- Few, of a message. -/
def MV.few (m : MV) : Prop := m.names.length ≤ 40 ∧ m.qids.length ≤ 40 ∧ m.texts + m.dir.room + sumB m.names ≤ 20000
theorem sumB_le (l : List ByteArray) (B : Nat) (h : ∀ s ∈ l, s.size ≤ B) (j : Nat) : sumB (l.take j) ≤ B * j := by
  induction l generalizing j with
  | nil => simp [sumB]
  | cons a l ih =>
    cases j with
    | zero => simp [sumB]
    | succ j =>
      have h1 := ih (fun s hs => h s (List.mem_cons_of_mem _ hs)) j
      have h2 := h a List.mem_cons_self
      simp only [sumB, List.take_succ_cons, List.map_cons, List.sum_cons] at *
      rw [Nat.mul_add]
      omega
theorem sumB_snoc (l : List ByteArray) (j : Nat) (s : ByteArray) (h : l[j]? = some s) : sumB (l.take (j + 1)) = sumB (l.take j) + s.size := by
  have hj := (List.getElem?_eq_some_iff.1 h)
  rw [List.take_succ_eq_append_getElem hj.1, hj.2]
  simp [sumB]
structure MV.Sz (m : MV) : Prop where
  version : m.version.size ≤ 1000000000000000
  user : m.user.size ≤ 1000000000000000
  tree : m.tree.size ≤ 1000000000000000
  name : m.name.size ≤ 1000000000000000
  data : m.data.size ≤ 1000000000000000
  dname : m.dir.name.size ≤ 1000000000000000
  downer : m.dir.owner.size ≤ 1000000000000000
  dgroup : m.dir.group.size ≤ 1000000000000000
  dlast : m.dir.last.size ≤ 1000000000000000
  names : ∀ s ∈ m.names, s.size ≤ 1000000000000000

theorem few_le (m : MV) (h : m.Sz) : m.texts + m.dir.room ≤ 9000000000000000 := by
  have h1 := h.version
  have h2 := h.user
  have h3 := h.tree
  have h4 := h.name
  have h5 := h.data
  have h6 := h.dname
  have h7 := h.downer
  have h8 := h.dgroup
  have h9 := h.dlast
  unfold MV.texts DV.room
  omega
theorem wrap_sum {a b : Nat} (h : a + b ≤ 9000000000000000) : IntKind.i64.wrap ((a : Int) + (b : Int)) = ((a + b : Nat) : Int) := by rw [IntKind.wrap_i64]; omega
theorem few_sum (m : MV) (h : m.Sz) : IntKind.i64.wrap (IntKind.i64.wrap (IntKind.i64.wrap (IntKind.i64.wrap (IntKind.i64.wrap ((m.version.size : Int) + m.user.size) + m.tree.size) + m.name.size) + m.data.size) + m.dir.room) = ((m.texts + m.dir.room : Nat) : Int) := by
  have hb := few_le m h
  unfold MV.texts at hb ⊢
  rw [wrap_sum (by omega), wrap_sum (by omega), wrap_sum (by omega), wrap_sum (by omega), wrap_sum (by omega)]

set_option maxRecDepth 20000 in
set_option maxHeartbeats 4000000 in
theorem few_any (m : MV) (vn vq : Value) (W : World) (hn : StrsAt W vn m.names) (hq : QidsAt W vq m.qids) (hs : m.Sz) : Calls Tryd.prog 12 #[.agg (mcells m vn vq)] W (Tells m.few W) := by
  have hb := Blk.new W 31 (mcells m vn vq)
  have c9 : (W.alloc (.cells (mcells m vn vq) 31)).cell? ⟨W.heap.size, 9, none⟩ = some (.string m.version) := hb.cell 9
  have c10 : (W.alloc (.cells (mcells m vn vq) 31)).cell? ⟨W.heap.size, 10, none⟩ = some (.string m.user) := hb.cell 10
  have c11 : (W.alloc (.cells (mcells m vn vq) 31)).cell? ⟨W.heap.size, 11, none⟩ = some (.string m.tree) := hb.cell 11
  have c12 : (W.alloc (.cells (mcells m vn vq) 31)).cell? ⟨W.heap.size, 12, none⟩ = some (.string m.name) := hb.cell 12
  have c15 : (W.alloc (.cells (mcells m vn vq) 31)).cell? ⟨W.heap.size, 15, none⟩ = some (.string m.data) := hb.cell 15
  have c16 : (W.alloc (.cells (mcells m vn vq) 31)).cell? ⟨W.heap.size, 16, none⟩ = some (.int .i64 m.dir.q.k) := hb.cell 16
  have c17 : (W.alloc (.cells (mcells m vn vq) 31)).cell? ⟨W.heap.size, 17, none⟩ = some (.int .i64 m.dir.q.v) := hb.cell 17
  have c18 : (W.alloc (.cells (mcells m vn vq) 31)).cell? ⟨W.heap.size, 18, none⟩ = some (.int .i64 m.dir.q.p) := hb.cell 18
  have c19 : (W.alloc (.cells (mcells m vn vq) 31)).cell? ⟨W.heap.size, 19, none⟩ = some (.int .i64 m.dir.mode) := hb.cell 19
  have c20 : (W.alloc (.cells (mcells m vn vq) 31)).cell? ⟨W.heap.size, 20, none⟩ = some (.int .i64 m.dir.time) := hb.cell 20
  have c21 : (W.alloc (.cells (mcells m vn vq) 31)).cell? ⟨W.heap.size, 21, none⟩ = some (.int .i64 m.dir.len) := hb.cell 21
  have c22 : (W.alloc (.cells (mcells m vn vq) 31)).cell? ⟨W.heap.size, 22, none⟩ = some (.string m.dir.name) := hb.cell 22
  have c23 : (W.alloc (.cells (mcells m vn vq) 31)).cell? ⟨W.heap.size, 23, none⟩ = some (.string m.dir.owner) := hb.cell 23
  have c24 : (W.alloc (.cells (mcells m vn vq) 31)).cell? ⟨W.heap.size, 24, none⟩ = some (.string m.dir.group) := hb.cell 24
  have c25 : (W.alloc (.cells (mcells m vn vq) 31)).cell? ⟨W.heap.size, 25, none⟩ = some (.string m.dir.last) := hb.cell 25
  have HB := Lib.hid hb
  have HN := Lib.hid hn
  have HQ := Lib.hid hq
  have HS := Lib.hid hs
  have HR : Hid (∀ w, Calls Tryd.prog 44 #[.agg #[.int .i64 m.dir.q.k, .int .i64 m.dir.q.v, .int .i64 m.dir.q.p, .int .i64 m.dir.mode, .int .i64 m.dir.time, .int .i64 m.dir.len, .string m.dir.name, .string m.dir.owner, .string m.dir.group, .string m.dir.last]] w (fun e w' => e = .returned (.int .i64 m.dir.room) ∧ Fr none_ w w')) := Lib.hid (fun w => room_any m.dir w (by have h1 := hs.dname; have h2 := hs.downer; have h3 := hs.dgroup; have h4 := hs.dlast; unfold DV.room; omega))
  have HF : Hid (Fr none_ W (W.alloc (.cells (mcells m vn vq) 31))) := Lib.hid ((Fr.refl _ W).alloc _)
  have HK : Hid (∀ w', Fr none_ (W.alloc (.cells (mcells m vn vq) 31)) w' → Fr none_ (W.alloc (.cells (mcells m vn vq) 31)) w' ∧ w'.cell? ⟨W.heap.size, 9, none⟩ = some (.string m.version) ∧ w'.cell? ⟨W.heap.size, 10, none⟩ = some (.string m.user) ∧ w'.cell? ⟨W.heap.size, 11, none⟩ = some (.string m.tree) ∧ w'.cell? ⟨W.heap.size, 12, none⟩ = some (.string m.name) ∧ w'.cell? ⟨W.heap.size, 15, none⟩ = some (.string m.data) ∧ w'.cell? ⟨W.heap.size, 16, none⟩ = some (.int .i64 m.dir.q.k) ∧ w'.cell? ⟨W.heap.size, 17, none⟩ = some (.int .i64 m.dir.q.v) ∧ w'.cell? ⟨W.heap.size, 18, none⟩ = some (.int .i64 m.dir.q.p) ∧ w'.cell? ⟨W.heap.size, 19, none⟩ = some (.int .i64 m.dir.mode) ∧ w'.cell? ⟨W.heap.size, 20, none⟩ = some (.int .i64 m.dir.time) ∧ w'.cell? ⟨W.heap.size, 21, none⟩ = some (.int .i64 m.dir.len) ∧ w'.cell? ⟨W.heap.size, 22, none⟩ = some (.string m.dir.name) ∧ w'.cell? ⟨W.heap.size, 23, none⟩ = some (.string m.dir.owner) ∧ w'.cell? ⟨W.heap.size, 24, none⟩ = some (.string m.dir.group) ∧ w'.cell? ⟨W.heap.size, 25, none⟩ = some (.string m.dir.last)) := Lib.hid (fun w' h => ⟨h, h.cell c9 (fun x => x), h.cell c10 (fun x => x), h.cell c11 (fun x => x), h.cell c12 (fun x => x), h.cell c15 (fun x => x), h.cell c16 (fun x => x), h.cell c17 (fun x => x), h.cell c18 (fun x => x), h.cell c19 (fun x => x), h.cell c20 (fun x => x), h.cell c21 (fun x => x), h.cell c22 (fun x => x), h.cell c23 (fun x => x), h.cell c24 (fun x => x), h.cell c25 (fun x => x)⟩)
  clear hb hn hq hs
  go_enter Tryd.func12, Tryd.ntmps12
  go_wp2
  go_region_held3 (fun w' => Fr none_ (W.alloc (.cells (mcells m vn vq) 31)) w' ∧ w'.cell? ⟨W.heap.size, 9, none⟩ = some (.string m.version) ∧ w'.cell? ⟨W.heap.size, 10, none⟩ = some (.string m.user) ∧ w'.cell? ⟨W.heap.size, 11, none⟩ = some (.string m.tree) ∧ w'.cell? ⟨W.heap.size, 12, none⟩ = some (.string m.name) ∧ w'.cell? ⟨W.heap.size, 15, none⟩ = some (.string m.data) ∧ w'.cell? ⟨W.heap.size, 16, none⟩ = some (.int .i64 m.dir.q.k) ∧ w'.cell? ⟨W.heap.size, 17, none⟩ = some (.int .i64 m.dir.q.v) ∧ w'.cell? ⟨W.heap.size, 18, none⟩ = some (.int .i64 m.dir.q.p) ∧ w'.cell? ⟨W.heap.size, 19, none⟩ = some (.int .i64 m.dir.mode) ∧ w'.cell? ⟨W.heap.size, 20, none⟩ = some (.int .i64 m.dir.time) ∧ w'.cell? ⟨W.heap.size, 21, none⟩ = some (.int .i64 m.dir.len) ∧ w'.cell? ⟨W.heap.size, 22, none⟩ = some (.string m.dir.name) ∧ w'.cell? ⟨W.heap.size, 23, none⟩ = some (.string m.dir.owner) ∧ w'.cell? ⟨W.heap.size, 24, none⟩ = some (.string m.dir.group) ∧ w'.cell? ⟨W.heap.size, 25, none⟩ = some (.string m.dir.last)) (first | exact HK.out _ (Fr.refl _ _) | exact HK.out _ (Fr.trans (by assumption) hf) | exact HK.out _ (Fr.trans (And.left (by assumption)) hf) | exact HK.out _ (Fr.drew (Fr.refl _ _)) | go_keep)
    (first | (go_at_call 44; refine (HR.out _).mono ?_; rintro e w' ⟨rfl, hf⟩))
  have hbk := hf.blk HB.out.drew (fun x => x)
  have hnn := HN.out.fr (HF.out.drew.trans hf) (fun _ _ _ _ _ x => x)
  obtain ⟨oa, ca, rfl, hns⟩ := hnn
  obtain ⟨ob, cb, rfl, _⟩ := HQ.out
  have d13 : w'.cell? ⟨W.heap.size, 13, none⟩ = some (.slice oa m.names.length ca) := hbk.cell 13
  have d14 : w'.cell? ⟨W.heap.size, 14, none⟩ = some (.slice ob m.qids.length cb) := hbk.cell 14
  have HF2 := Lib.hid (HF.out.drew.trans hf)
  have HNS := Lib.hid hns
  have hT := few_sum m HS.out
  have hTb := few_le m HS.out
  rw [hT]
  have HRR : Hid (m.few ↔ m.names.length ≤ 40 ∧ m.qids.length ≤ 40 ∧ m.texts + m.dir.room + sumB m.names ≤ 20000) := Lib.hid Iff.rfl
  have HSN := Lib.hid HS.out.names
  clear hf hbk hT HK HR c9 c10 c11 c12 c15 c16 c17 c18 c19 c20 c21 c22 c23 c24 c25 hns HB HN HQ HS HF
  rename_i hh
  clear hh
  generalize m.texts + m.dir.room = T at *
  generalize hnl : m.names.length = nn at *
  generalize m.qids.length = nq at *
  by_cases h1 : nn ≤ 40
  · by_cases h2 : nq ≤ 40
    · have Hnl := Lib.hid hnl
      have hsm : ∀ j, j ≤ nn → sumB (m.names.take j) ≤ 1000000000000000 * j := fun j _ => sumB_le _ _ HSN.out j
      have Hsm := Lib.hid hsm
      clear hsm hnl
      go_wp2
      go_loopg [3, 5, 42] nn (fun gk n _ i wr => ∃ j : Nat, j ≤ nn ∧ gk = nn - j ∧ i = .int .i64 j ∧ n = .int .i64 ((T + sumB (m.names.take j) : Nat) : Int) ∧ Fr none_ w' wr)
      case atStart => exact ⟨0, Nat.zero_le _, rfl, rfl, by simp [sumB], Fr.refl _ _⟩
      case round =>
        obtain ⟨j, hj, rfl, rfl, rfl, hfr⟩ := hrel
        have HFR := Lib.hid hfr
        clear hfr
        by_cases hlt : j < nn
        · have hg : m.names[j]? = some (m.names[j]'(by rw [Hnl.out]; exact hlt)) := List.getElem?_eq_getElem _
          obtain ⟨s, hs⟩ : ∃ s, m.names[j]? = some s := ⟨_, hg⟩
          obtain ⟨b, o, rfl, hc⟩ := HNS.out j s hs
          have c3 := HFR.out.cell hc (fun x => x)
          have hsz := HSN.out s (List.mem_of_getElem? hs)
          have hst : sumB (m.names.take (j + 1)) = sumB (m.names.take j) + s.size := sumB_snoc _ _ _ hs
          have hbd := Hsm.out j hj
          have Hst := Lib.hid hst
          clear hg hs hc hst
          go_wp2
          go_roundg (nn - (j + 1))
          case measure => omega
          case rel => exact ⟨j + 1, by omega, rfl, by go_num, by rw [Hst.out]; go_num, HFR.out⟩
        · obtain rfl : j = nn := by omega
          have hst : sumB (m.names.take j) = sumB m.names := by rw [List.take_of_length_le (by rw [Hnl.out]; exact Nat.le_refl _)]
          rw [hst]
          clear hst
          by_cases h3 : T + sumB m.names ≤ 20000
          · go_wp2
            go_ret
            exact ⟨_, by simp; rw [HRR.out]; constructor; (intro _; exact ⟨h1, h2, h3⟩); (intro _; omega), rfl, HF2.out.trans HFR.out⟩
          · go_wp2
            go_ret
            exact ⟨_, by simp; rw [HRR.out]; constructor; (intro _; omega); (rintro ⟨_, _, h⟩; exact absurd h h3), rfl, HF2.out.trans HFR.out⟩
    · go_wp2
      go_ret
      exact tells_no (by rw [HRR.out]; rintro ⟨_, h, _⟩; exact h2 h) HF2.out
  · go_wp2
    go_ret
    exact tells_no (by rw [HRR.out]; rintro ⟨h, _⟩; exact h1 h) HF2.out
end Go.Proofs.YtggkebngkkddhaaDoor
