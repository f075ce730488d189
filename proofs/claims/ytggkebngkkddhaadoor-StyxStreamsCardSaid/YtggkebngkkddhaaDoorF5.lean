/- Lists of messages in memory; the walk through EqualFunc, of equal lists. -/
import Derived.Test.YtggkebngkkddhaaDoorF4
import Derived.Deep.MidRow
namespace Go.Proofs.YtggkebngkkddhaaDoor
open Go.RowKit

/-- A message, with the values of its two slices. -/
structure ME where
  m : MV
  n : Value
  q : Value
def ME.cells (e : ME) : Array Value := mcells e.m e.n e.q
def MAt (w : World) (b o : Nat) (e : ME) : Prop := ∀ j x, e.cells[j]? = some x → w.cell? ⟨b, o + j, none⟩ = some x
def Held (w : World) (e : ME) : Prop := StrsAt w e.n e.m.names ∧ QidsAt w e.q e.m.qids
def MsgsAt (w : World) (v : Value) (l : List ME) : Prop := ∃ oa cap, v = .slice oa l.length cap ∧ ∀ i e, l[i]? = some e → ∃ b o, oa = some ⟨b, o, none⟩ ∧ MAt w b (o + i * 27) e ∧ Held w e

theorem MAt.fr {S : Nat → Prop} {w w' : World} {b o : Nat} {e : ME} (h : MAt w b o e) (hf : Fr S w w') (hb : ¬ S b) : MAt w' b o e := fun j x hx => hf.cell (h j x hx) hb
theorem Held.fr0 {w w' : World} {e : ME} (h : Held w e) (hf : Fr none_ w w') : Held w' e := ⟨h.1.fr hf (fun _ _ _ _ _ x => x), h.2.fr hf (fun _ _ _ _ _ x => x)⟩
theorem MsgsAt.fr0 {w w' : World} {v : Value} {l : List ME} (h : MsgsAt w v l) (hf : Fr none_ w w') : MsgsAt w' v l := by
  obtain ⟨oa, cap, rfl, h⟩ := h
  refine ⟨oa, cap, rfl, fun i e hi => ?_⟩
  obtain ⟨b, o, rfl, h1, h2⟩ := h i e hi
  exact ⟨b, o, rfl, h1.fr hf (fun x => x), h2.fr0 hf⟩
theorem ME.size (e : ME) : e.cells.size = 27 := rfl

theorem wpList_load_msg {ops : Array Oper} {rest : List Oper} {op : Oper} {a : Act} {w : World} {Q : Exit → Act → World → Prop} (hgd : op.guard = none) (x : Operand) (ho : op.op = .load 31 x)
    (b o : Nat) (hx : a.eval x = .pointer (some ⟨b, o, none⟩)) (e : ME) (hc : MAt w b o e)
    (h : wpList Tryd.prog ops Q rest (a.put op.dst (.agg e.cells)) w) : wpList Tryd.prog ops Q (op :: rest) a w := by
  refine wpList_load_mid hgd 31 x ho b o hx e.cells.toList _ (fun j v hv => hc j v (by simpa using hv)) Tryd.underlying31 rfl (info31.trans (congrArg some (by rw [Array.length_toList]; rfl))) ?_
  rwa [Array.toArray_toList]

set_option maxRecDepth 20000 in
set_option maxHeartbeats 4000000 in
theorem equalFunc_any (v1 v2 : Value) (l1 l2 : List ME) (w : World) (h1 : MsgsAt w v1 l1) (h2 : MsgsAt w v2 l2) (he : l1.map (·.m) = l2.map (·.m)) (hn : l1.length ≤ 1000000) (hs : ∀ e ∈ l1, e.m.names.length ≤ 1000000 ∧ e.m.qids.length ≤ 1000000) :
    Calls Tryd.prog 18 #[v1, v2, .func (.func 9) #[] #[]] w (fun e w' => e = .returned (.bool true) ∧ Fr none_ w w') := by
  obtain ⟨oa, ca, rfl, h1⟩ := h1
  obtain ⟨ob, cb, rfl, h2⟩ := h2
  have hl : l1.length = l2.length := by have := congrArg List.length he; simpa using this
  have hget : ∀ j, j < l1.length → ∃ a b, l1[j]? = some a ∧ l2[j]? = some b ∧ b.m = a.m ∧ a.m.names.length ≤ 1000000 ∧ a.m.qids.length ≤ 1000000 := fun j hj => by
    have g1 := List.getElem?_eq_getElem hj
    have g2 := List.getElem?_eq_getElem (l := l2) (i := j) (by omega)
    refine ⟨_, _, g1, g2, ?_, hs _ (List.getElem_mem hj)⟩
    have := congrArg (fun l => l[j]?) he
    simp only [List.getElem?_map, g1, g2, Option.map_some, Option.some.injEq] at this
    exact this.symm
  rw [← hl]
  have H1 := Lib.hid h1
  have H2 := Lib.hid h2
  have Hget := Lib.hid hget
  clear h1 h2 hget hl hs he
  generalize l1.length = n at *
  go_enter Tryd.func18, Tryd.ntmps18
  go_wp2
  go_loopg [7, 8, 9, 17] n (fun gk _ _ _ i wr => ∃ j : Nat, j ≤ n ∧ gk = n - j ∧ i = .int .i64 j ∧ Fr none_ w wr)
  case atStart => exact ⟨0, Nat.zero_le _, rfl, rfl, Fr.refl _ _⟩
  case round =>
    obtain ⟨j, hj, rfl, rfl, hf⟩ := hrel
    have HF := Lib.hid hf
    clear hf
    by_cases hlt : j < n
    · obtain ⟨a, b, ha, hb, hm, ha1, ha2⟩ := Hget.out j hlt
      obtain ⟨ab, ao, rfl, hma, hha⟩ := H1.out j a ha
      obtain ⟨bb, bo, rfl, hmb, hhb⟩ := H2.out j b hb
      obtain ⟨m, an, aq⟩ := a
      obtain ⟨m2, bn, bq⟩ := b
      obtain rfl : m2 = m := hm
      have HMa := Lib.hid (hma.fr HF.out (fun x => x))
      have HMb := Lib.hid (hmb.fr ((HF.out.alloc (.cells cells0 31)).setRow (g := wr.heap.size) (.inr HF.out.1) (mcells m2 an aq)) (fun x => x))
      have hB1 : Blk ((wr.alloc (.cells cells0 31)).setRow wr.heap.size (mcells m2 an aq)) wr.heap.size 31 (mcells m2 an aq) := (Blk.new wr 31 cells0).setRow _
      have hB2 : Blk ((((wr.alloc (.cells cells0 31)).setRow wr.heap.size (mcells m2 an aq)).alloc (.cells cells0 31)).setRow (wr.heap.size + 1) (mcells m2 bn bq)) (wr.heap.size + 1) 31 (mcells m2 bn bq) := by
        have := Blk.new ((wr.alloc (.cells cells0 31)).setRow wr.heap.size (mcells m2 an aq)) 31 cells0
        have h := this.setRow (mcells m2 bn bq)
        simpa using h
      have HBn : Hid (Blk (((wr.alloc (.cells cells0 31)).setRow wr.heap.size (mcells m2 an aq)).alloc (.cells cells0 31)) (wr.heap.size + 1) 31 cells0) := Lib.hid (by
        have := Blk.new ((wr.alloc (.cells cells0 31)).setRow wr.heap.size (mcells m2 an aq)) 31 cells0
        simpa using this)
      have HB2 := Lib.hid hB2
      clear hma hmb ha hb
      have HA1 := Lib.hid (all_mcells m2 an aq hha.1.one hha.2.one)
      have HA2 := Lib.hid (all_mcells m2 bn bq hhb.1.one hhb.2.one)
      have hf4 : Fr none_ wr ((((wr.alloc (.cells cells0 31)).setRow wr.heap.size (mcells m2 an aq)).alloc (.cells cells0 31)).setRow (wr.heap.size + 1) (mcells m2 bn bq)) :=
        ((((Fr.refl none_ wr).alloc _).setRow (.inr (Nat.le_refl _)) _).alloc _).setRow (.inr (by omega)) _
      have HB1 : Hid (Blk ((((wr.alloc (.cells cells0 31)).setRow wr.heap.size (mcells m2 an aq)).alloc (.cells cells0 31)).setRow (wr.heap.size + 1) (mcells m2 bn bq)) wr.heap.size 31 (mcells m2 an aq)) := Lib.hid
        ((setRow_other _ _ _ _ (by omega)).trans (hB1.alloc _))
      have HC := Lib.hid (same_yes m2 an aq bn bq _ ((hha.fr0 HF.out).1.fr hf4 (fun _ _ _ _ _ x => x)) ((hha.fr0 HF.out).2.fr hf4 (fun _ _ _ _ _ x => x)) ((hhb.fr0 HF.out).1.fr hf4 (fun _ _ _ _ _ x => x)) ((hhb.fr0 HF.out).2.fr hf4 (fun _ _ _ _ _ x => x)) ha1 ha2)
      have HF4 := Lib.hid (HF.out.trans hf4)
      clear hB1 hB2 hf4 hha hhb ha1 ha2
      go_wp2_with (first
        | (refine wpList_load_msg rfl (.tmp 20) rfl ab (ao + j * 27) rfl ⟨m2, an, aq⟩ HMa.out ?_)
        | (refine wpList_load_msg rfl (.tmp 24) rfl bb (bo + j * 27) rfl ⟨m2, bn, bq⟩ HMb.out ?_)
        | (refine wpList_store_row rfl 31 (.tmp 8) (.tmp 21) rfl wr.heap.size (mcells m2 an aq) rfl rfl 31 cells0 (Blk.new wr 31 cells0) (info31.trans (congrArg some (size_mcells _ _ _).symm)) rfl HA1.out ?_)
        | (refine wpList_store_row rfl 31 (.tmp 9) (.tmp 25) rfl (wr.heap.size + 1) (mcells m2 bn bq) rfl rfl 31 cells0 (HBn.out) (info31.trans (congrArg some (size_mcells _ _ _).symm)) rfl HA2.out ?_)
        | (refine wpList_load_row rfl 31 (.tmp 8) rfl wr.heap.size rfl 31 (mcells m2 an aq) (0, 0) _ HB1.out Tryd.underlying31 rfl (info31.trans (congrArg some (size_mcells _ _ _).symm)) ?_)
        | (refine wpList_load_row rfl 31 (.tmp 9) rfl (wr.heap.size + 1) rfl 31 (mcells m2 bn bq) (0, 0) _ HB2.out Tryd.underlying31 rfl (info31.trans (congrArg some (size_mcells _ _ _).symm)) ?_))
      refine HC.out.mono ?_
      rintro _ w4 ⟨rfl, hf5⟩
      have HF5 := Lib.hid (HF4.out.trans hf5)
      clear hf5
      go_wp2
      go_roundg (n - (j + 1))
      case measure => omega
      case rel => exact ⟨j + 1, by omega, rfl, by go_num, HF5.out⟩
    · go_wp2
      go_ret
      exact ⟨rfl, HF.out⟩
end Go.Proofs.YtggkebngkkddhaaDoor
