/- The writer: what it owns, and the walk through its loop. -/
import Derived.Test.YtggkebngkkddhaaDoorA3
import Derived.Maps.AppendAt
import Derived.Deep.AppendLies
import Derived.RegionTactic
import Derived.OwnWalk
import Derived.Lib.AppendStr
import Derived.Deep.RegionLaw
import Derived.Deep.LoopGhost
namespace Go.Proofs.YtggkebngkkddhaaDoor
open Go.RowKit

/-- append onto a row of the call's own, as one step of a region that draws its order. -/
theorem step_append_own {P : Program} {ops : Array Oper} {o : Oper} {a : Act} {w : World} {K : Act → World → Prop} {Q : Exit → Act → World → Prop} {E : Prop} (hgd : o.guard = none) (s x : Operand) (t : TypeId)
    (ho : o.op = .call { callee := .builtin .append, args := #[s, x], argTypes := #[t, t] })
    (base : Nat) (e : TypeId) (i : TypeInfo) (z : Value) (size bytes : Nat) (ht : P.underlying t = some (.slice e)) (hi : P.info? e = some i) (hz : i.zero = some z)
    (hsize : i.size = size) (hby : i.bytes = bytes) (hzs : z.cells.size = size) (hsz : 0 < size)
    (v : Value) (n : Nat) (xs : List Value) (hs : a.eval s = v) (hown : w.ownsRow base e size v n xs)
    (ad : Addr) (m c : Nat) (news : List Value) (hx : a.eval x = .slice (some ad) m c) (hl : news.length = m * size) (hnews : ∀ j u, news[j]? = some u → w.cell? (ad.add j) = some u) (h1 : ∀ u ∈ news, u.oneCell' = true)
    (h63 : n + m ≤ maxLen) (hbytes : (n + m) * bytes ≤ 140737488355328) (hbase : base ≤ w.heap.size)
    (h : ∀ v' w', w'.ownsRow base e size v' (n + m) (xs ++ news) → w.grownBy w' v.ownBlock → (v'.ownBlock = v.ownBlock ∨ v'.ownBlock = some w.heap.size) → K (a.put o.dst v') w') :
    if Region.wanted o (yielded ops a.tmps) = true then Oper.wp P o a w K Q else E := by
  have hw : Region.wanted o (yielded ops a.tmps) = true := by simp [Region.wanted, hgd]
  rw [if_pos hw]
  obtain ⟨v', w', hr, h2, h3, _, h5⟩ := run_append_own_at (P := P) w base t o.type e i z size bytes ht hi hz hsize hby hzs hsz v n xs hown ad m c news hl hnews h1 h63 hbytes hbase
  unfold Oper.wp execOp
  simp only [ho, resolve, invoke, builtin, Sem.run_bind, Sem.run_pure, Result.andThen_ok, List.map_toArray, List.map_cons, List.map_nil, hs, hx, hr]
  exact h v' w' h2 h3 h5

/-- The cells of bytes. -/
def bcells (l : List UInt8) : List Value := l.map (fun b => .int .u8 b.toNat)
theorem bcells_length (l : List UInt8) : (bcells l).length = l.length := by simp [bcells]
theorem bcells_one (l : List UInt8) : ∀ u ∈ bcells l, u.oneCell' = true := by
  intro u hu
  simp only [bcells, List.mem_map] at hu
  obtain ⟨b, _, rfl⟩ := hu
  rfl

/-- A writer: block g begins with a slice of the call's own that holds the bytes l; own: its row's block. -/
def Wrt (w : World) (g : Nat) (t : TypeId) (v : Value) (rest : List Value) (l : List UInt8) : Prop :=
  Blk w g t (v :: rest).toArray ∧ w.ownsRow (g + 1) 5 1 v l.length (bcells l)

theorem Wrt.lt {w : World} {g : Nat} {t : TypeId} {v : Value} {rest : List Value} {l : List UInt8} (h : Wrt w g t v rest l) : g < w.heap.size := h.1.lt
theorem Blk.cell0 {w : World} {g : Nat} {t : TypeId} {v : Value} {rest : List Value} (h : Blk w g t (v :: rest).toArray) : w.cell? ⟨g, 0, none⟩ = some v := h.cell 0
theorem own_ge {w : World} {base e size n : Nat} {v : Value} {xs : List Value} (h : w.ownsRow base e size v n xs) {r : Nat} (hr : v.ownBlock = some r) : base ≤ r := by
  rcases h.2 with ⟨rfl, _⟩ | ⟨g', cap, cur, rfl, hb, _⟩
  · simp [Value.ownBlock] at hr
  · simp [Value.ownBlock] at hr; omega
theorem Wrt.own_ne {w : World} {g : Nat} {t : TypeId} {v : Value} {rest : List Value} {l : List UInt8} (h : Wrt w g t v rest l) : some g ≠ v.ownBlock := by
  intro e
  have := own_ge h.2 e.symm
  omega
theorem Wrt.after {w w' : World} {g : Nat} {t : TypeId} {v : Value} {rest : List Value} {l : List UInt8} (h : Wrt w g t v rest l) {o : Obj} (h2 : (w.alloc o).grownBy w' v.ownBlock) : Blk w' g t (v :: rest).toArray :=
  (h2.block g (h.1.alloc o).lt h.own_ne).trans (h.1.alloc o)
theorem Wrt.put {w : World} {g : Nat} {t : TypeId} {v v' : Value} {rest : List Value} {l' : List UInt8} {n : Nat} {xs : List Value} (hb : Blk w g t (v :: rest).toArray) (h : w.ownsRow (g + 1) 5 1 v' n xs) (hn : n = l'.length) (hx : xs = bcells l') :
    Wrt (w.setCell ⟨g, 0, none⟩ v') g t v' rest l' := by
  subst hn hx
  refine ⟨by simpa using hb.set_ 0 v', h.1, ?_⟩
  rcases h.2 with h' | ⟨g', cap, cur, e, hg, hh, r⟩
  · exact .inl h'
  · refine .inr ⟨g', cap, cur, e, hg, ?_, r⟩
    exact (Below.heap_setCell w ⟨g, 0, none⟩ v' g' (by show g' ≠ g; omega)).trans hh
/-- What one step of a writer does to memory: block g, and the row from before, and new blocks. -/
def WSt (g : Nat) (own : Option Nat) (w : World) (own' : Option Nat) (w' : World) : Prop :=
  Fr (fun b => b = g ∨ some b = own) w w' ∧ (own' = own ∨ ∃ r, own' = some r ∧ w.heap.size ≤ r)
theorem WSt.refl (g : Nat) (own : Option Nat) (w : World) : WSt g own w own w := ⟨Fr.refl _ _, .inl rfl⟩
theorem WSt.trans {g : Nat} {o o' o'' : Option Nat} {w w' w'' : World} (h : WSt g o w o' w') (h' : WSt g o' w' o'' w'') : WSt g o w o'' w'' := by
  refine ⟨⟨Nat.le_trans h.1.1 h'.1.1, fun b hb hs => ?_, h'.1.3.1.trans h.1.3.1, h'.1.3.2.trans h.1.3.2⟩, ?_⟩
  · refine (h'.1.2 b (Nat.lt_of_lt_of_le hb h.1.1) (fun hx => ?_)).trans (h.1.2 b hb hs)
    rcases hx with rfl | hx
    · exact hs (.inl rfl)
    · rcases h.2 with e | ⟨r, e, hr⟩
      · rw [e] at hx; exact hs (.inr hx)
      · rw [e] at hx; injection hx with hx; omega
  · rcases h'.2 with e | ⟨r, e, hr⟩
    · rw [e]; exact h.2
    · exact .inr ⟨r, e, Nat.le_trans h.1.1 hr⟩

theorem info5 : (Tryd.prog.info? 5).map (fun i => (i.zero, i.size, i.bytes)) = some (some (.int .u8 0), 1, 1) := by kernel_rfl

theorem one_byte (n : Int) : ∀ u ∈ [Value.int .u8 n], u.oneCell' = true := by
  intro u hu
  simp at hu
  subst hu
  rfl
theorem row_form {w : World} {base e size n : Nat} {v : Value} {xs : List Value} (h : w.ownsRow base e size v n xs) (hn : 0 < n) : ∃ g cap, v = .slice (some ⟨g, 0, none⟩) n cap := by
  obtain ⟨g, cap, hv, _⟩ := h.form hn
  exact ⟨g, cap, hv⟩
/-- The bytes of a number, the least significant one first. -/
def leB (n : Int) : Nat → List UInt8
  | 0 => []
  | k + 1 => leB n k ++ [UInt8.ofNat (n / 2 ^ (8 * k) % 256).toNat]
theorem leB_length (n : Int) (k : Nat) : (leB n k).length = k := by induction k with
  | zero => rfl
  | succ k ih => simp [leB, ih]

theorem leB_byte (n : Int) (k : Nat) : Value.int .u8 ((UInt8.ofNat (n / 2 ^ (8 * k) % 256).toNat).toNat) = .int .u8 (IntKind.u8.wrap (n / 2 ^ (8 * (k : Int)).toNat)) := by
  have e : (8 * (k : Int)).toNat = 8 * k := by omega
  rw [e, IntKind.wrap_u8]
  generalize n / 2 ^ (8 * k) = m
  have h : (m % 256).toNat < 256 := by omega
  rw [UInt8.toNat_ofNat_of_lt' h]
  congr 1
  omega
theorem bcells_snoc (l : List UInt8) (n : Int) (k : Nat) : bcells l ++ [.int .u8 (IntKind.u8.wrap (n / 2 ^ (8 * (k : Int)).toNat))] = bcells (l ++ [UInt8.ofNat (n / 2 ^ (8 * k) % 256).toNat]) := by
  rw [← leB_byte]
  simp [bcells]
theorem WSt.step {g : Nat} {own : Option Nat} {w w1 w' : World} {t : TypeId} {v v' : Value} {rest : List Value} {l : List UInt8} {o : Obj} (h : WSt g own w v.ownBlock w1) (_hW : Wrt w1 g t v rest l)
    (h2 : (w1.alloc o).drew.grownBy w' v.ownBlock) (h3 : v'.ownBlock = v.ownBlock ∨ v'.ownBlock = some (w1.alloc o).drew.heap.size) : WSt g own w v'.ownBlock (w'.setCell ⟨g, 0, none⟩ v') := by
  refine h.trans ⟨⟨?_, fun b hb hs => ?_, h2.os, h2.output⟩, ?_⟩
  · have := h2.size; simp [World.setCell] at this ⊢; omega
  · have e1 := Below.heap_setCell w' ⟨g, 0, none⟩ v' b (fun e => hs (.inl e))
    have e2 := h2.block b (by simp; omega) (fun e => hs (.inr e))
    have e3 := Below.heap_alloc w1 o b hb
    exact e1.trans (e2.trans e3)
  · rcases h3 with e | e
    · exact .inl e
    · exact .inr ⟨_, e, by simp⟩
set_option maxHeartbeats 1000000 in
theorem wlittle_any (g : Nat) (t : TypeId) (v : Value) (rest : List Value) (l : List UInt8) (n : Int) (k : Nat) (w : World) (h : Wrt w g t v rest l) (hk : k ≤ 8) (hl : l.length ≤ 1000000) :
    Calls Tryd.prog 60 #[.pointer (some ⟨g, 0, none⟩), .int .i64 n, .int .i64 k] w (fun e w' => ∃ v', e = .returned (.int .i64 0) ∧ Wrt w' g t v' rest (l ++ leB n k) ∧ WSt g v.ownBlock w v'.ownBlock w') := by
  obtain ⟨i0, hi, hz0, hz1, hz2⟩ := info_parts info5
  go_enter Tryd.func60, Tryd.ntmps60
  go_wp2
  go_loopg [7, 9] k (fun gk _ i wr => ∃ (j : Nat) (vr : Value), j ≤ k ∧ gk = k - j ∧ i = .int .i64 j ∧ Wrt wr g t vr rest (l ++ leB n j) ∧ WSt g v.ownBlock w vr.ownBlock wr)
  case atStart => exact ⟨0, v, Nat.zero_le _, rfl, rfl, by simpa [leB] using h, WSt.refl _ _ _⟩
  case round =>
    obtain ⟨j, vr, hj, rfl, rfl, hW, hS⟩ := hrel
    have HS := Lib.hid hS
    have HW := Lib.hid hW
    have c0 : wr.cell? ⟨g, 0, none⟩ = some vr := hW.1.cell 0
    have c0a : ∀ o, (wr.alloc o).cell? ⟨g, 0, none⟩ = some vr := fun o => (hW.1.alloc o).cell0
    have hown := Lib.hid hW.2
    have hlen : (l ++ leB n j).length = l.length + j := by simp [leB_length]
    have Hlen := Lib.hid hlen
    clear hS hW hlen h
    by_cases hlt : j < k
    · have b8 : IntKind.i64.wrap (8 * (j : Int)) = 8 * j := IntWalk.i64_in _ (by omega)
      have b9 : (0 : Int) ≤ 8 * j := by omega
      have h63 : (l ++ leB n j).length + 1 ≤ maxLen := by rw [Hlen.out]; unfold maxLen; omega
      have hby : ((l ++ leB n j).length + 1) * 1 ≤ 140737488355328 := by rw [Hlen.out]; omega
      have hba : ∀ o, g + 1 ≤ (wr.alloc o).heap.size := fun o => by have := HW.out.lt; simp; omega
      have H63 := Lib.hid h63
      have Hby := Lib.hid hby
      have Hba := Lib.hid hba
      clear h63 hby hba
      go_wp2
      go_region_law (first | (refine step_append_own rfl (.tmp 16) (.tmp 22) 80 rfl (g + 1) 5 i0 (.int .u8 0) 1 1 Tryd.underlying80 hi hz0 hz1 hz2 rfl (by decide) vr (l ++ leB n j).length (bcells (l ++ leB n j)) rfl (hown.out.alloc _) ⟨wr.heap.size, 0, none⟩ 1 1 [.int .u8 (IntKind.u8.wrap (n / 2 ^ (8 * (j : Int)).toNat))] rfl rfl (cell_one_new _ _ _) (one_byte _) H63.out Hby.out (Hba.out _) (fun v' w' h1 h2 h3 => ?_); obtain ⟨g', cap', rfl⟩ := row_form h1 (Nat.succ_pos _); have hb := Wrt.after (w := wr.drew) HW.out h2; have c1 := hb.cell0; have f1 := hb.frozen 0))
      all_goals
        have HW2 := Lib.hid (Wrt.put (l' := l ++ leB n (j + 1)) hb h1 (by rw [Hlen.out]; simp [leB_length]; omega) (by rw [leB, ← List.append_assoc, bcells_snoc]))
        have HS2 := Lib.hid (WSt.step HS.out (w1 := wr) HW.out h2 h3)
        clear hb h1 h2 h3 c0 c0a c1 f1
        simp only [List.length_append] at HW2 HS2
        go_wp2
        go_roundg (k - (j + 1))
        case measure => omega
        case rel => exact ⟨j + 1, _, by omega, rfl, by go_num, HW2.out, HS2.out⟩
    · go_wp2
      go_ret
      obtain rfl : j = k := by omega
      exact ⟨_, rfl, HW.out, HS.out⟩
end Go.Proofs.YtggkebngkkddhaaDoor
