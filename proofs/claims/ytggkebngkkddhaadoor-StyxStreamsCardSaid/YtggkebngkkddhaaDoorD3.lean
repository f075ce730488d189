/- The walks through fields, a kind each (printed by gen_d3.py). -/
import Derived.Test.YtggkebngkkddhaaDoorD2
namespace Go.Proofs.YtggkebngkkddhaaDoor
open Go.RowKit
section
variable {V : Vis} {B : V.Big} {F S : Nat → Prop} {w wk : World} {b : Nat} {st : V.σ} {m : MV} {vn vq : Value}

theorem one_any {st' : V.σ} {w' : World} (h : MS V F S w b st m vn vq wk) (hp : FPre V B F S w b st' m vn vq w') (ho : isOne m.kind = true) (hfit : V.fit st 32) :
    Calls Tryd.prog 56 #[.iface V.T V.v, .pointer (some ⟨b, 0, none⟩)] wk (MPost V F S w b (V.one st m)) := by
  rcases hp.one ho with hm | ⟨q, hm⟩
  · exact one_no hp.hV h hm hfit
  · exact one_yes hp.hV h hm (hp.qf ho) (hp.r.qids q (by rw [hm]; simp)) hfit

set_option maxRecDepth 100000 in
set_option maxHeartbeats 4000000 in
theorem fields_100 (hp : FPre V B F S w b st m vn vq wk) (hk : m.kind = 100) : Calls Tryd.prog 23 #[.iface V.T V.v, .pointer (some ⟨b, 0, none⟩)] wk (MPost V F S w b (V.fields B st m)) := by
  have c0 : wk.cell? ⟨b, 0, none⟩ = some (.int .i64 100) := by rw [← hk]; exact hp.h.blk.cell 0
  have hfl : V.fields B st m = V.visits B [.S, .v] st m := by unfold Vis.fields; rw [hk]; rfl
  have HP := Lib.hid hp
  have HF := Lib.hid hfl
  rw [hfl]
  have mn0 := hp.hV.mnum.n
  have mm0 := hp.hV.mnum.m
  have mc0 := hp.hV.mnum.c
  have mn1 := hp.hV.mtext.n
  have mm1 := hp.hV.mtext.m
  have mc1 := hp.hV.mtext.c
  have hfit := hp.fit
  unfold MV.need at hfit
  have f0 : V.fit st (200 + (8) + (m.version.size + 8)) := hp.hV.fit_le _ _ _ hfit (by omega)
  have H0 := Lib.hid hp.h
  clear hp hfit hfl hk
  have F0 := Lib.hid f0
  clear f0
  go_enter Tryd.func23, Tryd.ntmps23
  go_wp2
  go_still_tail 7, (by kernel_rfl)
  go_wp2_with fail
  refine ((H0.out.drew HP.out.hV).n_size HP.out.hV (show V.fit st (8) from HP.out.hV.fit_le _ _ _ F0.out (by omega))).mono ?_
  rintro _ w1 ⟨rfl, h1⟩
  have H1 := Lib.hid h1
  clear h1
  have F1 : Hid (V.fit (V.num st m.size 4).2 (200 + (m.version.size + 8))) := Lib.hid (HP.out.hV.fnumS _ _ 4 _ (by omega) (HP.out.hV.fit_le _ _ _ F0.out (by omega)))
  go_wp2
  go_still_tail 7, (by kernel_rfl)
  go_wp2_with fail
  refine ((H1.out.drew HP.out.hV).t_version HP.out.hV (show V.fit (V.num st m.size 4).2 (m.version.size + 8) from HP.out.hV.fit_le _ _ _ F1.out (by omega))).mono ?_
  rintro _ w2 ⟨rfl, h1⟩
  have H2 := Lib.hid h1
  clear h1
  go_wp2
  go_end0
  exact ⟨rfl, _, _, H2.out⟩

set_option maxRecDepth 100000 in
set_option maxHeartbeats 4000000 in
theorem fields_101 (hp : FPre V B F S w b st m vn vq wk) (hk : m.kind = 101) : Calls Tryd.prog 23 #[.iface V.T V.v, .pointer (some ⟨b, 0, none⟩)] wk (MPost V F S w b (V.fields B st m)) := by
  have c0 : wk.cell? ⟨b, 0, none⟩ = some (.int .i64 101) := by rw [← hk]; exact hp.h.blk.cell 0
  have hfl : V.fields B st m = V.visits B [.S, .v] st m := by unfold Vis.fields; rw [hk]; rfl
  have HP := Lib.hid hp
  have HF := Lib.hid hfl
  rw [hfl]
  have mn0 := hp.hV.mnum.n
  have mm0 := hp.hV.mnum.m
  have mc0 := hp.hV.mnum.c
  have mn1 := hp.hV.mtext.n
  have mm1 := hp.hV.mtext.m
  have mc1 := hp.hV.mtext.c
  have hfit := hp.fit
  unfold MV.need at hfit
  have f0 : V.fit st (200 + (8) + (m.version.size + 8)) := hp.hV.fit_le _ _ _ hfit (by omega)
  have H0 := Lib.hid hp.h
  clear hp hfit hfl hk
  have F0 := Lib.hid f0
  clear f0
  go_enter Tryd.func23, Tryd.ntmps23
  go_wp2
  go_still_tail 7, (by kernel_rfl)
  go_wp2_with fail
  refine ((H0.out.drew HP.out.hV).n_size HP.out.hV (show V.fit st (8) from HP.out.hV.fit_le _ _ _ F0.out (by omega))).mono ?_
  rintro _ w1 ⟨rfl, h1⟩
  have H1 := Lib.hid h1
  clear h1
  have F1 : Hid (V.fit (V.num st m.size 4).2 (200 + (m.version.size + 8))) := Lib.hid (HP.out.hV.fnumS _ _ 4 _ (by omega) (HP.out.hV.fit_le _ _ _ F0.out (by omega)))
  go_wp2
  go_still_tail 7, (by kernel_rfl)
  go_wp2_with fail
  refine ((H1.out.drew HP.out.hV).t_version HP.out.hV (show V.fit (V.num st m.size 4).2 (m.version.size + 8) from HP.out.hV.fit_le _ _ _ F1.out (by omega))).mono ?_
  rintro _ w2 ⟨rfl, h1⟩
  have H2 := Lib.hid h1
  clear h1
  go_wp2
  go_end0
  exact ⟨rfl, _, _, H2.out⟩

set_option maxRecDepth 100000 in
set_option maxHeartbeats 4000000 in
theorem fields_102 (hp : FPre V B F S w b st m vn vq wk) (hk : m.kind = 102) : Calls Tryd.prog 23 #[.iface V.T V.v, .pointer (some ⟨b, 0, none⟩)] wk (MPost V F S w b (V.fields B st m)) := by
  have c0 : wk.cell? ⟨b, 0, none⟩ = some (.int .i64 102) := by rw [← hk]; exact hp.h.blk.cell 0
  have hfl : V.fields B st m = V.visits B [.f, .u, .t] st m := by unfold Vis.fields; rw [hk]; rfl
  have HP := Lib.hid hp
  have HF := Lib.hid hfl
  rw [hfl]
  have mn0 := hp.hV.mnum.n
  have mm0 := hp.hV.mnum.m
  have mc0 := hp.hV.mnum.c
  have mn1 := hp.hV.mtext.n
  have mm1 := hp.hV.mtext.m
  have mc1 := hp.hV.mtext.c
  have hfit := hp.fit
  unfold MV.need at hfit
  have f0 : V.fit st (200 + (8) + (m.user.size + 8) + (m.tree.size + 8)) := hp.hV.fit_le _ _ _ hfit (by omega)
  have H0 := Lib.hid hp.h
  clear hp hfit hfl hk
  have F0 := Lib.hid f0
  clear f0
  go_enter Tryd.func23, Tryd.ntmps23
  go_wp2
  go_still_tail 7, (by kernel_rfl)
  go_wp2_with fail
  refine ((H0.out.drew HP.out.hV).n_fid HP.out.hV (show V.fit st (8) from HP.out.hV.fit_le _ _ _ F0.out (by omega))).mono ?_
  rintro _ w1 ⟨rfl, h1⟩
  have H1 := Lib.hid h1
  clear h1
  have F1 : Hid (V.fit (V.num st m.fid 4).2 (200 + (m.user.size + 8) + (m.tree.size + 8))) := Lib.hid (HP.out.hV.fnumS _ _ 4 _ (by omega) (HP.out.hV.fit_le _ _ _ F0.out (by omega)))
  go_wp2
  go_still_tail 7, (by kernel_rfl)
  go_wp2_with fail
  refine ((H1.out.drew HP.out.hV).t_user HP.out.hV (show V.fit (V.num st m.fid 4).2 (m.user.size + 8) from HP.out.hV.fit_le _ _ _ F1.out (by omega))).mono ?_
  rintro _ w2 ⟨rfl, h1⟩
  have H2 := Lib.hid h1
  clear h1
  have F2 : Hid (V.fit (V.text (V.num st m.fid 4).2 m.user).2 (200 + (m.tree.size + 8))) := Lib.hid (HP.out.hV.ftextS _ _ _ (HP.out.hV.fit_le _ _ _ F1.out (by omega)))
  go_wp2
  go_still_tail 7, (by kernel_rfl)
  go_wp2_with fail
  refine ((H2.out.drew HP.out.hV).t_tree HP.out.hV (show V.fit (V.text (V.num st m.fid 4).2 m.user).2 (m.tree.size + 8) from HP.out.hV.fit_le _ _ _ F2.out (by omega))).mono ?_
  rintro _ w3 ⟨rfl, h1⟩
  have H3 := Lib.hid h1
  clear h1
  go_wp2
  go_end0
  exact ⟨rfl, _, _, H3.out⟩

set_option maxRecDepth 100000 in
set_option maxHeartbeats 4000000 in
theorem fields_103 (hp : FPre V B F S w b st m vn vq wk) (hk : m.kind = 103) : Calls Tryd.prog 23 #[.iface V.T V.v, .pointer (some ⟨b, 0, none⟩)] wk (MPost V F S w b (V.fields B st m)) := by
  have c0 : wk.cell? ⟨b, 0, none⟩ = some (.int .i64 103) := by rw [← hk]; exact hp.h.blk.cell 0
  have hfl : V.fields B st m = V.visits B [.q] st m := by unfold Vis.fields; rw [hk]; rfl
  have HP := Lib.hid hp
  have HF := Lib.hid hfl
  rw [hfl]
  have hfit := hp.fit
  unfold MV.need at hfit
  have f0 : V.fit st (200 + (32)) := hp.hV.fit_le _ _ _ hfit (by omega)
  have H0 := Lib.hid hp.h
  have HO : Hid (isOne m.kind = true) := Lib.hid (by rw [hk]; decide)
  clear hp hfit hfl hk
  have F0 := Lib.hid f0
  clear f0
  go_enter Tryd.func23, Tryd.ntmps23
  go_wp2_with fail
  refine (one_any H0.out HP.out HO.out (show V.fit st 32 from HP.out.hV.fit_le _ _ _ F0.out (by omega))).mono ?_
  rintro _ w1 ⟨rfl, vn1, vq1, h1⟩
  have H1 := Lib.hid h1
  clear h1
  go_wp2
  go_end0
  exact ⟨rfl, _, _, H1.out⟩

set_option maxRecDepth 100000 in
set_option maxHeartbeats 4000000 in
theorem fields_104 (hp : FPre V B F S w b st m vn vq wk) (hk : m.kind = 104) : Calls Tryd.prog 23 #[.iface V.T V.v, .pointer (some ⟨b, 0, none⟩)] wk (MPost V F S w b (V.fields B st m)) := by
  have c0 : wk.cell? ⟨b, 0, none⟩ = some (.int .i64 104) := by rw [← hk]; exact hp.h.blk.cell 0
  have hfl : V.fields B st m = V.visits B [.f, .o, .u, .t] st m := by unfold Vis.fields; rw [hk]; rfl
  have HP := Lib.hid hp
  have HF := Lib.hid hfl
  rw [hfl]
  have mn0 := hp.hV.mnum.n
  have mm0 := hp.hV.mnum.m
  have mc0 := hp.hV.mnum.c
  have mn1 := hp.hV.mtext.n
  have mm1 := hp.hV.mtext.m
  have mc1 := hp.hV.mtext.c
  have hfit := hp.fit
  unfold MV.need at hfit
  have f0 : V.fit st (200 + (8) + (8) + (m.user.size + 8) + (m.tree.size + 8)) := hp.hV.fit_le _ _ _ hfit (by omega)
  have H0 := Lib.hid hp.h
  clear hp hfit hfl hk
  have F0 := Lib.hid f0
  clear f0
  go_enter Tryd.func23, Tryd.ntmps23
  go_wp2
  go_still_tail 7, (by kernel_rfl)
  go_wp2_with fail
  refine ((H0.out.drew HP.out.hV).n_fid HP.out.hV (show V.fit st (8) from HP.out.hV.fit_le _ _ _ F0.out (by omega))).mono ?_
  rintro _ w1 ⟨rfl, h1⟩
  have H1 := Lib.hid h1
  clear h1
  have F1 : Hid (V.fit (V.num st m.fid 4).2 (200 + (8) + (m.user.size + 8) + (m.tree.size + 8))) := Lib.hid (HP.out.hV.fnumS _ _ 4 _ (by omega) (HP.out.hV.fit_le _ _ _ F0.out (by omega)))
  go_wp2
  go_still_tail 7, (by kernel_rfl)
  go_wp2_with fail
  refine ((H1.out.drew HP.out.hV).n_other HP.out.hV (show V.fit (V.num st m.fid 4).2 (8) from HP.out.hV.fit_le _ _ _ F1.out (by omega))).mono ?_
  rintro _ w2 ⟨rfl, h1⟩
  have H2 := Lib.hid h1
  clear h1
  have F2 : Hid (V.fit (V.num (V.num st m.fid 4).2 m.other 4).2 (200 + (m.user.size + 8) + (m.tree.size + 8))) := Lib.hid (HP.out.hV.fnumS _ _ 4 _ (by omega) (HP.out.hV.fit_le _ _ _ F1.out (by omega)))
  go_wp2
  go_still_tail 7, (by kernel_rfl)
  go_wp2_with fail
  refine ((H2.out.drew HP.out.hV).t_user HP.out.hV (show V.fit (V.num (V.num st m.fid 4).2 m.other 4).2 (m.user.size + 8) from HP.out.hV.fit_le _ _ _ F2.out (by omega))).mono ?_
  rintro _ w3 ⟨rfl, h1⟩
  have H3 := Lib.hid h1
  clear h1
  have F3 : Hid (V.fit (V.text (V.num (V.num st m.fid 4).2 m.other 4).2 m.user).2 (200 + (m.tree.size + 8))) := Lib.hid (HP.out.hV.ftextS _ _ _ (HP.out.hV.fit_le _ _ _ F2.out (by omega)))
  go_wp2
  go_still_tail 7, (by kernel_rfl)
  go_wp2_with fail
  refine ((H3.out.drew HP.out.hV).t_tree HP.out.hV (show V.fit (V.text (V.num (V.num st m.fid 4).2 m.other 4).2 m.user).2 (m.tree.size + 8) from HP.out.hV.fit_le _ _ _ F3.out (by omega))).mono ?_
  rintro _ w4 ⟨rfl, h1⟩
  have H4 := Lib.hid h1
  clear h1
  go_wp2
  go_end0
  exact ⟨rfl, _, _, H4.out⟩

set_option maxRecDepth 100000 in
set_option maxHeartbeats 4000000 in
theorem fields_105 (hp : FPre V B F S w b st m vn vq wk) (hk : m.kind = 105) : Calls Tryd.prog 23 #[.iface V.T V.v, .pointer (some ⟨b, 0, none⟩)] wk (MPost V F S w b (V.fields B st m)) := by
  have c0 : wk.cell? ⟨b, 0, none⟩ = some (.int .i64 105) := by rw [← hk]; exact hp.h.blk.cell 0
  have hfl : V.fields B st m = V.visits B [.q] st m := by unfold Vis.fields; rw [hk]; rfl
  have HP := Lib.hid hp
  have HF := Lib.hid hfl
  rw [hfl]
  have hfit := hp.fit
  unfold MV.need at hfit
  have f0 : V.fit st (200 + (32)) := hp.hV.fit_le _ _ _ hfit (by omega)
  have H0 := Lib.hid hp.h
  have HO : Hid (isOne m.kind = true) := Lib.hid (by rw [hk]; decide)
  clear hp hfit hfl hk
  have F0 := Lib.hid f0
  clear f0
  go_enter Tryd.func23, Tryd.ntmps23
  go_wp2_with fail
  refine (one_any H0.out HP.out HO.out (show V.fit st 32 from HP.out.hV.fit_le _ _ _ F0.out (by omega))).mono ?_
  rintro _ w1 ⟨rfl, vn1, vq1, h1⟩
  have H1 := Lib.hid h1
  clear h1
  go_wp2
  go_end0
  exact ⟨rfl, _, _, H1.out⟩

set_option maxRecDepth 100000 in
set_option maxHeartbeats 4000000 in
theorem fields_108 (hp : FPre V B F S w b st m vn vq wk) (hk : m.kind = 108) : Calls Tryd.prog 23 #[.iface V.T V.v, .pointer (some ⟨b, 0, none⟩)] wk (MPost V F S w b (V.fields B st m)) := by
  have c0 : wk.cell? ⟨b, 0, none⟩ = some (.int .i64 108) := by rw [← hk]; exact hp.h.blk.cell 0
  have hfl : V.fields B st m = V.visits B [.d] st m := by unfold Vis.fields; rw [hk]; rfl
  have HP := Lib.hid hp
  have HF := Lib.hid hfl
  rw [hfl]
  have mn0 := hp.hV.mnum.n
  have mm0 := hp.hV.mnum.m
  have mc0 := hp.hV.mnum.c
  have hfit := hp.fit
  unfold MV.need at hfit
  have f0 : V.fit st (200 + (8)) := hp.hV.fit_le _ _ _ hfit (by omega)
  have H0 := Lib.hid hp.h
  clear hp hfit hfl hk
  have F0 := Lib.hid f0
  clear f0
  go_enter Tryd.func23, Tryd.ntmps23
  go_wp2
  go_still_tail 7, (by kernel_rfl)
  go_wp2_with fail
  refine ((H0.out.drew HP.out.hV).n_old HP.out.hV (show V.fit st (8) from HP.out.hV.fit_le _ _ _ F0.out (by omega))).mono ?_
  rintro _ w1 ⟨rfl, h1⟩
  have H1 := Lib.hid h1
  clear h1
  go_wp2
  go_end0
  exact ⟨rfl, _, _, H1.out⟩

set_option maxRecDepth 100000 in
set_option maxHeartbeats 4000000 in
theorem fields_109 (hp : FPre V B F S w b st m vn vq wk) (hk : m.kind = 109) : Calls Tryd.prog 23 #[.iface V.T V.v, .pointer (some ⟨b, 0, none⟩)] wk (MPost V F S w b (V.fields B st m)) := by
  have c0 : wk.cell? ⟨b, 0, none⟩ = some (.int .i64 109) := by rw [← hk]; exact hp.h.blk.cell 0
  have hfl : V.fields B st m = V.visits B [] st m := by unfold Vis.fields; rw [hk]; rfl
  have HP := Lib.hid hp
  have HF := Lib.hid hfl
  rw [hfl]
  have hfit := hp.fit
  unfold MV.need at hfit
  have f0 : V.fit st (200) := hp.hV.fit_le _ _ _ hfit (by omega)
  have H0 := Lib.hid hp.h
  clear hp hfit hfl hk
  have F0 := Lib.hid f0
  clear f0
  go_enter Tryd.func23, Tryd.ntmps23
  go_wp2
  go_end0
  exact ⟨rfl, _, _, H0.out⟩

set_option maxRecDepth 100000 in
set_option maxHeartbeats 4000000 in
theorem fields_110 (hp : FPre V B F S w b st m vn vq wk) (hk : m.kind = 110) : Calls Tryd.prog 23 #[.iface V.T V.v, .pointer (some ⟨b, 0, none⟩)] wk (MPost V F S w b (V.fields B st m)) := by
  have c0 : wk.cell? ⟨b, 0, none⟩ = some (.int .i64 110) := by rw [← hk]; exact hp.h.blk.cell 0
  have hfl : V.fields B st m = V.visits B [.f, .o, .n] st m := by unfold Vis.fields; rw [hk]; rfl
  have HP := Lib.hid hp
  have HF := Lib.hid hfl
  rw [hfl]
  have mn0 := hp.hV.mnum.n
  have mm0 := hp.hV.mnum.m
  have mc0 := hp.hV.mnum.c
  have mn1 := hp.hB.mnames.n
  have mm1 := hp.hB.mnames.m
  have mc1 := hp.hB.mnames.c
  have hfit := hp.fit
  unfold MV.need at hfit
  have f0 : V.fit st (200 + (8) + (8) + (sizes m.names + 20)) := hp.hV.fit_le _ _ _ hfit (by omega)
  have H0 := Lib.hid hp.h
  clear hp hfit hfl hk
  have F0 := Lib.hid f0
  clear f0
  go_enter Tryd.func23, Tryd.ntmps23
  go_wp2
  go_still_tail 7, (by kernel_rfl)
  go_wp2_with fail
  refine ((H0.out.drew HP.out.hV).n_fid HP.out.hV (show V.fit st (8) from HP.out.hV.fit_le _ _ _ F0.out (by omega))).mono ?_
  rintro _ w1 ⟨rfl, h1⟩
  have H1 := Lib.hid h1
  clear h1
  have F1 : Hid (V.fit (V.num st m.fid 4).2 (200 + (8) + (sizes m.names + 20))) := Lib.hid (HP.out.hV.fnumS _ _ 4 _ (by omega) (HP.out.hV.fit_le _ _ _ F0.out (by omega)))
  go_wp2
  go_still_tail 7, (by kernel_rfl)
  go_wp2_with fail
  refine ((H1.out.drew HP.out.hV).n_other HP.out.hV (show V.fit (V.num st m.fid 4).2 (8) from HP.out.hV.fit_le _ _ _ F1.out (by omega))).mono ?_
  rintro _ w2 ⟨rfl, h1⟩
  have H2 := Lib.hid h1
  clear h1
  have F2 : Hid (V.fit (V.num (V.num st m.fid 4).2 m.other 4).2 (200 + (sizes m.names + 20))) := Lib.hid (HP.out.hV.fnumS _ _ 4 _ (by omega) (HP.out.hV.fit_le _ _ _ F1.out (by omega)))
  go_wp2
  go_still_tail 7, (by kernel_rfl)
  go_wp2_with fail
  refine ((H2.out.drew HP.out.hV).names HP.out.hB HP.out.pn (show V.fit (V.num (V.num st m.fid 4).2 m.other 4).2 (sizes m.names + 20) from HP.out.hV.fit_le _ _ _ F2.out (by omega))).mono ?_
  rintro _ w3 ⟨rfl, vn1, h1⟩
  have H3 := Lib.hid h1
  clear h1
  go_wp2
  go_end0
  exact ⟨rfl, _, _, H3.out⟩

set_option maxRecDepth 100000 in
set_option maxHeartbeats 4000000 in
theorem fields_111 (hp : FPre V B F S w b st m vn vq wk) (hk : m.kind = 111) : Calls Tryd.prog 23 #[.iface V.T V.v, .pointer (some ⟨b, 0, none⟩)] wk (MPost V F S w b (V.fields B st m)) := by
  have c0 : wk.cell? ⟨b, 0, none⟩ = some (.int .i64 111) := by rw [← hk]; exact hp.h.blk.cell 0
  have hfl : V.fields B st m = V.visits B [.Q] st m := by unfold Vis.fields; rw [hk]; rfl
  have HP := Lib.hid hp
  have HF := Lib.hid hfl
  rw [hfl]
  have mn0 := hp.hB.mqids.n
  have mm0 := hp.hB.mqids.m
  have mc0 := hp.hB.mqids.c
  have hfit := hp.fit
  unfold MV.need at hfit
  have f0 : V.fit st (200 + (13 * m.qids.length + 100)) := hp.hV.fit_le _ _ _ hfit (by omega)
  have H0 := Lib.hid hp.h
  clear hp hfit hfl hk
  have F0 := Lib.hid f0
  clear f0
  go_enter Tryd.func23, Tryd.ntmps23
  go_wp2
  go_still_tail 7, (by kernel_rfl)
  go_wp2_with fail
  refine ((H0.out.drew HP.out.hV).qids HP.out.hB HP.out.pq HP.out.r.qids (show V.fit st (13 * m.qids.length + 100) from HP.out.hV.fit_le _ _ _ F0.out (by omega))).mono ?_
  rintro _ w1 ⟨rfl, vq1, h1⟩
  have H1 := Lib.hid h1
  clear h1
  go_wp2
  go_end0
  exact ⟨rfl, _, _, H1.out⟩

set_option maxRecDepth 100000 in
set_option maxHeartbeats 4000000 in
theorem fields_112 (hp : FPre V B F S w b st m vn vq wk) (hk : m.kind = 112) : Calls Tryd.prog 23 #[.iface V.T V.v, .pointer (some ⟨b, 0, none⟩)] wk (MPost V F S w b (V.fields B st m)) := by
  have c0 : wk.cell? ⟨b, 0, none⟩ = some (.int .i64 112) := by rw [← hk]; exact hp.h.blk.cell 0
  have hfl : V.fields B st m = V.visits B [.f, .m] st m := by unfold Vis.fields; rw [hk]; rfl
  have HP := Lib.hid hp
  have HF := Lib.hid hfl
  rw [hfl]
  have mn0 := hp.hV.mnum.n
  have mm0 := hp.hV.mnum.m
  have mc0 := hp.hV.mnum.c
  have hfit := hp.fit
  unfold MV.need at hfit
  have f0 : V.fit st (200 + (8) + (8)) := hp.hV.fit_le _ _ _ hfit (by omega)
  have H0 := Lib.hid hp.h
  clear hp hfit hfl hk
  have F0 := Lib.hid f0
  clear f0
  go_enter Tryd.func23, Tryd.ntmps23
  go_wp2
  go_still_tail 7, (by kernel_rfl)
  go_wp2_with fail
  refine ((H0.out.drew HP.out.hV).n_fid HP.out.hV (show V.fit st (8) from HP.out.hV.fit_le _ _ _ F0.out (by omega))).mono ?_
  rintro _ w1 ⟨rfl, h1⟩
  have H1 := Lib.hid h1
  clear h1
  have F1 : Hid (V.fit (V.num st m.fid 4).2 (200 + (8))) := Lib.hid (HP.out.hV.fnumS _ _ 4 _ (by omega) (HP.out.hV.fit_le _ _ _ F0.out (by omega)))
  go_wp2
  go_still_tail 7, (by kernel_rfl)
  go_wp2_with fail
  refine ((H1.out.drew HP.out.hV).n_mode HP.out.hV (show V.fit (V.num st m.fid 4).2 (8) from HP.out.hV.fit_le _ _ _ F1.out (by omega))).mono ?_
  rintro _ w2 ⟨rfl, h1⟩
  have H2 := Lib.hid h1
  clear h1
  go_wp2
  go_end0
  exact ⟨rfl, _, _, H2.out⟩

set_option maxRecDepth 100000 in
set_option maxHeartbeats 4000000 in
theorem fields_113 (hp : FPre V B F S w b st m vn vq wk) (hk : m.kind = 113) : Calls Tryd.prog 23 #[.iface V.T V.v, .pointer (some ⟨b, 0, none⟩)] wk (MPost V F S w b (V.fields B st m)) := by
  have c0 : wk.cell? ⟨b, 0, none⟩ = some (.int .i64 113) := by rw [← hk]; exact hp.h.blk.cell 0
  have hfl : V.fields B st m = V.visits B [.q, .S] st m := by unfold Vis.fields; rw [hk]; rfl
  have HP := Lib.hid hp
  have HF := Lib.hid hfl
  rw [hfl]
  have mn0 := hp.hV.mnum.n
  have mm0 := hp.hV.mnum.m
  have mc0 := hp.hV.mnum.c
  have hfit := hp.fit
  unfold MV.need at hfit
  have f0 : V.fit st (200 + (32) + (8)) := hp.hV.fit_le _ _ _ hfit (by omega)
  have H0 := Lib.hid hp.h
  have HO : Hid (isOne m.kind = true) := Lib.hid (by rw [hk]; decide)
  clear hp hfit hfl hk
  have F0 := Lib.hid f0
  clear f0
  go_enter Tryd.func23, Tryd.ntmps23
  go_wp2_with fail
  refine (one_any H0.out HP.out HO.out (show V.fit st 32 from HP.out.hV.fit_le _ _ _ F0.out (by omega))).mono ?_
  rintro _ w1 ⟨rfl, vn1, vq1, h1⟩
  have H1 := Lib.hid h1
  clear h1
  have F1 : Hid (V.fit (V.one st m).2 (200 + (8))) := Lib.hid (HP.out.hV.fqid _ _ _ (HP.out.hV.fit_le _ _ _ F0.out (by omega)))
  go_wp2
  go_still_tail 7, (by kernel_rfl)
  go_wp2_with fail
  refine ((H1.out.drew HP.out.hV).n_size HP.out.hV (show V.fit (V.one st m).2 (8) from HP.out.hV.fit_le _ _ _ F1.out (by omega))).mono ?_
  rintro _ w2 ⟨rfl, h1⟩
  have H2 := Lib.hid h1
  clear h1
  go_wp2
  go_end0
  exact ⟨rfl, _, _, H2.out⟩

set_option maxRecDepth 100000 in
set_option maxHeartbeats 4000000 in
theorem fields_114 (hp : FPre V B F S w b st m vn vq wk) (hk : m.kind = 114) : Calls Tryd.prog 23 #[.iface V.T V.v, .pointer (some ⟨b, 0, none⟩)] wk (MPost V F S w b (V.fields B st m)) := by
  have c0 : wk.cell? ⟨b, 0, none⟩ = some (.int .i64 114) := by rw [← hk]; exact hp.h.blk.cell 0
  have hfl : V.fields B st m = V.visits B [.f, .N, .p, .m] st m := by unfold Vis.fields; rw [hk]; rfl
  have HP := Lib.hid hp
  have HF := Lib.hid hfl
  rw [hfl]
  have mn0 := hp.hV.mnum.n
  have mm0 := hp.hV.mnum.m
  have mc0 := hp.hV.mnum.c
  have mn1 := hp.hV.mtext.n
  have mm1 := hp.hV.mtext.m
  have mc1 := hp.hV.mtext.c
  have hfit := hp.fit
  unfold MV.need at hfit
  have f0 : V.fit st (200 + (8) + (m.name.size + 8) + (8) + (8)) := hp.hV.fit_le _ _ _ hfit (by omega)
  have H0 := Lib.hid hp.h
  clear hp hfit hfl hk
  have F0 := Lib.hid f0
  clear f0
  go_enter Tryd.func23, Tryd.ntmps23
  go_wp2
  go_still_tail 7, (by kernel_rfl)
  go_wp2_with fail
  refine ((H0.out.drew HP.out.hV).n_fid HP.out.hV (show V.fit st (8) from HP.out.hV.fit_le _ _ _ F0.out (by omega))).mono ?_
  rintro _ w1 ⟨rfl, h1⟩
  have H1 := Lib.hid h1
  clear h1
  have F1 : Hid (V.fit (V.num st m.fid 4).2 (200 + (m.name.size + 8) + (8) + (8))) := Lib.hid (HP.out.hV.fnumS _ _ 4 _ (by omega) (HP.out.hV.fit_le _ _ _ F0.out (by omega)))
  go_wp2
  go_still_tail 7, (by kernel_rfl)
  go_wp2_with fail
  refine ((H1.out.drew HP.out.hV).t_name HP.out.hV (show V.fit (V.num st m.fid 4).2 (m.name.size + 8) from HP.out.hV.fit_le _ _ _ F1.out (by omega))).mono ?_
  rintro _ w2 ⟨rfl, h1⟩
  have H2 := Lib.hid h1
  clear h1
  have F2 : Hid (V.fit (V.text (V.num st m.fid 4).2 m.name).2 (200 + (8) + (8))) := Lib.hid (HP.out.hV.ftextS _ _ _ (HP.out.hV.fit_le _ _ _ F1.out (by omega)))
  go_wp2
  go_still_tail 7, (by kernel_rfl)
  go_wp2_with fail
  refine ((H2.out.drew HP.out.hV).n_perm HP.out.hV (show V.fit (V.text (V.num st m.fid 4).2 m.name).2 (8) from HP.out.hV.fit_le _ _ _ F2.out (by omega))).mono ?_
  rintro _ w3 ⟨rfl, h1⟩
  have H3 := Lib.hid h1
  clear h1
  have F3 : Hid (V.fit (V.num (V.text (V.num st m.fid 4).2 m.name).2 m.perm 4).2 (200 + (8))) := Lib.hid (HP.out.hV.fnumS _ _ 4 _ (by omega) (HP.out.hV.fit_le _ _ _ F2.out (by omega)))
  go_wp2
  go_still_tail 7, (by kernel_rfl)
  go_wp2_with fail
  refine ((H3.out.drew HP.out.hV).n_mode HP.out.hV (show V.fit (V.num (V.text (V.num st m.fid 4).2 m.name).2 m.perm 4).2 (8) from HP.out.hV.fit_le _ _ _ F3.out (by omega))).mono ?_
  rintro _ w4 ⟨rfl, h1⟩
  have H4 := Lib.hid h1
  clear h1
  go_wp2
  go_end0
  exact ⟨rfl, _, _, H4.out⟩

set_option maxRecDepth 100000 in
set_option maxHeartbeats 4000000 in
theorem fields_115 (hp : FPre V B F S w b st m vn vq wk) (hk : m.kind = 115) : Calls Tryd.prog 23 #[.iface V.T V.v, .pointer (some ⟨b, 0, none⟩)] wk (MPost V F S w b (V.fields B st m)) := by
  have c0 : wk.cell? ⟨b, 0, none⟩ = some (.int .i64 115) := by rw [← hk]; exact hp.h.blk.cell 0
  have hfl : V.fields B st m = V.visits B [.q, .S] st m := by unfold Vis.fields; rw [hk]; rfl
  have HP := Lib.hid hp
  have HF := Lib.hid hfl
  rw [hfl]
  have mn0 := hp.hV.mnum.n
  have mm0 := hp.hV.mnum.m
  have mc0 := hp.hV.mnum.c
  have hfit := hp.fit
  unfold MV.need at hfit
  have f0 : V.fit st (200 + (32) + (8)) := hp.hV.fit_le _ _ _ hfit (by omega)
  have H0 := Lib.hid hp.h
  have HO : Hid (isOne m.kind = true) := Lib.hid (by rw [hk]; decide)
  clear hp hfit hfl hk
  have F0 := Lib.hid f0
  clear f0
  go_enter Tryd.func23, Tryd.ntmps23
  go_wp2_with fail
  refine (one_any H0.out HP.out HO.out (show V.fit st 32 from HP.out.hV.fit_le _ _ _ F0.out (by omega))).mono ?_
  rintro _ w1 ⟨rfl, vn1, vq1, h1⟩
  have H1 := Lib.hid h1
  clear h1
  have F1 : Hid (V.fit (V.one st m).2 (200 + (8))) := Lib.hid (HP.out.hV.fqid _ _ _ (HP.out.hV.fit_le _ _ _ F0.out (by omega)))
  go_wp2
  go_still_tail 7, (by kernel_rfl)
  go_wp2_with fail
  refine ((H1.out.drew HP.out.hV).n_size HP.out.hV (show V.fit (V.one st m).2 (8) from HP.out.hV.fit_le _ _ _ F1.out (by omega))).mono ?_
  rintro _ w2 ⟨rfl, h1⟩
  have H2 := Lib.hid h1
  clear h1
  go_wp2
  go_end0
  exact ⟨rfl, _, _, H2.out⟩

set_option maxRecDepth 100000 in
set_option maxHeartbeats 4000000 in
theorem fields_116 (hp : FPre V B F S w b st m vn vq wk) (hk : m.kind = 116) : Calls Tryd.prog 23 #[.iface V.T V.v, .pointer (some ⟨b, 0, none⟩)] wk (MPost V F S w b (V.fields B st m)) := by
  have c0 : wk.cell? ⟨b, 0, none⟩ = some (.int .i64 116) := by rw [← hk]; exact hp.h.blk.cell 0
  have hfl : V.fields B st m = V.visits B [.f, .O, .S] st m := by unfold Vis.fields; rw [hk]; rfl
  have HP := Lib.hid hp
  have HF := Lib.hid hfl
  rw [hfl]
  have mn0 := hp.hV.mnum.n
  have mm0 := hp.hV.mnum.m
  have mc0 := hp.hV.mnum.c
  have mn1 := hp.hV.mlong.n
  have mm1 := hp.hV.mlong.m
  have mc1 := hp.hV.mlong.c
  have hfit := hp.fit
  unfold MV.need at hfit
  have f0 : V.fit st (200 + (8) + (8) + (8)) := hp.hV.fit_le _ _ _ hfit (by omega)
  have H0 := Lib.hid hp.h
  clear hp hfit hfl hk
  have F0 := Lib.hid f0
  clear f0
  go_enter Tryd.func23, Tryd.ntmps23
  go_wp2
  go_still_tail 7, (by kernel_rfl)
  go_wp2_with fail
  refine ((H0.out.drew HP.out.hV).n_fid HP.out.hV (show V.fit st (8) from HP.out.hV.fit_le _ _ _ F0.out (by omega))).mono ?_
  rintro _ w1 ⟨rfl, h1⟩
  have H1 := Lib.hid h1
  clear h1
  have F1 : Hid (V.fit (V.num st m.fid 4).2 (200 + (8) + (8))) := Lib.hid (HP.out.hV.fnumS _ _ 4 _ (by omega) (HP.out.hV.fit_le _ _ _ F0.out (by omega)))
  go_wp2
  go_still_tail 7, (by kernel_rfl)
  go_wp2_with fail
  refine ((H1.out.drew HP.out.hV).l_offset HP.out.hV HP.out.r.offset (show V.fit (V.num st m.fid 4).2 (8) from HP.out.hV.fit_le _ _ _ F1.out (by omega))).mono ?_
  rintro _ w2 ⟨rfl, h1⟩
  have H2 := Lib.hid h1
  clear h1
  have F2 : Hid (V.fit (V.long (V.num st m.fid 4).2 m.offset).2 (200 + (8))) := Lib.hid (HP.out.hV.flongS _ _ _ (HP.out.hV.fit_le _ _ _ F1.out (by omega)))
  go_wp2
  go_still_tail 7, (by kernel_rfl)
  go_wp2_with fail
  refine ((H2.out.drew HP.out.hV).n_size HP.out.hV (show V.fit (V.long (V.num st m.fid 4).2 m.offset).2 (8) from HP.out.hV.fit_le _ _ _ F2.out (by omega))).mono ?_
  rintro _ w3 ⟨rfl, h1⟩
  have H3 := Lib.hid h1
  clear h1
  go_wp2
  go_end0
  exact ⟨rfl, _, _, H3.out⟩

set_option maxRecDepth 100000 in
set_option maxHeartbeats 4000000 in
theorem fields_117 (hp : FPre V B F S w b st m vn vq wk) (hk : m.kind = 117) : Calls Tryd.prog 23 #[.iface V.T V.v, .pointer (some ⟨b, 0, none⟩)] wk (MPost V F S w b (V.fields B st m)) := by
  have c0 : wk.cell? ⟨b, 0, none⟩ = some (.int .i64 117) := by rw [← hk]; exact hp.h.blk.cell 0
  have hfl : V.fields B st m = V.visits B [.D] st m := by unfold Vis.fields; rw [hk]; rfl
  have HP := Lib.hid hp
  have HF := Lib.hid hfl
  rw [hfl]
  have mn0 := hp.hV.mdata.n
  have mm0 := hp.hV.mdata.m
  have mc0 := hp.hV.mdata.c
  have hfit := hp.fit
  unfold MV.need at hfit
  have f0 : V.fit st (200 + (m.data.size + 8)) := hp.hV.fit_le _ _ _ hfit (by omega)
  have H0 := Lib.hid hp.h
  clear hp hfit hfl hk
  have F0 := Lib.hid f0
  clear f0
  go_enter Tryd.func23, Tryd.ntmps23
  go_wp2
  go_still_tail 7, (by kernel_rfl)
  go_wp2_with fail
  refine ((H0.out.drew HP.out.hV).d_data HP.out.hV (show V.fit st (m.data.size + 8) from HP.out.hV.fit_le _ _ _ F0.out (by omega))).mono ?_
  rintro _ w1 ⟨rfl, h1⟩
  have H1 := Lib.hid h1
  clear h1
  go_wp2
  go_end0
  exact ⟨rfl, _, _, H1.out⟩

set_option maxRecDepth 100000 in
set_option maxHeartbeats 4000000 in
theorem fields_118 (hp : FPre V B F S w b st m vn vq wk) (hk : m.kind = 118) : Calls Tryd.prog 23 #[.iface V.T V.v, .pointer (some ⟨b, 0, none⟩)] wk (MPost V F S w b (V.fields B st m)) := by
  have c0 : wk.cell? ⟨b, 0, none⟩ = some (.int .i64 118) := by rw [← hk]; exact hp.h.blk.cell 0
  have hfl : V.fields B st m = V.visits B [.f, .O, .D] st m := by unfold Vis.fields; rw [hk]; rfl
  have HP := Lib.hid hp
  have HF := Lib.hid hfl
  rw [hfl]
  have mn0 := hp.hV.mnum.n
  have mm0 := hp.hV.mnum.m
  have mc0 := hp.hV.mnum.c
  have mn1 := hp.hV.mlong.n
  have mm1 := hp.hV.mlong.m
  have mc1 := hp.hV.mlong.c
  have mn2 := hp.hV.mdata.n
  have mm2 := hp.hV.mdata.m
  have mc2 := hp.hV.mdata.c
  have hfit := hp.fit
  unfold MV.need at hfit
  have f0 : V.fit st (200 + (8) + (8) + (m.data.size + 8)) := hp.hV.fit_le _ _ _ hfit (by omega)
  have H0 := Lib.hid hp.h
  clear hp hfit hfl hk
  have F0 := Lib.hid f0
  clear f0
  go_enter Tryd.func23, Tryd.ntmps23
  go_wp2
  go_still_tail 7, (by kernel_rfl)
  go_wp2_with fail
  refine ((H0.out.drew HP.out.hV).n_fid HP.out.hV (show V.fit st (8) from HP.out.hV.fit_le _ _ _ F0.out (by omega))).mono ?_
  rintro _ w1 ⟨rfl, h1⟩
  have H1 := Lib.hid h1
  clear h1
  have F1 : Hid (V.fit (V.num st m.fid 4).2 (200 + (8) + (m.data.size + 8))) := Lib.hid (HP.out.hV.fnumS _ _ 4 _ (by omega) (HP.out.hV.fit_le _ _ _ F0.out (by omega)))
  go_wp2
  go_still_tail 7, (by kernel_rfl)
  go_wp2_with fail
  refine ((H1.out.drew HP.out.hV).l_offset HP.out.hV HP.out.r.offset (show V.fit (V.num st m.fid 4).2 (8) from HP.out.hV.fit_le _ _ _ F1.out (by omega))).mono ?_
  rintro _ w2 ⟨rfl, h1⟩
  have H2 := Lib.hid h1
  clear h1
  have F2 : Hid (V.fit (V.long (V.num st m.fid 4).2 m.offset).2 (200 + (m.data.size + 8))) := Lib.hid (HP.out.hV.flongS _ _ _ (HP.out.hV.fit_le _ _ _ F1.out (by omega)))
  go_wp2
  go_still_tail 7, (by kernel_rfl)
  go_wp2_with fail
  refine ((H2.out.drew HP.out.hV).d_data HP.out.hV (show V.fit (V.long (V.num st m.fid 4).2 m.offset).2 (m.data.size + 8) from HP.out.hV.fit_le _ _ _ F2.out (by omega))).mono ?_
  rintro _ w3 ⟨rfl, h1⟩
  have H3 := Lib.hid h1
  clear h1
  go_wp2
  go_end0
  exact ⟨rfl, _, _, H3.out⟩

set_option maxRecDepth 100000 in
set_option maxHeartbeats 4000000 in
theorem fields_119 (hp : FPre V B F S w b st m vn vq wk) (hk : m.kind = 119) : Calls Tryd.prog 23 #[.iface V.T V.v, .pointer (some ⟨b, 0, none⟩)] wk (MPost V F S w b (V.fields B st m)) := by
  have c0 : wk.cell? ⟨b, 0, none⟩ = some (.int .i64 119) := by rw [← hk]; exact hp.h.blk.cell 0
  have hfl : V.fields B st m = V.visits B [.S] st m := by unfold Vis.fields; rw [hk]; rfl
  have HP := Lib.hid hp
  have HF := Lib.hid hfl
  rw [hfl]
  have mn0 := hp.hV.mnum.n
  have mm0 := hp.hV.mnum.m
  have mc0 := hp.hV.mnum.c
  have hfit := hp.fit
  unfold MV.need at hfit
  have f0 : V.fit st (200 + (8)) := hp.hV.fit_le _ _ _ hfit (by omega)
  have H0 := Lib.hid hp.h
  clear hp hfit hfl hk
  have F0 := Lib.hid f0
  clear f0
  go_enter Tryd.func23, Tryd.ntmps23
  go_wp2
  go_still_tail 7, (by kernel_rfl)
  go_wp2_with fail
  refine ((H0.out.drew HP.out.hV).n_size HP.out.hV (show V.fit st (8) from HP.out.hV.fit_le _ _ _ F0.out (by omega))).mono ?_
  rintro _ w1 ⟨rfl, h1⟩
  have H1 := Lib.hid h1
  clear h1
  go_wp2
  go_end0
  exact ⟨rfl, _, _, H1.out⟩

set_option maxRecDepth 100000 in
set_option maxHeartbeats 4000000 in
theorem fields_120 (hp : FPre V B F S w b st m vn vq wk) (hk : m.kind = 120) : Calls Tryd.prog 23 #[.iface V.T V.v, .pointer (some ⟨b, 0, none⟩)] wk (MPost V F S w b (V.fields B st m)) := by
  have c0 : wk.cell? ⟨b, 0, none⟩ = some (.int .i64 120) := by rw [← hk]; exact hp.h.blk.cell 0
  have hfl : V.fields B st m = V.visits B [.f] st m := by unfold Vis.fields; rw [hk]; rfl
  have HP := Lib.hid hp
  have HF := Lib.hid hfl
  rw [hfl]
  have mn0 := hp.hV.mnum.n
  have mm0 := hp.hV.mnum.m
  have mc0 := hp.hV.mnum.c
  have hfit := hp.fit
  unfold MV.need at hfit
  have f0 : V.fit st (200 + (8)) := hp.hV.fit_le _ _ _ hfit (by omega)
  have H0 := Lib.hid hp.h
  clear hp hfit hfl hk
  have F0 := Lib.hid f0
  clear f0
  go_enter Tryd.func23, Tryd.ntmps23
  go_wp2
  go_still_tail 7, (by kernel_rfl)
  go_wp2_with fail
  refine ((H0.out.drew HP.out.hV).n_fid HP.out.hV (show V.fit st (8) from HP.out.hV.fit_le _ _ _ F0.out (by omega))).mono ?_
  rintro _ w1 ⟨rfl, h1⟩
  have H1 := Lib.hid h1
  clear h1
  go_wp2
  go_end0
  exact ⟨rfl, _, _, H1.out⟩

set_option maxRecDepth 100000 in
set_option maxHeartbeats 4000000 in
theorem fields_121 (hp : FPre V B F S w b st m vn vq wk) (hk : m.kind = 121) : Calls Tryd.prog 23 #[.iface V.T V.v, .pointer (some ⟨b, 0, none⟩)] wk (MPost V F S w b (V.fields B st m)) := by
  have c0 : wk.cell? ⟨b, 0, none⟩ = some (.int .i64 121) := by rw [← hk]; exact hp.h.blk.cell 0
  have hfl : V.fields B st m = V.visits B [] st m := by unfold Vis.fields; rw [hk]; rfl
  have HP := Lib.hid hp
  have HF := Lib.hid hfl
  rw [hfl]
  have hfit := hp.fit
  unfold MV.need at hfit
  have f0 : V.fit st (200) := hp.hV.fit_le _ _ _ hfit (by omega)
  have H0 := Lib.hid hp.h
  clear hp hfit hfl hk
  have F0 := Lib.hid f0
  clear f0
  go_enter Tryd.func23, Tryd.ntmps23
  go_wp2
  go_end0
  exact ⟨rfl, _, _, H0.out⟩

set_option maxRecDepth 100000 in
set_option maxHeartbeats 4000000 in
theorem fields_122 (hp : FPre V B F S w b st m vn vq wk) (hk : m.kind = 122) : Calls Tryd.prog 23 #[.iface V.T V.v, .pointer (some ⟨b, 0, none⟩)] wk (MPost V F S w b (V.fields B st m)) := by
  have c0 : wk.cell? ⟨b, 0, none⟩ = some (.int .i64 122) := by rw [← hk]; exact hp.h.blk.cell 0
  have hfl : V.fields B st m = V.visits B [.f] st m := by unfold Vis.fields; rw [hk]; rfl
  have HP := Lib.hid hp
  have HF := Lib.hid hfl
  rw [hfl]
  have mn0 := hp.hV.mnum.n
  have mm0 := hp.hV.mnum.m
  have mc0 := hp.hV.mnum.c
  have hfit := hp.fit
  unfold MV.need at hfit
  have f0 : V.fit st (200 + (8)) := hp.hV.fit_le _ _ _ hfit (by omega)
  have H0 := Lib.hid hp.h
  clear hp hfit hfl hk
  have F0 := Lib.hid f0
  clear f0
  go_enter Tryd.func23, Tryd.ntmps23
  go_wp2
  go_still_tail 7, (by kernel_rfl)
  go_wp2_with fail
  refine ((H0.out.drew HP.out.hV).n_fid HP.out.hV (show V.fit st (8) from HP.out.hV.fit_le _ _ _ F0.out (by omega))).mono ?_
  rintro _ w1 ⟨rfl, h1⟩
  have H1 := Lib.hid h1
  clear h1
  go_wp2
  go_end0
  exact ⟨rfl, _, _, H1.out⟩

set_option maxRecDepth 100000 in
set_option maxHeartbeats 4000000 in
theorem fields_123 (hp : FPre V B F S w b st m vn vq wk) (hk : m.kind = 123) : Calls Tryd.prog 23 #[.iface V.T V.v, .pointer (some ⟨b, 0, none⟩)] wk (MPost V F S w b (V.fields B st m)) := by
  have c0 : wk.cell? ⟨b, 0, none⟩ = some (.int .i64 123) := by rw [← hk]; exact hp.h.blk.cell 0
  have hfl : V.fields B st m = V.visits B [] st m := by unfold Vis.fields; rw [hk]; rfl
  have HP := Lib.hid hp
  have HF := Lib.hid hfl
  rw [hfl]
  have hfit := hp.fit
  unfold MV.need at hfit
  have f0 : V.fit st (200) := hp.hV.fit_le _ _ _ hfit (by omega)
  have H0 := Lib.hid hp.h
  clear hp hfit hfl hk
  have F0 := Lib.hid f0
  clear f0
  go_enter Tryd.func23, Tryd.ntmps23
  go_wp2
  go_end0
  exact ⟨rfl, _, _, H0.out⟩

set_option maxRecDepth 100000 in
set_option maxHeartbeats 4000000 in
theorem fields_124 (hp : FPre V B F S w b st m vn vq wk) (hk : m.kind = 124) : Calls Tryd.prog 23 #[.iface V.T V.v, .pointer (some ⟨b, 0, none⟩)] wk (MPost V F S w b (V.fields B st m)) := by
  have c0 : wk.cell? ⟨b, 0, none⟩ = some (.int .i64 124) := by rw [← hk]; exact hp.h.blk.cell 0
  have hfl : V.fields B st m = V.visits B [.f] st m := by unfold Vis.fields; rw [hk]; rfl
  have HP := Lib.hid hp
  have HF := Lib.hid hfl
  rw [hfl]
  have mn0 := hp.hV.mnum.n
  have mm0 := hp.hV.mnum.m
  have mc0 := hp.hV.mnum.c
  have hfit := hp.fit
  unfold MV.need at hfit
  have f0 : V.fit st (200 + (8)) := hp.hV.fit_le _ _ _ hfit (by omega)
  have H0 := Lib.hid hp.h
  clear hp hfit hfl hk
  have F0 := Lib.hid f0
  clear f0
  go_enter Tryd.func23, Tryd.ntmps23
  go_wp2
  go_still_tail 7, (by kernel_rfl)
  go_wp2_with fail
  refine ((H0.out.drew HP.out.hV).n_fid HP.out.hV (show V.fit st (8) from HP.out.hV.fit_le _ _ _ F0.out (by omega))).mono ?_
  rintro _ w1 ⟨rfl, h1⟩
  have H1 := Lib.hid h1
  clear h1
  go_wp2
  go_end0
  exact ⟨rfl, _, _, H1.out⟩

set_option maxRecDepth 100000 in
set_option maxHeartbeats 4000000 in
theorem fields_125 (hp : FPre V B F S w b st m vn vq wk) (hk : m.kind = 125) : Calls Tryd.prog 23 #[.iface V.T V.v, .pointer (some ⟨b, 0, none⟩)] wk (MPost V F S w b (V.fields B st m)) := by
  have c0 : wk.cell? ⟨b, 0, none⟩ = some (.int .i64 125) := by rw [← hk]; exact hp.h.blk.cell 0
  have hfl : V.fields B st m = V.visits B [.i] st m := by unfold Vis.fields; rw [hk]; rfl
  have HP := Lib.hid hp
  have HF := Lib.hid hfl
  rw [hfl]
  have mn0 := hp.hB.mdir.n
  have mm0 := hp.hB.mdir.m
  have mc0 := hp.hB.mdir.c
  have hfit := hp.fit
  unfold MV.need at hfit
  have f0 : V.fit st (200 + (m.dir.room + 400)) := hp.hV.fit_le _ _ _ hfit (by omega)
  have H0 := Lib.hid hp.h
  clear hp hfit hfl hk
  have F0 := Lib.hid f0
  clear f0
  go_enter Tryd.func23, Tryd.ntmps23
  go_wp2
  go_still_tail 7, (by kernel_rfl)
  go_wp2_with fail
  refine ((H0.out.drew HP.out.hV).dir HP.out.hB HP.out.r.dir (show V.fit st (m.dir.room + 400) from HP.out.hV.fit_le _ _ _ F0.out (by omega))).mono ?_
  rintro _ w1 ⟨rfl, h1⟩
  have H1 := Lib.hid h1
  clear h1
  go_wp2
  go_end0
  exact ⟨rfl, _, _, H1.out⟩

set_option maxRecDepth 100000 in
set_option maxHeartbeats 4000000 in
theorem fields_126 (hp : FPre V B F S w b st m vn vq wk) (hk : m.kind = 126) : Calls Tryd.prog 23 #[.iface V.T V.v, .pointer (some ⟨b, 0, none⟩)] wk (MPost V F S w b (V.fields B st m)) := by
  have c0 : wk.cell? ⟨b, 0, none⟩ = some (.int .i64 126) := by rw [← hk]; exact hp.h.blk.cell 0
  have hfl : V.fields B st m = V.visits B [.f, .i] st m := by unfold Vis.fields; rw [hk]; rfl
  have HP := Lib.hid hp
  have HF := Lib.hid hfl
  rw [hfl]
  have mn0 := hp.hV.mnum.n
  have mm0 := hp.hV.mnum.m
  have mc0 := hp.hV.mnum.c
  have mn1 := hp.hB.mdir.n
  have mm1 := hp.hB.mdir.m
  have mc1 := hp.hB.mdir.c
  have hfit := hp.fit
  unfold MV.need at hfit
  have f0 : V.fit st (200 + (8) + (m.dir.room + 400)) := hp.hV.fit_le _ _ _ hfit (by omega)
  have H0 := Lib.hid hp.h
  clear hp hfit hfl hk
  have F0 := Lib.hid f0
  clear f0
  go_enter Tryd.func23, Tryd.ntmps23
  go_wp2
  go_still_tail 7, (by kernel_rfl)
  go_wp2_with fail
  refine ((H0.out.drew HP.out.hV).n_fid HP.out.hV (show V.fit st (8) from HP.out.hV.fit_le _ _ _ F0.out (by omega))).mono ?_
  rintro _ w1 ⟨rfl, h1⟩
  have H1 := Lib.hid h1
  clear h1
  have F1 : Hid (V.fit (V.num st m.fid 4).2 (200 + (m.dir.room + 400))) := Lib.hid (HP.out.hV.fnumS _ _ 4 _ (by omega) (HP.out.hV.fit_le _ _ _ F0.out (by omega)))
  go_wp2
  go_still_tail 7, (by kernel_rfl)
  go_wp2_with fail
  refine ((H1.out.drew HP.out.hV).dir HP.out.hB HP.out.r.dir (show V.fit (V.num st m.fid 4).2 (m.dir.room + 400) from HP.out.hV.fit_le _ _ _ F1.out (by omega))).mono ?_
  rintro _ w2 ⟨rfl, h1⟩
  have H2 := Lib.hid h1
  clear h1
  go_wp2
  go_end0
  exact ⟨rfl, _, _, H2.out⟩

set_option maxRecDepth 100000 in
set_option maxHeartbeats 4000000 in
theorem fields_127 (hp : FPre V B F S w b st m vn vq wk) (hk : m.kind = 127) : Calls Tryd.prog 23 #[.iface V.T V.v, .pointer (some ⟨b, 0, none⟩)] wk (MPost V F S w b (V.fields B st m)) := by
  have c0 : wk.cell? ⟨b, 0, none⟩ = some (.int .i64 127) := by rw [← hk]; exact hp.h.blk.cell 0
  have hfl : V.fields B st m = V.visits B [] st m := by unfold Vis.fields; rw [hk]; rfl
  have HP := Lib.hid hp
  have HF := Lib.hid hfl
  rw [hfl]
  have hfit := hp.fit
  unfold MV.need at hfit
  have f0 : V.fit st (200) := hp.hV.fit_le _ _ _ hfit (by omega)
  have H0 := Lib.hid hp.h
  clear hp hfit hfl hk
  have F0 := Lib.hid f0
  clear f0
  go_enter Tryd.func23, Tryd.ntmps23
  go_wp2
  go_end0
  exact ⟨rfl, _, _, H0.out⟩

end
end Go.Proofs.YtggkebngkkddhaaDoor
