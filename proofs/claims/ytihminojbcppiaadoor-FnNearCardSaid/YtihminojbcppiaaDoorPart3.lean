/- Walks through functions that the law reaches, and what these compute in plain terms; a part of the proof of the statement in YtihminojbcppiaaDoorClose. -/
import Derived.Test.YtihminojbcppiaaDoorPart2
/- Walks of the functions that the law reaches: what each gives, by value. -/
namespace Go.Vr
open Go Go.Proofs
set_option linter.unusedVariables false
set_option linter.unusedSimpArgs false
set_option maxRecDepth 8000

/-- math/bits.OnesCount64 -/
theorem c_Ones64 {G : World → Prop} (x : Nat) (hx : x < 18446744073709551616) : CallsV Tryd.prog G 51 [.v (.int .u64 ((x : Nat) : Int))] (fun r outs => r = .v (.int .i64 ((((popN x) : Nat) : Int))) ∧ outs = [.junk]) := by
  refine callsV_enter [] Tryd.func51 rfl rfl rfl ?_
  have k1 := sw1_le x
  have k2 := sw2_le (sw1 x)
  have k3 := sw3_le (sw2 (sw1 x))
  have k4 : sw4 (sw3 (sw2 (sw1 x))) ≤ 1100000000000000000 := (by unfold sw4; omega)
  have k5 : sw5 (sw4 (sw3 (sw2 (sw1 x)))) ≤ 1110000000000000000 := (by unfold sw5; omega)
  have k6 : sw6 (sw5 (sw4 (sw3 (sw2 (sw1 x))))) ≤ 1120000000000000000 := (by unfold sw6; omega)
  have k7 := sw_all hx
  refine vp_seq ?_
  refine vp_region ?_
  refine vpOps_pure (x := .v (.int .i64 0)) (pAs rfl rfl rfl) rfl rfl rfl rfl ?_
  refine vpOps_nil ?_
  refine vp_seq ?_
  refine vp_region ?_
  refine vpOps_pure (x := .v (.int .u64 ((x : Nat) : Int))) (pMv rfl rfl rfl) rfl rfl rfl rfl ?_
  refine vpOps_pure (x := .v (.int .u64 ((((x / 2 ^ 1) : Nat) : Int)))) (pShr64 (p := x) (s := 1) rfl rfl rfl (by first | rfl | omega) (by omega)) rfl rfl rfl rfl ?_
  refine vpOps_pure (x := .v (.int .u64 (((((x / 2 ^ 1) &&& 6148914691236517205) : Nat) : Int)))) (pAnd64 (p := (x / 2 ^ 1)) (q := 6148914691236517205) rfl rfl rfl (by omega) (by omega)) rfl rfl rfl rfl ?_
  refine vpOps_pure (x := .v (.int .u64 ((x : Nat) : Int))) (pMv rfl rfl rfl) rfl rfl rfl rfl ?_
  refine vpOps_pure (x := .v (.int .u64 ((((x &&& 6148914691236517205) : Nat) : Int)))) (pAnd64 (p := x) (q := 6148914691236517205) rfl rfl rfl (by omega) (by omega)) rfl rfl rfl rfl ?_
  refine vpOps_pure (x := .v (.int .u64 ((((sw1 x) : Nat) : Int)))) (pEqI (pure_add rfl rfl rfl (inu64 (by have := sw1_le x; unfold sw1 at this; omega) (by have := sw1_le x; unfold sw1 at this; omega))) (rfl)) rfl rfl rfl rfl ?_
  refine vpOps_pure (x := .v (.int .u64 ((((sw1 x) : Nat) : Int)))) (pAs rfl rfl rfl) rfl rfl rfl rfl ?_
  refine vpOps_nil ?_
  refine vp_seq ?_
  refine vp_region ?_
  refine vpOps_pure (x := .v (.int .u64 ((((sw1 x) : Nat) : Int)))) (pMv rfl rfl rfl) rfl rfl rfl rfl ?_
  refine vpOps_pure (x := .v (.int .u64 (((((sw1 x) / 2 ^ 2) : Nat) : Int)))) (pShr64 (p := (sw1 x)) (s := 2) rfl rfl rfl (by first | rfl | omega) (by omega)) rfl rfl rfl rfl ?_
  refine vpOps_pure (x := .v (.int .u64 ((((((sw1 x) / 2 ^ 2) &&& 3689348814741910323) : Nat) : Int)))) (pAnd64 (p := ((sw1 x) / 2 ^ 2)) (q := 3689348814741910323) rfl rfl rfl (by omega) (by omega)) rfl rfl rfl rfl ?_
  refine vpOps_pure (x := .v (.int .u64 ((((sw1 x) : Nat) : Int)))) (pMv rfl rfl rfl) rfl rfl rfl rfl ?_
  refine vpOps_pure (x := .v (.int .u64 (((((sw1 x) &&& 3689348814741910323) : Nat) : Int)))) (pAnd64 (p := (sw1 x)) (q := 3689348814741910323) rfl rfl rfl (by omega) (by omega)) rfl rfl rfl rfl ?_
  refine vpOps_pure (x := .v (.int .u64 ((((sw2 (sw1 x)) : Nat) : Int)))) (pEqI (pure_add rfl rfl rfl (inu64 (by have := sw2_le (sw1 x); unfold sw2 at this; omega) (by have := sw2_le (sw1 x); unfold sw2 at this; omega))) (rfl)) rfl rfl rfl rfl ?_
  refine vpOps_pure (x := .v (.int .u64 ((((sw2 (sw1 x)) : Nat) : Int)))) (pAs rfl rfl rfl) rfl rfl rfl rfl ?_
  refine vpOps_nil ?_
  refine vp_seq ?_
  refine vp_region ?_
  refine vpOps_pure (x := .v (.int .u64 ((((sw2 (sw1 x)) : Nat) : Int)))) (pMv rfl rfl rfl) rfl rfl rfl rfl ?_
  refine vpOps_pure (x := .v (.int .u64 (((((sw2 (sw1 x)) / 2 ^ 4) : Nat) : Int)))) (pShr64 (p := (sw2 (sw1 x))) (s := 4) rfl rfl rfl (by first | rfl | omega) (by omega)) rfl rfl rfl rfl ?_
  refine vpOps_pure (x := .v (.int .u64 ((((sw2 (sw1 x)) : Nat) : Int)))) (pMv rfl rfl rfl) rfl rfl rfl rfl ?_
  refine vpOps_pure (x := .v (.int .u64 ((((((sw2 (sw1 x)) / 2 ^ 4) : Nat) : Int)) + ((((sw2 (sw1 x)) : Nat) : Int))))) (pure_add rfl rfl rfl (inu64 (by omega) (by omega))) rfl rfl rfl rfl ?_
  refine vpOps_pure (x := .v (.int .u64 ((((sw3 (sw2 (sw1 x))) : Nat) : Int)))) (pEqI (pAnd64 (p := (((sw2 (sw1 x)) / 2 ^ 4) + (sw2 (sw1 x)))) (q := 1085102592571150095) rfl rfl rfl (by omega) (by omega)) (rfl)) rfl rfl rfl rfl ?_
  refine vpOps_pure (x := .v (.int .u64 ((((sw3 (sw2 (sw1 x))) : Nat) : Int)))) (pAs rfl rfl rfl) rfl rfl rfl rfl ?_
  refine vpOps_nil ?_
  refine vp_seq ?_
  refine vp_region ?_
  refine vpOps_pure (x := .v (.int .u64 ((((sw3 (sw2 (sw1 x))) : Nat) : Int)))) (pMv rfl rfl rfl) rfl rfl rfl rfl ?_
  refine vpOps_pure (x := .v (.int .u64 ((((sw3 (sw2 (sw1 x))) : Nat) : Int)))) (pMv rfl rfl rfl) rfl rfl rfl rfl ?_
  refine vpOps_pure (x := .v (.int .u64 (((((sw3 (sw2 (sw1 x))) / 2 ^ 8) : Nat) : Int)))) (pShr64 (p := (sw3 (sw2 (sw1 x)))) (s := 8) rfl rfl rfl (by first | rfl | omega) (by omega)) rfl rfl rfl rfl ?_
  refine vpOps_pure (x := .v (.int .u64 ((((sw4 (sw3 (sw2 (sw1 x)))) : Nat) : Int)))) (pEqI (pure_add rfl rfl rfl (inu64 (by unfold sw4 at k4; omega) (by unfold sw4 at k4; omega))) (rfl)) rfl rfl rfl rfl ?_
  refine vpOps_pure (x := .v (.int .u64 ((((sw4 (sw3 (sw2 (sw1 x)))) : Nat) : Int)))) (pAs rfl rfl rfl) rfl rfl rfl rfl ?_
  refine vpOps_nil ?_
  refine vp_seq ?_
  refine vp_region ?_
  refine vpOps_pure (x := .v (.int .u64 ((((sw4 (sw3 (sw2 (sw1 x)))) : Nat) : Int)))) (pMv rfl rfl rfl) rfl rfl rfl rfl ?_
  refine vpOps_pure (x := .v (.int .u64 ((((sw4 (sw3 (sw2 (sw1 x)))) : Nat) : Int)))) (pMv rfl rfl rfl) rfl rfl rfl rfl ?_
  refine vpOps_pure (x := .v (.int .u64 (((((sw4 (sw3 (sw2 (sw1 x)))) / 2 ^ 16) : Nat) : Int)))) (pShr64 (p := (sw4 (sw3 (sw2 (sw1 x))))) (s := 16) rfl rfl rfl (by first | rfl | omega) (by omega)) rfl rfl rfl rfl ?_
  refine vpOps_pure (x := .v (.int .u64 ((((sw5 (sw4 (sw3 (sw2 (sw1 x))))) : Nat) : Int)))) (pEqI (pure_add rfl rfl rfl (inu64 (by unfold sw5 at k5; omega) (by unfold sw5 at k5; omega))) (rfl)) rfl rfl rfl rfl ?_
  refine vpOps_pure (x := .v (.int .u64 ((((sw5 (sw4 (sw3 (sw2 (sw1 x))))) : Nat) : Int)))) (pAs rfl rfl rfl) rfl rfl rfl rfl ?_
  refine vpOps_nil ?_
  refine vp_seq ?_
  refine vp_region ?_
  refine vpOps_pure (x := .v (.int .u64 ((((sw5 (sw4 (sw3 (sw2 (sw1 x))))) : Nat) : Int)))) (pMv rfl rfl rfl) rfl rfl rfl rfl ?_
  refine vpOps_pure (x := .v (.int .u64 ((((sw5 (sw4 (sw3 (sw2 (sw1 x))))) : Nat) : Int)))) (pMv rfl rfl rfl) rfl rfl rfl rfl ?_
  refine vpOps_pure (x := .v (.int .u64 (((((sw5 (sw4 (sw3 (sw2 (sw1 x))))) / 2 ^ 32) : Nat) : Int)))) (pShr64 (p := (sw5 (sw4 (sw3 (sw2 (sw1 x)))))) (s := 32) rfl rfl rfl (by first | rfl | omega) (by omega)) rfl rfl rfl rfl ?_
  refine vpOps_pure (x := .v (.int .u64 ((((sw6 (sw5 (sw4 (sw3 (sw2 (sw1 x)))))) : Nat) : Int)))) (pEqI (pure_add rfl rfl rfl (inu64 (by unfold sw6 at k6; omega) (by unfold sw6 at k6; omega))) (rfl)) rfl rfl rfl rfl ?_
  refine vpOps_pure (x := .v (.int .u64 ((((sw6 (sw5 (sw4 (sw3 (sw2 (sw1 x)))))) : Nat) : Int)))) (pAs rfl rfl rfl) rfl rfl rfl rfl ?_
  refine vpOps_nil ?_
  refine vp_seq ?_
  refine vp_region ?_
  refine vpOps_pure (x := .v (.int .u64 ((((sw6 (sw5 (sw4 (sw3 (sw2 (sw1 x)))))) : Nat) : Int)))) (pMv rfl rfl rfl) rfl rfl rfl rfl ?_
  refine vpOps_pure (x := .v (.int .i64 ((((sw6 (sw5 (sw4 (sw3 (sw2 (sw1 x)))))) : Nat) : Int)))) (pure_conv_in rfl rfl (in64 (by omega) (by omega))) rfl rfl rfl rfl ?_
  refine vpOps_pure (x := .v (.int .i64 ((((popN x) : Nat) : Int)))) (pEqI (pure_bin rfl rfl rfl rfl) ((and127 (by omega)).trans (congrArg (fun n : Nat => (n : Int)) k7))) rfl rfl rfl rfl ?_
  refine vpOps_pure (x := .v (.int .i64 ((((popN x) : Nat) : Int)))) (pAs rfl rfl rfl) rfl rfl rfl rfl ?_
  refine vpOps_nil ?_
  refine vp_ret ?_
  exact ⟨[.v (.int .i64 ((((popN x) : Nat) : Int)))], [2], (.cons (.tmp rfl rfl) .nil), rfl, ⟨(show (.v (.int .i64 ((((popN x) : Nat) : Int))) : PV) = .v (.int .i64 ((((popN x) : Nat) : Int))) from rfl), rfl⟩⟩

/-- impl.CountHoles -/
theorem c_CountHoles {G : World → Prop} (m : Mask) (hm : m.wf) : CallsV Tryd.prog G 38 [.agg [.v (.int .u64 ((m.a : Nat) : Int)), .v (.int .u64 ((m.b : Nat) : Int))]] (fun r outs => r = .v (.int .i64 ((((countM m) : Nat) : Int))) ∧ outs = [.junk]) := by
  refine callsV_enter [] Tryd.func38 rfl rfl rfl ?_
  have hma := hm.a
  have hmb := hm.b
  have hpa := popN_lt 64 m.a hm.a
  have hpb := popN_lt 64 m.b hm.b
  refine vp_seq ?_
  refine vp_region ?_
  refine vpOps_pure (x := .box [.v (.int .u64 ((m.a : Nat) : Int)), .v (.int .u64 ((m.b : Nat) : Int))]) (pure_box rfl rfl (mvOk_flat _ rfl) rfl rfl) rfl rfl rfl rfl ?_
  refine vpOps_pure (x := .v (.int .i64 0)) (pAs rfl rfl rfl) rfl rfl rfl rfl ?_
  refine vpOps_nil ?_
  refine vp_seq ?_
  refine vRegD 7 ((3, .pl 1 [⟨0, 0, 0⟩]) :: (4, .v (.int .u64 ((m.a : Nat) : Int))) :: (5, .v (.int .i64 ((((popN m.a) : Nat) : Int)))) :: (6, .pl 1 [⟨0, 1, 0⟩]) :: (7, .v (.int .u64 ((m.b : Nat) : Int))) :: (8, .v (.int .i64 ((((popN m.b) : Nat) : Int)))) :: (9, .v (.int .i64 (((((popN m.a) : Nat) : Int)) + ((((popN m.b) : Nat) : Int))))) :: []) (0 :: 1 :: 3 :: 0 :: 8 :: 31 :: 63 :: 127 :: []) (by kernel_rfl) rfl (by kernel_rfl) (by kernel_rfl) (by kernel_rfl) (by kernel_rfl) (by kernel_rfl) ⟨
      dPure rfl (pIxAR (l := 0) rfl rfl rfl rfl rfl rfl rfl),
      dPure rfl (pure_load_pl rfl rfl rfl rfl rfl rfl rfl trivial rfl),
      dPure rfl (pure_call (gs := [⟨.tmp 4, .v (.int .u64 ((m.a : Nat) : Int)), none, none⟩]) (c_Ones64 m.a (by first | assumption | omega)) rfl rfl trivial (by kernel_rfl) rfl rfl (gives_cons (gC rfl rfl) gives_nil) rfl (fun _ _ h => h.1) trivial),
      dPure rfl (pIxAR (l := 1) rfl rfl rfl rfl rfl rfl rfl),
      dPure rfl (pure_load_pl rfl rfl rfl rfl rfl rfl rfl trivial rfl),
      dPure rfl (pure_call (gs := [⟨.tmp 7, .v (.int .u64 ((m.b : Nat) : Int)), none, none⟩]) (c_Ones64 m.b (by first | assumption | omega)) rfl rfl trivial (by kernel_rfl) rfl rfl (gives_cons (gC rfl rfl) gives_nil) rfl (fun _ _ h => h.1) trivial),
      dPure rfl (pure_add rfl rfl rfl (in64 (by omega) (by omega))),
      trivial⟩ ?_
  refine vpOps_pure (x := .v (.int .i64 (((((popN m.a) : Nat) : Int)) + ((((popN m.b) : Nat) : Int))))) (pAs rfl rfl rfl) rfl rfl rfl rfl ?_
  refine vpOps_nil ?_
  refine vp_ret ?_
  exact ⟨[.v (.int .i64 (((((popN m.a) : Nat) : Int)) + ((((popN m.b) : Nat) : Int))))], [2], (.cons (.tmp rfl rfl) .nil), rfl, ⟨(show (.v (.int .i64 (((((popN m.a) : Nat) : Int)) + ((((popN m.b) : Nat) : Int)))) : PV) = .v (.int .i64 ((((countM m) : Nat) : Int))) from (by rfl)), rfl⟩⟩

/-- impl.distance -/
theorem c_distance {G : World → Prop} (m : Mask) (n : Mask) (hm : m.wf) (hn : n.wf) : CallsV Tryd.prog G 20 [.agg [.v (.int .u64 ((m.a : Nat) : Int)), .v (.int .u64 ((m.b : Nat) : Int))], .agg [.v (.int .u64 ((n.a : Nat) : Int)), .v (.int .u64 ((n.b : Nat) : Int))]] (fun r outs => r = .v (.int .i64 ((((farM m n) : Nat) : Int))) ∧ outs = [.junk, .junk]) := by
  refine callsV_enter [] Tryd.func20 rfl rfl rfl ?_
  have hf1 := countM_le (lessM_wf (n := n) hm)
  have hf2 := countM_le (lessM_wf (n := m) hn)
  refine vp_seq ?_
  refine vp_region ?_
  refine vpOps_pure (x := .box [.v (.int .u64 ((m.a : Nat) : Int)), .v (.int .u64 ((m.b : Nat) : Int))]) (pure_box rfl rfl (mvOk_flat _ rfl) rfl rfl) rfl rfl rfl rfl ?_
  refine vpOps_pure (x := .box [.v (.int .u64 ((n.a : Nat) : Int)), .v (.int .u64 ((n.b : Nat) : Int))]) (pure_box rfl rfl (mvOk_flat _ rfl) rfl rfl) rfl rfl rfl rfl ?_
  refine vpOps_pure (x := .v (.int .i64 0)) (pAs rfl rfl rfl) rfl rfl rfl rfl ?_
  refine vpOps_nil ?_
  refine vp_seq ?_
  refine vRegD 9 ((5, .agg [.v (.int .u64 ((m.a : Nat) : Int)), .v (.int .u64 ((m.b : Nat) : Int))]) :: (6, .agg [.v (.int .u64 ((n.a : Nat) : Int)), .v (.int .u64 ((n.b : Nat) : Int))]) :: (7, .agg [.v (.int .u64 ((((lessM m n).a : Nat) : Int))), .v (.int .u64 ((((lessM m n).b : Nat) : Int)))]) :: (8, .v (.int .i64 ((((countM (lessM m n)) : Nat) : Int)))) :: (9, .agg [.v (.int .u64 ((n.a : Nat) : Int)), .v (.int .u64 ((n.b : Nat) : Int))]) :: (10, .agg [.v (.int .u64 ((m.a : Nat) : Int)), .v (.int .u64 ((m.b : Nat) : Int))]) :: (11, .agg [.v (.int .u64 ((((lessM n m).a : Nat) : Int))), .v (.int .u64 ((((lessM n m).b : Nat) : Int)))]) :: (12, .v (.int .i64 ((((countM (lessM n m)) : Nat) : Int)))) :: (13, .v (.int .i64 (((((countM (lessM m n)) : Nat) : Int)) + ((((countM (lessM n m)) : Nat) : Int))))) :: []) (0 :: 0 :: 3 :: 7 :: 0 :: 0 :: 63 :: 127 :: 255 :: 511 :: []) (by kernel_rfl) rfl (by kernel_rfl) (by kernel_rfl) (by kernel_rfl) (by kernel_rfl) (by kernel_rfl) ⟨
      dPure rfl (pure_load_pl_agg rfl rfl rfl rfl rfl rfl rfl rfl (by simp [PV.flatL, PV.flat])),
      dPure rfl (pure_load_pl_agg rfl rfl rfl rfl rfl rfl rfl rfl (by simp [PV.flatL, PV.flat])),
      dPure rfl (pure_call (gs := [⟨.tmp 5, .agg [.v (.int .u64 ((m.a : Nat) : Int)), .v (.int .u64 ((m.b : Nat) : Int))], none, none⟩, ⟨.tmp 6, .agg [.v (.int .u64 ((n.a : Nat) : Int)), .v (.int .u64 ((n.b : Nat) : Int))], none, none⟩]) (c_LessMask m n (by first | assumption | omega | exact lessM_wf (by assumption)) (by first | assumption | omega | exact lessM_wf (by assumption))) rfl rfl trivial (by kernel_rfl) rfl rfl (gives_cons (gC rfl rfl) (gives_cons (gC rfl rfl) gives_nil)) rfl (fun _ _ h => h.1) ⟨trivial, ⟨trivial, trivial⟩⟩),
      dPure rfl (pure_call (gs := [⟨.tmp 7, .agg [.v (.int .u64 ((((lessM m n).a : Nat) : Int))), .v (.int .u64 ((((lessM m n).b : Nat) : Int)))], none, none⟩]) (c_CountHoles (lessM m n) (by first | assumption | omega | exact lessM_wf (by assumption))) rfl rfl trivial (by kernel_rfl) rfl rfl (gives_cons (gC rfl rfl) gives_nil) rfl (fun _ _ h => h.1) trivial),
      dPure rfl (pure_load_pl_agg rfl rfl rfl rfl rfl rfl rfl rfl (by simp [PV.flatL, PV.flat])),
      dPure rfl (pure_load_pl_agg rfl rfl rfl rfl rfl rfl rfl rfl (by simp [PV.flatL, PV.flat])),
      dPure rfl (pure_call (gs := [⟨.tmp 9, .agg [.v (.int .u64 ((n.a : Nat) : Int)), .v (.int .u64 ((n.b : Nat) : Int))], none, none⟩, ⟨.tmp 10, .agg [.v (.int .u64 ((m.a : Nat) : Int)), .v (.int .u64 ((m.b : Nat) : Int))], none, none⟩]) (c_LessMask n m (by first | assumption | omega | exact lessM_wf (by assumption)) (by first | assumption | omega | exact lessM_wf (by assumption))) rfl rfl trivial (by kernel_rfl) rfl rfl (gives_cons (gC rfl rfl) (gives_cons (gC rfl rfl) gives_nil)) rfl (fun _ _ h => h.1) ⟨trivial, ⟨trivial, trivial⟩⟩),
      dPure rfl (pure_call (gs := [⟨.tmp 11, .agg [.v (.int .u64 ((((lessM n m).a : Nat) : Int))), .v (.int .u64 ((((lessM n m).b : Nat) : Int)))], none, none⟩]) (c_CountHoles (lessM n m) (by first | assumption | omega | exact lessM_wf (by assumption))) rfl rfl trivial (by kernel_rfl) rfl rfl (gives_cons (gC rfl rfl) gives_nil) rfl (fun _ _ h => h.1) trivial),
      dPure rfl (pure_add rfl rfl rfl (in64 (by omega) (by omega))),
      trivial⟩ ?_
  refine vpOps_pure (x := .v (.int .i64 (((((countM (lessM m n)) : Nat) : Int)) + ((((countM (lessM n m)) : Nat) : Int))))) (pAs rfl rfl rfl) rfl rfl rfl rfl ?_
  refine vpOps_nil ?_
  refine vp_ret ?_
  exact ⟨[.v (.int .i64 (((((countM (lessM m n)) : Nat) : Int)) + ((((countM (lessM n m)) : Nat) : Int))))], [4], (.cons (.tmp rfl rfl) .nil), rfl, ⟨(show (.v (.int .i64 (((((countM (lessM m n)) : Nat) : Int)) + ((((countM (lessM n m)) : Nat) : Int)))) : PV) = .v (.int .i64 ((((farM m n) : Nat) : Int))) from (by rfl)), rfl⟩⟩

/-- impl.DistanceOf -/
theorem c_DistanceOf {G : World → Prop} (m : Mask) (n : Mask) (hm : m.wf) (hn : n.wf) : CallsV Tryd.prog G 8 [.agg [.v (.int .u64 ((m.a : Nat) : Int)), .v (.int .u64 ((m.b : Nat) : Int))], .agg [.v (.int .u64 ((n.a : Nat) : Int)), .v (.int .u64 ((n.b : Nat) : Int))]] (fun r outs => r = .tup [.v (.int .i64 (if maskOk m ∧ maskOk n then (farM m n : Int) else 0)), .v (.int .i64 (if maskOk m ∧ maskOk n then 0 else 1))] ∧ outs = [.junk, .junk]) := by
  refine callsV_enter [] Tryd.func8 rfl rfl rfl ?_
  refine vp_seq ?_
  refine vp_region ?_
  refine vpOps_pure (x := .box [.v (.int .u64 ((m.a : Nat) : Int)), .v (.int .u64 ((m.b : Nat) : Int))]) (pure_box rfl rfl (mvOk_flat _ rfl) rfl rfl) rfl rfl rfl rfl ?_
  refine vpOps_pure (x := .box [.v (.int .u64 ((n.a : Nat) : Int)), .v (.int .u64 ((n.b : Nat) : Int))]) (pure_box rfl rfl (mvOk_flat _ rfl) rfl rfl) rfl rfl rfl rfl ?_
  refine vpOps_pure (x := .v (.int .i64 0)) (pAs rfl rfl rfl) rfl rfl rfl rfl ?_
  refine vpOps_pure (x := .v (.int .i64 0)) (pAs rfl rfl rfl) rfl rfl rfl rfl ?_
  refine vpOps_nil ?_
  refine vp_seq ?_
  refine vp_seq ?_
  refine vp_region ?_
  refine vpOps_pure (x := .agg [.v (.int .u64 ((m.a : Nat) : Int)), .v (.int .u64 ((m.b : Nat) : Int))]) (pure_load_pl_agg rfl rfl rfl rfl rfl rfl rfl rfl (by simp [PV.flatL, PV.flat])) rfl rfl rfl rfl ?_
  refine vpOps_call (gs := [⟨.tmp 6, .agg [.v (.int .u64 ((m.a : Nat) : Int)), .v (.int .u64 ((m.b : Nat) : Int))], none, none⟩]) (c_isMask m (by first | assumption | omega)) rfl rfl rfl rfl rfl trivial (by kernel_rfl) rfl rfl (gives_cons (gC rfl rfl) gives_nil) rfl (fun _ _ _ => .inl rfl) ?_
  rintro _ _ ⟨rfl, rfl⟩
  refine vpOps_pure (x := .v (.bool (!decide (maskOk m)))) (pure_not rfl rfl) rfl rfl rfl rfl ?_
  refine vpOps_pure (x := .v (.bool (!decide (maskOk m)))) (pMv rfl rfl rfl) rfl rfl rfl rfl ?_
  by_cases h1 : maskOk m
  · skip
    refine vRun rfl rfl rfl (not_of_t (decide_eq_true h1)) rfl rfl rfl ?_
    refine vpOps_pure (x := .agg [.v (.int .u64 ((n.a : Nat) : Int)), .v (.int .u64 ((n.b : Nat) : Int))]) (pure_load_pl_agg rfl rfl rfl rfl rfl rfl rfl rfl (by simp [PV.flatL, PV.flat])) rfl rfl rfl rfl ?_
    refine vRun rfl rfl rfl (not_of_t (decide_eq_true h1)) rfl rfl rfl ?_
    refine vpOps_call (gs := [⟨.tmp 10, .agg [.v (.int .u64 ((n.a : Nat) : Int)), .v (.int .u64 ((n.b : Nat) : Int))], none, none⟩]) (c_isMask n (by first | assumption | omega)) rfl rfl rfl rfl rfl trivial (by kernel_rfl) rfl rfl (gives_cons (gC rfl rfl) gives_nil) rfl (fun _ _ _ => .inl rfl) ?_
    rintro _ _ ⟨rfl, rfl⟩
    refine vRun rfl rfl rfl (not_of_t (decide_eq_true h1)) rfl rfl rfl ?_
    refine vpOps_pure (x := .v (.bool (!decide (maskOk n)))) (pure_not rfl rfl) rfl rfl rfl rfl ?_
    refine vpOps_pure (x := .v (.bool (!decide (maskOk n)))) (pPf rfl rfl (not_of_t (decide_eq_true h1)) rfl rfl) rfl rfl rfl rfl ?_
    refine vpOps_nil ?_
    refine vIfN rfl (fun h2 => ?_) (fun h2 => ?_)
    · skip
      refine vp_seq ?_
      refine vp_region ?_
      refine vpOps_pure (x := .v (.int .i64 0)) (pAs rfl rfl rfl) rfl rfl rfl rfl ?_
      refine vpOps_pure (x := .v (.int .i64 1)) (pAs rfl rfl rfl) rfl rfl rfl rfl ?_
      refine vpOps_nil ?_
      refine vp_ret ?_
      exact ⟨[.v (.int .i64 0), .v (.int .i64 1)], [4, 5], (.cons (.tmp rfl rfl) (.cons (.tmp rfl rfl) .nil)), rfl, ⟨(show (.tup [.v (.int .i64 0), .v (.int .i64 1)] : PV) = .tup [.v (.int .i64 (if maskOk m ∧ maskOk n then (farM m n : Int) else 0)), .v (.int .i64 (if maskOk m ∧ maskOk n then 0 else 1))] from (by first | (rw [if_pos ⟨by assumption, by assumption⟩, if_pos ⟨by assumption, by assumption⟩]; done) | (rw [if_neg (fun h => absurd h.1 (by assumption)), if_neg (fun h => absurd h.1 (by assumption))]; done) | (rw [if_neg (fun h => absurd h.2 (by assumption)), if_neg (fun h => absurd h.2 (by assumption))]; done))), rfl⟩⟩
    · skip
      refine vp_skip ?_
      refine vp_seq ?_
      refine vp_region ?_
      refine vpOps_pure (x := .agg [.v (.int .u64 ((m.a : Nat) : Int)), .v (.int .u64 ((m.b : Nat) : Int))]) (pure_load_pl_agg rfl rfl rfl rfl rfl rfl rfl rfl (by simp [PV.flatL, PV.flat])) rfl rfl rfl rfl ?_
      refine vpOps_pure (x := .agg [.v (.int .u64 ((n.a : Nat) : Int)), .v (.int .u64 ((n.b : Nat) : Int))]) (pure_load_pl_agg rfl rfl rfl rfl rfl rfl rfl rfl (by simp [PV.flatL, PV.flat])) rfl rfl rfl rfl ?_
      refine vpOps_call (gs := [⟨.tmp 14, .agg [.v (.int .u64 ((m.a : Nat) : Int)), .v (.int .u64 ((m.b : Nat) : Int))], none, none⟩, ⟨.tmp 15, .agg [.v (.int .u64 ((n.a : Nat) : Int)), .v (.int .u64 ((n.b : Nat) : Int))], none, none⟩]) (c_distance m n (by first | assumption | omega) (by first | assumption | omega)) rfl rfl rfl rfl rfl trivial (by kernel_rfl) rfl rfl (gives_cons (gC rfl rfl) (gives_cons (gC rfl rfl) gives_nil)) rfl (fun _ _ _ => .inl rfl) ?_
      rintro _ _ ⟨rfl, rfl⟩
      refine vpOps_pure (x := .v (.int .i64 ((((farM m n) : Nat) : Int)))) (pAs rfl rfl rfl) rfl rfl rfl rfl ?_
      refine vpOps_pure (x := .v (.int .i64 0)) (pAs rfl rfl rfl) rfl rfl rfl rfl ?_
      refine vpOps_nil ?_
      refine vp_ret ?_
      exact ⟨[.v (.int .i64 ((((farM m n) : Nat) : Int))), .v (.int .i64 0)], [4, 5], (.cons (.tmp rfl rfl) (.cons (.tmp rfl rfl) .nil)), rfl, ⟨(show (.tup [.v (.int .i64 ((((farM m n) : Nat) : Int))), .v (.int .i64 0)] : PV) = .tup [.v (.int .i64 (if maskOk m ∧ maskOk n then (farM m n : Int) else 0)), .v (.int .i64 (if maskOk m ∧ maskOk n then 0 else 1))] from (by first | (rw [if_pos ⟨by assumption, by assumption⟩, if_pos ⟨by assumption, by assumption⟩]; done) | (rw [if_neg (fun h => absurd h.1 (by assumption)), if_neg (fun h => absurd h.1 (by assumption))]; done) | (rw [if_neg (fun h => absurd h.2 (by assumption)), if_neg (fun h => absurd h.2 (by assumption))]; done))), rfl⟩⟩
  · skip
    refine vPass rfl rfl rfl (not_of_f (decide_eq_false h1)) rfl rfl rfl ?_
    refine vPass rfl rfl rfl (not_of_f (decide_eq_false h1)) rfl rfl rfl ?_
    refine vPass rfl rfl rfl (not_of_f (decide_eq_false h1)) rfl rfl rfl ?_
    refine vpOps_pure (x := .v (.bool (true))) (pPt rfl rfl (not_of_f (decide_eq_false h1)) rfl rfl) rfl rfl rfl rfl ?_
    refine vpOps_nil ?_
    refine vIfT rfl rfl ?_
    refine vp_seq ?_
    refine vp_region ?_
    refine vpOps_pure (x := .v (.int .i64 0)) (pAs rfl rfl rfl) rfl rfl rfl rfl ?_
    refine vpOps_pure (x := .v (.int .i64 1)) (pAs rfl rfl rfl) rfl rfl rfl rfl ?_
    refine vpOps_nil ?_
    refine vp_ret ?_
    exact ⟨[.v (.int .i64 0), .v (.int .i64 1)], [4, 5], (.cons (.tmp rfl rfl) (.cons (.tmp rfl rfl) .nil)), rfl, ⟨(show (.tup [.v (.int .i64 0), .v (.int .i64 1)] : PV) = .tup [.v (.int .i64 (if maskOk m ∧ maskOk n then (farM m n : Int) else 0)), .v (.int .i64 (if maskOk m ∧ maskOk n then 0 else 1))] from (by first | (rw [if_pos ⟨by assumption, by assumption⟩, if_pos ⟨by assumption, by assumption⟩]; done) | (rw [if_neg (fun h => absurd h.1 (by assumption)), if_neg (fun h => absurd h.1 (by assumption))]; done) | (rw [if_neg (fun h => absurd h.2 (by assumption)), if_neg (fun h => absurd h.2 (by assumption))]; done))), rfl⟩⟩

/-- spec.l00In -/
theorem c_l00In {G : World → Prop} (v : Int) (lo : Int) (hi : Int)  : CallsV Tryd.prog G 56 [.v (.int .i64 v), .v (.int .i64 lo), .v (.int .i64 hi)] (fun r outs => r = .v (.bool (decide (lo ≤ v ∧ v ≤ hi))) ∧ outs = [.junk, .junk, .junk]) := by
  refine callsV_enter [] Tryd.func56 rfl rfl rfl ?_
  refine vp_seq ?_
  refine vp_region ?_
  refine vpOps_pure (x := .v (.bool (false))) (pAs rfl rfl rfl) rfl rfl rfl rfl ?_
  refine vpOps_nil ?_
  refine vp_seq ?_
  refine vp_region ?_
  refine vpOps_pure (x := .v (.int .i64 v)) (pMv rfl rfl rfl) rfl rfl rfl rfl ?_
  refine vpOps_pure (x := .v (.int .i64 lo)) (pMv rfl rfl rfl) rfl rfl rfl rfl ?_
  refine vpOps_pure (x := .v (.bool (decide (lo ≤ v)))) (pure_bin rfl rfl rfl rfl) rfl rfl rfl rfl ?_
  refine vpOps_pure (x := .v (.bool (decide (lo ≤ v)))) (pMv rfl rfl rfl) rfl rfl rfl rfl ?_
  by_cases h1 : lo ≤ v
  · skip
    refine vRun rfl rfl rfl (decide_eq_true h1) rfl rfl rfl ?_
    refine vpOps_pure (x := .v (.int .i64 v)) (pMv rfl rfl rfl) rfl rfl rfl rfl ?_
    refine vRun rfl rfl rfl (decide_eq_true h1) rfl rfl rfl ?_
    refine vpOps_pure (x := .v (.int .i64 hi)) (pMv rfl rfl rfl) rfl rfl rfl rfl ?_
    refine vRun rfl rfl rfl (decide_eq_true h1) rfl rfl rfl ?_
    refine vpOps_pure (x := .v (.bool (decide (v ≤ hi)))) (pure_bin rfl rfl rfl rfl) rfl rfl rfl rfl ?_
    refine vpOps_pure (x := .v (.bool (decide (v ≤ hi)))) (pPt rfl rfl (decide_eq_true h1) rfl rfl) rfl rfl rfl rfl ?_
    refine vpOps_pure (x := .v (.bool (decide (v ≤ hi)))) (pAs rfl rfl rfl) rfl rfl rfl rfl ?_
    refine vpOps_nil ?_
    refine vp_ret ?_
    exact ⟨[.v (.bool (decide (v ≤ hi)))], [6], (.cons (.tmp rfl rfl) .nil), rfl, ⟨(show (.v (.bool (decide (v ≤ hi))) : PV) = .v (.bool (decide (lo ≤ v ∧ v ≤ hi))) from (by simp [*])), rfl⟩⟩
  · skip
    refine vPass rfl rfl rfl (decide_eq_false h1) rfl rfl rfl ?_
    refine vPass rfl rfl rfl (decide_eq_false h1) rfl rfl rfl ?_
    refine vPass rfl rfl rfl (decide_eq_false h1) rfl rfl rfl ?_
    refine vpOps_pure (x := .v (.bool (false))) (pPf rfl rfl (decide_eq_false h1) rfl rfl) rfl rfl rfl rfl ?_
    refine vpOps_pure (x := .v (.bool (false))) (pAs rfl rfl rfl) rfl rfl rfl rfl ?_
    refine vpOps_nil ?_
    refine vp_ret ?_
    exact ⟨[.v (.bool (false))], [6], (.cons (.tmp rfl rfl) .nil), rfl, ⟨(show (.v (.bool (false)) : PV) = .v (.bool (decide (lo ≤ v ∧ v ≤ hi))) from (by simp [*])), rfl⟩⟩

/-- spec.l07Far -/
theorem c_sFar {G : World → Prop} (m : Mask) (n : Mask) (hm : m.wf) (hn : n.wf) : CallsV Tryd.prog G 24 [.agg [.v (.int .u64 ((m.a : Nat) : Int)), .v (.int .u64 ((m.b : Nat) : Int))], .agg [.v (.int .u64 ((n.a : Nat) : Int)), .v (.int .u64 ((n.b : Nat) : Int))]] (fun r outs => r = .v (.int .i64 ((((farM m n) : Nat) : Int))) ∧ outs = [.junk, .junk]) := by
  refine callsV_enter [] Tryd.func24 rfl rfl rfl ?_
  have hf1 := countM_le (lessM_wf (n := n) hm)
  have hf2 := countM_le (lessM_wf (n := m) hn)
  refine vp_seq ?_
  refine vp_region ?_
  refine vpOps_pure (x := .box [.v (.int .u64 ((m.a : Nat) : Int)), .v (.int .u64 ((m.b : Nat) : Int))]) (pure_box rfl rfl (mvOk_flat _ rfl) rfl rfl) rfl rfl rfl rfl ?_
  refine vpOps_pure (x := .box [.v (.int .u64 ((n.a : Nat) : Int)), .v (.int .u64 ((n.b : Nat) : Int))]) (pure_box rfl rfl (mvOk_flat _ rfl) rfl rfl) rfl rfl rfl rfl ?_
  refine vpOps_pure (x := .v (.int .i64 0)) (pAs rfl rfl rfl) rfl rfl rfl rfl ?_
  refine vpOps_nil ?_
  refine vp_seq ?_
  refine vRegD 9 ((5, .agg [.v (.int .u64 ((m.a : Nat) : Int)), .v (.int .u64 ((m.b : Nat) : Int))]) :: (6, .agg [.v (.int .u64 ((n.a : Nat) : Int)), .v (.int .u64 ((n.b : Nat) : Int))]) :: (7, .agg [.v (.int .u64 ((((lessM m n).a : Nat) : Int))), .v (.int .u64 ((((lessM m n).b : Nat) : Int)))]) :: (8, .v (.int .i64 ((((countM (lessM m n)) : Nat) : Int)))) :: (9, .agg [.v (.int .u64 ((n.a : Nat) : Int)), .v (.int .u64 ((n.b : Nat) : Int))]) :: (10, .agg [.v (.int .u64 ((m.a : Nat) : Int)), .v (.int .u64 ((m.b : Nat) : Int))]) :: (11, .agg [.v (.int .u64 ((((lessM n m).a : Nat) : Int))), .v (.int .u64 ((((lessM n m).b : Nat) : Int)))]) :: (12, .v (.int .i64 ((((countM (lessM n m)) : Nat) : Int)))) :: (13, .v (.int .i64 (((((countM (lessM m n)) : Nat) : Int)) + ((((countM (lessM n m)) : Nat) : Int))))) :: []) (0 :: 0 :: 3 :: 7 :: 0 :: 0 :: 63 :: 127 :: 255 :: 511 :: []) (by kernel_rfl) rfl (by kernel_rfl) (by kernel_rfl) (by kernel_rfl) (by kernel_rfl) (by kernel_rfl) ⟨
      dPure rfl (pure_load_pl_agg rfl rfl rfl rfl rfl rfl rfl rfl (by simp [PV.flatL, PV.flat])),
      dPure rfl (pure_load_pl_agg rfl rfl rfl rfl rfl rfl rfl rfl (by simp [PV.flatL, PV.flat])),
      dPure rfl (pure_call (gs := [⟨.tmp 5, .agg [.v (.int .u64 ((m.a : Nat) : Int)), .v (.int .u64 ((m.b : Nat) : Int))], none, none⟩, ⟨.tmp 6, .agg [.v (.int .u64 ((n.a : Nat) : Int)), .v (.int .u64 ((n.b : Nat) : Int))], none, none⟩]) (c_sLess m n (by first | assumption | omega | exact lessM_wf (by assumption)) (by first | assumption | omega | exact lessM_wf (by assumption))) rfl rfl trivial (by kernel_rfl) rfl rfl (gives_cons (gC rfl rfl) (gives_cons (gC rfl rfl) gives_nil)) rfl (fun _ _ h => h.1) ⟨trivial, ⟨trivial, trivial⟩⟩),
      dPure rfl (pure_call (gs := [⟨.tmp 7, .agg [.v (.int .u64 ((((lessM m n).a : Nat) : Int))), .v (.int .u64 ((((lessM m n).b : Nat) : Int)))], none, none⟩]) (c_sCount (lessM m n) (by first | assumption | omega | exact lessM_wf (by assumption))) rfl rfl trivial (by kernel_rfl) rfl rfl (gives_cons (gC rfl rfl) gives_nil) rfl (fun _ _ h => h.1) trivial),
      dPure rfl (pure_load_pl_agg rfl rfl rfl rfl rfl rfl rfl rfl (by simp [PV.flatL, PV.flat])),
      dPure rfl (pure_load_pl_agg rfl rfl rfl rfl rfl rfl rfl rfl (by simp [PV.flatL, PV.flat])),
      dPure rfl (pure_call (gs := [⟨.tmp 9, .agg [.v (.int .u64 ((n.a : Nat) : Int)), .v (.int .u64 ((n.b : Nat) : Int))], none, none⟩, ⟨.tmp 10, .agg [.v (.int .u64 ((m.a : Nat) : Int)), .v (.int .u64 ((m.b : Nat) : Int))], none, none⟩]) (c_sLess n m (by first | assumption | omega | exact lessM_wf (by assumption)) (by first | assumption | omega | exact lessM_wf (by assumption))) rfl rfl trivial (by kernel_rfl) rfl rfl (gives_cons (gC rfl rfl) (gives_cons (gC rfl rfl) gives_nil)) rfl (fun _ _ h => h.1) ⟨trivial, ⟨trivial, trivial⟩⟩),
      dPure rfl (pure_call (gs := [⟨.tmp 11, .agg [.v (.int .u64 ((((lessM n m).a : Nat) : Int))), .v (.int .u64 ((((lessM n m).b : Nat) : Int)))], none, none⟩]) (c_sCount (lessM n m) (by first | assumption | omega | exact lessM_wf (by assumption))) rfl rfl trivial (by kernel_rfl) rfl rfl (gives_cons (gC rfl rfl) gives_nil) rfl (fun _ _ h => h.1) trivial),
      dPure rfl (pure_add rfl rfl rfl (in64 (by omega) (by omega))),
      trivial⟩ ?_
  refine vpOps_pure (x := .v (.int .i64 (((((countM (lessM m n)) : Nat) : Int)) + ((((countM (lessM n m)) : Nat) : Int))))) (pAs rfl rfl rfl) rfl rfl rfl rfl ?_
  refine vpOps_nil ?_
  refine vp_ret ?_
  exact ⟨[.v (.int .i64 (((((countM (lessM m n)) : Nat) : Int)) + ((((countM (lessM n m)) : Nat) : Int))))], [4], (.cons (.tmp rfl rfl) .nil), rfl, ⟨(show (.v (.int .i64 (((((countM (lessM m n)) : Nat) : Int)) + ((((countM (lessM n m)) : Nat) : Int)))) : PV) = .v (.int .i64 ((((farM m n) : Nat) : Int))) from (by rfl)), rfl⟩⟩

/-- spec.l00Min -/
theorem c_l00Min {G : World → Prop} (a : Int) (b : Int)  : CallsV Tryd.prog G 25 [.v (.int .i64 a), .v (.int .i64 b)] (fun r outs => r = .v (.int .i64 (if a < b then a else b)) ∧ outs = [.junk, .junk]) := by
  refine callsV_enter [] Tryd.func25 rfl rfl rfl ?_
  refine vp_seq ?_
  refine vp_region ?_
  refine vpOps_pure (x := .v (.int .i64 0)) (pAs rfl rfl rfl) rfl rfl rfl rfl ?_
  refine vpOps_nil ?_
  refine vp_seq ?_
  refine vp_seq ?_
  refine vp_region ?_
  refine vpOps_pure (x := .v (.int .i64 a)) (pMv rfl rfl rfl) rfl rfl rfl rfl ?_
  refine vpOps_pure (x := .v (.int .i64 b)) (pMv rfl rfl rfl) rfl rfl rfl rfl ?_
  refine vpOps_pure (x := .v (.bool (decide (a < b)))) (pure_bin rfl rfl rfl rfl) rfl rfl rfl rfl ?_
  refine vpOps_nil ?_
  refine vIf rfl (fun h1 => ?_) (fun h1 => ?_)
  · skip
    refine vp_seq ?_
    refine vp_region ?_
    refine vpOps_pure (x := .v (.int .i64 a)) (pMv rfl rfl rfl) rfl rfl rfl rfl ?_
    refine vpOps_pure (x := .v (.int .i64 a)) (pAs rfl rfl rfl) rfl rfl rfl rfl ?_
    refine vpOps_nil ?_
    refine vp_ret ?_
    exact ⟨[.v (.int .i64 a)], [4], (.cons (.tmp rfl rfl) .nil), rfl, ⟨(show (.v (.int .i64 a) : PV) = .v (.int .i64 (if a < b then a else b)) from (by first | rw [if_pos (by assumption)] | rw [if_neg (by assumption)])), rfl⟩⟩
  · skip
    refine vp_skip ?_
    refine vp_seq ?_
    refine vp_region ?_
    refine vpOps_pure (x := .v (.int .i64 b)) (pMv rfl rfl rfl) rfl rfl rfl rfl ?_
    refine vpOps_pure (x := .v (.int .i64 b)) (pAs rfl rfl rfl) rfl rfl rfl rfl ?_
    refine vpOps_nil ?_
    refine vp_ret ?_
    exact ⟨[.v (.int .i64 b)], [4], (.cons (.tmp rfl rfl) .nil), rfl, ⟨(show (.v (.int .i64 b) : PV) = .v (.int .i64 (if a < b then a else b)) from (by first | rw [if_pos (by assumption)] | rw [if_neg (by assumption)])), rfl⟩⟩

/-- spec.l00Same -/
theorem c_l00Same {G : World → Prop} (xs : List Int) (ys : List Int) (hx : xs.length ≤ 9223372036854775807) : CallsV Tryd.prog G 26 [.sh 1 (xs.map i64c), .sh 1 (ys.map i64c)] (fun r outs => r = .v (.bool (decide (xs = ys))) ∧ outs = [.junk, .junk]) := by
  refine callsV_enter [] Tryd.func26 rfl rfl rfl ?_
  refine vp_seq ?_
  refine vp_region ?_
  refine vpOps_pure (x := .v (.bool (false))) (pAs rfl rfl rfl) rfl rfl rfl rfl ?_
  refine vpOps_nil ?_
  refine vp_seq ?_
  refine vp_seq ?_
  refine vp_region ?_
  refine vpOps_pure (x := .sh 1 (xs.map i64c)) (pMv rfl rfl rfl) rfl rfl rfl rfl ?_
  refine vpOps_pure (x := .v (.int .i64 ((xs.length : Nat) : Int))) (pLen rfl rfl (List.length_map _)) rfl rfl rfl rfl ?_
  refine vpOps_pure (x := .sh 1 (ys.map i64c)) (pMv rfl rfl rfl) rfl rfl rfl rfl ?_
  refine vpOps_pure (x := .v (.int .i64 ((ys.length : Nat) : Int))) (pLen rfl rfl (List.length_map _)) rfl rfl rfl rfl ?_
  refine vpOps_pure (x := .v (.bool (!decide (((xs.length : Nat) : Int) = ((ys.length : Nat) : Int))))) (pure_bin rfl rfl rfl rfl) rfl rfl rfl rfl ?_
  refine vpOps_nil ?_
  refine vIfN rfl (fun h1 => ?_) (fun h1 => ?_)
  · skip
    refine vp_seq ?_
    refine vp_region ?_
    refine vpOps_pure (x := .v (.bool (false))) (pAs rfl rfl rfl) rfl rfl rfl rfl ?_
    refine vpOps_nil ?_
    refine vp_ret ?_
    exact ⟨[.v (.bool (false))], [4], (.cons (.tmp rfl rfl) .nil), rfl, ⟨(show (.v (.bool (false)) : PV) = .v (.bool (decide (xs = ys))) from (by first | exact dec_f (fun e => by subst e; omega) | exact dec_f (by rw [he, drop_eq_step hl (by omega)]; exact fun h => absurd h.1 (by assumption)) | exact dec_t (he.2 (drop_eq_end hl (by omega))))), rfl⟩⟩
  · skip
    refine vp_skip ?_
    refine vp_seq ?_
    refine vp_seq ?_
    refine vp_region ?_
    refine vpOps_pure (x := .v (.int .i64 0)) (pAs rfl rfl rfl) rfl rfl rfl rfl ?_
    refine vpOps_nil ?_
    refine vp_block ?_
    refine vLoop (α := Nat) (fun i => xs.length - i) (fun i => (i ≤ xs.length) ∧ (xs = ys ↔ xs.drop i = ys.drop i) ∧ True) (fun i => [(0, .sh 1 (xs.map i64c)), (1, .sh 1 (ys.map i64c)), (5, .v (.int .i64 ((i : Nat) : Int)))]) (fun _ => rfl) (fun _ => rfl) 0 ⟨(by omega), (by exact Iff.rfl), trivial⟩ ⟨rfl, rfl, rfl, trivial⟩ ?_
    rintro i ⟨hi, he, -⟩
    have hl : xs.length = ys.length := by omega
    refine vp_seq ?_
    refine vp_seq ?_
    refine vp_region ?_
    refine vpOps_pure (x := .v (.int .i64 ((i : Nat) : Int))) (pMv rfl rfl rfl) rfl rfl rfl rfl ?_
    refine vpOps_pure (x := .sh 1 (xs.map i64c)) (pMv rfl rfl rfl) rfl rfl rfl rfl ?_
    refine vpOps_pure (x := .v (.int .i64 ((xs.length : Nat) : Int))) (pLen rfl rfl (List.length_map _)) rfl rfl rfl rfl ?_
    refine vpOps_pure (x := .v (.bool (decide (((i : Nat) : Int) < ((xs.length : Nat) : Int))))) (pure_bin rfl rfl rfl rfl) rfl rfl rfl rfl ?_
    refine vpOps_nil ?_
    refine vIf rfl (fun h2 => ?_) (fun h2 => ?_)
    · skip
      refine vp_skip ?_
      refine vp_seq ?_
      refine vp_block ?_
      refine vp_seq ?_
      refine vRegD 9 ((17, .sh 1 (xs.map i64c)) :: (18, .v (.int .i64 ((i : Nat) : Int))) :: (19, .rbox [.v (.int .i64 (xs.getD i default))]) :: (20, .v (.int .i64 (xs.getD i default))) :: (21, .sh 1 (ys.map i64c)) :: (22, .v (.int .i64 ((i : Nat) : Int))) :: (23, .rbox [.v (.int .i64 (ys.getD i default))]) :: (24, .v (.int .i64 (ys.getD i default))) :: (25, .v (.bool (!decide ((xs.getD i default) = (ys.getD i default))))) :: []) (0 :: 0 :: 3 :: 7 :: 0 :: 0 :: 48 :: 112 :: 255 :: []) (by kernel_rfl) rfl (by kernel_rfl) (by kernel_rfl) (by kernel_rfl) (by kernel_rfl) (by kernel_rfl) ⟨
          dPure rfl (pMv rfl rfl rfl),
          dPure rfl (pMv rfl rfl rfl),
          dPure rfl (pIx (m := i) rfl rfl rfl (by first | rfl | omega) (by omega) rfl),
          dPure rfl (pure_load_rbox rfl rfl rfl),
          dPure rfl (pMv rfl rfl rfl),
          dPure rfl (pMv rfl rfl rfl),
          dPure rfl (pIx (m := i) rfl rfl rfl (by first | rfl | omega) (by omega) rfl),
          dPure rfl (pure_load_rbox rfl rfl rfl),
          dPure rfl (pure_bin rfl rfl rfl rfl),
          trivial⟩ ?_
      refine vpOps_nil ?_
      refine vIfN rfl (fun h3 => ?_) (fun h3 => ?_)
      · skip
        refine vp_seq ?_
        refine vp_region ?_
        refine vpOps_pure (x := .v (.bool (false))) (pAs rfl rfl rfl) rfl rfl rfl rfl ?_
        refine vpOps_nil ?_
        refine vp_ret ?_
        exact ⟨[.v (.bool (false))], [4], (.cons (.tmp rfl rfl) .nil), rfl, ⟨(show (.v (.bool (false)) : PV) = .v (.bool (decide (xs = ys))) from (by first | exact dec_f (fun e => by subst e; omega) | exact dec_f (by rw [he, drop_eq_step hl (by omega)]; exact fun h => absurd h.1 (by assumption)) | exact dec_t (he.2 (drop_eq_end hl (by omega))))), rfl⟩⟩
      · skip
        refine vp_skip ?_
        refine vp_region ?_
        refine vpOps_pure (x := .v (.int .i64 ((i : Nat) : Int))) (pMv rfl rfl rfl) rfl rfl rfl rfl ?_
        refine vpOps_pure (x := .v (.int .i64 (((i : Nat) : Int) + 1))) (pure_add rfl rfl rfl (in64 (by omega) (by omega))) rfl rfl rfl rfl ?_
        refine vpOps_pure (x := .v (.int .i64 (((i : Nat) : Int) + 1))) (pAs rfl rfl rfl) rfl rfl rfl rfl ?_
        refine vpOps_nil ?_
        exact ⟨i + 1, (by first | omega | (dsimp only; omega)), ⟨(by omega), (by rw [he, drop_eq_step hl (by omega)]; exact ⟨fun h => h.2, fun h => ⟨by assumption, h⟩⟩), trivial⟩, ⟨rfl, rfl, rfl, trivial⟩⟩
    · skip
      refine vp_exit ?_
      refine vp_seq ?_
      refine vp_region ?_
      refine vpOps_pure (x := .v (.bool (true))) (pAs rfl rfl rfl) rfl rfl rfl rfl ?_
      refine vpOps_nil ?_
      refine vp_ret ?_
      exact ⟨[.v (.bool (true))], [4], (.cons (.tmp rfl rfl) .nil), rfl, ⟨(show (.v (.bool (true)) : PV) = .v (.bool (decide (xs = ys))) from (by first | exact dec_f (fun e => by subst e; omega) | exact dec_f (by rw [he, drop_eq_step hl (by omega)]; exact fun h => absurd h.1 (by assumption)) | exact dec_t (he.2 (drop_eq_end hl (by omega))))), rfl⟩⟩

/-- spec.A2Same -/
theorem c_A2Same {G : World → Prop} (xs : List Int) (ys : List Int) (hx : xs.length ≤ 9223372036854775807) : CallsV Tryd.prog G 11 [.sh 1 (xs.map i64c), .sh 1 (ys.map i64c)] (fun r outs => r = .v (.bool (decide (xs = ys))) ∧ outs = [.junk, .junk]) := by
  refine callsV_enter [] Tryd.func11 rfl rfl rfl ?_
  refine vp_seq ?_
  refine vp_region ?_
  refine vpOps_pure (x := .v (.bool (false))) (pAs rfl rfl rfl) rfl rfl rfl rfl ?_
  refine vpOps_nil ?_
  refine vp_seq ?_
  refine vp_region ?_
  refine vpOps_pure (x := .sh 1 (xs.map i64c)) (pMv rfl rfl rfl) rfl rfl rfl rfl ?_
  refine vpOps_pure (x := .sh 1 (ys.map i64c)) (pMv rfl rfl rfl) rfl rfl rfl rfl ?_
  refine vpOps_call (gs := [⟨.tmp 5, .sh 1 (xs.map i64c), none, none⟩, ⟨.tmp 6, .sh 1 (ys.map i64c), none, none⟩]) (c_l00Same xs ys (by first | assumption | omega)) rfl rfl rfl rfl rfl trivial (by kernel_rfl) rfl rfl (gives_cons (gC rfl rfl) (gives_cons (gC rfl rfl) gives_nil)) rfl (fun _ _ _ => .inl rfl) ?_
  rintro _ _ ⟨rfl, rfl⟩
  refine vpOps_pure (x := .v (.bool (decide (xs = ys)))) (pAs rfl rfl rfl) rfl rfl rfl rfl ?_
  refine vpOps_nil ?_
  refine vp_ret ?_
  exact ⟨[.v (.bool (decide (xs = ys)))], [4], (.cons (.tmp rfl rfl) .nil), rfl, ⟨(show (.v (.bool (decide (xs = ys))) : PV) = .v (.bool (decide (xs = ys))) from rfl), rfl⟩⟩

/-- spec.l05In -/
theorem c_l05In {G : World → Prop} (xs : List Int) (n : Int) (hx : xs.length ≤ 9223372036854775807) : CallsV Tryd.prog G 27 [.sh 1 (xs.map i64c), .v (.int .i64 n)] (fun r outs => r = .v (.bool (decide (n ∈ xs))) ∧ outs = [.junk, .junk]) := by
  refine callsV_enter [] Tryd.func27 rfl rfl rfl ?_
  refine vp_seq ?_
  refine vp_region ?_
  refine vpOps_pure (x := .v (.bool (false))) (pAs rfl rfl rfl) rfl rfl rfl rfl ?_
  refine vpOps_nil ?_
  refine vp_seq ?_
  refine vp_seq ?_
  refine vp_region ?_
  refine vpOps_pure (x := .v (.int .i64 0)) (pAs rfl rfl rfl) rfl rfl rfl rfl ?_
  refine vpOps_nil ?_
  refine vp_block ?_
  refine vLoop (α := Nat) (fun i => xs.length - i) (fun i => (i ≤ xs.length) ∧ (n ∈ xs ↔ n ∈ xs.drop i) ∧ True) (fun i => [(0, .sh 1 (xs.map i64c)), (1, .v (.int .i64 n)), (5, .v (.int .i64 ((i : Nat) : Int)))]) (fun _ => rfl) (fun _ => rfl) 0 ⟨(by omega), (by exact Iff.rfl), trivial⟩ ⟨rfl, rfl, rfl, trivial⟩ ?_
  rintro i ⟨hi, he, -⟩
  refine vp_seq ?_
  refine vp_seq ?_
  refine vp_region ?_
  refine vpOps_pure (x := .v (.int .i64 ((i : Nat) : Int))) (pMv rfl rfl rfl) rfl rfl rfl rfl ?_
  refine vpOps_pure (x := .sh 1 (xs.map i64c)) (pMv rfl rfl rfl) rfl rfl rfl rfl ?_
  refine vpOps_pure (x := .v (.int .i64 ((xs.length : Nat) : Int))) (pLen rfl rfl (List.length_map _)) rfl rfl rfl rfl ?_
  refine vpOps_pure (x := .v (.bool (decide (((i : Nat) : Int) < ((xs.length : Nat) : Int))))) (pure_bin rfl rfl rfl rfl) rfl rfl rfl rfl ?_
  refine vpOps_nil ?_
  refine vIf rfl (fun h1 => ?_) (fun h1 => ?_)
  · skip
    refine vp_skip ?_
    refine vp_seq ?_
    refine vp_block ?_
    refine vp_seq ?_
    refine vp_region ?_
    refine vpOps_pure (x := .sh 1 (xs.map i64c)) (pMv rfl rfl rfl) rfl rfl rfl rfl ?_
    refine vpOps_pure (x := .v (.int .i64 ((i : Nat) : Int))) (pMv rfl rfl rfl) rfl rfl rfl rfl ?_
    refine vpOps_pure (x := .rbox [.v (.int .i64 (xs.getD i default))]) (pIx (m := i) rfl rfl rfl (by first | rfl | omega) (by omega) rfl) rfl rfl rfl rfl ?_
    refine vpOps_pure (x := .v (.int .i64 (xs.getD i default))) (pure_load_rbox rfl rfl rfl) rfl rfl rfl rfl ?_
    refine vpOps_pure (x := .v (.int .i64 n)) (pMv rfl rfl rfl) rfl rfl rfl rfl ?_
    refine vpOps_pure (x := .v (.bool (decide ((xs.getD i default) = n)))) (pure_bin rfl rfl rfl rfl) rfl rfl rfl rfl ?_
    refine vpOps_nil ?_
    refine vIf rfl (fun h2 => ?_) (fun h2 => ?_)
    · skip
      refine vp_seq ?_
      refine vp_region ?_
      refine vpOps_pure (x := .v (.bool (true))) (pAs rfl rfl rfl) rfl rfl rfl rfl ?_
      refine vpOps_nil ?_
      refine vp_ret ?_
      exact ⟨[.v (.bool (true))], [4], (.cons (.tmp rfl rfl) .nil), rfl, ⟨(show (.v (.bool (true)) : PV) = .v (.bool (decide (n ∈ xs))) from (by first | exact dec_t (he.2 ((mem_drop_step (by omega)).2 (.inl (by first | assumption | exact Eq.symm (by assumption))))) | exact dec_f (fun h => by rw [he, List.drop_of_length_le (by omega)] at h; exact absurd h (by simp)))), rfl⟩⟩
    · skip
      refine vp_skip ?_
      refine vp_region ?_
      refine vpOps_pure (x := .v (.int .i64 ((i : Nat) : Int))) (pMv rfl rfl rfl) rfl rfl rfl rfl ?_
      refine vpOps_pure (x := .v (.int .i64 (((i : Nat) : Int) + 1))) (pure_add rfl rfl rfl (in64 (by omega) (by omega))) rfl rfl rfl rfl ?_
      refine vpOps_pure (x := .v (.int .i64 (((i : Nat) : Int) + 1))) (pAs rfl rfl rfl) rfl rfl rfl rfl ?_
      refine vpOps_nil ?_
      exact ⟨i + 1, (by first | omega | (dsimp only; omega)), ⟨(by omega), (by rw [he, mem_drop_step (by omega)]; exact ⟨fun h => h.resolve_left (fun e => absurd e.symm (by assumption)), .inr⟩), trivial⟩, ⟨rfl, rfl, rfl, trivial⟩⟩
  · skip
    refine vp_exit ?_
    refine vp_seq ?_
    refine vp_region ?_
    refine vpOps_pure (x := .v (.bool (false))) (pAs rfl rfl rfl) rfl rfl rfl rfl ?_
    refine vpOps_nil ?_
    refine vp_ret ?_
    exact ⟨[.v (.bool (false))], [4], (.cons (.tmp rfl rfl) .nil), rfl, ⟨(show (.v (.bool (false)) : PV) = .v (.bool (decide (n ∈ xs))) from (by first | exact dec_t (he.2 ((mem_drop_step (by omega)).2 (.inl (by first | assumption | exact Eq.symm (by assumption))))) | exact dec_f (fun h => by rw [he, List.drop_of_length_le (by omega)] at h; exact absurd h (by simp)))), rfl⟩⟩

/-- spec.A2Has -/
theorem c_A2Has {G : World → Prop} (xs : List Int) (n : Int) (hx : xs.length ≤ 9223372036854775807) : CallsV Tryd.prog G 14 [.sh 1 (xs.map i64c), .v (.int .i64 n)] (fun r outs => r = .v (.bool (decide (n ∈ xs))) ∧ outs = [.junk, .junk]) := by
  refine callsV_enter [] Tryd.func14 rfl rfl rfl ?_
  refine vp_seq ?_
  refine vp_region ?_
  refine vpOps_pure (x := .v (.bool (false))) (pAs rfl rfl rfl) rfl rfl rfl rfl ?_
  refine vpOps_nil ?_
  refine vp_seq ?_
  refine vp_region ?_
  refine vpOps_pure (x := .sh 1 (xs.map i64c)) (pMv rfl rfl rfl) rfl rfl rfl rfl ?_
  refine vpOps_pure (x := .v (.int .i64 n)) (pMv rfl rfl rfl) rfl rfl rfl rfl ?_
  refine vpOps_call (gs := [⟨.tmp 5, .sh 1 (xs.map i64c), none, none⟩, ⟨.tmp 6, .v (.int .i64 n), none, none⟩]) (c_l05In xs n (by first | assumption | omega)) rfl rfl rfl rfl rfl trivial (by kernel_rfl) rfl rfl (gives_cons (gC rfl rfl) (gives_cons (gC rfl rfl) gives_nil)) rfl (fun _ _ _ => .inl rfl) ?_
  rintro _ _ ⟨rfl, rfl⟩
  refine vpOps_pure (x := .v (.bool (decide (n ∈ xs)))) (pAs rfl rfl rfl) rfl rfl rfl rfl ?_
  refine vpOps_nil ?_
  refine vp_ret ?_
  exact ⟨[.v (.bool (decide (n ∈ xs)))], [4], (.cons (.tmp rfl rfl) .nil), rfl, ⟨(show (.v (.bool (decide (n ∈ xs))) : PV) = .v (.bool (decide (n ∈ xs))) from rfl), rfl⟩⟩

end Go.Vr
/- Walks of the functions that the law reaches: what each gives, by value. -/
namespace Go.Vr
open Go Go.Proofs
set_option linter.unusedVariables false
set_option linter.unusedSimpArgs false
set_option maxRecDepth 8000

/-- strings.makeASCIISet -/
theorem c_mkASCII {G : World → Prop} (s : ByteArray) (hs : s.size ≤ 9223372036854775807) (hb : ∀ j, j < s.size → sb s j < 128) : CallsV Tryd.prog G 59 [.v (.string s)] (fun r outs => r = .tup [.agg ((setTo s s.size).map boolv), .v (.bool (true))] ∧ outs = [.junk]) := by
  refine callsV_enter [] Tryd.func59 rfl rfl rfl ?_
  refine vp_seq ?_
  refine vp_region ?_
  refine vpOps_pure (x := .box (List.replicate 256 (.v (.bool false)))) (pure_alloc rfl) rfl rfl rfl rfl ?_
  refine vpOps_pure (x := .v (.bool (false))) (pAs rfl rfl rfl) rfl rfl rfl rfl ?_
  refine vpOps_nil ?_
  refine vp_seq ?_
  refine vp_seq ?_
  refine vp_region ?_
  refine vpOps_pure (x := .v (.int .i64 0)) (pAs rfl rfl rfl) rfl rfl rfl rfl ?_
  refine vpOps_nil ?_
  refine vp_block ?_
  refine vLoop (α := Nat) (fun i => s.size - i) (fun i => (i ≤ s.size) ∧ True) (fun i => [(0, .v (.string s)), (2, .box ((setTo s i).map boolv)), (4, .v (.int .i64 ((i : Nat) : Int)))]) (fun _ => rfl) (fun _ => rfl) 0 ⟨(by omega), trivial⟩ ⟨rfl, (show (.box (List.replicate 256 (.v (.bool false))) : PV) = .box ((setTo s 0).map boolv) from by rw [← set0]), rfl, trivial⟩ ?_
  rintro i ⟨hi, -⟩
  refine vp_seq ?_
  refine vp_seq ?_
  refine vp_region ?_
  refine vpOps_pure (x := .v (.int .i64 ((i : Nat) : Int))) (pMv rfl rfl rfl) rfl rfl rfl rfl ?_
  refine vpOps_pure (x := .v (.string s)) (pMv rfl rfl rfl) rfl rfl rfl rfl ?_
  refine vpOps_pure (x := .v (.int .i64 ((s.size : Nat) : Int))) (pure_len_str rfl rfl) rfl rfl rfl rfl ?_
  refine vpOps_pure (x := .v (.bool (decide (((i : Nat) : Int) < ((s.size : Nat) : Int))))) (pure_bin rfl rfl rfl rfl) rfl rfl rfl rfl ?_
  refine vpOps_nil ?_
  refine vIf rfl (fun h1 => ?_) (fun h1 => ?_)
  · skip
    refine vp_skip ?_
    refine vp_seq ?_
    refine vp_block ?_
    refine vp_seq ?_
    refine vp_region ?_
    refine vpOps_pure (x := .v (.string s)) (pMv rfl rfl rfl) rfl rfl rfl rfl ?_
    refine vpOps_pure (x := .v (.int .i64 ((i : Nat) : Int))) (pMv rfl rfl rfl) rfl rfl rfl rfl ?_
    refine vpOps_pure (x := .v (.int .u8 ((((sb s i) : Nat) : Int)))) (pIxStr (m := i) rfl rfl rfl (by first | rfl | omega) (by omega)) rfl rfl rfl rfl ?_
    refine vpOps_pure (x := .v (.int .u8 ((((sb s i) : Nat) : Int)))) (pAs rfl rfl rfl) rfl rfl rfl rfl ?_
    refine vpOps_nil ?_
    refine vp_seq ?_
    refine vp_seq ?_
    refine vp_region ?_
    refine vpOps_pure (x := .v (.int .u8 ((((sb s i) : Nat) : Int)))) (pMv rfl rfl rfl) rfl rfl rfl rfl ?_
    refine vpOps_pure (x := .v (.bool (decide (128 ≤ ((((sb s i) : Nat) : Int)))))) (pure_bin rfl rfl rfl rfl) rfl rfl rfl rfl ?_
    refine vpOps_nil ?_
    refine vIf rfl (fun h2 => ?_) (fun h2 => ?_)
    · exact False.elim (by have := hb i (by omega); omega)
    · skip
      refine vp_skip ?_
      refine vp_region ?_
      refine vpOps_pure (x := .v (.int .u8 ((((sb s i) : Nat) : Int)))) (pMv rfl rfl rfl) rfl rfl rfl rfl ?_
      refine vpOps_pure (x := .pl 2 [⟨0, sb s i, 0⟩]) (pIxBoolB (i := ((sb s i : Nat) : Int)) rfl rfl rfl rfl (by have := hb i (by omega); omega)) rfl rfl rfl rfl ?_
      refine vStBool rfl rfl rfl rfl rfl rfl (by rw [setTo_len]; exact Nat.lt_of_lt_of_le (hb i (by omega)) (by decide)) ?_
      refine vpOps_nil ?_
      refine vp_region ?_
      refine vpOps_pure (x := .v (.int .i64 ((i : Nat) : Int))) (pMv rfl rfl rfl) rfl rfl rfl rfl ?_
      refine vpOps_pure (x := .v (.int .i64 (((i : Nat) : Int) + 1))) (pure_add rfl rfl rfl (in64 (by omega) (by omega))) rfl rfl rfl rfl ?_
      refine vpOps_pure (x := .v (.int .i64 (((i : Nat) : Int) + 1))) (pAs rfl rfl rfl) rfl rfl rfl rfl ?_
      refine vpOps_nil ?_
      exact ⟨i + 1, (by first | omega | (dsimp only; omega)), ⟨(by omega), trivial⟩, ⟨rfl, (show (.box (((setTo s i).set (sb s i) true).map boolv) : PV) = .box ((setTo s (i + 1)).map boolv) from by rfl), rfl, trivial⟩⟩
  · skip
    refine vp_exit ?_
    refine vp_seq ?_
    refine vp_region ?_
    refine vpOps_pure (x := .agg ((setTo s i).map boolv)) (pLdBools rfl rfl rfl rfl (setTo_len s i)) rfl rfl rfl rfl ?_
    refine vStBools rfl rfl rfl rfl rfl rfl (setTo_len s i) (by rw [List.length_map, setTo_len]) ?_
    refine vpOps_pure (x := .v (.bool (true))) (pAs rfl rfl rfl) rfl rfl rfl rfl ?_
    refine vpOps_nil ?_
    refine vp_ret ?_
    exact ⟨[.agg ((setTo s i).map boolv), .v (.bool (true))], [2, 3], (.cons (.cellAgg rfl rfl (by simp [setTo_len])) (.cons (.tmp rfl rfl) .nil)), rfl, ⟨(show (.tup [.agg ((setTo s i).map boolv), .v (.bool (true))] : PV) = .tup [.agg ((setTo s s.size).map boolv), .v (.bool (true))] from (by rw [show i = s.size by omega])), rfl⟩⟩

/-- (*strings.asciiSet).contains -/
theorem c_ascContains {G : World → Prop} (bs : List Bool) (c : Int) (hl : bs.length = 256) (hc : 0 ≤ c ∧ c < 256) : CallsV Tryd.prog G 64 [.rbox (bs.map boolv), .v (.int .u8 c)] (fun r outs => r = .v (.bool (bs.getD c.toNat false)) ∧ outs = [.junk, .junk]) := by
  refine callsV_enter [] Tryd.func64 rfl rfl rfl ?_
  refine vp_seq ?_
  refine vp_region ?_
  refine vpOps_pure (x := .v (.bool (false))) (pAs rfl rfl rfl) rfl rfl rfl rfl ?_
  refine vpOps_nil ?_
  refine vp_seq ?_
  refine vp_region ?_
  refine vpOps_pure (x := .rbox (bs.map boolv)) (pMv rfl rfl rfl) rfl rfl rfl rfl ?_
  refine vpOps_pure (x := .v (.int .u8 c)) (pMv rfl rfl rfl) rfl rfl rfl rfl ?_
  refine vpOps_pure (x := .rbox (bs.map boolv)) (pure_nil_flat rfl rfl) rfl rfl rfl rfl ?_
  refine vpOps_pure (x := .rbox (boolv (bs.getD c.toNat false) :: (bs.map boolv).drop (c.toNat + 1))) (pIxBool rfl rfl rfl hl hc) rfl rfl rfl rfl ?_
  refine vpOps_pure (x := .v (.bool (bs.getD c.toNat false))) (pure_load_rbox rfl rfl rfl) rfl rfl rfl rfl ?_
  refine vpOps_pure (x := .v (.bool (bs.getD c.toNat false))) (pAs rfl rfl rfl) rfl rfl rfl rfl ?_
  refine vpOps_nil ?_
  refine vp_ret ?_
  exact ⟨[.v (.bool (bs.getD c.toNat false))], [4], (.cons (.tmp rfl rfl) .nil), rfl, ⟨(show (.v (.bool (bs.getD c.toNat false)) : PV) = .v (.bool (bs.getD c.toNat false)) from rfl), rfl⟩⟩

/-- strings.trimRightASCII -/
theorem c_trimR {G : World → Prop} (s : ByteArray) (bs : List Bool) (hs : s.size ≤ 9223372036854775807) (hl : bs.length = 256) : CallsV Tryd.prog G 61 [.v (.string s), .rbox (bs.map boolv)] (fun r outs => ∃ (k : Nat), r = .v (.string (s.extract 0 k)) ∧ outs = [.junk, .junk] ∧ (k ≤ s.size) ∧ (∀ j, k ≤ j → j < s.size → bs.getD (sb s j) false = true) ∧ (k = 0 ∨ bs.getD (sb s (k - 1)) false = false)) := by
  refine callsV_enter [] Tryd.func61 rfl rfl rfl ?_
  refine vp_seq ?_
  refine vp_region ?_
  refine vpOps_pure (x := .v (.string (ByteArray.mk #[]))) (pAs rfl rfl rfl) rfl rfl rfl rfl ?_
  refine vpOps_nil ?_
  refine vp_seq ?_
  refine vp_block ?_
  refine vLoop (α := Nat) (fun k => k) (fun k => (k ≤ s.size) ∧ (∀ j, k ≤ j → j < s.size → bs.getD (sb s j) false = true) ∧ True) (fun k => [(0, .v (.string (s.extract 0 k))), (1, .rbox (bs.map boolv)), (4, .v (.string (ByteArray.mk #[])))]) (fun _ => rfl) (fun _ => rfl) s.size ⟨(by omega), (by intro j h1 h2; omega), trivial⟩ ⟨(show (.v (.string s) : PV) = .v (.string (s.extract 0 s.size)) from by rw [ext_all]), rfl, rfl, trivial⟩ ?_
  rintro k ⟨hk, ha, -⟩
  have hxz : (s.extract 0 k).size = k := by rw [ext_size (by omega) hk]; omega
  refine vp_seq ?_
  refine vp_seq ?_
  refine vp_region ?_
  refine vpOps_pure (x := .v (.string (s.extract 0 k))) (pMv rfl rfl rfl) rfl rfl rfl rfl ?_
  refine vpOps_pure (x := .v (.int .i64 ((((s.extract 0 k).size : Nat) : Int)))) (pure_len_str rfl rfl) rfl rfl rfl rfl ?_
  refine vpOps_pure (x := .v (.bool (decide (0 < ((((s.extract 0 k).size : Nat) : Int)))))) (pure_bin rfl rfl rfl rfl) rfl rfl rfl rfl ?_
  refine vpOps_nil ?_
  refine vIf rfl (fun h1 => ?_) (fun h1 => ?_)
  · skip
    refine vp_skip ?_
    refine vp_block ?_
    refine vp_seq ?_
    refine vp_seq ?_
    refine vp_region ?_
    refine vpOps_pure (x := .rbox (bs.map boolv)) (pMv rfl rfl rfl) rfl rfl rfl rfl ?_
    refine vpOps_pure (x := .v (.string (s.extract 0 k))) (pMv rfl rfl rfl) rfl rfl rfl rfl ?_
    refine vpOps_pure (x := .v (.string (s.extract 0 k))) (pMv rfl rfl rfl) rfl rfl rfl rfl ?_
    refine vpOps_pure (x := .v (.int .i64 ((((s.extract 0 k).size : Nat) : Int)))) (pure_len_str rfl rfl) rfl rfl rfl rfl ?_
    refine vpOps_pure (x := .v (.int .i64 ((((k - 1) : Nat) : Int)))) (pEqI (pure_sub rfl rfl rfl (in64 (by omega) (by omega))) (by rw [ext_size (by omega) hk]; omega)) rfl rfl rfl rfl ?_
    refine vpOps_pure (x := .v (.int .u8 ((((sb (s.extract 0 k) (k - 1)) : Nat) : Int)))) (pIxStr (m := (k - 1)) rfl rfl rfl (by first | rfl | omega) (by omega)) rfl rfl rfl rfl ?_
    refine vpOps_call (gs := [⟨.tmp 8, .rbox (bs.map boolv), none, none⟩, ⟨.tmp 13, .v (.int .u8 ((((sb (s.extract 0 k) (k - 1)) : Nat) : Int))), none, none⟩]) (c_ascContains bs ((((sb (s.extract 0 k) (k - 1)) : Nat) : Int)) (by first | assumption | omega | exact sbr _ _) (by first | assumption | omega | exact sbr _ _)) rfl rfl rfl rfl rfl trivial (by kernel_rfl) rfl rfl (gives_cons (gC rfl rfl) (gives_cons (gC rfl rfl) gives_nil)) rfl (fun _ _ _ => .inl rfl) ?_
    rintro _ _ ⟨rfl, rfl⟩
    refine vpOps_pure (x := .v (.bool (!(bs.getD (sb (s.extract 0 k) (k - 1)) false)))) (pure_not rfl rfl) rfl rfl rfl rfl ?_
    refine vpOps_nil ?_
    refine vIfBN rfl (fun h2 => ?_) (fun h2 => ?_)
    · skip
      refine vp_exit ?_
      refine vp_seq ?_
      refine vp_region ?_
      refine vpOps_pure (x := .v (.string (s.extract 0 k))) (pMv rfl rfl rfl) rfl rfl rfl rfl ?_
      refine vpOps_pure (x := .v (.string (s.extract 0 k))) (pAs rfl rfl rfl) rfl rfl rfl rfl ?_
      refine vpOps_nil ?_
      refine vp_ret ?_
      exact ⟨[.v (.string (s.extract 0 k))], [4], (.cons (.tmp rfl rfl) .nil), rfl, ⟨k, (show (.v (.string (s.extract 0 k)) : PV) = .v (.string (s.extract 0 k)) from rfl), rfl, (by omega), (by assumption), (by first | (left; omega) | (right; rw [← sb_ext0 (by omega) hk]; assumption))⟩⟩
    · skip
      refine vp_skip ?_
      refine vp_region ?_
      refine vpOps_pure (x := .v (.string (s.extract 0 k))) (pMv rfl rfl rfl) rfl rfl rfl rfl ?_
      refine vpOps_pure (x := .v (.string (s.extract 0 k))) (pMv rfl rfl rfl) rfl rfl rfl rfl ?_
      refine vpOps_pure (x := .v (.int .i64 ((((s.extract 0 k).size : Nat) : Int)))) (pure_len_str rfl rfl) rfl rfl rfl rfl ?_
      refine vpOps_pure (x := .v (.int .i64 ((((k - 1) : Nat) : Int)))) (pEqI (pure_sub rfl rfl rfl (in64 (by omega) (by omega))) (by rw [ext_size (by omega) hk]; omega)) rfl rfl rfl rfl ?_
      refine vpOps_pure (x := .v (.string ((s.extract 0 k).extract 0 (k - 1)))) (pSlStr (l := 0) (h := (k - 1)) rfl rfl rfl rfl (by first | rfl | omega) (by first | rfl | omega) (by first | rfl | omega) (by first | rfl | omega)) rfl rfl rfl rfl ?_
      refine vpOps_pure (x := .v (.string ((s.extract 0 k).extract 0 (k - 1)))) (pAs rfl rfl rfl) rfl rfl rfl rfl ?_
      refine vpOps_nil ?_
      exact ⟨k - 1, (by omega), ⟨(by omega), (by intro j h1 h2; rcases Nat.lt_or_ge j k with h | h; rw [show j = k - 1 by omega, ← sb_ext0 (by omega) hk]; assumption; exact ha j h h2), trivial⟩, ⟨(show (.v (.string ((s.extract 0 k).extract 0 (k - 1))) : PV) = .v (.string (s.extract 0 (k - 1))) from by rw [ext_ext (by omega), Nat.zero_add, Nat.zero_add]), rfl, rfl, trivial⟩⟩
  · skip
    refine vp_exit ?_
    refine vp_seq ?_
    refine vp_region ?_
    refine vpOps_pure (x := .v (.string (s.extract 0 k))) (pMv rfl rfl rfl) rfl rfl rfl rfl ?_
    refine vpOps_pure (x := .v (.string (s.extract 0 k))) (pAs rfl rfl rfl) rfl rfl rfl rfl ?_
    refine vpOps_nil ?_
    refine vp_ret ?_
    exact ⟨[.v (.string (s.extract 0 k))], [4], (.cons (.tmp rfl rfl) .nil), rfl, ⟨k, (show (.v (.string (s.extract 0 k)) : PV) = .v (.string (s.extract 0 k)) from rfl), rfl, (by omega), (by assumption), (by first | (left; omega) | (right; rw [← sb_ext0 (by omega) hk]; assumption))⟩⟩

/-- strings.trimLeftASCII -/
theorem c_trimL {G : World → Prop} (s : ByteArray) (bs : List Bool) (hs : s.size ≤ 9223372036854775807) (hl : bs.length = 256) : CallsV Tryd.prog G 60 [.v (.string s), .rbox (bs.map boolv)] (fun r outs => ∃ (k : Nat), r = .v (.string (s.extract k s.size)) ∧ outs = [.junk, .junk] ∧ (k ≤ s.size) ∧ (∀ j, j < k → bs.getD (sb s j) false = true)) := by
  refine callsV_enter [] Tryd.func60 rfl rfl rfl ?_
  refine vp_seq ?_
  refine vp_region ?_
  refine vpOps_pure (x := .v (.string (ByteArray.mk #[]))) (pAs rfl rfl rfl) rfl rfl rfl rfl ?_
  refine vpOps_nil ?_
  refine vp_seq ?_
  refine vp_block ?_
  refine vLoop (α := Nat) (fun k => s.size - k) (fun k => (k ≤ s.size) ∧ (∀ j, j < k → bs.getD (sb s j) false = true) ∧ True) (fun k => [(0, .v (.string (s.extract k s.size))), (1, .rbox (bs.map boolv)), (4, .v (.string (ByteArray.mk #[])))]) (fun _ => rfl) (fun _ => rfl) 0 ⟨(by omega), (by intro j h1; omega), trivial⟩ ⟨(show (.v (.string s) : PV) = .v (.string (s.extract 0 s.size)) from by rw [ext_all]), rfl, rfl, trivial⟩ ?_
  rintro k ⟨hk, ha, -⟩
  have hxz : (s.extract k s.size).size = s.size - k := by rw [ext_size hk (by omega)]
  refine vp_seq ?_
  refine vp_seq ?_
  refine vp_region ?_
  refine vpOps_pure (x := .v (.string (s.extract k s.size))) (pMv rfl rfl rfl) rfl rfl rfl rfl ?_
  refine vpOps_pure (x := .v (.int .i64 ((((s.extract k s.size).size : Nat) : Int)))) (pure_len_str rfl rfl) rfl rfl rfl rfl ?_
  refine vpOps_pure (x := .v (.bool (decide (0 < ((((s.extract k s.size).size : Nat) : Int)))))) (pure_bin rfl rfl rfl rfl) rfl rfl rfl rfl ?_
  refine vpOps_nil ?_
  refine vIf rfl (fun h1 => ?_) (fun h1 => ?_)
  · skip
    refine vp_skip ?_
    refine vp_block ?_
    refine vp_seq ?_
    refine vp_seq ?_
    refine vp_region ?_
    refine vpOps_pure (x := .rbox (bs.map boolv)) (pMv rfl rfl rfl) rfl rfl rfl rfl ?_
    refine vpOps_pure (x := .v (.string (s.extract k s.size))) (pMv rfl rfl rfl) rfl rfl rfl rfl ?_
    refine vpOps_pure (x := .v (.int .u8 ((((sb (s.extract k s.size) 0) : Nat) : Int)))) (pIxStr (m := 0) rfl rfl rfl (by first | rfl | omega) (by omega)) rfl rfl rfl rfl ?_
    refine vpOps_call (gs := [⟨.tmp 8, .rbox (bs.map boolv), none, none⟩, ⟨.tmp 10, .v (.int .u8 ((((sb (s.extract k s.size) 0) : Nat) : Int))), none, none⟩]) (c_ascContains bs ((((sb (s.extract k s.size) 0) : Nat) : Int)) (by first | assumption | omega | exact sbr _ _) (by first | assumption | omega | exact sbr _ _)) rfl rfl rfl rfl rfl trivial (by kernel_rfl) rfl rfl (gives_cons (gC rfl rfl) (gives_cons (gC rfl rfl) gives_nil)) rfl (fun _ _ _ => .inl rfl) ?_
    rintro _ _ ⟨rfl, rfl⟩
    refine vpOps_pure (x := .v (.bool (!(bs.getD (sb (s.extract k s.size) 0) false)))) (pure_not rfl rfl) rfl rfl rfl rfl ?_
    refine vpOps_nil ?_
    refine vIfBN rfl (fun h2 => ?_) (fun h2 => ?_)
    · skip
      refine vp_exit ?_
      refine vp_seq ?_
      refine vp_region ?_
      refine vpOps_pure (x := .v (.string (s.extract k s.size))) (pMv rfl rfl rfl) rfl rfl rfl rfl ?_
      refine vpOps_pure (x := .v (.string (s.extract k s.size))) (pAs rfl rfl rfl) rfl rfl rfl rfl ?_
      refine vpOps_nil ?_
      refine vp_ret ?_
      exact ⟨[.v (.string (s.extract k s.size))], [4], (.cons (.tmp rfl rfl) .nil), rfl, ⟨k, (show (.v (.string (s.extract k s.size)) : PV) = .v (.string (s.extract k s.size)) from rfl), rfl, (by omega), (by assumption)⟩⟩
    · skip
      refine vp_skip ?_
      refine vp_region ?_
      refine vpOps_pure (x := .v (.string (s.extract k s.size))) (pMv rfl rfl rfl) rfl rfl rfl rfl ?_
      refine vpOps_pure (x := .v (.string ((s.extract k s.size).extract 1 ((s.extract k s.size).size)))) (pSlStr (l := 1) (h := (s.extract k s.size).size) rfl rfl rfl rfl (by first | rfl | omega) (by first | rfl | omega) (by omega) (by omega)) rfl rfl rfl rfl ?_
      refine vpOps_pure (x := .v (.string ((s.extract k s.size).extract 1 ((s.extract k s.size).size)))) (pAs rfl rfl rfl) rfl rfl rfl rfl ?_
      refine vpOps_nil ?_
      exact ⟨k + 1, (by omega), ⟨(by omega), (by intro j h1; rcases Nat.lt_or_ge j k with h | h; exact ha j h; rw [show j = k by omega, ← sb_extk (by omega)]; assumption), trivial⟩, ⟨(show (.v (.string ((s.extract k s.size).extract 1 ((s.extract k s.size).size))) : PV) = .v (.string (s.extract (k + 1) s.size)) from by rw [hxz, ext_ext (by omega), show k + (s.size - k) = s.size by omega]), rfl, rfl, trivial⟩⟩
  · skip
    refine vp_exit ?_
    refine vp_seq ?_
    refine vp_region ?_
    refine vpOps_pure (x := .v (.string (s.extract k s.size))) (pMv rfl rfl rfl) rfl rfl rfl rfl ?_
    refine vpOps_pure (x := .v (.string (s.extract k s.size))) (pAs rfl rfl rfl) rfl rfl rfl rfl ?_
    refine vpOps_nil ?_
    refine vp_ret ?_
    exact ⟨[.v (.string (s.extract k s.size))], [4], (.cons (.tmp rfl rfl) .nil), rfl, ⟨k, (show (.v (.string (s.extract k s.size)) : PV) = .v (.string (s.extract k s.size)) from rfl), rfl, (by omega), (by assumption)⟩⟩

/-- strings.Trim -/
theorem c_TrimAbc {G : World → Prop} (s : ByteArray) (hs : s.size ≤ 9223372036854775807) : CallsV Tryd.prog G 55 [.v (.string s), .v (.string abcB)] (fun r outs => ∃ (tr : ByteArray), r = .v (.string tr) ∧ outs = [.junk, .junk] ∧ (tr = ByteArray.mk #[] ↔ s.data.toList.all letterB = true)) := by
  refine callsV_enter [] Tryd.func55 rfl rfl rfl ?_
  refine vp_seq ?_
  refine vp_region ?_
  refine vpOps_pure (x := .v (.string (ByteArray.mk #[]))) (pAs rfl rfl rfl) rfl rfl rfl rfl ?_
  refine vpOps_nil ?_
  refine vp_seq ?_
  refine vp_seq ?_
  refine vp_region ?_
  refine vpOps_pure (x := .v (.string s)) (pMv rfl rfl rfl) rfl rfl rfl rfl ?_
  refine vpOps_pure (x := .v (.bool (decide (s = (ByteArray.mk #[]))))) (pure_str_eq rfl rfl rfl) rfl rfl rfl rfl ?_
  refine vpOps_pure (x := .v (.bool (decide (s = (ByteArray.mk #[]))))) (pMv rfl rfl rfl) rfl rfl rfl rfl ?_
  by_cases h1 : s = (ByteArray.mk #[])
  · skip
    refine vPass rfl rfl rfl (decide_eq_true h1) rfl rfl rfl ?_
    refine vPass rfl rfl rfl (decide_eq_true h1) rfl rfl rfl ?_
    refine vpOps_pure (x := .v (.bool (true))) (pPt rfl rfl (decide_eq_true h1) rfl rfl) rfl rfl rfl rfl ?_
    refine vpOps_nil ?_
    refine vIfT rfl rfl ?_
    refine vp_seq ?_
    refine vp_region ?_
    refine vpOps_pure (x := .v (.string s)) (pMv rfl rfl rfl) rfl rfl rfl rfl ?_
    refine vpOps_pure (x := .v (.string s)) (pAs rfl rfl rfl) rfl rfl rfl rfl ?_
    refine vpOps_nil ?_
    refine vp_ret ?_
    exact ⟨[.v (.string s)], [4], (.cons (.tmp rfl rfl) .nil), rfl, ⟨s, (show (.v (.string s) : PV) = .v (.string s) from rfl), rfl, (by first | (have e : s = ByteArray.mk #[] := (by assumption); subst e; decide) | exact absurd (show abcB = ByteArray.mk #[] by assumption) (by decide) | exact trim_none hk_2 ha_2 hz_2 (by have : (s.extract 0 k_2).size = k_2 := (by rw [ext_size (by omega) hk_2]; omega); omega) ha_3 (by rw [ext_size (by omega) hk_2, Nat.sub_zero]))⟩⟩
  · skip
    refine vRun rfl rfl rfl (decide_eq_false h1) rfl rfl rfl ?_
    refine vpOps_pure (x := .v (.string abcB)) (pMv rfl rfl rfl) rfl rfl rfl rfl ?_
    refine vRun rfl rfl rfl (decide_eq_false h1) rfl rfl rfl ?_
    refine vpOps_pure (x := .v (.bool (decide (abcB = (ByteArray.mk #[]))))) (pure_str_eq rfl rfl rfl) rfl rfl rfl rfl ?_
    refine vpOps_pure (x := .v (.bool (decide (abcB = (ByteArray.mk #[]))))) (pPf rfl rfl (decide_eq_false h1) rfl rfl) rfl rfl rfl rfl ?_
    refine vpOps_nil ?_
    refine vIf rfl (fun h2 => ?_) (fun h2 => ?_)
    · skip
      refine vp_seq ?_
      refine vp_region ?_
      refine vpOps_pure (x := .v (.string s)) (pMv rfl rfl rfl) rfl rfl rfl rfl ?_
      refine vpOps_pure (x := .v (.string s)) (pAs rfl rfl rfl) rfl rfl rfl rfl ?_
      refine vpOps_nil ?_
      refine vp_ret ?_
      exact ⟨[.v (.string s)], [4], (.cons (.tmp rfl rfl) .nil), rfl, ⟨s, (show (.v (.string s) : PV) = .v (.string s) from rfl), rfl, (by first | (have e : s = ByteArray.mk #[] := (by assumption); subst e; decide) | exact absurd (show abcB = ByteArray.mk #[] by assumption) (by decide) | exact trim_none hk_2 ha_2 hz_2 (by have : (s.extract 0 k_2).size = k_2 := (by rw [ext_size (by omega) hk_2]; omega); omega) ha_3 (by rw [ext_size (by omega) hk_2, Nat.sub_zero]))⟩⟩
    · skip
      refine vp_skip ?_
      refine vp_seq ?_
      refine vp_seq ?_
      refine vp_region ?_
      refine vpOps_pure (x := .v (.string abcB)) (pMv rfl rfl rfl) rfl rfl rfl rfl ?_
      refine vpOps_pure (x := .v (.int .i64 26)) (pEqI (pure_len_str rfl rfl) (rfl)) rfl rfl rfl rfl ?_
      refine vpOps_pure (x := .v (.bool (decide (26 = 1)))) (pure_bin rfl rfl rfl rfl) rfl rfl rfl rfl ?_
      refine vpOps_pure (x := .v (.bool (decide (26 = 1)))) (pMv rfl rfl rfl) rfl rfl rfl rfl ?_
      refine vPass rfl rfl rfl (decide_eq_false (by decide)) rfl rfl rfl ?_
      refine vPass rfl rfl rfl (decide_eq_false (by decide)) rfl rfl rfl ?_
      refine vPass rfl rfl rfl (decide_eq_false (by decide)) rfl rfl rfl ?_
      refine vpOps_pure (x := .v (.bool (false))) (pPf rfl rfl (decide_eq_false (by decide)) rfl rfl) rfl rfl rfl rfl ?_
      refine vpOps_nil ?_
      refine vIfF rfl rfl ?_
      refine vp_skip ?_
      refine vp_seq ?_
      refine vp_seq ?_
      refine vp_region ?_
      refine vpOps_pure (x := .v (.string abcB)) (pMv rfl rfl rfl) rfl rfl rfl rfl ?_
      refine vpOps_call (gs := [⟨.tmp 30, .v (.string abcB), none, none⟩]) (c_mkASCII abcB (by first | assumption | omega | exact setTo_len _ _ | exact abc_lt | (rw [ext_size (by omega) (by assumption)]; omega) | decide) (by first | assumption | omega | exact setTo_len _ _ | exact abc_lt | (rw [ext_size (by omega) (by assumption)]; omega) | decide)) rfl rfl rfl rfl rfl trivial (by kernel_rfl) rfl rfl (gives_cons (gC rfl rfl) gives_nil) rfl (fun _ _ _ => .inl rfl) ?_
      rintro _ _ ⟨rfl, rfl⟩
      refine vpOps_pure (x := .tup [.agg (abcT.map boolv), .v (.bool (true))]) (pure_move rfl rfl (by simp) ⟨mvOkL_flat _ (mvB _), trivial, trivial⟩ rfl) rfl rfl rfl rfl ?_
      refine vpOps_pure (x := .agg (abcT.map boolv)) (pure_extract rfl rfl rfl ⟨mvOkL_flat _ (mvB _), trivial, trivial⟩) rfl rfl rfl rfl ?_
      refine vpOps_pure (x := .v (.bool (true))) (pure_extract rfl rfl rfl ⟨mvOkL_flat _ (mvB _), trivial, trivial⟩) rfl rfl rfl rfl ?_
      refine vpOps_pure (x := .box (List.replicate 256 (.v (.bool false)))) (pure_alloc rfl) rfl rfl rfl rfl ?_
      refine vStBools rfl rfl rfl rfl rfl rfl (setTo_len _ _) (by simp) ?_
      refine vpOps_pure (x := .v (.bool (true))) (pAs rfl rfl rfl) rfl rfl rfl rfl ?_
      refine vpOps_nil ?_
      refine vp_seq ?_
      refine vp_region ?_
      refine vpOps_pure (x := .v (.bool (true))) (pMv rfl rfl rfl) rfl rfl rfl rfl ?_
      refine vpOps_nil ?_
      refine vIfT rfl rfl ?_
      refine vp_seq ?_
      refine vp_region ?_
      refine vpOps_ghost (ghost_freeze (k := 5) (y := .rbox (abcT.map boolv)) rfl rfl (by show PV.rbox (PV.viewL _) = _; rw [viewB])) ?_
      refine vpOps_pure (x := .v (.string s)) (pMv rfl rfl rfl) rfl rfl rfl rfl ?_
      refine vpOps_call (gs := [⟨.tmp 35, .v (.string s), none, none⟩, ⟨.tmp 5, .rbox (abcT.map boolv), none, none⟩]) (c_trimR s abcT (by first | assumption | omega | exact setTo_len _ _ | exact abc_lt | (rw [ext_size (by omega) (by assumption)]; omega) | decide) (by first | assumption | omega | exact setTo_len _ _ | exact abc_lt | (rw [ext_size (by omega) (by assumption)]; omega) | decide)) rfl rfl rfl rfl rfl trivial (by kernel_rfl) rfl rfl (gives_cons (gC rfl rfl) (gives_cons (gC rfl rfl) gives_nil)) rfl (fun _ _ _ => .inl rfl) ?_
      rintro _ _ ⟨k_2, rfl, rfl, hk_2, ha_2, hz_2⟩
      refine vpOps_call (gs := [⟨.tmp 36, .v (.string (s.extract 0 k_2)), none, none⟩, ⟨.tmp 5, .rbox (abcT.map boolv), none, none⟩]) (c_trimL (s.extract 0 k_2) abcT (by first | assumption | omega | exact setTo_len _ _ | exact abc_lt | (rw [ext_size (by omega) (by assumption)]; omega) | decide) (by first | assumption | omega | exact setTo_len _ _ | exact abc_lt | (rw [ext_size (by omega) (by assumption)]; omega) | decide)) rfl rfl rfl rfl rfl trivial (by kernel_rfl) rfl rfl (gives_cons (gC rfl rfl) (gives_cons (gC rfl rfl) gives_nil)) rfl (fun _ _ _ => .inl rfl) ?_
      rintro _ _ ⟨k_3, rfl, rfl, hk_3, ha_3⟩
      refine vpOps_pure (x := .v (.string ((s.extract 0 k_2).extract k_3 (s.extract 0 k_2).size))) (pAs rfl rfl rfl) rfl rfl rfl rfl ?_
      refine vpOps_nil ?_
      refine vp_ret ?_
      exact ⟨[.v (.string ((s.extract 0 k_2).extract k_3 (s.extract 0 k_2).size))], [4], (.cons (.tmp rfl rfl) .nil), rfl, ⟨(s.extract 0 k_2).extract k_3 (s.extract 0 k_2).size, (show (.v (.string ((s.extract 0 k_2).extract k_3 (s.extract 0 k_2).size)) : PV) = .v (.string ((s.extract 0 k_2).extract k_3 (s.extract 0 k_2).size)) from rfl), rfl, (by first | (have e : s = ByteArray.mk #[] := (by assumption); subst e; decide) | exact absurd (show abcB = ByteArray.mk #[] by assumption) (by decide) | exact trim_none hk_2 ha_2 hz_2 (by have : (s.extract 0 k_2).size = k_2 := (by rw [ext_size (by omega) hk_2]; omega); omega) ha_3 (by rw [ext_size (by omega) hk_2, Nat.sub_zero]))⟩⟩

/-- impl.isName -/
theorem c_isName {G : World → Prop} (s : ByteArray) (hs : s.size ≤ 9223372036854775807) : CallsV Tryd.prog G 52 [.v (.string s)] (fun r outs => r = .v (.bool (decide (nameOk s))) ∧ outs = [.junk]) := by
  refine callsV_enter [] Tryd.func52 rfl rfl rfl ?_
  refine vp_seq ?_
  refine vp_region ?_
  refine vpOps_pure (x := .v (.bool (false))) (pAs rfl rfl rfl) rfl rfl rfl rfl ?_
  refine vpOps_nil ?_
  refine vp_seq ?_
  refine vp_region ?_
  refine vpOps_pure (x := .v (.string s)) (pMv rfl rfl rfl) rfl rfl rfl rfl ?_
  refine vpOps_pure (x := .v (.int .i64 ((s.size : Nat) : Int))) (pure_len_str rfl rfl) rfl rfl rfl rfl ?_
  refine vpOps_pure (x := .v (.bool (decide (1 ≤ ((s.size : Nat) : Int))))) (pure_bin rfl rfl rfl rfl) rfl rfl rfl rfl ?_
  refine vpOps_pure (x := .v (.bool (decide (1 ≤ ((s.size : Nat) : Int))))) (pMv rfl rfl rfl) rfl rfl rfl rfl ?_
  by_cases h1 : 1 ≤ ((s.size : Nat) : Int)
  · skip
    refine vRun rfl rfl rfl (decide_eq_true h1) rfl rfl rfl ?_
    refine vpOps_pure (x := .v (.string s)) (pMv rfl rfl rfl) rfl rfl rfl rfl ?_
    refine vRun rfl rfl rfl (decide_eq_true h1) rfl rfl rfl ?_
    refine vpOps_pure (x := .v (.int .i64 ((s.size : Nat) : Int))) (pure_len_str rfl rfl) rfl rfl rfl rfl ?_
    refine vRun rfl rfl rfl (decide_eq_true h1) rfl rfl rfl ?_
    refine vpOps_pure (x := .v (.bool (decide (((s.size : Nat) : Int) ≤ 16)))) (pure_bin rfl rfl rfl rfl) rfl rfl rfl rfl ?_
    refine vpOps_pure (x := .v (.bool (decide (((s.size : Nat) : Int) ≤ 16)))) (pPt rfl rfl (decide_eq_true h1) rfl rfl) rfl rfl rfl rfl ?_
    refine vpOps_pure (x := .v (.bool (decide (((s.size : Nat) : Int) ≤ 16)))) (pMv rfl rfl rfl) rfl rfl rfl rfl ?_
    by_cases h2 : ((s.size : Nat) : Int) ≤ 16
    · skip
      refine vRun rfl rfl rfl (decide_eq_true h2) rfl rfl rfl ?_
      refine vpOps_pure (x := .v (.string s)) (pMv rfl rfl rfl) rfl rfl rfl rfl ?_
      refine vRun rfl rfl rfl (decide_eq_true h2) rfl rfl rfl ?_
      refine vpOps_call (gs := [⟨.tmp 12, .v (.string s), none, none⟩, ⟨.const (.string (ByteArray.mk #[97, 98, 99, 100, 101, 102, 103, 104, 105, 106, 107, 108, 109, 110, 111, 112, 113, 114, 115, 116, 117, 118, 119, 120, 121, 122])), .v (.string (ByteArray.mk #[97, 98, 99, 100, 101, 102, 103, 104, 105, 106, 107, 108, 109, 110, 111, 112, 113, 114, 115, 116, 117, 118, 119, 120, 121, 122])), none, none⟩]) (c_TrimAbc s (by first | assumption | omega)) rfl rfl rfl rfl rfl trivial (by kernel_rfl) rfl rfl (gives_cons (gC rfl rfl) (gives_cons (gC rfl rfl) gives_nil)) rfl (fun _ _ _ => .inl rfl) ?_
      rintro _ _ ⟨tr_1, rfl, rfl, hE_1⟩
      refine vRun rfl rfl rfl (decide_eq_true h2) rfl rfl rfl ?_
      refine vpOps_pure (x := .v (.bool (decide (tr_1 = (ByteArray.mk #[]))))) (pure_str_eq rfl rfl rfl) rfl rfl rfl rfl ?_
      refine vpOps_pure (x := .v (.bool (decide (tr_1 = (ByteArray.mk #[]))))) (pPt rfl rfl (decide_eq_true h2) rfl rfl) rfl rfl rfl rfl ?_
      refine vpOps_pure (x := .v (.bool (decide (tr_1 = (ByteArray.mk #[]))))) (pAs rfl rfl rfl) rfl rfl rfl rfl ?_
      refine vpOps_nil ?_
      refine vp_ret ?_
      exact ⟨[.v (.bool (decide (tr_1 = (ByteArray.mk #[]))))], [2], (.cons (.tmp rfl rfl) .nil), rfl, ⟨(show (.v (.bool (decide (tr_1 = (ByteArray.mk #[])))) : PV) = .v (.bool (decide (nameOk s))) from (by first | exact dec_f (fun h => by have := h.2; omega) | exact dec_i ⟨fun h => ⟨hE_1.1 h, by omega, by omega⟩, fun h => hE_1.2 h.1⟩)), rfl⟩⟩
    · skip
      refine vPass rfl rfl rfl (decide_eq_false h2) rfl rfl rfl ?_
      refine vPass rfl rfl rfl (decide_eq_false h2) rfl rfl rfl ?_
      refine vPass rfl rfl rfl (decide_eq_false h2) rfl rfl rfl ?_
      refine vpOps_pure (x := .v (.bool (false))) (pPf rfl rfl (decide_eq_false h2) rfl rfl) rfl rfl rfl rfl ?_
      refine vpOps_pure (x := .v (.bool (false))) (pAs rfl rfl rfl) rfl rfl rfl rfl ?_
      refine vpOps_nil ?_
      refine vp_ret ?_
      exact ⟨[.v (.bool (false))], [2], (.cons (.tmp rfl rfl) .nil), rfl, ⟨(show (.v (.bool (false)) : PV) = .v (.bool (decide (nameOk s))) from (by first | exact dec_f (fun h => by have := h.2; omega) | exact dec_i ⟨fun h => ⟨hE_1.1 h, by omega, by omega⟩, fun h => hE_1.2 h.1⟩)), rfl⟩⟩
  · skip
    refine vPass rfl rfl rfl (decide_eq_false h1) rfl rfl rfl ?_
    refine vPass rfl rfl rfl (decide_eq_false h1) rfl rfl rfl ?_
    refine vPass rfl rfl rfl (decide_eq_false h1) rfl rfl rfl ?_
    refine vpOps_pure (x := .v (.bool (false))) (pPf rfl rfl (decide_eq_false h1) rfl rfl) rfl rfl rfl rfl ?_
    refine vpOps_pure (x := .v (.bool (false))) (pMv rfl rfl rfl) rfl rfl rfl rfl ?_
    refine vPass rfl rfl rfl rfl rfl rfl rfl ?_
    refine vPass rfl rfl rfl rfl rfl rfl rfl ?_
    refine vPass rfl rfl rfl rfl rfl rfl rfl ?_
    refine vpOps_pure (x := .v (.bool (false))) (pPf rfl rfl rfl rfl rfl) rfl rfl rfl rfl ?_
    refine vpOps_pure (x := .v (.bool (false))) (pAs rfl rfl rfl) rfl rfl rfl rfl ?_
    refine vpOps_nil ?_
    refine vp_ret ?_
    exact ⟨[.v (.bool (false))], [2], (.cons (.tmp rfl rfl) .nil), rfl, ⟨(show (.v (.bool (false)) : PV) = .v (.bool (decide (nameOk s))) from (by first | exact dec_f (fun h => by have := h.2; omega) | exact dec_i ⟨fun h => ⟨hE_1.1 h, by omega, by omega⟩, fun h => hE_1.2 h.1⟩)), rfl⟩⟩

/-- impl.isCard -/
theorem c_isCard {G : World → Prop} (c : Card) (hc : c.wf) : CallsV Tryd.prog G 40 [.agg [.v (.string c.name), .v (.int .u64 ((c.notches.a : Nat) : Int)), .v (.int .u64 ((c.notches.b : Nat) : Int))]] (fun r outs => r = .v (.bool (decide (cardOk c))) ∧ outs = [.junk]) := by
  refine callsV_enter [] Tryd.func40 rfl rfl rfl ?_
  refine vp_seq ?_
  refine vp_region ?_
  refine vpOps_pure (x := .box [.v (.string c.name), .v (.int .u64 ((c.notches.a : Nat) : Int)), .v (.int .u64 ((c.notches.b : Nat) : Int))]) (pure_box rfl rfl (mvOk_flat _ rfl) rfl rfl) rfl rfl rfl rfl ?_
  refine vpOps_pure (x := .v (.bool (false))) (pAs rfl rfl rfl) rfl rfl rfl rfl ?_
  refine vpOps_nil ?_
  refine vp_seq ?_
  refine vp_region ?_
  refine vpOps_pure (x := .pl 1 [⟨0, 0, 0⟩]) (pure_field_ref rfl rfl rfl rfl) rfl rfl rfl rfl ?_
  refine vpOps_pure (x := .v (.string c.name)) (pure_load_pl rfl rfl rfl rfl rfl rfl rfl trivial rfl) rfl rfl rfl rfl ?_
  refine vpOps_call (gs := [⟨.tmp 4, .v (.string c.name), none, none⟩]) (c_isName c.name (by first | assumption | exact hc.n | exact hc.m | omega)) rfl rfl rfl rfl rfl trivial (by kernel_rfl) rfl rfl (gives_cons (gC rfl rfl) gives_nil) rfl (fun _ _ _ => .inl rfl) ?_
  rintro _ _ ⟨rfl, rfl⟩
  refine vpOps_pure (x := .v (.bool (decide (nameOk c.name)))) (pMv rfl rfl rfl) rfl rfl rfl rfl ?_
  by_cases h1 : nameOk c.name
  · skip
    refine vRun rfl rfl rfl (decide_eq_true h1) rfl rfl rfl ?_
    refine vpOps_pure (x := .pl 1 [⟨0, 1, 0⟩]) (pure_field_ref rfl rfl rfl rfl) rfl rfl rfl rfl ?_
    refine vRun rfl rfl rfl (decide_eq_true h1) rfl rfl rfl ?_
    refine vpOps_pure (x := .agg [.v (.int .u64 ((c.notches.a : Nat) : Int)), .v (.int .u64 ((c.notches.b : Nat) : Int))]) (pure_load_pl_agg rfl rfl rfl rfl rfl rfl rfl rfl (by simp [PV.flatL, PV.flat])) rfl rfl rfl rfl ?_
    refine vRun rfl rfl rfl (decide_eq_true h1) rfl rfl rfl ?_
    refine vpOps_call (gs := [⟨.tmp 8, .agg [.v (.int .u64 ((c.notches.a : Nat) : Int)), .v (.int .u64 ((c.notches.b : Nat) : Int))], none, none⟩]) (c_isMask c.notches (by first | assumption | exact hc.n | exact hc.m | omega)) rfl rfl rfl rfl rfl trivial (by kernel_rfl) rfl rfl (gives_cons (gC rfl rfl) gives_nil) rfl (fun _ _ _ => .inl rfl) ?_
    rintro _ _ ⟨rfl, rfl⟩
    refine vpOps_pure (x := .v (.bool (decide (maskOk c.notches)))) (pPt rfl rfl (decide_eq_true h1) rfl rfl) rfl rfl rfl rfl ?_
    refine vpOps_pure (x := .v (.bool (decide (maskOk c.notches)))) (pAs rfl rfl rfl) rfl rfl rfl rfl ?_
    refine vpOps_nil ?_
    refine vp_ret ?_
    exact ⟨[.v (.bool (decide (maskOk c.notches)))], [2], (.cons (.tmp rfl rfl) .nil), rfl, ⟨(show (.v (.bool (decide (maskOk c.notches))) : PV) = .v (.bool (decide (cardOk c))) from (by first | exact dec_f (fun h => absurd h.1 (by assumption)) | exact dec_i ⟨fun h => ⟨by assumption, h⟩, fun h => h.2⟩)), rfl⟩⟩
  · skip
    refine vPass rfl rfl rfl (decide_eq_false h1) rfl rfl rfl ?_
    refine vPass rfl rfl rfl (decide_eq_false h1) rfl rfl rfl ?_
    refine vPass rfl rfl rfl (decide_eq_false h1) rfl rfl rfl ?_
    refine vpOps_pure (x := .v (.bool (false))) (pPf rfl rfl (decide_eq_false h1) rfl rfl) rfl rfl rfl rfl ?_
    refine vpOps_pure (x := .v (.bool (false))) (pAs rfl rfl rfl) rfl rfl rfl rfl ?_
    refine vpOps_nil ?_
    refine vp_ret ?_
    exact ⟨[.v (.bool (false))], [2], (.cons (.tmp rfl rfl) .nil), rfl, ⟨(show (.v (.bool (false)) : PV) = .v (.bool (decide (cardOk c))) from (by first | exact dec_f (fun h => absurd h.1 (by assumption)) | exact dec_i ⟨fun h => ⟨by assumption, h⟩, fun h => h.2⟩)), rfl⟩⟩

/-- spec.l01Name -/
theorem c_sName {G : World → Prop} (s : ByteArray) (hs : s.size ≤ 9223372036854775807) : CallsV Tryd.prog G 54 [.v (.string s)] (fun r outs => r = .v (.bool (decide (nameOk s))) ∧ outs = [.junk]) := by
  refine callsV_enter [] Tryd.func54 rfl rfl rfl ?_
  refine vp_seq ?_
  refine vp_region ?_
  refine vpOps_pure (x := .v (.bool (false))) (pAs rfl rfl rfl) rfl rfl rfl rfl ?_
  refine vpOps_nil ?_
  refine vp_seq ?_
  refine vp_seq ?_
  refine vp_region ?_
  refine vpOps_pure (x := .v (.int .i64 0)) (pAs rfl rfl rfl) rfl rfl rfl rfl ?_
  refine vpOps_nil ?_
  refine vp_block ?_
  refine vLoop (α := Nat) (fun i => s.size - i) (fun i => (i ≤ s.size) ∧ (s.data.toList.all letterB = true ↔ (s.data.toList.drop i).all letterB = true) ∧ True) (fun i => [(0, .v (.string s)), (3, .v (.int .i64 ((i : Nat) : Int)))]) (fun _ => rfl) (fun _ => rfl) 0 ⟨(by omega), (by rw [List.drop_zero]), trivial⟩ ⟨rfl, rfl, trivial⟩ ?_
  rintro i ⟨hi, he, -⟩
  refine vp_seq ?_
  refine vp_seq ?_
  refine vp_region ?_
  refine vpOps_pure (x := .v (.int .i64 ((i : Nat) : Int))) (pMv rfl rfl rfl) rfl rfl rfl rfl ?_
  refine vpOps_pure (x := .v (.string s)) (pMv rfl rfl rfl) rfl rfl rfl rfl ?_
  refine vpOps_pure (x := .v (.int .i64 ((s.size : Nat) : Int))) (pure_len_str rfl rfl) rfl rfl rfl rfl ?_
  refine vpOps_pure (x := .v (.bool (decide (((i : Nat) : Int) < ((s.size : Nat) : Int))))) (pure_bin rfl rfl rfl rfl) rfl rfl rfl rfl ?_
  refine vpOps_nil ?_
  refine vIf rfl (fun h1 => ?_) (fun h1 => ?_)
  · skip
    refine vp_skip ?_
    refine vp_seq ?_
    refine vp_block ?_
    refine vp_seq ?_
    refine vp_region ?_
    refine vpOps_pure (x := .v (.string s)) (pMv rfl rfl rfl) rfl rfl rfl rfl ?_
    refine vpOps_pure (x := .v (.int .i64 ((i : Nat) : Int))) (pMv rfl rfl rfl) rfl rfl rfl rfl ?_
    refine vpOps_pure (x := .v (.int .u8 ((((sb s i) : Nat) : Int)))) (pIxStr (m := i) rfl rfl rfl (by first | rfl | omega) (by omega)) rfl rfl rfl rfl ?_
    refine vpOps_pure (x := .v (.bool (decide (((((sb s i) : Nat) : Int)) < 97)))) (pure_bin rfl rfl rfl rfl) rfl rfl rfl rfl ?_
    refine vpOps_pure (x := .v (.bool (decide (((((sb s i) : Nat) : Int)) < 97)))) (pMv rfl rfl rfl) rfl rfl rfl rfl ?_
    by_cases h2 : ((((sb s i) : Nat) : Int)) < 97
    · skip
      refine vPass rfl rfl rfl (decide_eq_true h2) rfl rfl rfl ?_
      refine vPass rfl rfl rfl (decide_eq_true h2) rfl rfl rfl ?_
      refine vPass rfl rfl rfl (decide_eq_true h2) rfl rfl rfl ?_
      refine vPass rfl rfl rfl (decide_eq_true h2) rfl rfl rfl ?_
      refine vpOps_pure (x := .v (.bool (true))) (pPt rfl rfl (decide_eq_true h2) rfl rfl) rfl rfl rfl rfl ?_
      refine vpOps_nil ?_
      refine vIfT rfl rfl ?_
      refine vp_seq ?_
      refine vp_region ?_
      refine vpOps_pure (x := .v (.bool (false))) (pAs rfl rfl rfl) rfl rfl rfl rfl ?_
      refine vpOps_nil ?_
      refine vp_ret ?_
      exact ⟨[.v (.bool (false))], [2], (.cons (.tmp rfl rfl) .nil), rfl, ⟨(show (.v (.bool (false)) : PV) = .v (.bool (decide (nameOk s))) from (by first | exact dec_f (fun h => by have := he.1 h.1; rw [all_step (by omega)] at this; omega) | exact dec_i ⟨fun h => ⟨he.2 ((all_end (by omega)).2 trivial), by omega, by omega⟩, fun h => by have := h.2; omega⟩)), rfl⟩⟩
    · skip
      refine vRun rfl rfl rfl (decide_eq_false h2) rfl rfl rfl ?_
      refine vpOps_pure (x := .v (.string s)) (pMv rfl rfl rfl) rfl rfl rfl rfl ?_
      refine vRun rfl rfl rfl (decide_eq_false h2) rfl rfl rfl ?_
      refine vpOps_pure (x := .v (.int .i64 ((i : Nat) : Int))) (pMv rfl rfl rfl) rfl rfl rfl rfl ?_
      refine vRun rfl rfl rfl (decide_eq_false h2) rfl rfl rfl ?_
      refine vpOps_pure (x := .v (.int .u8 ((((sb s i) : Nat) : Int)))) (pIxStr (m := i) rfl rfl rfl (by first | rfl | omega) (by omega)) rfl rfl rfl rfl ?_
      refine vRun rfl rfl rfl (decide_eq_false h2) rfl rfl rfl ?_
      refine vpOps_pure (x := .v (.bool (decide (122 < ((((sb s i) : Nat) : Int)))))) (pure_bin rfl rfl rfl rfl) rfl rfl rfl rfl ?_
      refine vpOps_pure (x := .v (.bool (decide (122 < ((((sb s i) : Nat) : Int)))))) (pPf rfl rfl (decide_eq_false h2) rfl rfl) rfl rfl rfl rfl ?_
      refine vpOps_nil ?_
      refine vIf rfl (fun h3 => ?_) (fun h3 => ?_)
      · skip
        refine vp_seq ?_
        refine vp_region ?_
        refine vpOps_pure (x := .v (.bool (false))) (pAs rfl rfl rfl) rfl rfl rfl rfl ?_
        refine vpOps_nil ?_
        refine vp_ret ?_
        exact ⟨[.v (.bool (false))], [2], (.cons (.tmp rfl rfl) .nil), rfl, ⟨(show (.v (.bool (false)) : PV) = .v (.bool (decide (nameOk s))) from (by first | exact dec_f (fun h => by have := he.1 h.1; rw [all_step (by omega)] at this; omega) | exact dec_i ⟨fun h => ⟨he.2 ((all_end (by omega)).2 trivial), by omega, by omega⟩, fun h => by have := h.2; omega⟩)), rfl⟩⟩
      · skip
        refine vp_skip ?_
        refine vp_region ?_
        refine vpOps_pure (x := .v (.int .i64 ((i : Nat) : Int))) (pMv rfl rfl rfl) rfl rfl rfl rfl ?_
        refine vpOps_pure (x := .v (.int .i64 (((i : Nat) : Int) + 1))) (pure_add rfl rfl rfl (in64 (by omega) (by omega))) rfl rfl rfl rfl ?_
        refine vpOps_pure (x := .v (.int .i64 (((i : Nat) : Int) + 1))) (pAs rfl rfl rfl) rfl rfl rfl rfl ?_
        refine vpOps_nil ?_
        exact ⟨i + 1, (by first | omega | (dsimp only; omega)), ⟨(by omega), (by rw [he, all_step (by omega)]; exact ⟨fun h => h.2, fun h => ⟨by omega, h⟩⟩), trivial⟩, ⟨rfl, rfl, trivial⟩⟩
  · skip
    refine vp_exit ?_
    refine vp_seq ?_
    refine vp_region ?_
    refine vpOps_pure (x := .v (.string s)) (pMv rfl rfl rfl) rfl rfl rfl rfl ?_
    refine vpOps_pure (x := .v (.int .i64 ((s.size : Nat) : Int))) (pure_len_str rfl rfl) rfl rfl rfl rfl ?_
    refine vpOps_call (gs := [⟨.tmp 21, .v (.int .i64 ((s.size : Nat) : Int)), none, none⟩, ⟨.const (.int .i64 1), .v (.int .i64 1), none, none⟩, ⟨.const (.int .i64 16), .v (.int .i64 16), none, none⟩]) (c_l00In ((s.size : Nat) : Int) 1 16 ) rfl rfl rfl rfl rfl trivial (by kernel_rfl) rfl rfl (gives_cons (gC rfl rfl) (gives_cons (gC rfl rfl) (gives_cons (gC rfl rfl) gives_nil))) rfl (fun _ _ _ => .inl rfl) ?_
    rintro _ _ ⟨rfl, rfl⟩
    refine vpOps_pure (x := .v (.bool (decide (1 ≤ ((s.size : Nat) : Int) ∧ ((s.size : Nat) : Int) ≤ 16)))) (pAs rfl rfl rfl) rfl rfl rfl rfl ?_
    refine vpOps_nil ?_
    refine vp_ret ?_
    exact ⟨[.v (.bool (decide (1 ≤ ((s.size : Nat) : Int) ∧ ((s.size : Nat) : Int) ≤ 16)))], [2], (.cons (.tmp rfl rfl) .nil), rfl, ⟨(show (.v (.bool (decide (1 ≤ ((s.size : Nat) : Int) ∧ ((s.size : Nat) : Int) ≤ 16))) : PV) = .v (.bool (decide (nameOk s))) from (by first | exact dec_f (fun h => by have := he.1 h.1; rw [all_step (by omega)] at this; omega) | exact dec_i ⟨fun h => ⟨he.2 ((all_end (by omega)).2 trivial), by omega, by omega⟩, fun h => by have := h.2; omega⟩)), rfl⟩⟩

/-- spec.l01Ok -/
theorem c_sCardOk {G : World → Prop} (c : Card) (hc : c.wf) : CallsV Tryd.prog G 43 [.rbox [.v (.string c.name), .v (.int .u64 ((c.notches.a : Nat) : Int)), .v (.int .u64 ((c.notches.b : Nat) : Int))]] (fun r outs => r = .v (.bool (decide (cardOk c))) ∧ outs = [.junk]) := by
  refine callsV_enter [] Tryd.func43 rfl rfl rfl ?_
  refine vp_seq ?_
  refine vp_region ?_
  refine vpOps_pure (x := .v (.bool (false))) (pAs rfl rfl rfl) rfl rfl rfl rfl ?_
  refine vpOps_nil ?_
  refine vp_seq ?_
  refine vp_region ?_
  refine vpOps_pure (x := .rbox [.v (.string c.name), .v (.int .u64 ((c.notches.a : Nat) : Int)), .v (.int .u64 ((c.notches.b : Nat) : Int))]) (pMv rfl rfl rfl) rfl rfl rfl rfl ?_
  refine vpOps_pure (x := .rbox [.v (.string c.name), .v (.int .u64 ((c.notches.a : Nat) : Int)), .v (.int .u64 ((c.notches.b : Nat) : Int))]) (pure_nil_flat rfl rfl) rfl rfl rfl rfl ?_
  refine vpOps_pure (x := .rbox [.v (.string c.name), .v (.int .u64 ((c.notches.a : Nat) : Int)), .v (.int .u64 ((c.notches.b : Nat) : Int))]) (pure_field_rbox rfl rfl rfl rfl) rfl rfl rfl rfl ?_
  refine vpOps_pure (x := .v (.string c.name)) (pure_load_rbox rfl rfl rfl) rfl rfl rfl rfl ?_
  refine vpOps_call (gs := [⟨.tmp 6, .v (.string c.name), none, none⟩]) (c_sName c.name (by first | assumption | exact hc.n | exact hc.m | omega)) rfl rfl rfl rfl rfl trivial (by kernel_rfl) rfl rfl (gives_cons (gC rfl rfl) gives_nil) rfl (fun _ _ _ => .inl rfl) ?_
  rintro _ _ ⟨rfl, rfl⟩
  refine vpOps_pure (x := .v (.bool (decide (nameOk c.name)))) (pMv rfl rfl rfl) rfl rfl rfl rfl ?_
  by_cases h1 : nameOk c.name
  · skip
    refine vRun rfl rfl rfl (decide_eq_true h1) rfl rfl rfl ?_
    refine vpOps_pure (x := .rbox [.v (.string c.name), .v (.int .u64 ((c.notches.a : Nat) : Int)), .v (.int .u64 ((c.notches.b : Nat) : Int))]) (pMv rfl rfl rfl) rfl rfl rfl rfl ?_
    refine vRun rfl rfl rfl (decide_eq_true h1) rfl rfl rfl ?_
    refine vpOps_pure (x := .rbox [.v (.string c.name), .v (.int .u64 ((c.notches.a : Nat) : Int)), .v (.int .u64 ((c.notches.b : Nat) : Int))]) (pure_nil_flat rfl rfl) rfl rfl rfl rfl ?_
    refine vRun rfl rfl rfl (decide_eq_true h1) rfl rfl rfl ?_
    refine vpOps_pure (x := .rbox [.v (.int .u64 ((c.notches.a : Nat) : Int)), .v (.int .u64 ((c.notches.b : Nat) : Int))]) (pure_field_rbox rfl rfl rfl rfl) rfl rfl rfl rfl ?_
    refine vRun rfl rfl rfl (decide_eq_true h1) rfl rfl rfl ?_
    refine vpOps_pure (x := .agg [.v (.int .u64 ((c.notches.a : Nat) : Int)), .v (.int .u64 ((c.notches.b : Nat) : Int))]) (pure_load_rbox_agg rfl rfl rfl rfl rfl) rfl rfl rfl rfl ?_
    refine vRun rfl rfl rfl (decide_eq_true h1) rfl rfl rfl ?_
    refine vpOps_call (gs := [⟨.tmp 12, .agg [.v (.int .u64 ((c.notches.a : Nat) : Int)), .v (.int .u64 ((c.notches.b : Nat) : Int))], none, none⟩]) (c_sMask c.notches (by first | assumption | exact hc.n | exact hc.m | omega)) rfl rfl rfl rfl rfl trivial (by kernel_rfl) rfl rfl (gives_cons (gC rfl rfl) gives_nil) rfl (fun _ _ _ => .inl rfl) ?_
    rintro _ _ ⟨rfl, rfl⟩
    refine vpOps_pure (x := .v (.bool (decide (maskOk c.notches)))) (pPt rfl rfl (decide_eq_true h1) rfl rfl) rfl rfl rfl rfl ?_
    refine vpOps_pure (x := .v (.bool (decide (maskOk c.notches)))) (pAs rfl rfl rfl) rfl rfl rfl rfl ?_
    refine vpOps_nil ?_
    refine vp_ret ?_
    exact ⟨[.v (.bool (decide (maskOk c.notches)))], [2], (.cons (.tmp rfl rfl) .nil), rfl, ⟨(show (.v (.bool (decide (maskOk c.notches))) : PV) = .v (.bool (decide (cardOk c))) from (by first | exact dec_f (fun h => absurd h.1 (by assumption)) | exact dec_i ⟨fun h => ⟨by assumption, h⟩, fun h => h.2⟩)), rfl⟩⟩
  · skip
    refine vPass rfl rfl rfl (decide_eq_false h1) rfl rfl rfl ?_
    refine vPass rfl rfl rfl (decide_eq_false h1) rfl rfl rfl ?_
    refine vPass rfl rfl rfl (decide_eq_false h1) rfl rfl rfl ?_
    refine vPass rfl rfl rfl (decide_eq_false h1) rfl rfl rfl ?_
    refine vPass rfl rfl rfl (decide_eq_false h1) rfl rfl rfl ?_
    refine vpOps_pure (x := .v (.bool (false))) (pPf rfl rfl (decide_eq_false h1) rfl rfl) rfl rfl rfl rfl ?_
    refine vpOps_pure (x := .v (.bool (false))) (pAs rfl rfl rfl) rfl rfl rfl rfl ?_
    refine vpOps_nil ?_
    refine vp_ret ?_
    exact ⟨[.v (.bool (false))], [2], (.cons (.tmp rfl rfl) .nil), rfl, ⟨(show (.v (.bool (false)) : PV) = .v (.bool (decide (cardOk c))) from (by first | exact dec_f (fun h => absurd h.1 (by assumption)) | exact dec_i ⟨fun h => ⟨by assumption, h⟩, fun h => h.2⟩)), rfl⟩⟩

end Go.Vr
/- Walks of the functions that the law reaches: what each gives, by value. -/
namespace Go.Vr
open Go Go.Proofs
set_option linter.unusedVariables false
set_option linter.unusedSimpArgs false
set_option maxRecDepth 8000

/-- impl.isDeck$1 -/
theorem c_isDeck1 {G : World → Prop} (x : Card) (c : Card)  : CallsV Tryd.prog G 42 [.agg [.v (.string x.name), .v (.int .u64 ((x.notches.a : Nat) : Int)), .v (.int .u64 ((x.notches.b : Nat) : Int))], .rbox [.v (.string c.name), .v (.int .u64 ((c.notches.a : Nat) : Int)), .v (.int .u64 ((c.notches.b : Nat) : Int))]] (fun r outs => r = .v (.bool (decide (x.name = c.name))) ∧ outs = [.junk, .junk]) := by
  refine callsV_enter [] Tryd.func42 rfl rfl rfl ?_
  refine vp_seq ?_
  refine vp_region ?_
  refine vpOps_pure (x := .box [.v (.string x.name), .v (.int .u64 ((x.notches.a : Nat) : Int)), .v (.int .u64 ((x.notches.b : Nat) : Int))]) (pure_box rfl rfl (mvOk_flat _ rfl) rfl rfl) rfl rfl rfl rfl ?_
  refine vpOps_pure (x := .v (.bool (false))) (pAs rfl rfl rfl) rfl rfl rfl rfl ?_
  refine vpOps_nil ?_
  refine vp_seq ?_
  refine vp_region ?_
  refine vpOps_pure (x := .pl 2 [⟨0, 0, 0⟩]) (pure_field_ref rfl rfl rfl rfl) rfl rfl rfl rfl ?_
  refine vpOps_pure (x := .v (.string x.name)) (pure_load_pl rfl rfl rfl rfl rfl rfl rfl trivial rfl) rfl rfl rfl rfl ?_
  refine vpOps_pure (x := .rbox [.v (.string c.name), .v (.int .u64 ((c.notches.a : Nat) : Int)), .v (.int .u64 ((c.notches.b : Nat) : Int))]) (pure_field_rbox rfl rfl rfl rfl) rfl rfl rfl rfl ?_
  refine vpOps_pure (x := .v (.string c.name)) (pure_load_rbox rfl rfl rfl) rfl rfl rfl rfl ?_
  refine vpOps_pure (x := .v (.bool (decide (x.name = c.name)))) (pure_str_eq rfl rfl rfl) rfl rfl rfl rfl ?_
  refine vpOps_pure (x := .v (.bool (decide (x.name = c.name)))) (pAs rfl rfl rfl) rfl rfl rfl rfl ?_
  refine vpOps_nil ?_
  refine vp_ret ?_
  exact ⟨[.v (.bool (decide (x.name = c.name)))], [3], (.cons (.tmp rfl rfl) .nil), rfl, ⟨(show (.v (.bool (decide (x.name = c.name))) : PV) = .v (.bool (decide (x.name = c.name))) from rfl), rfl⟩⟩

/-- slices.IndexFunc[[]impl.Card,impl.Card] -/
theorem c_IxCard {G : World → Prop} (xs : List Card) (c : Card) (hx : xs.length ≤ 9223372036854775807) : CallsV Tryd.prog G 53 [.sh 3 (xs.map cardc), .clo 42 [.rbox [.v (.string c.name), .v (.int .u64 ((c.notches.a : Nat) : Int)), .v (.int .u64 ((c.notches.b : Nat) : Int))]]] (fun r outs => ∃ (v : Int), r = .v (.int .i64 v) ∧ outs = [.junk, .junk] ∧ (0 ≤ v ↔ hasName xs c.name)) := by
  refine callsV_enter [] Tryd.func53 rfl rfl rfl ?_
  refine vp_seq ?_
  refine vp_region ?_
  refine vpOps_pure (x := .v (.int .i64 0)) (pAs rfl rfl rfl) rfl rfl rfl rfl ?_
  refine vpOps_nil ?_
  refine vp_seq ?_
  refine vp_seq ?_
  refine vp_region ?_
  refine vpOps_pure (x := .sh 3 (xs.map cardc)) (pMv rfl rfl rfl) rfl rfl rfl rfl ?_
  refine vpOps_pure (x := .v (.int .i64 ((xs.length : Nat) : Int))) (pLen rfl rfl (List.length_map _)) rfl rfl rfl rfl ?_
  refine vpOps_pure (x := .v (.int .i64 0)) (pMv rfl rfl rfl) rfl rfl rfl rfl ?_
  refine vpOps_nil ?_
  refine vp_block ?_
  refine vLoop (α := Nat) (fun i => xs.length - i) (fun i => (i ≤ xs.length) ∧ (∀ j, j < i → (xs.getD j default).name ≠ c.name) ∧ True) (fun i => [(0, .sh 3 (xs.map cardc)), (1, .clo 42 [.rbox [.v (.string c.name), .v (.int .u64 ((c.notches.a : Nat) : Int)), .v (.int .u64 ((c.notches.b : Nat) : Int))]]), (7, .v (.int .i64 ((xs.length : Nat) : Int))), (8, .v (.int .i64 ((i : Nat) : Int)))]) (fun _ => rfl) (fun _ => rfl) 0 ⟨(by omega), (by intro j hj; omega), trivial⟩ ⟨rfl, rfl, rfl, rfl, trivial⟩ ?_
  rintro i ⟨hi, hA, -⟩
  refine vp_seq ?_
  refine vp_region ?_
  refine vpOps_pure (x := .v (.bool (decide (((i : Nat) : Int) < ((xs.length : Nat) : Int))))) (pure_bin rfl rfl rfl rfl) rfl rfl rfl rfl ?_
  refine vpOps_nil ?_
  refine vp_seq ?_
  refine vIf rfl (fun h1 => ?_) (fun h1 => ?_)
  · skip
    refine vp_skip ?_
    refine vp_seq ?_
    refine vp_block ?_
    refine vp_seq ?_
    refine vp_region ?_
    refine vpOps_pure (x := .v (.int .i64 ((i : Nat) : Int))) (pMv rfl rfl rfl) rfl rfl rfl rfl ?_
    refine vpOps_pure (x := .v (.int .i64 ((i : Nat) : Int))) (pAs rfl rfl rfl) rfl rfl rfl rfl ?_
    refine vpOps_nil ?_
    refine vp_seq ?_
    refine vp_region ?_
    refine vpOps_pure (x := .clo 42 [.rbox [.v (.string c.name), .v (.int .u64 ((c.notches.a : Nat) : Int)), .v (.int .u64 ((c.notches.b : Nat) : Int))]]) (pMv rfl rfl rfl) rfl rfl rfl rfl ?_
    refine vpOps_pure (x := .sh 3 (xs.map cardc)) (pMv rfl rfl rfl) rfl rfl rfl rfl ?_
    refine vpOps_pure (x := .v (.int .i64 ((i : Nat) : Int))) (pMv rfl rfl rfl) rfl rfl rfl rfl ?_
    refine vpOps_pure (x := .rbox [.v (.string ((xs.getD i default).name)), .v (.int .u64 (((((xs.getD i default).notches).a : Nat) : Int))), .v (.int .u64 (((((xs.getD i default).notches).b : Nat) : Int)))]) (pIx (m := i) rfl rfl rfl (by first | rfl | omega) (by omega) rfl) rfl rfl rfl rfl ?_
    refine vpOps_pure (x := .agg [.v (.string ((xs.getD i default).name)), .v (.int .u64 (((((xs.getD i default).notches).a : Nat) : Int))), .v (.int .u64 (((((xs.getD i default).notches).b : Nat) : Int)))]) (pure_load_rbox_agg rfl rfl rfl rfl rfl) rfl rfl rfl rfl ?_
    refine vpOps_call (gs := [⟨.tmp 15, .agg [.v (.string ((xs.getD i default).name)), .v (.int .u64 (((((xs.getD i default).notches).a : Nat) : Int))), .v (.int .u64 (((((xs.getD i default).notches).b : Nat) : Int)))], none, none⟩]) (c_isDeck1 (xs.getD i default) c ) rfl rfl rfl rfl rfl (mvOkL_flat _ rfl) (by kernel_rfl) rfl rfl (gives_cons (gC rfl rfl) gives_nil) rfl (fun _ _ _ => .inl rfl) ?_
    rintro _ _ ⟨rfl, rfl⟩
    refine vpOps_nil ?_
    refine vIf rfl (fun h2 => ?_) (fun h2 => ?_)
    · skip
      refine vp_seq ?_
      refine vp_region ?_
      refine vpOps_pure (x := .v (.int .i64 ((i : Nat) : Int))) (pMv rfl rfl rfl) rfl rfl rfl rfl ?_
      refine vpOps_pure (x := .v (.int .i64 ((i : Nat) : Int))) (pAs rfl rfl rfl) rfl rfl rfl rfl ?_
      refine vpOps_nil ?_
      refine vp_ret ?_
      exact ⟨[.v (.int .i64 ((i : Nat) : Int))], [4], (.cons (.tmp rfl rfl) .nil), rfl, ⟨((i : Nat) : Int), (show (.v (.int .i64 ((i : Nat) : Int)) : PV) = .v (.int .i64 ((i : Nat) : Int)) from rfl), rfl, (by first | exact ⟨fun _ => ⟨i, by omega, by assumption⟩, fun _ => by omega⟩ | exact ⟨fun h => by omega, fun h => by obtain ⟨j, h1, h2⟩ := h; exact absurd h2 (hA j (by omega))⟩)⟩⟩
    · skip
      refine vp_skip ?_
      refine vp_region ?_
      refine vpOps_pure (x := .v (.int .i64 (((i : Nat) : Int) + 1))) (pure_add rfl rfl rfl (in64 (by omega) (by omega))) rfl rfl rfl rfl ?_
      refine vpOps_pure (x := .v (.int .i64 (((i : Nat) : Int) + 1))) (pMv rfl rfl rfl) rfl rfl rfl rfl ?_
      refine vpOps_nil ?_
      exact ⟨i + 1, (by first | omega | (dsimp only; omega)), ⟨(by omega), (by intro j hj; rcases Nat.lt_or_ge j i with hji | hji; exact hA j hji; rw [show j = i by omega]; assumption), trivial⟩, ⟨rfl, rfl, rfl, rfl, trivial⟩⟩
  · skip
    refine vp_exit ?_
    refine vp_seq ?_
    refine vp_region ?_
    refine vpOps_pure (x := .v (.int .i64 (-1))) (pAs rfl rfl rfl) rfl rfl rfl rfl ?_
    refine vpOps_nil ?_
    refine vp_ret ?_
    exact ⟨[.v (.int .i64 (-1))], [4], (.cons (.tmp rfl rfl) .nil), rfl, ⟨-1, (show (.v (.int .i64 (-1)) : PV) = .v (.int .i64 (-1)) from rfl), rfl, (by first | exact ⟨fun _ => ⟨i, by omega, by assumption⟩, fun _ => by omega⟩ | exact ⟨fun h => by omega, fun h => by obtain ⟨j, h1, h2⟩ := h; exact absurd h2 (hA j (by omega))⟩)⟩⟩

/-- slices.ContainsFunc[[]impl.Card,impl.Card] -/
theorem c_CnCard {G : World → Prop} (xs : List Card) (c : Card) (hx : xs.length ≤ 9223372036854775807) : CallsV Tryd.prog G 41 [.sh 3 (xs.map cardc), .clo 42 [.rbox [.v (.string c.name), .v (.int .u64 ((c.notches.a : Nat) : Int)), .v (.int .u64 ((c.notches.b : Nat) : Int))]]] (fun r outs => r = .v (.bool (decide (hasName xs c.name))) ∧ outs = [.junk, .junk]) := by
  refine callsV_enter [] Tryd.func41 rfl rfl rfl ?_
  refine vp_seq ?_
  refine vp_region ?_
  refine vpOps_pure (x := .v (.bool (false))) (pAs rfl rfl rfl) rfl rfl rfl rfl ?_
  refine vpOps_nil ?_
  refine vp_seq ?_
  refine vp_region ?_
  refine vpOps_pure (x := .sh 3 (xs.map cardc)) (pMv rfl rfl rfl) rfl rfl rfl rfl ?_
  refine vpOps_pure (x := .clo 42 [.rbox [.v (.string c.name), .v (.int .u64 ((c.notches.a : Nat) : Int)), .v (.int .u64 ((c.notches.b : Nat) : Int))]]) (pMv rfl rfl rfl) rfl rfl rfl rfl ?_
  refine vpOps_call (gs := [⟨.tmp 5, .sh 3 (xs.map cardc), none, none⟩, ⟨.tmp 6, .clo 42 [.rbox [.v (.string c.name), .v (.int .u64 ((c.notches.a : Nat) : Int)), .v (.int .u64 ((c.notches.b : Nat) : Int))]], none, none⟩]) (c_IxCard xs c (by first | assumption | omega)) rfl rfl rfl rfl rfl trivial (by kernel_rfl) rfl rfl (gives_cons (gC rfl rfl) (gives_cons (gC rfl rfl) gives_nil)) rfl (fun _ _ _ => .inl rfl) ?_
  rintro _ _ ⟨v_1, rfl, rfl, hv_1⟩
  refine vpOps_pure (x := .v (.bool (decide (0 ≤ v_1)))) (pure_bin rfl rfl rfl rfl) rfl rfl rfl rfl ?_
  refine vpOps_pure (x := .v (.bool (decide (0 ≤ v_1)))) (pAs rfl rfl rfl) rfl rfl rfl rfl ?_
  refine vpOps_nil ?_
  refine vp_ret ?_
  exact ⟨[.v (.bool (decide (0 ≤ v_1)))], [4], (.cons (.tmp rfl rfl) .nil), rfl, ⟨(show (.v (.bool (decide (0 ≤ v_1))) : PV) = .v (.bool (decide (hasName xs c.name))) from (by exact dec_i hv_1)), rfl⟩⟩

/-- impl.isDeck -/
theorem c_isDeck {G : World → Prop} (d : List Card) (hw : ∀ c ∈ d, c.wf) (hn : d.length ≤ 9223372036854775807) : CallsV Tryd.prog G 21 [.sh 3 (d.map cardc)] (fun r outs => r = .v (.bool (decide (deckOk d))) ∧ outs = [.junk]) := by
  refine callsV_enter [] Tryd.func21 rfl rfl rfl ?_
  refine vp_seq ?_
  refine vp_region ?_
  refine vpOps_pure (x := .v (.bool (false))) (pAs rfl rfl rfl) rfl rfl rfl rfl ?_
  refine vpOps_nil ?_
  refine vp_seq ?_
  refine vp_seq ?_
  refine vp_region ?_
  refine vpOps_pure (x := .sh 3 (d.map cardc)) (pMv rfl rfl rfl) rfl rfl rfl rfl ?_
  refine vpOps_pure (x := .v (.int .i64 ((d.length : Nat) : Int))) (pLen rfl rfl (List.length_map _)) rfl rfl rfl rfl ?_
  refine vpOps_pure (x := .v (.bool (decide (80 < ((d.length : Nat) : Int))))) (pure_bin rfl rfl rfl rfl) rfl rfl rfl rfl ?_
  refine vpOps_nil ?_
  refine vIf rfl (fun h1 => ?_) (fun h1 => ?_)
  · skip
    refine vp_seq ?_
    refine vp_region ?_
    refine vpOps_pure (x := .v (.bool (false))) (pAs rfl rfl rfl) rfl rfl rfl rfl ?_
    refine vpOps_nil ?_
    refine vp_ret ?_
    exact ⟨[.v (.bool (false))], [2], (.cons (.tmp rfl rfl) .nil), rfl, ⟨(show (.v (.bool (false)) : PV) = .v (.bool (decide (deckOk d))) from (by first | exact dec_f (fun h => by have := h.1; omega) | exact dec_f (fun h => absurd (h.2 i (by omega)).1 (by assumption)) | exact dec_f (fun h => by obtain ⟨k, h1, h2⟩ := (hht _).1 (by assumption); exact (h.2 i (by omega)).2 k h1 h2) | exact dec_t ⟨hd, fun j hj => hA j (by omega)⟩)), rfl⟩⟩
  · skip
    refine vp_skip ?_
    refine vp_seq ?_
    refine vp_seq ?_
    refine vp_region ?_
    refine vpOps_pure (x := .sh 3 (d.map cardc)) (pMv rfl rfl rfl) rfl rfl rfl rfl ?_
    refine vpOps_pure (x := .v (.int .i64 ((d.length : Nat) : Int))) (pLen rfl rfl (List.length_map _)) rfl rfl rfl rfl ?_
    refine vpOps_pure (x := .v (.int .i64 0)) (pMv rfl rfl rfl) rfl rfl rfl rfl ?_
    refine vpOps_nil ?_
    refine vp_block ?_
    refine vLoop (α := Nat) (fun i => d.length - i) (fun i => (i ≤ d.length) ∧ (d.length ≤ 80) ∧ (∀ j, j < i → cardOk (d.getD j default) ∧ ∀ k, k < j → (d.getD k default).name ≠ (d.getD j default).name) ∧ True) (fun i => [(0, .sh 3 (d.map cardc)), (8, .sh 3 (d.map cardc)), (9, .v (.int .i64 ((d.length : Nat) : Int))), (10, .v (.int .i64 ((i : Nat) : Int)))]) (fun _ => rfl) (fun _ => rfl) 0 ⟨(by omega), (by omega), (by intro j hj; omega), trivial⟩ ⟨rfl, rfl, rfl, rfl, trivial⟩ ?_
    rintro i ⟨hi, hd, hA, -⟩
    have hht := fun n => hasName_take (n := n) hi
    refine vp_seq ?_
    refine vp_region ?_
    refine vpOps_pure (x := .v (.bool (decide (((i : Nat) : Int) < ((d.length : Nat) : Int))))) (pure_bin rfl rfl rfl rfl) rfl rfl rfl rfl ?_
    refine vpOps_nil ?_
    refine vp_seq ?_
    refine vIf rfl (fun h2 => ?_) (fun h2 => ?_)
    · skip
      refine vp_skip ?_
      refine vp_seq ?_
      refine vp_block ?_
      refine vp_seq ?_
      refine vp_region ?_
      refine vpOps_pure (x := .v (.int .i64 ((i : Nat) : Int))) (pMv rfl rfl rfl) rfl rfl rfl rfl ?_
      refine vpOps_pure (x := .rbox [.v (.string ((d.getD i default).name)), .v (.int .u64 (((((d.getD i default).notches).a : Nat) : Int))), .v (.int .u64 (((((d.getD i default).notches).b : Nat) : Int)))]) (pIx (m := i) rfl rfl rfl (by first | rfl | omega) (by omega) rfl) rfl rfl rfl rfl ?_
      refine vpOps_pure (x := .agg [.v (.string ((d.getD i default).name)), .v (.int .u64 (((((d.getD i default).notches).a : Nat) : Int))), .v (.int .u64 (((((d.getD i default).notches).b : Nat) : Int)))]) (pure_load_rbox_agg rfl rfl rfl rfl rfl) rfl rfl rfl rfl ?_
      refine vpOps_pure (x := .box [.v (.string (ByteArray.mk #[])), .v (.int .u64 0), .v (.int .u64 0)]) (pure_alloc rfl) rfl rfl rfl rfl ?_
      refine vpOps_pure (x := .v (.int .i64 ((i : Nat) : Int))) (pAs rfl rfl rfl) rfl rfl rfl rfl ?_
      refine vStB (x := .agg [.v (.string ((d.getD i default).name)), .v (.int .u64 (((((d.getD i default).notches).a : Nat) : Int))), .v (.int .u64 (((((d.getD i default).notches).b : Nat) : Int)))]) (row' := [.v (.string ((d.getD i default).name)), .v (.int .u64 (((((d.getD i default).notches).a : Nat) : Int))), .v (.int .u64 (((((d.getD i default).notches).b : Nat) : Int)))]) rfl rfl rfl rfl rfl rfl rfl rfl rfl rfl rfl rfl ?_
      refine vpOps_nil ?_
      refine vp_seq ?_
      refine vp_region ?_
      refine vpOps_pure (x := .agg [.v (.string ((d.getD i default).name)), .v (.int .u64 (((((d.getD i default).notches).a : Nat) : Int))), .v (.int .u64 (((((d.getD i default).notches).b : Nat) : Int)))]) (pure_load_pl_agg rfl rfl rfl rfl rfl rfl rfl rfl (by simp [PV.flatL, PV.flat])) rfl rfl rfl rfl ?_
      refine vpOps_call (gs := [⟨.tmp 15, .agg [.v (.string ((d.getD i default).name)), .v (.int .u64 (((((d.getD i default).notches).a : Nat) : Int))), .v (.int .u64 (((((d.getD i default).notches).b : Nat) : Int)))], none, none⟩]) (c_isCard (d.getD i default) (by first | assumption | omega | exact card_wf_getD hw _ | (rw [List.length_take]; omega))) rfl rfl rfl rfl rfl trivial (by kernel_rfl) rfl rfl (gives_cons (gC rfl rfl) gives_nil) rfl (fun _ _ _ => .inl rfl) ?_
      rintro _ _ ⟨rfl, rfl⟩
      refine vpOps_pure (x := .v (.bool (!decide (cardOk (d.getD i default))))) (pure_not rfl rfl) rfl rfl rfl rfl ?_
      refine vpOps_pure (x := .v (.bool (!decide (cardOk (d.getD i default))))) (pMv rfl rfl rfl) rfl rfl rfl rfl ?_
      by_cases h3 : cardOk (d.getD i default)
      · skip
        refine vRun rfl rfl rfl (not_of_t (decide_eq_true h3)) rfl rfl rfl ?_
        refine vpOps_pure (x := .sh 3 (d.map cardc)) (pMv rfl rfl rfl) rfl rfl rfl rfl ?_
        refine vRun rfl rfl rfl (not_of_t (decide_eq_true h3)) rfl rfl rfl ?_
        refine vpOps_pure (x := .v (.int .i64 ((i : Nat) : Int))) (pMv rfl rfl rfl) rfl rfl rfl rfl ?_
        refine vRun rfl rfl rfl (not_of_t (decide_eq_true h3)) rfl rfl rfl ?_
        refine vpOps_pure (x := .sh 3 (((d.drop 0).take (i - 0)).map cardc)) (pSlSh (l := 0) (h := i) rfl rfl rfl rfl (by first | rfl | omega) (by first | rfl | omega) (by omega) (by omega)) rfl rfl rfl rfl ?_
        refine vRun rfl rfl rfl (not_of_t (decide_eq_true h3)) rfl rfl rfl ?_
        refine vpOps_ghost (ghost_freeze (k := 4) rfl rfl rfl) ?_
        refine vpOps_pure (x := .clo 42 [.rbox [.v (.string ((d.getD i default).name)), .v (.int .u64 (((((d.getD i default).notches).a : Nat) : Int))), .v (.int .u64 (((((d.getD i default).notches).b : Nat) : Int)))]]) (pMkF rfl rfl rfl) rfl rfl rfl rfl ?_
        refine vRun rfl rfl rfl (not_of_t (decide_eq_true h3)) rfl rfl rfl ?_
        refine vpOps_call (gs := [⟨.tmp 21, .sh 3 (((d.drop 0).take (i - 0)).map cardc), none, none⟩, ⟨.tmp 22, .clo 42 [.rbox [.v (.string ((d.getD i default).name)), .v (.int .u64 (((((d.getD i default).notches).a : Nat) : Int))), .v (.int .u64 (((((d.getD i default).notches).b : Nat) : Int)))]], none, none⟩]) (c_CnCard ((d.drop 0).take (i - 0)) (d.getD i default) (by first | assumption | omega | exact card_wf_getD hw _ | (rw [List.length_take]; omega))) rfl rfl rfl rfl rfl trivial (by kernel_rfl) rfl rfl (gives_cons (gC rfl rfl) (gives_cons (gC rfl rfl) gives_nil)) rfl (fun _ _ _ => .inl rfl) ?_
        rintro _ _ ⟨rfl, rfl⟩
        refine vpOps_pure (x := .v (.bool (decide (hasName ((d.drop 0).take (i - 0)) (d.getD i default).name)))) (pPf rfl rfl (not_of_t (decide_eq_true h3)) rfl rfl) rfl rfl rfl rfl ?_
        refine vpOps_nil ?_
        refine vIf rfl (fun h4 => ?_) (fun h4 => ?_)
        · skip
          refine vp_seq ?_
          refine vp_region ?_
          refine vpOps_pure (x := .v (.bool (false))) (pAs rfl rfl rfl) rfl rfl rfl rfl ?_
          refine vpOps_nil ?_
          refine vp_ret ?_
          exact ⟨[.v (.bool (false))], [2], (.cons (.tmp rfl rfl) .nil), rfl, ⟨(show (.v (.bool (false)) : PV) = .v (.bool (decide (deckOk d))) from (by first | exact dec_f (fun h => by have := h.1; omega) | exact dec_f (fun h => absurd (h.2 i (by omega)).1 (by assumption)) | exact dec_f (fun h => by obtain ⟨k, h1, h2⟩ := (hht _).1 (by assumption); exact (h.2 i (by omega)).2 k h1 h2) | exact dec_t ⟨hd, fun j hj => hA j (by omega)⟩)), rfl⟩⟩
        · skip
          refine vp_skip ?_
          refine vp_region ?_
          refine vpOps_pure (x := .v (.int .i64 (((i : Nat) : Int) + 1))) (pure_add rfl rfl rfl (in64 (by omega) (by omega))) rfl rfl rfl rfl ?_
          refine vpOps_pure (x := .v (.int .i64 (((i : Nat) : Int) + 1))) (pMv rfl rfl rfl) rfl rfl rfl rfl ?_
          refine vpOps_nil ?_
          exact ⟨i + 1, (by first | omega | (dsimp only; omega)), ⟨(by omega), (by omega), (by intro j hj; rcases Nat.lt_or_ge j i with hji | hji; exact hA j hji; rw [show j = i by omega]; exact ⟨by assumption, fun k hk e => absurd ((hht _).2 ⟨k, hk, e⟩) (by assumption)⟩), trivial⟩, ⟨rfl, rfl, rfl, rfl, trivial⟩⟩
      · skip
        refine vPass rfl rfl rfl (not_of_f (decide_eq_false h3)) rfl rfl rfl ?_
        refine vPass rfl rfl rfl (not_of_f (decide_eq_false h3)) rfl rfl rfl ?_
        refine vPass rfl rfl rfl (not_of_f (decide_eq_false h3)) rfl rfl rfl ?_
        refine vPass rfl rfl rfl (not_of_f (decide_eq_false h3)) rfl rfl rfl ?_
        refine vPass rfl rfl rfl (not_of_f (decide_eq_false h3)) rfl rfl rfl ?_
        refine vpOps_pure (x := .v (.bool (true))) (pPt rfl rfl (not_of_f (decide_eq_false h3)) rfl rfl) rfl rfl rfl rfl ?_
        refine vpOps_nil ?_
        refine vIfT rfl rfl ?_
        refine vp_seq ?_
        refine vp_region ?_
        refine vpOps_pure (x := .v (.bool (false))) (pAs rfl rfl rfl) rfl rfl rfl rfl ?_
        refine vpOps_nil ?_
        refine vp_ret ?_
        exact ⟨[.v (.bool (false))], [2], (.cons (.tmp rfl rfl) .nil), rfl, ⟨(show (.v (.bool (false)) : PV) = .v (.bool (decide (deckOk d))) from (by first | exact dec_f (fun h => by have := h.1; omega) | exact dec_f (fun h => absurd (h.2 i (by omega)).1 (by assumption)) | exact dec_f (fun h => by obtain ⟨k, h1, h2⟩ := (hht _).1 (by assumption); exact (h.2 i (by omega)).2 k h1 h2) | exact dec_t ⟨hd, fun j hj => hA j (by omega)⟩)), rfl⟩⟩
    · skip
      refine vp_exit ?_
      refine vp_seq ?_
      refine vp_region ?_
      refine vpOps_pure (x := .v (.bool (true))) (pAs rfl rfl rfl) rfl rfl rfl rfl ?_
      refine vpOps_nil ?_
      refine vp_ret ?_
      exact ⟨[.v (.bool (true))], [2], (.cons (.tmp rfl rfl) .nil), rfl, ⟨(show (.v (.bool (true)) : PV) = .v (.bool (decide (deckOk d))) from (by first | exact dec_f (fun h => by have := h.1; omega) | exact dec_f (fun h => absurd (h.2 i (by omega)).1 (by assumption)) | exact dec_f (fun h => by obtain ⟨k, h1, h2⟩ := (hht _).1 (by assumption); exact (h.2 i (by omega)).2 k h1 h2) | exact dec_t ⟨hd, fun j hj => hA j (by omega)⟩)), rfl⟩⟩

/-- impl.NearestCards -/
theorem c_NearestCards {G : World → Prop} (d : List Card) (m : Mask) (hw : ∀ c ∈ d, c.wf) (hn : d.length ≤ 9223372036854775807) (hm : m.wf) : CallsV Tryd.prog G 9 [.sh 3 (d.map cardc), .agg [.v (.int .u64 ((m.a : Nat) : Int)), .v (.int .u64 ((m.b : Nat) : Int))]] (fun r outs => r = .tup [.own 1 ((nearL d m).map i64c), .v (.int .i64 (nearD d m)), .v (.int .i64 (nearC d m))] ∧ outs = [.junk, .junk]) := by
  refine callsV_enter [] Tryd.func9 rfl rfl rfl ?_
  refine vp_seq ?_
  refine vp_region ?_
  refine vpOps_pure (x := .box [.v (.int .u64 ((m.a : Nat) : Int)), .v (.int .u64 ((m.b : Nat) : Int))]) (pure_box rfl rfl (mvOk_flat _ rfl) rfl rfl) rfl rfl rfl rfl ?_
  refine vpOps_pure (x := .v (.slice none 0 0)) (pAs rfl rfl rfl) rfl rfl rfl rfl ?_
  refine vpOps_pure (x := .v (.int .i64 0)) (pAs rfl rfl rfl) rfl rfl rfl rfl ?_
  refine vpOps_pure (x := .v (.int .i64 0)) (pAs rfl rfl rfl) rfl rfl rfl rfl ?_
  refine vpOps_nil ?_
  refine vp_seq ?_
  refine vp_seq ?_
  refine vp_region ?_
  refine vpOps_pure (x := .sh 3 (d.map cardc)) (pMv rfl rfl rfl) rfl rfl rfl rfl ?_
  refine vpOps_call (gs := [⟨.tmp 12, .sh 3 (d.map cardc), none, none⟩]) (c_isDeck d (by first | assumption | omega | exact (card_wf_getD hw _).m) (by first | assumption | omega | exact (card_wf_getD hw _).m)) rfl rfl rfl rfl rfl trivial (by kernel_rfl) rfl rfl (gives_cons (gC rfl rfl) gives_nil) rfl (fun _ _ _ => .inl rfl) ?_
  rintro _ _ ⟨rfl, rfl⟩
  refine vpOps_pure (x := .v (.bool (!decide (deckOk d)))) (pure_not rfl rfl) rfl rfl rfl rfl ?_
  refine vpOps_pure (x := .v (.bool (!decide (deckOk d)))) (pMv rfl rfl rfl) rfl rfl rfl rfl ?_
  by_cases h1 : deckOk d
  · skip
    refine vRun rfl rfl rfl (not_of_t (decide_eq_true h1)) rfl rfl rfl ?_
    refine vpOps_pure (x := .agg [.v (.int .u64 ((m.a : Nat) : Int)), .v (.int .u64 ((m.b : Nat) : Int))]) (pure_load_pl_agg rfl rfl rfl rfl rfl rfl rfl rfl (by simp [PV.flatL, PV.flat])) rfl rfl rfl rfl ?_
    refine vRun rfl rfl rfl (not_of_t (decide_eq_true h1)) rfl rfl rfl ?_
    refine vpOps_call (gs := [⟨.tmp 16, .agg [.v (.int .u64 ((m.a : Nat) : Int)), .v (.int .u64 ((m.b : Nat) : Int))], none, none⟩]) (c_isMask m (by first | assumption | omega | exact (card_wf_getD hw _).m)) rfl rfl rfl rfl rfl trivial (by kernel_rfl) rfl rfl (gives_cons (gC rfl rfl) gives_nil) rfl (fun _ _ _ => .inl rfl) ?_
    rintro _ _ ⟨rfl, rfl⟩
    refine vRun rfl rfl rfl (not_of_t (decide_eq_true h1)) rfl rfl rfl ?_
    refine vpOps_pure (x := .v (.bool (!decide (maskOk m)))) (pure_not rfl rfl) rfl rfl rfl rfl ?_
    refine vpOps_pure (x := .v (.bool (!decide (maskOk m)))) (pPf rfl rfl (not_of_t (decide_eq_true h1)) rfl rfl) rfl rfl rfl rfl ?_
    refine vpOps_nil ?_
    refine vIfN rfl (fun h2 => ?_) (fun h2 => ?_)
    · skip
      refine vp_seq ?_
      refine vp_region ?_
      refine vpOps_pure (x := .v (.slice none 0 0)) (pAs rfl rfl rfl) rfl rfl rfl rfl ?_
      refine vpOps_pure (x := .v (.int .i64 0)) (pAs rfl rfl rfl) rfl rfl rfl rfl ?_
      refine vpOps_pure (x := .v (.int .i64 1)) (pAs rfl rfl rfl) rfl rfl rfl rfl ?_
      refine vpOps_nil ?_
      refine vp_ghost (ghost_nil (k := 4) (n := 1) rfl) ?_
      refine vp_ret ?_
      exact ⟨[.own 1 (([]).map i64c), .v (.int .i64 0), .v (.int .i64 1)], [4, 5, 6], (.cons (.tmp rfl rfl) (.cons (.tmp rfl rfl) (.cons (.tmp rfl rfl) .nil))), rfl, ⟨(show (.tup [.own 1 (([]).map i64c), .v (.int .i64 0), .v (.int .i64 1)] : PV) = .tup [.own 1 ((nearL d m).map i64c), .v (.int .i64 (nearD d m)), .v (.int .i64 (nearC d m))] from (by rcases near_cases d m with ⟨hz, e1, e2, e3⟩ | ⟨hz, hy, e1, e2, e3⟩ | ⟨hz, hy, e1, e2, e3⟩ <;> rw [e1, e2, e3] <;> first | rfl | (exfalso; first | omega | exact absurd hz.1 (by assumption) | exact absurd hz.2 (by assumption) | exact hz ⟨by assumption, by assumption⟩ | exact hz hg | exact hz ⟨hg.1, hg.2.1⟩ | exact hg.2.2 hy) | (rw [hl, ho, show i = d.length by omega]; unfold outI leastI; rw [if_neg hg.2.2]))), rfl⟩⟩
    · skip
      refine vp_skip ?_
      refine vp_seq ?_
      refine vp_seq ?_
      refine vp_region ?_
      refine vpOps_pure (x := .sh 3 (d.map cardc)) (pMv rfl rfl rfl) rfl rfl rfl rfl ?_
      refine vpOps_pure (x := .v (.int .i64 ((d.length : Nat) : Int))) (pLen rfl rfl (List.length_map _)) rfl rfl rfl rfl ?_
      refine vpOps_pure (x := .v (.bool (decide (((d.length : Nat) : Int) = 0)))) (pure_bin rfl rfl rfl rfl) rfl rfl rfl rfl ?_
      refine vpOps_nil ?_
      refine vIf rfl (fun h3 => ?_) (fun h3 => ?_)
      · skip
        refine vp_seq ?_
        refine vp_region ?_
        refine vpOps_pure (x := .v (.slice none 0 0)) (pAs rfl rfl rfl) rfl rfl rfl rfl ?_
        refine vpOps_pure (x := .v (.int .i64 0)) (pAs rfl rfl rfl) rfl rfl rfl rfl ?_
        refine vpOps_pure (x := .v (.int .i64 6)) (pAs rfl rfl rfl) rfl rfl rfl rfl ?_
        refine vpOps_nil ?_
        refine vp_ghost (ghost_nil (k := 4) (n := 1) rfl) ?_
        refine vp_ret ?_
        exact ⟨[.own 1 (([]).map i64c), .v (.int .i64 0), .v (.int .i64 6)], [4, 5, 6], (.cons (.tmp rfl rfl) (.cons (.tmp rfl rfl) (.cons (.tmp rfl rfl) .nil))), rfl, ⟨(show (.tup [.own 1 (([]).map i64c), .v (.int .i64 0), .v (.int .i64 6)] : PV) = .tup [.own 1 ((nearL d m).map i64c), .v (.int .i64 (nearD d m)), .v (.int .i64 (nearC d m))] from (by rcases near_cases d m with ⟨hz, e1, e2, e3⟩ | ⟨hz, hy, e1, e2, e3⟩ | ⟨hz, hy, e1, e2, e3⟩ <;> rw [e1, e2, e3] <;> first | rfl | (exfalso; first | omega | exact absurd hz.1 (by assumption) | exact absurd hz.2 (by assumption) | exact hz ⟨by assumption, by assumption⟩ | exact hz hg | exact hz ⟨hg.1, hg.2.1⟩ | exact hg.2.2 hy) | (rw [hl, ho, show i = d.length by omega]; unfold outI leastI; rw [if_neg hg.2.2]))), rfl⟩⟩
      · skip
        refine vp_skip ?_
        refine vp_seq ?_
        refine vp_region ?_
        refine vpOps_pure (x := .own 1 []) (pBs (cs := []) rfl rfl rfl rfl rfl rfl rfl) rfl rfl rfl rfl ?_
        refine vpOps_assign (x := .own 1 []) rfl rfl rfl rfl rfl rfl rfl ?_
        refine vpOps_nil ?_
        refine vp_seq ?_
        refine vp_region ?_
        refine vpOps_pure (x := .v (.int .i64 (-1))) (pAs rfl rfl rfl) rfl rfl rfl rfl ?_
        refine vpOps_nil ?_
        refine vp_seq ?_
        refine vp_seq ?_
        refine vp_region ?_
        refine vpOps_pure (x := .sh 3 (d.map cardc)) (pMv rfl rfl rfl) rfl rfl rfl rfl ?_
        refine vpOps_pure (x := .v (.int .i64 ((d.length : Nat) : Int))) (pLen rfl rfl (List.length_map _)) rfl rfl rfl rfl ?_
        refine vpOps_pure (x := .v (.int .i64 0)) (pMv rfl rfl rfl) rfl rfl rfl rfl ?_
        refine vpOps_nil ?_
        refine vp_block ?_
        refine vLoop (α := Nat × List Int × Int) (fun (i, out, least) => d.length - i) (fun (i, out, least) => (i ≤ d.length) ∧ (deckOk d ∧ maskOk m ∧ d.length ≠ 0) ∧ (least = leastI (distF d m) i) ∧ (out = outI (distF d m) i) ∧ (out.length ≤ i) ∧ True) (fun (i, out, least) => [(0, .sh 3 (d.map cardc)), (1, .agg [.v (.int .u64 ((m.a : Nat) : Int)), .v (.int .u64 ((m.b : Nat) : Int))]), (3, .box [.v (.int .u64 ((m.a : Nat) : Int)), .v (.int .u64 ((m.b : Nat) : Int))]), (4, .v (.slice none 0 0)), (5, .v (.int .i64 0)), (6, .v (.int .i64 0)), (7, .own 1 (out.map i64c)), (8, .v (.int .i64 least)), (24, .sh 3 (d.map cardc)), (25, .v (.int .i64 ((d.length : Nat) : Int))), (26, .v (.int .i64 ((i : Nat) : Int)))]) (fun ⟨_, _, _⟩ => rfl) (fun ⟨_, _, _⟩ => rfl) (0, [], -1) ⟨(by omega), (by first | assumption | exact ⟨by assumption, by assumption, by omega⟩), (by rfl), (by rfl), (by exact Nat.zero_le _), trivial⟩ ⟨rfl, rfl, rfl, rfl, rfl, rfl, rfl, rfl, rfl, rfl, rfl, trivial⟩ ?_
        rintro ⟨i, out, least⟩ ⟨hi, hg, hl, ho, hol, -⟩
        have hdl := hg.1.1
        have h0 : ∀ j, 0 ≤ distF d m j := fun j => Int.natCast_nonneg _
        have hdi : distF d m i = ((farM (d.getD i default).notches m : Nat) : Int) := rfl
        have hnew := near_new (g := distF d m) (i := i) h0
        have hold := near_old (g := distF d m) (i := i)
        rw [hdi, ← hl] at hnew hold
        rw [← ho] at hold
        refine vp_seq ?_
        refine vp_region ?_
        refine vpOps_pure (x := .v (.bool (decide (((i : Nat) : Int) < ((d.length : Nat) : Int))))) (pure_bin rfl rfl rfl rfl) rfl rfl rfl rfl ?_
        refine vpOps_nil ?_
        refine vp_seq ?_
        refine vIf rfl (fun h4 => ?_) (fun h4 => ?_)
        · skip
          refine vp_skip ?_
          refine vp_seq ?_
          refine vp_block ?_
          refine vp_seq ?_
          refine vp_region ?_
          refine vpOps_pure (x := .v (.int .i64 ((i : Nat) : Int))) (pMv rfl rfl rfl) rfl rfl rfl rfl ?_
          refine vpOps_pure (x := .rbox [.v (.string ((d.getD i default).name)), .v (.int .u64 (((((d.getD i default).notches).a : Nat) : Int))), .v (.int .u64 (((((d.getD i default).notches).b : Nat) : Int)))]) (pIx (m := i) rfl rfl rfl (by first | rfl | omega) (by omega) rfl) rfl rfl rfl rfl ?_
          refine vpOps_pure (x := .agg [.v (.string ((d.getD i default).name)), .v (.int .u64 (((((d.getD i default).notches).a : Nat) : Int))), .v (.int .u64 (((((d.getD i default).notches).b : Nat) : Int)))]) (pure_load_rbox_agg rfl rfl rfl rfl rfl) rfl rfl rfl rfl ?_
          refine vpOps_pure (x := .box [.v (.string (ByteArray.mk #[])), .v (.int .u64 0), .v (.int .u64 0)]) (pure_alloc rfl) rfl rfl rfl rfl ?_
          refine vpOps_pure (x := .v (.int .i64 ((i : Nat) : Int))) (pAs rfl rfl rfl) rfl rfl rfl rfl ?_
          refine vStB (x := .agg [.v (.string ((d.getD i default).name)), .v (.int .u64 (((((d.getD i default).notches).a : Nat) : Int))), .v (.int .u64 (((((d.getD i default).notches).b : Nat) : Int)))]) (row' := [.v (.string ((d.getD i default).name)), .v (.int .u64 (((((d.getD i default).notches).a : Nat) : Int))), .v (.int .u64 (((((d.getD i default).notches).b : Nat) : Int)))]) rfl rfl rfl rfl rfl rfl rfl rfl rfl rfl rfl rfl ?_
          refine vpOps_nil ?_
          refine vp_seq ?_
          refine vp_region ?_
          refine vpOps_pure (x := .pl 10 [⟨0, 1, 0⟩]) (pure_field_ref rfl rfl rfl rfl) rfl rfl rfl rfl ?_
          refine vpOps_pure (x := .agg [.v (.int .u64 (((((d.getD i default).notches).a : Nat) : Int))), .v (.int .u64 (((((d.getD i default).notches).b : Nat) : Int)))]) (pure_load_pl_agg rfl rfl rfl rfl rfl rfl rfl rfl (by simp [PV.flatL, PV.flat])) rfl rfl rfl rfl ?_
          refine vpOps_pure (x := .agg [.v (.int .u64 ((m.a : Nat) : Int)), .v (.int .u64 ((m.b : Nat) : Int))]) (pure_load_pl_agg rfl rfl rfl rfl rfl rfl rfl rfl (by simp [PV.flatL, PV.flat])) rfl rfl rfl rfl ?_
          refine vpOps_call (gs := [⟨.tmp 32, .agg [.v (.int .u64 (((((d.getD i default).notches).a : Nat) : Int))), .v (.int .u64 (((((d.getD i default).notches).b : Nat) : Int)))], none, none⟩, ⟨.tmp 33, .agg [.v (.int .u64 ((m.a : Nat) : Int)), .v (.int .u64 ((m.b : Nat) : Int))], none, none⟩]) (c_distance ((d.getD i default).notches) m (by first | assumption | omega | exact (card_wf_getD hw _).m) (by first | assumption | omega | exact (card_wf_getD hw _).m)) rfl rfl rfl rfl rfl trivial (by kernel_rfl) rfl rfl (gives_cons (gC rfl rfl) (gives_cons (gC rfl rfl) gives_nil)) rfl (fun _ _ _ => .inl rfl) ?_
          rintro _ _ ⟨rfl, rfl⟩
          refine vpOps_pure (x := .v (.int .i64 ((((farM ((d.getD i default).notches) m) : Nat) : Int)))) (pAs rfl rfl rfl) rfl rfl rfl rfl ?_
          refine vpOps_nil ?_
          refine vp_seq ?_
          refine vp_seq ?_
          refine vp_region ?_
          refine vpOps_pure (x := .v (.int .i64 least)) (pMv rfl rfl rfl) rfl rfl rfl rfl ?_
          refine vpOps_pure (x := .v (.bool (decide (least < 0)))) (pure_bin rfl rfl rfl rfl) rfl rfl rfl rfl ?_
          refine vpOps_pure (x := .v (.bool (decide (least < 0)))) (pMv rfl rfl rfl) rfl rfl rfl rfl ?_
          by_cases h5 : least < 0
          · skip
            refine vPass rfl rfl rfl (decide_eq_true h5) rfl rfl rfl ?_
            refine vPass rfl rfl rfl (decide_eq_true h5) rfl rfl rfl ?_
            refine vPass rfl rfl rfl (decide_eq_true h5) rfl rfl rfl ?_
            refine vpOps_pure (x := .v (.bool (true))) (pPt rfl rfl (decide_eq_true h5) rfl rfl) rfl rfl rfl rfl ?_
            refine vpOps_nil ?_
            refine vIfT rfl rfl ?_
            refine vp_seq ?_
            refine vp_region ?_
            refine vpOps_pure (x := .own 1 []) (pBs (cs := []) rfl rfl rfl rfl rfl rfl rfl) rfl rfl rfl rfl ?_
            refine vpOps_assign (x := .own 1 []) rfl rfl rfl rfl rfl rfl rfl ?_
            refine vpOps_nil ?_
            refine vp_region ?_
            refine vpOps_pure (x := .v (.int .i64 ((((farM ((d.getD i default).notches) m) : Nat) : Int)))) (pMv rfl rfl rfl) rfl rfl rfl rfl ?_
            refine vpOps_pure (x := .v (.int .i64 ((((farM ((d.getD i default).notches) m) : Nat) : Int)))) (pAs rfl rfl rfl) rfl rfl rfl rfl ?_
            refine vpOps_nil ?_
            refine vp_seq ?_
            refine vp_region ?_
            refine vpOps_pure (x := .v (.int .i64 ((((farM ((d.getD i default).notches) m) : Nat) : Int)))) (pMv rfl rfl rfl) rfl rfl rfl rfl ?_
            refine vpOps_pure (x := .v (.int .i64 ((((farM ((d.getD i default).notches) m) : Nat) : Int)))) (pMv rfl rfl rfl) rfl rfl rfl rfl ?_
            refine vpOps_pure (x := .v (.bool (decide (((((farM ((d.getD i default).notches) m) : Nat) : Int)) = ((((farM ((d.getD i default).notches) m) : Nat) : Int)))))) (pure_bin rfl rfl rfl rfl) rfl rfl rfl rfl ?_
            refine vpOps_nil ?_
            refine vIf rfl (fun h6 => ?_) (fun h6 => ?_)
            · skip
              refine vp_region ?_
              refine vpOps_pure (x := .lv 7 []) (pure_move_lv rfl) rfl rfl rfl rfl ?_
              refine vpOps_pure (x := .v (.int .i64 ((i : Nat) : Int))) (pMv rfl rfl rfl) rfl rfl rfl rfl ?_
              skip
              refine vpOps_pure (x := .own 1 [[.v (.int .i64 ((i : Nat) : Int))]]) (pBs (cs := [.v (.int .i64 ((i : Nat) : Int))]) rfl rfl rfl rfl rfl rfl rfl) rfl rfl rfl rfl ?_
              refine vpOps_ghost (ghost_own (t := 47) rfl rfl rfl rfl) ?_
              refine vApp (f := i64c) (xs := ([])) (ys := [((i : Nat) : Int)]) (l := 1) rfl rfl rfl rfl rfl (srcOwn rfl rfl (fun _ => mvOkL_flat _ rfl)) rfl rfl (fun _ => rfl) (.inl ⟨_, rfl⟩) rfl rfl rfl (rfl) (by simp only [List.length_nil, List.length_cons]; omega) (by simp only [List.length_nil, List.length_cons]; omega) ?_
              refine vpOps_assign (x := .own 1 (([] ++ [((i : Nat) : Int)]).map i64c)) rfl rfl rfl rfl rfl rfl rfl ?_
              refine vpOps_nil ?_
              refine vp_region ?_
              refine vpOps_pure (x := .v (.int .i64 (((i : Nat) : Int) + 1))) (pure_add rfl rfl rfl (in64 (by omega) (by omega))) rfl rfl rfl rfl ?_
              refine vpOps_pure (x := .v (.int .i64 (((i : Nat) : Int) + 1))) (pMv rfl rfl rfl) rfl rfl rfl rfl ?_
              refine vpOps_nil ?_
              exact ⟨(i + 1, [] ++ [((i : Nat) : Int)], ↑(farM ((d.getD i default).notches) m)), (by first | omega | (dsimp only; omega)), ⟨(by omega), (by first | assumption | exact ⟨by assumption, by assumption, by omega⟩), (by first | (exfalso; omega) | exact (hnew (.inl (by assumption))).1.symm | exact (hnew (.inr (by assumption))).1.symm | exact (hold (by assumption) (by assumption)).1.symm | exact hl), (by first | (exfalso; omega) | exact (hnew (.inl (by assumption))).2.symm | exact (hnew (.inr (by assumption))).2.symm | (rw [(hold (by assumption) (by assumption)).2, if_pos (by assumption)]; done) | (rw [(hold (by assumption) (by assumption)).2, if_neg (by assumption)]; done)), (by first | omega | (simp only [List.length_append, List.length_cons, List.length_nil]; omega)), trivial⟩, ⟨rfl, rfl, rfl, rfl, rfl, rfl, rfl, rfl, rfl, rfl, rfl, trivial⟩⟩
            · skip
              refine vp_skip ?_
              refine vp_region ?_
              refine vpOps_pure (x := .v (.int .i64 (((i : Nat) : Int) + 1))) (pure_add rfl rfl rfl (in64 (by omega) (by omega))) rfl rfl rfl rfl ?_
              refine vpOps_pure (x := .v (.int .i64 (((i : Nat) : Int) + 1))) (pMv rfl rfl rfl) rfl rfl rfl rfl ?_
              refine vpOps_nil ?_
              exact ⟨(i + 1, [], ↑(farM ((d.getD i default).notches) m)), (by first | omega | (dsimp only; omega)), ⟨(by omega), (by first | assumption | exact ⟨by assumption, by assumption, by omega⟩), (by first | (exfalso; omega) | exact (hnew (.inl (by assumption))).1.symm | exact (hnew (.inr (by assumption))).1.symm | exact (hold (by assumption) (by assumption)).1.symm | exact hl), (by first | (exfalso; omega) | exact (hnew (.inl (by assumption))).2.symm | exact (hnew (.inr (by assumption))).2.symm | (rw [(hold (by assumption) (by assumption)).2, if_pos (by assumption)]; done) | (rw [(hold (by assumption) (by assumption)).2, if_neg (by assumption)]; done)), (by first | omega | (simp only [List.length_append, List.length_cons, List.length_nil]; omega)), trivial⟩, ⟨rfl, rfl, rfl, rfl, rfl, rfl, rfl, rfl, rfl, rfl, rfl, trivial⟩⟩
          · skip
            refine vRun rfl rfl rfl (decide_eq_false h5) rfl rfl rfl ?_
            refine vpOps_pure (x := .v (.int .i64 ((((farM ((d.getD i default).notches) m) : Nat) : Int)))) (pMv rfl rfl rfl) rfl rfl rfl rfl ?_
            refine vRun rfl rfl rfl (decide_eq_false h5) rfl rfl rfl ?_
            refine vpOps_pure (x := .v (.int .i64 least)) (pMv rfl rfl rfl) rfl rfl rfl rfl ?_
            refine vRun rfl rfl rfl (decide_eq_false h5) rfl rfl rfl ?_
            refine vpOps_pure (x := .v (.bool (decide (((((farM ((d.getD i default).notches) m) : Nat) : Int)) < least)))) (pure_bin rfl rfl rfl rfl) rfl rfl rfl rfl ?_
            refine vpOps_pure (x := .v (.bool (decide (((((farM ((d.getD i default).notches) m) : Nat) : Int)) < least)))) (pPf rfl rfl (decide_eq_false h5) rfl rfl) rfl rfl rfl rfl ?_
            refine vpOps_nil ?_
            refine vIf rfl (fun h7 => ?_) (fun h7 => ?_)
            · skip
              refine vp_seq ?_
              refine vp_region ?_
              refine vpOps_pure (x := .own 1 []) (pBs (cs := []) rfl rfl rfl rfl rfl rfl rfl) rfl rfl rfl rfl ?_
              refine vpOps_assign (x := .own 1 []) rfl rfl rfl rfl rfl rfl rfl ?_
              refine vpOps_nil ?_
              refine vp_region ?_
              refine vpOps_pure (x := .v (.int .i64 ((((farM ((d.getD i default).notches) m) : Nat) : Int)))) (pMv rfl rfl rfl) rfl rfl rfl rfl ?_
              refine vpOps_pure (x := .v (.int .i64 ((((farM ((d.getD i default).notches) m) : Nat) : Int)))) (pAs rfl rfl rfl) rfl rfl rfl rfl ?_
              refine vpOps_nil ?_
              refine vp_seq ?_
              refine vp_region ?_
              refine vpOps_pure (x := .v (.int .i64 ((((farM ((d.getD i default).notches) m) : Nat) : Int)))) (pMv rfl rfl rfl) rfl rfl rfl rfl ?_
              refine vpOps_pure (x := .v (.int .i64 ((((farM ((d.getD i default).notches) m) : Nat) : Int)))) (pMv rfl rfl rfl) rfl rfl rfl rfl ?_
              refine vpOps_pure (x := .v (.bool (decide (((((farM ((d.getD i default).notches) m) : Nat) : Int)) = ((((farM ((d.getD i default).notches) m) : Nat) : Int)))))) (pure_bin rfl rfl rfl rfl) rfl rfl rfl rfl ?_
              refine vpOps_nil ?_
              refine vIf rfl (fun h8 => ?_) (fun h8 => ?_)
              · skip
                refine vp_region ?_
                refine vpOps_pure (x := .lv 7 []) (pure_move_lv rfl) rfl rfl rfl rfl ?_
                refine vpOps_pure (x := .v (.int .i64 ((i : Nat) : Int))) (pMv rfl rfl rfl) rfl rfl rfl rfl ?_
                skip
                refine vpOps_pure (x := .own 1 [[.v (.int .i64 ((i : Nat) : Int))]]) (pBs (cs := [.v (.int .i64 ((i : Nat) : Int))]) rfl rfl rfl rfl rfl rfl rfl) rfl rfl rfl rfl ?_
                refine vpOps_ghost (ghost_own (t := 47) rfl rfl rfl rfl) ?_
                refine vApp (f := i64c) (xs := ([])) (ys := [((i : Nat) : Int)]) (l := 1) rfl rfl rfl rfl rfl (srcOwn rfl rfl (fun _ => mvOkL_flat _ rfl)) rfl rfl (fun _ => rfl) (.inl ⟨_, rfl⟩) rfl rfl rfl (rfl) (by simp only [List.length_nil, List.length_cons]; omega) (by simp only [List.length_nil, List.length_cons]; omega) ?_
                refine vpOps_assign (x := .own 1 (([] ++ [((i : Nat) : Int)]).map i64c)) rfl rfl rfl rfl rfl rfl rfl ?_
                refine vpOps_nil ?_
                refine vp_region ?_
                refine vpOps_pure (x := .v (.int .i64 (((i : Nat) : Int) + 1))) (pure_add rfl rfl rfl (in64 (by omega) (by omega))) rfl rfl rfl rfl ?_
                refine vpOps_pure (x := .v (.int .i64 (((i : Nat) : Int) + 1))) (pMv rfl rfl rfl) rfl rfl rfl rfl ?_
                refine vpOps_nil ?_
                exact ⟨(i + 1, [] ++ [((i : Nat) : Int)], ↑(farM ((d.getD i default).notches) m)), (by first | omega | (dsimp only; omega)), ⟨(by omega), (by first | assumption | exact ⟨by assumption, by assumption, by omega⟩), (by first | (exfalso; omega) | exact (hnew (.inl (by assumption))).1.symm | exact (hnew (.inr (by assumption))).1.symm | exact (hold (by assumption) (by assumption)).1.symm | exact hl), (by first | (exfalso; omega) | exact (hnew (.inl (by assumption))).2.symm | exact (hnew (.inr (by assumption))).2.symm | (rw [(hold (by assumption) (by assumption)).2, if_pos (by assumption)]; done) | (rw [(hold (by assumption) (by assumption)).2, if_neg (by assumption)]; done)), (by first | omega | (simp only [List.length_append, List.length_cons, List.length_nil]; omega)), trivial⟩, ⟨rfl, rfl, rfl, rfl, rfl, rfl, rfl, rfl, rfl, rfl, rfl, trivial⟩⟩
              · skip
                refine vp_skip ?_
                refine vp_region ?_
                refine vpOps_pure (x := .v (.int .i64 (((i : Nat) : Int) + 1))) (pure_add rfl rfl rfl (in64 (by omega) (by omega))) rfl rfl rfl rfl ?_
                refine vpOps_pure (x := .v (.int .i64 (((i : Nat) : Int) + 1))) (pMv rfl rfl rfl) rfl rfl rfl rfl ?_
                refine vpOps_nil ?_
                exact ⟨(i + 1, [], ↑(farM ((d.getD i default).notches) m)), (by first | omega | (dsimp only; omega)), ⟨(by omega), (by first | assumption | exact ⟨by assumption, by assumption, by omega⟩), (by first | (exfalso; omega) | exact (hnew (.inl (by assumption))).1.symm | exact (hnew (.inr (by assumption))).1.symm | exact (hold (by assumption) (by assumption)).1.symm | exact hl), (by first | (exfalso; omega) | exact (hnew (.inl (by assumption))).2.symm | exact (hnew (.inr (by assumption))).2.symm | (rw [(hold (by assumption) (by assumption)).2, if_pos (by assumption)]; done) | (rw [(hold (by assumption) (by assumption)).2, if_neg (by assumption)]; done)), (by first | omega | (simp only [List.length_append, List.length_cons, List.length_nil]; omega)), trivial⟩, ⟨rfl, rfl, rfl, rfl, rfl, rfl, rfl, rfl, rfl, rfl, rfl, trivial⟩⟩
            · skip
              refine vp_skip ?_
              refine vp_seq ?_
              refine vp_region ?_
              refine vpOps_pure (x := .v (.int .i64 ((((farM ((d.getD i default).notches) m) : Nat) : Int)))) (pMv rfl rfl rfl) rfl rfl rfl rfl ?_
              refine vpOps_pure (x := .v (.int .i64 least)) (pMv rfl rfl rfl) rfl rfl rfl rfl ?_
              refine vpOps_pure (x := .v (.bool (decide (((((farM ((d.getD i default).notches) m) : Nat) : Int)) = least)))) (pure_bin rfl rfl rfl rfl) rfl rfl rfl rfl ?_
              refine vpOps_nil ?_
              refine vIf rfl (fun h9 => ?_) (fun h9 => ?_)
              · skip
                refine vp_region ?_
                refine vpOps_pure (x := .lv 7 []) (pure_move_lv rfl) rfl rfl rfl rfl ?_
                refine vpOps_pure (x := .v (.int .i64 ((i : Nat) : Int))) (pMv rfl rfl rfl) rfl rfl rfl rfl ?_
                skip
                refine vpOps_pure (x := .own 1 [[.v (.int .i64 ((i : Nat) : Int))]]) (pBs (cs := [.v (.int .i64 ((i : Nat) : Int))]) rfl rfl rfl rfl rfl rfl rfl) rfl rfl rfl rfl ?_
                refine vpOps_ghost (ghost_own (t := 47) rfl rfl rfl rfl) ?_
                refine vApp (f := i64c) (xs := out) (ys := [((i : Nat) : Int)]) (l := 1) rfl rfl rfl rfl rfl (srcOwn rfl rfl (fun _ => mvOkL_flat _ rfl)) rfl rfl (fun _ => rfl) (.inl ⟨_, rfl⟩) rfl rfl rfl (rfl) (by omega) (by omega) ?_
                refine vpOps_assign (x := .own 1 ((out ++ [((i : Nat) : Int)]).map i64c)) rfl rfl rfl rfl rfl rfl rfl ?_
                refine vpOps_nil ?_
                refine vp_region ?_
                refine vpOps_pure (x := .v (.int .i64 (((i : Nat) : Int) + 1))) (pure_add rfl rfl rfl (in64 (by omega) (by omega))) rfl rfl rfl rfl ?_
                refine vpOps_pure (x := .v (.int .i64 (((i : Nat) : Int) + 1))) (pMv rfl rfl rfl) rfl rfl rfl rfl ?_
                refine vpOps_nil ?_
                exact ⟨(i + 1, out ++ [((i : Nat) : Int)], least), (by first | omega | (dsimp only; omega)), ⟨(by omega), (by first | assumption | exact ⟨by assumption, by assumption, by omega⟩), (by first | (exfalso; omega) | exact (hnew (.inl (by assumption))).1.symm | exact (hnew (.inr (by assumption))).1.symm | exact (hold (by assumption) (by assumption)).1.symm | exact hl), (by first | (exfalso; omega) | exact (hnew (.inl (by assumption))).2.symm | exact (hnew (.inr (by assumption))).2.symm | (rw [(hold (by assumption) (by assumption)).2, if_pos (by assumption)]; done) | (rw [(hold (by assumption) (by assumption)).2, if_neg (by assumption)]; done)), (by first | omega | (simp only [List.length_append, List.length_cons, List.length_nil]; omega)), trivial⟩, ⟨rfl, rfl, rfl, rfl, rfl, rfl, rfl, rfl, rfl, rfl, rfl, trivial⟩⟩
              · skip
                refine vp_skip ?_
                refine vp_region ?_
                refine vpOps_pure (x := .v (.int .i64 (((i : Nat) : Int) + 1))) (pure_add rfl rfl rfl (in64 (by omega) (by omega))) rfl rfl rfl rfl ?_
                refine vpOps_pure (x := .v (.int .i64 (((i : Nat) : Int) + 1))) (pMv rfl rfl rfl) rfl rfl rfl rfl ?_
                refine vpOps_nil ?_
                exact ⟨(i + 1, out, least), (by first | omega | (dsimp only; omega)), ⟨(by omega), (by first | assumption | exact ⟨by assumption, by assumption, by omega⟩), (by first | (exfalso; omega) | exact (hnew (.inl (by assumption))).1.symm | exact (hnew (.inr (by assumption))).1.symm | exact (hold (by assumption) (by assumption)).1.symm | exact hl), (by first | (exfalso; omega) | exact (hnew (.inl (by assumption))).2.symm | exact (hnew (.inr (by assumption))).2.symm | (rw [(hold (by assumption) (by assumption)).2, if_pos (by assumption)]; done) | (rw [(hold (by assumption) (by assumption)).2, if_neg (by assumption)]; done)), (by first | omega | (simp only [List.length_append, List.length_cons, List.length_nil]; omega)), trivial⟩, ⟨rfl, rfl, rfl, rfl, rfl, rfl, rfl, rfl, rfl, rfl, rfl, trivial⟩⟩
        · skip
          refine vp_exit ?_
          refine vp_seq ?_
          refine vp_region ?_
          refine vpOps_pure (x := .lv 7 []) (pure_move_lv rfl) rfl rfl rfl rfl ?_
          refine vpOps_pure (x := .v (.int .i64 least)) (pMv rfl rfl rfl) rfl rfl rfl rfl ?_
          refine vpOps_ghost (ghost_own (t := 52) rfl rfl rfl rfl) ?_
          refine vpOps_assign (x := .own 1 (out.map i64c)) rfl rfl rfl rfl rfl rfl rfl ?_
          refine vpOps_pure (x := .v (.int .i64 least)) (pAs rfl rfl rfl) rfl rfl rfl rfl ?_
          refine vpOps_pure (x := .v (.int .i64 0)) (pAs rfl rfl rfl) rfl rfl rfl rfl ?_
          refine vpOps_nil ?_
          refine vp_ret ?_
          exact ⟨[.own 1 (out.map i64c), .v (.int .i64 least), .v (.int .i64 0)], [4, 5, 6], (.cons (.tmp rfl rfl) (.cons (.tmp rfl rfl) (.cons (.tmp rfl rfl) .nil))), rfl, ⟨(show (.tup [.own 1 (out.map i64c), .v (.int .i64 least), .v (.int .i64 0)] : PV) = .tup [.own 1 ((nearL d m).map i64c), .v (.int .i64 (nearD d m)), .v (.int .i64 (nearC d m))] from (by rcases near_cases d m with ⟨hz, e1, e2, e3⟩ | ⟨hz, hy, e1, e2, e3⟩ | ⟨hz, hy, e1, e2, e3⟩ <;> rw [e1, e2, e3] <;> first | rfl | (exfalso; first | omega | exact absurd hz.1 (by assumption) | exact absurd hz.2 (by assumption) | exact hz ⟨by assumption, by assumption⟩ | exact hz hg | exact hz ⟨hg.1, hg.2.1⟩ | exact hg.2.2 hy) | (rw [hl, ho, show i = d.length by omega]; unfold outI leastI; rw [if_neg hg.2.2]))), rfl⟩⟩
  · skip
    refine vPass rfl rfl rfl (not_of_f (decide_eq_false h1)) rfl rfl rfl ?_
    refine vPass rfl rfl rfl (not_of_f (decide_eq_false h1)) rfl rfl rfl ?_
    refine vPass rfl rfl rfl (not_of_f (decide_eq_false h1)) rfl rfl rfl ?_
    refine vpOps_pure (x := .v (.bool (true))) (pPt rfl rfl (not_of_f (decide_eq_false h1)) rfl rfl) rfl rfl rfl rfl ?_
    refine vpOps_nil ?_
    refine vIfT rfl rfl ?_
    refine vp_seq ?_
    refine vp_region ?_
    refine vpOps_pure (x := .v (.slice none 0 0)) (pAs rfl rfl rfl) rfl rfl rfl rfl ?_
    refine vpOps_pure (x := .v (.int .i64 0)) (pAs rfl rfl rfl) rfl rfl rfl rfl ?_
    refine vpOps_pure (x := .v (.int .i64 1)) (pAs rfl rfl rfl) rfl rfl rfl rfl ?_
    refine vpOps_nil ?_
    refine vp_ghost (ghost_nil (k := 4) (n := 1) rfl) ?_
    refine vp_ret ?_
    exact ⟨[.own 1 (([]).map i64c), .v (.int .i64 0), .v (.int .i64 1)], [4, 5, 6], (.cons (.tmp rfl rfl) (.cons (.tmp rfl rfl) (.cons (.tmp rfl rfl) .nil))), rfl, ⟨(show (.tup [.own 1 (([]).map i64c), .v (.int .i64 0), .v (.int .i64 1)] : PV) = .tup [.own 1 ((nearL d m).map i64c), .v (.int .i64 (nearD d m)), .v (.int .i64 (nearC d m))] from (by rcases near_cases d m with ⟨hz, e1, e2, e3⟩ | ⟨hz, hy, e1, e2, e3⟩ | ⟨hz, hy, e1, e2, e3⟩ <;> rw [e1, e2, e3] <;> first | rfl | (exfalso; first | omega | exact absurd hz.1 (by assumption) | exact absurd hz.2 (by assumption) | exact hz ⟨by assumption, by assumption⟩ | exact hz hg | exact hz ⟨hg.1, hg.2.1⟩ | exact hg.2.2 hy) | (rw [hl, ho, show i = d.length by omega]; unfold outI leastI; rw [if_neg hg.2.2]))), rfl⟩⟩

/-- spec.l02Ok -/
theorem c_sDeckOk {G : World → Prop} (d : List Card) (hw : ∀ c ∈ d, c.wf) (hn : d.length ≤ 9223372036854775807) : CallsV Tryd.prog G 22 [.sh 3 (d.map cardc)] (fun r outs => r = .v (.bool (decide (deckOk d))) ∧ outs = [.junk]) := by
  refine callsV_enter [] Tryd.func22 rfl rfl rfl ?_
  refine vp_seq ?_
  refine vp_region ?_
  refine vpOps_pure (x := .v (.bool (false))) (pAs rfl rfl rfl) rfl rfl rfl rfl ?_
  refine vpOps_nil ?_
  refine vp_seq ?_
  refine vp_seq ?_
  refine vp_region ?_
  refine vpOps_pure (x := .sh 3 (d.map cardc)) (pMv rfl rfl rfl) rfl rfl rfl rfl ?_
  refine vpOps_pure (x := .v (.int .i64 ((d.length : Nat) : Int))) (pLen rfl rfl (List.length_map _)) rfl rfl rfl rfl ?_
  refine vpOps_pure (x := .v (.bool (decide (80 < ((d.length : Nat) : Int))))) (pure_bin rfl rfl rfl rfl) rfl rfl rfl rfl ?_
  refine vpOps_nil ?_
  refine vIf rfl (fun h1 => ?_) (fun h1 => ?_)
  · skip
    refine vp_seq ?_
    refine vp_region ?_
    refine vpOps_pure (x := .v (.bool (false))) (pAs rfl rfl rfl) rfl rfl rfl rfl ?_
    refine vpOps_nil ?_
    refine vp_ret ?_
    exact ⟨[.v (.bool (false))], [2], (.cons (.tmp rfl rfl) .nil), rfl, ⟨(show (.v (.bool (false)) : PV) = .v (.bool (decide (deckOk d))) from (by first | exact dec_f (fun h => by have := h.1; omega) | exact dec_f (fun h => absurd (h.2 i (by omega)).1 (by assumption)) | exact dec_f (fun h => absurd (by assumption) ((h.2 i (by omega)).2 k (by omega))) | exact dec_t ⟨hd, fun j hj => hA j (by omega)⟩)), rfl⟩⟩
  · skip
    refine vp_skip ?_
    refine vp_seq ?_
    refine vp_seq ?_
    refine vp_region ?_
    refine vpOps_pure (x := .v (.int .i64 0)) (pAs rfl rfl rfl) rfl rfl rfl rfl ?_
    refine vpOps_nil ?_
    refine vp_block ?_
    refine vLoop (α := Nat) (fun i => d.length - i) (fun i => (i ≤ d.length) ∧ (d.length ≤ 80) ∧ (∀ j, j < i → cardOk (d.getD j default) ∧ ∀ k, k < j → (d.getD k default).name ≠ (d.getD j default).name) ∧ True) (fun i => [(0, .sh 3 (d.map cardc)), (3, .v (.int .i64 ((i : Nat) : Int)))]) (fun _ => rfl) (fun _ => rfl) 0 ⟨(by omega), (by omega), (by intro j hj; omega), trivial⟩ ⟨rfl, rfl, trivial⟩ ?_
    rintro i ⟨hi, hd, hA, -⟩
    refine vp_seq ?_
    refine vp_seq ?_
    refine vp_region ?_
    refine vpOps_pure (x := .v (.int .i64 ((i : Nat) : Int))) (pMv rfl rfl rfl) rfl rfl rfl rfl ?_
    refine vpOps_pure (x := .sh 3 (d.map cardc)) (pMv rfl rfl rfl) rfl rfl rfl rfl ?_
    refine vpOps_pure (x := .v (.int .i64 ((d.length : Nat) : Int))) (pLen rfl rfl (List.length_map _)) rfl rfl rfl rfl ?_
    refine vpOps_pure (x := .v (.bool (decide (((i : Nat) : Int) < ((d.length : Nat) : Int))))) (pure_bin rfl rfl rfl rfl) rfl rfl rfl rfl ?_
    refine vpOps_nil ?_
    refine vIf rfl (fun h2 => ?_) (fun h2 => ?_)
    · skip
      refine vp_skip ?_
      refine vp_seq ?_
      refine vp_block ?_
      refine vp_seq ?_
      refine vp_seq ?_
      refine vp_region ?_
      refine vpOps_pure (x := .sh 3 (d.map cardc)) (pMv rfl rfl rfl) rfl rfl rfl rfl ?_
      refine vpOps_pure (x := .v (.int .i64 ((i : Nat) : Int))) (pMv rfl rfl rfl) rfl rfl rfl rfl ?_
      refine vpOps_pure (x := .rbox [.v (.string ((d.getD i default).name)), .v (.int .u64 (((((d.getD i default).notches).a : Nat) : Int))), .v (.int .u64 (((((d.getD i default).notches).b : Nat) : Int)))]) (pIx (m := i) rfl rfl rfl (by first | rfl | omega) (by omega) rfl) rfl rfl rfl rfl ?_
      refine vpOps_call (gs := [⟨.tmp 16, .rbox [.v (.string ((d.getD i default).name)), .v (.int .u64 (((((d.getD i default).notches).a : Nat) : Int))), .v (.int .u64 (((((d.getD i default).notches).b : Nat) : Int)))], none, none⟩]) (c_sCardOk (d.getD i default) (by first | assumption | omega | exact card_wf_getD hw _)) rfl rfl rfl rfl rfl trivial (by kernel_rfl) rfl rfl (gives_cons (gC rfl rfl) gives_nil) rfl (fun _ _ _ => .inl rfl) ?_
      rintro _ _ ⟨rfl, rfl⟩
      refine vpOps_pure (x := .v (.bool (!decide (cardOk (d.getD i default))))) (pure_not rfl rfl) rfl rfl rfl rfl ?_
      refine vpOps_nil ?_
      refine vIfN rfl (fun h3 => ?_) (fun h3 => ?_)
      · skip
        refine vp_seq ?_
        refine vp_region ?_
        refine vpOps_pure (x := .v (.bool (false))) (pAs rfl rfl rfl) rfl rfl rfl rfl ?_
        refine vpOps_nil ?_
        refine vp_ret ?_
        exact ⟨[.v (.bool (false))], [2], (.cons (.tmp rfl rfl) .nil), rfl, ⟨(show (.v (.bool (false)) : PV) = .v (.bool (decide (deckOk d))) from (by first | exact dec_f (fun h => by have := h.1; omega) | exact dec_f (fun h => absurd (h.2 i (by omega)).1 (by assumption)) | exact dec_f (fun h => absurd (by assumption) ((h.2 i (by omega)).2 k (by omega))) | exact dec_t ⟨hd, fun j hj => hA j (by omega)⟩)), rfl⟩⟩
      · skip
        refine vp_skip ?_
        refine vp_seq ?_
        refine vp_region ?_
        refine vpOps_pure (x := .v (.int .i64 0)) (pAs rfl rfl rfl) rfl rfl rfl rfl ?_
        refine vpOps_nil ?_
        refine vp_block ?_
        refine vLoop (α := Nat) (fun k => i - k) (fun k => (k ≤ i) ∧ (∀ m, m < k → (d.getD m default).name ≠ (d.getD i default).name) ∧ True) (fun k => [(0, .sh 3 (d.map cardc)), (3, .v (.int .i64 ((i : Nat) : Int))), (4, .v (.int .i64 ((k : Nat) : Int)))]) (fun _ => rfl) (fun _ => rfl) 0 ⟨(by omega), (by intro m hm; omega), trivial⟩ ⟨rfl, rfl, rfl, trivial⟩ ?_
        rintro k ⟨hk, hB, -⟩
        refine vp_seq ?_
        refine vp_seq ?_
        refine vp_region ?_
        refine vpOps_pure (x := .v (.int .i64 ((k : Nat) : Int))) (pMv rfl rfl rfl) rfl rfl rfl rfl ?_
        refine vpOps_pure (x := .v (.int .i64 ((i : Nat) : Int))) (pMv rfl rfl rfl) rfl rfl rfl rfl ?_
        refine vpOps_pure (x := .v (.bool (decide (((k : Nat) : Int) < ((i : Nat) : Int))))) (pure_bin rfl rfl rfl rfl) rfl rfl rfl rfl ?_
        refine vpOps_nil ?_
        refine vIf rfl (fun h4 => ?_) (fun h4 => ?_)
        · skip
          refine vp_skip ?_
          refine vp_seq ?_
          refine vp_block ?_
          refine vp_seq ?_
          refine vRegD 11 ((24, .sh 3 (d.map cardc)) :: (25, .v (.int .i64 ((k : Nat) : Int))) :: (26, .rbox [.v (.string ((d.getD k default).name)), .v (.int .u64 (((((d.getD k default).notches).a : Nat) : Int))), .v (.int .u64 (((((d.getD k default).notches).b : Nat) : Int)))]) :: (27, .rbox [.v (.string ((d.getD k default).name)), .v (.int .u64 (((((d.getD k default).notches).a : Nat) : Int))), .v (.int .u64 (((((d.getD k default).notches).b : Nat) : Int)))]) :: (28, .v (.string ((d.getD k default).name))) :: (29, .sh 3 (d.map cardc)) :: (30, .v (.int .i64 ((i : Nat) : Int))) :: (31, .rbox [.v (.string ((d.getD i default).name)), .v (.int .u64 (((((d.getD i default).notches).a : Nat) : Int))), .v (.int .u64 (((((d.getD i default).notches).b : Nat) : Int)))]) :: (32, .rbox [.v (.string ((d.getD i default).name)), .v (.int .u64 (((((d.getD i default).notches).a : Nat) : Int))), .v (.int .u64 (((((d.getD i default).notches).b : Nat) : Int)))]) :: (33, .v (.string ((d.getD i default).name))) :: (34, .v (.bool (decide (((d.getD k default).name) = ((d.getD i default).name))))) :: []) (0 :: 0 :: 3 :: 7 :: 15 :: 0 :: 0 :: 96 :: 224 :: 480 :: 1023 :: []) (by kernel_rfl) rfl (by kernel_rfl) (by kernel_rfl) (by kernel_rfl) (by kernel_rfl) (by kernel_rfl) ⟨
              dPure rfl (pMv rfl rfl rfl),
              dPure rfl (pMv rfl rfl rfl),
              dPure rfl (pIx (m := k) rfl rfl rfl (by first | rfl | omega) (by omega) rfl),
              dPure rfl (pure_field_rbox rfl rfl rfl rfl),
              dPure rfl (pure_load_rbox rfl rfl rfl),
              dPure rfl (pMv rfl rfl rfl),
              dPure rfl (pMv rfl rfl rfl),
              dPure rfl (pIx (m := i) rfl rfl rfl (by first | rfl | omega) (by omega) rfl),
              dPure rfl (pure_field_rbox rfl rfl rfl rfl),
              dPure rfl (pure_load_rbox rfl rfl rfl),
              dPure rfl (pure_str_eq rfl rfl rfl),
              trivial⟩ ?_
          refine vpOps_nil ?_
          refine vIf rfl (fun h5 => ?_) (fun h5 => ?_)
          · skip
            refine vp_seq ?_
            refine vp_region ?_
            refine vpOps_pure (x := .v (.bool (false))) (pAs rfl rfl rfl) rfl rfl rfl rfl ?_
            refine vpOps_nil ?_
            refine vp_ret ?_
            exact ⟨[.v (.bool (false))], [2], (.cons (.tmp rfl rfl) .nil), rfl, ⟨(show (.v (.bool (false)) : PV) = .v (.bool (decide (deckOk d))) from (by first | exact dec_f (fun h => by have := h.1; omega) | exact dec_f (fun h => absurd (h.2 i (by omega)).1 (by assumption)) | exact dec_f (fun h => absurd (by assumption) ((h.2 i (by omega)).2 k (by omega))) | exact dec_t ⟨hd, fun j hj => hA j (by omega)⟩)), rfl⟩⟩
          · skip
            refine vp_skip ?_
            refine vp_region ?_
            refine vpOps_pure (x := .v (.int .i64 ((k : Nat) : Int))) (pMv rfl rfl rfl) rfl rfl rfl rfl ?_
            refine vpOps_pure (x := .v (.int .i64 (((k : Nat) : Int) + 1))) (pure_add rfl rfl rfl (in64 (by omega) (by omega))) rfl rfl rfl rfl ?_
            refine vpOps_pure (x := .v (.int .i64 (((k : Nat) : Int) + 1))) (pAs rfl rfl rfl) rfl rfl rfl rfl ?_
            refine vpOps_nil ?_
            exact ⟨k + 1, (by first | omega | (dsimp only; omega)), ⟨(by omega), (by intro m hm; rcases Nat.lt_or_ge m k with h | h; exact hB m h; rw [show m = k by omega]; assumption), trivial⟩, ⟨rfl, rfl, rfl, trivial⟩⟩
        · skip
          refine vp_exit ?_
          refine vp_region ?_
          refine vpOps_pure (x := .v (.int .i64 ((i : Nat) : Int))) (pMv rfl rfl rfl) rfl rfl rfl rfl ?_
          refine vpOps_pure (x := .v (.int .i64 (((i : Nat) : Int) + 1))) (pure_add rfl rfl rfl (in64 (by omega) (by omega))) rfl rfl rfl rfl ?_
          refine vpOps_pure (x := .v (.int .i64 (((i : Nat) : Int) + 1))) (pAs rfl rfl rfl) rfl rfl rfl rfl ?_
          refine vpOps_nil ?_
          exact ⟨i + 1, (by first | omega | (dsimp only; omega)), ⟨(by omega), (by omega), (by intro j hj; rcases Nat.lt_or_ge j i with hji | hji; exact hA j hji; rw [show j = i by omega]; exact ⟨by assumption, fun k hk => hB k (by omega)⟩), trivial⟩, ⟨rfl, rfl, trivial⟩⟩
    · skip
      refine vp_exit ?_
      refine vp_seq ?_
      refine vp_region ?_
      refine vpOps_pure (x := .v (.bool (true))) (pAs rfl rfl rfl) rfl rfl rfl rfl ?_
      refine vpOps_nil ?_
      refine vp_ret ?_
      exact ⟨[.v (.bool (true))], [2], (.cons (.tmp rfl rfl) .nil), rfl, ⟨(show (.v (.bool (true)) : PV) = .v (.bool (decide (deckOk d))) from (by first | exact dec_f (fun h => by have := h.1; omega) | exact dec_f (fun h => absurd (h.2 i (by omega)).1 (by assumption)) | exact dec_f (fun h => absurd (by assumption) ((h.2 i (by omega)).2 k (by omega))) | exact dec_t ⟨hd, fun j hj => hA j (by omega)⟩)), rfl⟩⟩

end Go.Vr
/- Walks of the functions that the law reaches: what each gives, by value. -/
namespace Go.Vr
open Go Go.Proofs
set_option linter.unusedVariables false
set_option linter.unusedSimpArgs false
set_option maxRecDepth 8000

/-- spec.NearestCards -/
theorem c_sNearestCards {G : World → Prop} (d : List Card) (m : Mask) (hw : ∀ c ∈ d, c.wf) (hn : d.length ≤ 9223372036854775807) (hm : m.wf) : CallsV Tryd.prog G 10 [.sh 3 (d.map cardc), .agg [.v (.int .u64 ((m.a : Nat) : Int)), .v (.int .u64 ((m.b : Nat) : Int))]] (fun r outs => r = .tup [.own 1 ((nearL d m).map i64c), .v (.int .i64 (nearD d m)), .v (.int .i64 (nearC d m))] ∧ outs = [.junk, .junk]) := by
  refine callsV_enter [] Tryd.func10 rfl rfl rfl ?_
  refine vp_seq ?_
  refine vp_region ?_
  refine vpOps_pure (x := .box [.v (.int .u64 ((m.a : Nat) : Int)), .v (.int .u64 ((m.b : Nat) : Int))]) (pure_box rfl rfl (mvOk_flat _ rfl) rfl rfl) rfl rfl rfl rfl ?_
  refine vpOps_pure (x := .v (.slice none 0 0)) (pAs rfl rfl rfl) rfl rfl rfl rfl ?_
  refine vpOps_pure (x := .v (.int .i64 0)) (pAs rfl rfl rfl) rfl rfl rfl rfl ?_
  refine vpOps_pure (x := .v (.int .i64 0)) (pAs rfl rfl rfl) rfl rfl rfl rfl ?_
  refine vpOps_nil ?_
  refine vp_seq ?_
  refine vp_seq ?_
  refine vp_region ?_
  refine vpOps_pure (x := .sh 3 (d.map cardc)) (pMv rfl rfl rfl) rfl rfl rfl rfl ?_
  refine vpOps_call (gs := [⟨.tmp 11, .sh 3 (d.map cardc), none, none⟩]) (c_sDeckOk d (by first | assumption | omega | exact (card_wf_getD hw _).m) (by first | assumption | omega | exact (card_wf_getD hw _).m)) rfl rfl rfl rfl rfl trivial (by kernel_rfl) rfl rfl (gives_cons (gC rfl rfl) gives_nil) rfl (fun _ _ _ => .inl rfl) ?_
  rintro _ _ ⟨rfl, rfl⟩
  refine vpOps_pure (x := .v (.bool (!decide (deckOk d)))) (pure_not rfl rfl) rfl rfl rfl rfl ?_
  refine vpOps_pure (x := .v (.bool (!decide (deckOk d)))) (pMv rfl rfl rfl) rfl rfl rfl rfl ?_
  by_cases h1 : deckOk d
  · skip
    refine vRun rfl rfl rfl (not_of_t (decide_eq_true h1)) rfl rfl rfl ?_
    refine vpOps_pure (x := .agg [.v (.int .u64 ((m.a : Nat) : Int)), .v (.int .u64 ((m.b : Nat) : Int))]) (pure_load_pl_agg rfl rfl rfl rfl rfl rfl rfl rfl (by simp [PV.flatL, PV.flat])) rfl rfl rfl rfl ?_
    refine vRun rfl rfl rfl (not_of_t (decide_eq_true h1)) rfl rfl rfl ?_
    refine vpOps_call (gs := [⟨.tmp 15, .agg [.v (.int .u64 ((m.a : Nat) : Int)), .v (.int .u64 ((m.b : Nat) : Int))], none, none⟩]) (c_sMask m (by first | assumption | omega | exact (card_wf_getD hw _).m)) rfl rfl rfl rfl rfl trivial (by kernel_rfl) rfl rfl (gives_cons (gC rfl rfl) gives_nil) rfl (fun _ _ _ => .inl rfl) ?_
    rintro _ _ ⟨rfl, rfl⟩
    refine vRun rfl rfl rfl (not_of_t (decide_eq_true h1)) rfl rfl rfl ?_
    refine vpOps_pure (x := .v (.bool (!decide (maskOk m)))) (pure_not rfl rfl) rfl rfl rfl rfl ?_
    refine vpOps_pure (x := .v (.bool (!decide (maskOk m)))) (pPf rfl rfl (not_of_t (decide_eq_true h1)) rfl rfl) rfl rfl rfl rfl ?_
    refine vpOps_nil ?_
    refine vIfN rfl (fun h2 => ?_) (fun h2 => ?_)
    · skip
      refine vp_seq ?_
      refine vp_region ?_
      refine vpOps_pure (x := .own 1 []) (pBs (cs := []) rfl rfl rfl rfl rfl rfl rfl) rfl rfl rfl rfl ?_
      refine vpOps_assign (x := .own 1 []) rfl rfl rfl rfl rfl rfl rfl ?_
      refine vpOps_pure (x := .v (.int .i64 0)) (pAs rfl rfl rfl) rfl rfl rfl rfl ?_
      refine vpOps_pure (x := .v (.int .i64 1)) (pAs rfl rfl rfl) rfl rfl rfl rfl ?_
      refine vpOps_nil ?_
      refine vp_ret ?_
      exact ⟨[.own 1 [], .v (.int .i64 0), .v (.int .i64 1)], [4, 5, 6], (.cons (.tmp rfl rfl) (.cons (.tmp rfl rfl) (.cons (.tmp rfl rfl) .nil))), rfl, ⟨(show (.tup [.own 1 [], .v (.int .i64 0), .v (.int .i64 1)] : PV) = .tup [.own 1 ((nearL d m).map i64c), .v (.int .i64 (nearD d m)), .v (.int .i64 (nearC d m))] from (by rcases near_cases d m with ⟨hz, e1, e2, e3⟩ | ⟨hz, hy, e1, e2, e3⟩ | ⟨hz, hy, e1, e2, e3⟩ <;> rw [e1, e2, e3] <;> first | rfl | (exfalso; first | omega | exact absurd hz.1 (by assumption) | exact absurd hz.2 (by assumption) | exact hz ⟨by assumption, by assumption⟩ | exact hz hg | exact hz ⟨hg.1, hg.2.1⟩ | exact hg.2.2 hy) | (rw [ho, hl, show j = d.length by omega, show i = d.length by omega]))), rfl⟩⟩
    · skip
      refine vp_skip ?_
      refine vp_seq ?_
      refine vp_seq ?_
      refine vp_region ?_
      refine vpOps_pure (x := .sh 3 (d.map cardc)) (pMv rfl rfl rfl) rfl rfl rfl rfl ?_
      refine vpOps_pure (x := .v (.int .i64 ((d.length : Nat) : Int))) (pLen rfl rfl (List.length_map _)) rfl rfl rfl rfl ?_
      refine vpOps_pure (x := .v (.bool (decide (((d.length : Nat) : Int) = 0)))) (pure_bin rfl rfl rfl rfl) rfl rfl rfl rfl ?_
      refine vpOps_nil ?_
      refine vIf rfl (fun h3 => ?_) (fun h3 => ?_)
      · skip
        refine vp_seq ?_
        refine vp_region ?_
        refine vpOps_pure (x := .own 1 []) (pBs (cs := []) rfl rfl rfl rfl rfl rfl rfl) rfl rfl rfl rfl ?_
        refine vpOps_assign (x := .own 1 []) rfl rfl rfl rfl rfl rfl rfl ?_
        refine vpOps_pure (x := .v (.int .i64 0)) (pAs rfl rfl rfl) rfl rfl rfl rfl ?_
        refine vpOps_pure (x := .v (.int .i64 6)) (pAs rfl rfl rfl) rfl rfl rfl rfl ?_
        refine vpOps_nil ?_
        refine vp_ret ?_
        exact ⟨[.own 1 [], .v (.int .i64 0), .v (.int .i64 6)], [4, 5, 6], (.cons (.tmp rfl rfl) (.cons (.tmp rfl rfl) (.cons (.tmp rfl rfl) .nil))), rfl, ⟨(show (.tup [.own 1 [], .v (.int .i64 0), .v (.int .i64 6)] : PV) = .tup [.own 1 ((nearL d m).map i64c), .v (.int .i64 (nearD d m)), .v (.int .i64 (nearC d m))] from (by rcases near_cases d m with ⟨hz, e1, e2, e3⟩ | ⟨hz, hy, e1, e2, e3⟩ | ⟨hz, hy, e1, e2, e3⟩ <;> rw [e1, e2, e3] <;> first | rfl | (exfalso; first | omega | exact absurd hz.1 (by assumption) | exact absurd hz.2 (by assumption) | exact hz ⟨by assumption, by assumption⟩ | exact hz hg | exact hz ⟨hg.1, hg.2.1⟩ | exact hg.2.2 hy) | (rw [ho, hl, show j = d.length by omega, show i = d.length by omega]))), rfl⟩⟩
      · skip
        refine vp_skip ?_
        refine vp_seq ?_
        refine vRegD 6 ((24, .sh 3 (d.map cardc)) :: (25, .rbox [.v (.string ((d.getD 0 default).name)), .v (.int .u64 (((((d.getD 0 default).notches).a : Nat) : Int))), .v (.int .u64 (((((d.getD 0 default).notches).b : Nat) : Int)))]) :: (26, .rbox [.v (.int .u64 (((((d.getD 0 default).notches).a : Nat) : Int))), .v (.int .u64 (((((d.getD 0 default).notches).b : Nat) : Int)))]) :: (27, .agg [.v (.int .u64 (((((d.getD 0 default).notches).a : Nat) : Int))), .v (.int .u64 (((((d.getD 0 default).notches).b : Nat) : Int)))]) :: (28, .agg [.v (.int .u64 ((m.a : Nat) : Int)), .v (.int .u64 ((m.b : Nat) : Int))]) :: (29, .v (.int .i64 ((((farM ((d.getD 0 default).notches) m) : Nat) : Int)))) :: []) (0 :: 1 :: 3 :: 7 :: 0 :: 31 :: 63 :: []) (by kernel_rfl) rfl (by kernel_rfl) (by kernel_rfl) (by kernel_rfl) (by kernel_rfl) (by kernel_rfl) ⟨
            dPure rfl (pMv rfl rfl rfl),
            dPure rfl (pIx (m := 0) rfl rfl rfl (by first | rfl | omega) (by omega) rfl),
            dPure rfl (pure_field_rbox rfl rfl rfl rfl),
            dPure rfl (pure_load_rbox_agg rfl rfl rfl rfl rfl),
            dPure rfl (pure_load_pl_agg rfl rfl rfl rfl rfl rfl rfl rfl (by simp [PV.flatL, PV.flat])),
            dPure rfl (pure_call (gs := [⟨.tmp 27, .agg [.v (.int .u64 (((((d.getD 0 default).notches).a : Nat) : Int))), .v (.int .u64 (((((d.getD 0 default).notches).b : Nat) : Int)))], none, none⟩, ⟨.tmp 28, .agg [.v (.int .u64 ((m.a : Nat) : Int)), .v (.int .u64 ((m.b : Nat) : Int))], none, none⟩]) (c_sFar ((d.getD 0 default).notches) m (by first | assumption | omega | exact (card_wf_getD hw _).m) (by first | assumption | omega | exact (card_wf_getD hw _).m)) rfl rfl trivial (by kernel_rfl) rfl rfl (gives_cons (gC rfl rfl) (gives_cons (gC rfl rfl) gives_nil)) rfl (fun _ _ h => h.1) trivial),
            trivial⟩ ?_
        refine vpOps_pure (x := .v (.int .i64 ((((farM ((d.getD 0 default).notches) m) : Nat) : Int)))) (pAs rfl rfl rfl) rfl rfl rfl rfl ?_
        refine vpOps_nil ?_
        refine vp_seq ?_
        refine vp_seq ?_
        refine vp_region ?_
        refine vpOps_pure (x := .v (.int .i64 1)) (pAs rfl rfl rfl) rfl rfl rfl rfl ?_
        refine vpOps_nil ?_
        refine vp_block ?_
        refine vLoop (α := Nat × Int) (fun (i, least) => d.length - i) (fun (i, least) => (1 ≤ i ∧ i ≤ d.length) ∧ (deckOk d ∧ maskOk m) ∧ (least = minTo (distF d m) (i - 1)) ∧ True) (fun (i, least) => [(0, .sh 3 (d.map cardc)), (1, .agg [.v (.int .u64 ((m.a : Nat) : Int)), .v (.int .u64 ((m.b : Nat) : Int))]), (3, .box [.v (.int .u64 ((m.a : Nat) : Int)), .v (.int .u64 ((m.b : Nat) : Int))]), (4, .v (.slice none 0 0)), (5, .v (.int .i64 0)), (6, .v (.int .i64 0)), (7, .v (.int .i64 least)), (8, .v (.int .i64 ((i : Nat) : Int)))]) (fun ⟨_, _⟩ => rfl) (fun ⟨_, _⟩ => rfl) (1, ↑(farM ((d.getD 0 default).notches) m)) ⟨(by omega), (by first | assumption | exact ⟨by assumption, by assumption⟩), (by rfl), trivial⟩ ⟨rfl, rfl, rfl, rfl, rfl, rfl, rfl, rfl, trivial⟩ ?_
        rintro ⟨i, least⟩ ⟨hi, hg, hl, -⟩
        have hdl := hg.1.1
        have hdi : distF d m i = ((farM (d.getD i default).notches m : Nat) : Int) := rfl
        refine vp_seq ?_
        refine vp_seq ?_
        refine vp_region ?_
        refine vpOps_pure (x := .v (.int .i64 ((i : Nat) : Int))) (pMv rfl rfl rfl) rfl rfl rfl rfl ?_
        refine vpOps_pure (x := .sh 3 (d.map cardc)) (pMv rfl rfl rfl) rfl rfl rfl rfl ?_
        refine vpOps_pure (x := .v (.int .i64 ((d.length : Nat) : Int))) (pLen rfl rfl (List.length_map _)) rfl rfl rfl rfl ?_
        refine vpOps_pure (x := .v (.bool (decide (((i : Nat) : Int) < ((d.length : Nat) : Int))))) (pure_bin rfl rfl rfl rfl) rfl rfl rfl rfl ?_
        refine vpOps_nil ?_
        refine vIf rfl (fun h4 => ?_) (fun h4 => ?_)
        · skip
          refine vp_skip ?_
          refine vp_seq ?_
          refine vp_block ?_
          refine vRegD 9 ((36, .v (.int .i64 least)) :: (37, .sh 3 (d.map cardc)) :: (38, .v (.int .i64 ((i : Nat) : Int))) :: (39, .rbox [.v (.string ((d.getD i default).name)), .v (.int .u64 (((((d.getD i default).notches).a : Nat) : Int))), .v (.int .u64 (((((d.getD i default).notches).b : Nat) : Int)))]) :: (40, .rbox [.v (.int .u64 (((((d.getD i default).notches).a : Nat) : Int))), .v (.int .u64 (((((d.getD i default).notches).b : Nat) : Int)))]) :: (41, .agg [.v (.int .u64 (((((d.getD i default).notches).a : Nat) : Int))), .v (.int .u64 (((((d.getD i default).notches).b : Nat) : Int)))]) :: (42, .agg [.v (.int .u64 ((m.a : Nat) : Int)), .v (.int .u64 ((m.b : Nat) : Int))]) :: (43, .v (.int .i64 ((((farM ((d.getD i default).notches) m) : Nat) : Int)))) :: (44, .v (.int .i64 (if least < ((((farM ((d.getD i default).notches) m) : Nat) : Int)) then least else ((((farM ((d.getD i default).notches) m) : Nat) : Int))))) :: []) (0 :: 0 :: 0 :: 6 :: 14 :: 30 :: 0 :: 126 :: 255 :: 511 :: []) (by kernel_rfl) rfl (by kernel_rfl) (by kernel_rfl) (by kernel_rfl) (by kernel_rfl) (by kernel_rfl) ⟨
              dPure rfl (pMv rfl rfl rfl),
              dPure rfl (pMv rfl rfl rfl),
              dPure rfl (pMv rfl rfl rfl),
              dPure rfl (pIx (m := i) rfl rfl rfl (by first | rfl | omega) (by omega) rfl),
              dPure rfl (pure_field_rbox rfl rfl rfl rfl),
              dPure rfl (pure_load_rbox_agg rfl rfl rfl rfl rfl),
              dPure rfl (pure_load_pl_agg rfl rfl rfl rfl rfl rfl rfl rfl (by simp [PV.flatL, PV.flat])),
              dPure rfl (pure_call (gs := [⟨.tmp 41, .agg [.v (.int .u64 (((((d.getD i default).notches).a : Nat) : Int))), .v (.int .u64 (((((d.getD i default).notches).b : Nat) : Int)))], none, none⟩, ⟨.tmp 42, .agg [.v (.int .u64 ((m.a : Nat) : Int)), .v (.int .u64 ((m.b : Nat) : Int))], none, none⟩]) (c_sFar ((d.getD i default).notches) m (by first | assumption | omega | exact (card_wf_getD hw _).m) (by first | assumption | omega | exact (card_wf_getD hw _).m)) rfl rfl trivial (by kernel_rfl) rfl rfl (gives_cons (gC rfl rfl) (gives_cons (gC rfl rfl) gives_nil)) rfl (fun _ _ h => h.1) trivial),
              dPure rfl (pure_call (gs := [⟨.tmp 36, .v (.int .i64 least), none, none⟩, ⟨.tmp 43, .v (.int .i64 ((((farM ((d.getD i default).notches) m) : Nat) : Int))), none, none⟩]) (c_l00Min least ((((farM ((d.getD i default).notches) m) : Nat) : Int)) ) rfl rfl trivial (by kernel_rfl) rfl rfl (gives_cons (gC rfl rfl) (gives_cons (gC rfl rfl) gives_nil)) rfl (fun _ _ h => h.1) trivial),
              trivial⟩ ?_
          refine vpOps_pure (x := .v (.int .i64 (if least < ((((farM ((d.getD i default).notches) m) : Nat) : Int)) then least else ((((farM ((d.getD i default).notches) m) : Nat) : Int))))) (pAs rfl rfl rfl) rfl rfl rfl rfl ?_
          refine vpOps_nil ?_
          refine vp_region ?_
          refine vpOps_pure (x := .v (.int .i64 ((i : Nat) : Int))) (pMv rfl rfl rfl) rfl rfl rfl rfl ?_
          refine vpOps_pure (x := .v (.int .i64 (((i : Nat) : Int) + 1))) (pure_add rfl rfl rfl (in64 (by omega) (by omega))) rfl rfl rfl rfl ?_
          refine vpOps_pure (x := .v (.int .i64 (((i : Nat) : Int) + 1))) (pAs rfl rfl rfl) rfl rfl rfl rfl ?_
          refine vpOps_nil ?_
          exact ⟨(i + 1, if least < (↑(farM ((d.getD i default).notches) m)) then least else (↑(farM ((d.getD i default).notches) m))), (by first | omega | (dsimp only; omega)), ⟨(by omega), (by first | assumption | exact ⟨by assumption, by assumption⟩), (by rw [Nat.add_sub_cancel, hl]; obtain ⟨n, hn⟩ : ∃ n, i = n + 1 := ⟨i - 1, by omega⟩; subst hn; rfl), trivial⟩, ⟨rfl, rfl, rfl, rfl, rfl, rfl, rfl, rfl, trivial⟩⟩
        · skip
          refine vp_exit ?_
          refine vp_seq ?_
          refine vp_region ?_
          refine vpOps_pure (x := .own 1 []) (pBs (cs := []) rfl rfl rfl rfl rfl rfl rfl) rfl rfl rfl rfl ?_
          refine vpOps_assign (x := .own 1 []) rfl rfl rfl rfl rfl rfl rfl ?_
          refine vpOps_nil ?_
          refine vp_seq ?_
          refine vp_seq ?_
          refine vp_region ?_
          refine vpOps_pure (x := .v (.int .i64 0)) (pAs rfl rfl rfl) rfl rfl rfl rfl ?_
          refine vpOps_nil ?_
          refine vp_block ?_
          refine vLoop (α := Nat × List Int) (fun (j, out) => d.length - j) (fun (j, out) => (j ≤ d.length) ∧ (out = idxTo (distF d m) least j) ∧ (out.length ≤ j) ∧ True) (fun (j, out) => [(0, .sh 3 (d.map cardc)), (1, .agg [.v (.int .u64 ((m.a : Nat) : Int)), .v (.int .u64 ((m.b : Nat) : Int))]), (3, .box [.v (.int .u64 ((m.a : Nat) : Int)), .v (.int .u64 ((m.b : Nat) : Int))]), (4, .v (.slice none 0 0)), (5, .v (.int .i64 0)), (6, .v (.int .i64 0)), (7, .v (.int .i64 least)), (8, .v (.int .i64 ((i : Nat) : Int))), (9, .own 1 (out.map i64c)), (10, .v (.int .i64 ((j : Nat) : Int)))]) (fun ⟨_, _⟩ => rfl) (fun ⟨_, _⟩ => rfl) (0, []) ⟨(by omega), (by rfl), (by exact Nat.zero_le _), trivial⟩ ⟨rfl, rfl, rfl, rfl, rfl, rfl, rfl, rfl, rfl, rfl, trivial⟩ ?_
          rintro ⟨j, out⟩ ⟨hj, ho, hol, -⟩
          have hdj : distF d m j = ((farM (d.getD j default).notches m : Nat) : Int) := rfl
          refine vp_seq ?_
          refine vp_seq ?_
          refine vp_region ?_
          refine vpOps_pure (x := .v (.int .i64 ((j : Nat) : Int))) (pMv rfl rfl rfl) rfl rfl rfl rfl ?_
          refine vpOps_pure (x := .sh 3 (d.map cardc)) (pMv rfl rfl rfl) rfl rfl rfl rfl ?_
          refine vpOps_pure (x := .v (.int .i64 ((d.length : Nat) : Int))) (pLen rfl rfl (List.length_map _)) rfl rfl rfl rfl ?_
          refine vpOps_pure (x := .v (.bool (decide (((j : Nat) : Int) < ((d.length : Nat) : Int))))) (pure_bin rfl rfl rfl rfl) rfl rfl rfl rfl ?_
          refine vpOps_nil ?_
          refine vIf rfl (fun h5 => ?_) (fun h5 => ?_)
          · skip
            refine vp_skip ?_
            refine vp_seq ?_
            refine vp_block ?_
            refine vp_seq ?_
            refine vRegD 9 ((52, .sh 3 (d.map cardc)) :: (53, .v (.int .i64 ((j : Nat) : Int))) :: (54, .rbox [.v (.string ((d.getD j default).name)), .v (.int .u64 (((((d.getD j default).notches).a : Nat) : Int))), .v (.int .u64 (((((d.getD j default).notches).b : Nat) : Int)))]) :: (55, .rbox [.v (.int .u64 (((((d.getD j default).notches).a : Nat) : Int))), .v (.int .u64 (((((d.getD j default).notches).b : Nat) : Int)))]) :: (56, .agg [.v (.int .u64 (((((d.getD j default).notches).a : Nat) : Int))), .v (.int .u64 (((((d.getD j default).notches).b : Nat) : Int)))]) :: (57, .agg [.v (.int .u64 ((m.a : Nat) : Int)), .v (.int .u64 ((m.b : Nat) : Int))]) :: (58, .v (.int .i64 ((((farM ((d.getD j default).notches) m) : Nat) : Int)))) :: (59, .v (.int .i64 least)) :: (60, .v (.bool (decide (((((farM ((d.getD j default).notches) m) : Nat) : Int)) = least)))) :: []) (0 :: 0 :: 3 :: 7 :: 15 :: 0 :: 63 :: 0 :: 255 :: []) (by kernel_rfl) rfl (by kernel_rfl) (by kernel_rfl) (by kernel_rfl) (by kernel_rfl) (by kernel_rfl) ⟨
                dPure rfl (pMv rfl rfl rfl),
                dPure rfl (pMv rfl rfl rfl),
                dPure rfl (pIx (m := j) rfl rfl rfl (by first | rfl | omega) (by omega) rfl),
                dPure rfl (pure_field_rbox rfl rfl rfl rfl),
                dPure rfl (pure_load_rbox_agg rfl rfl rfl rfl rfl),
                dPure rfl (pure_load_pl_agg rfl rfl rfl rfl rfl rfl rfl rfl (by simp [PV.flatL, PV.flat])),
                dPure rfl (pure_call (gs := [⟨.tmp 56, .agg [.v (.int .u64 (((((d.getD j default).notches).a : Nat) : Int))), .v (.int .u64 (((((d.getD j default).notches).b : Nat) : Int)))], none, none⟩, ⟨.tmp 57, .agg [.v (.int .u64 ((m.a : Nat) : Int)), .v (.int .u64 ((m.b : Nat) : Int))], none, none⟩]) (c_sFar ((d.getD j default).notches) m (by first | assumption | omega | exact (card_wf_getD hw _).m) (by first | assumption | omega | exact (card_wf_getD hw _).m)) rfl rfl trivial (by kernel_rfl) rfl rfl (gives_cons (gC rfl rfl) (gives_cons (gC rfl rfl) gives_nil)) rfl (fun _ _ h => h.1) trivial),
                dPure rfl (pMv rfl rfl rfl),
                dPure rfl (pure_bin rfl rfl rfl rfl),
                trivial⟩ ?_
            refine vpOps_nil ?_
            refine vIf rfl (fun h6 => ?_) (fun h6 => ?_)
            · skip
              refine vp_region ?_
              refine vpOps_pure (x := .lv 9 []) (pure_move_lv rfl) rfl rfl rfl rfl ?_
              refine vpOps_pure (x := .v (.int .i64 ((j : Nat) : Int))) (pMv rfl rfl rfl) rfl rfl rfl rfl ?_
              refine vpOps_pure (x := .own 1 [[.v (.int .i64 ((j : Nat) : Int))]]) (pBs (cs := [.v (.int .i64 ((j : Nat) : Int))]) rfl rfl rfl rfl rfl rfl rfl) rfl rfl rfl rfl ?_
              refine vpOps_ghost (ghost_own (t := 61) rfl rfl rfl rfl) ?_
              refine vApp (f := i64c) (xs := out) (ys := [((j : Nat) : Int)]) (l := 1) rfl rfl rfl rfl rfl (srcOwn rfl rfl (fun _ => mvOkL_flat _ rfl)) rfl rfl (fun _ => rfl) (.inl ⟨_, rfl⟩) rfl rfl rfl (rfl) (by omega) (by omega) ?_
              refine vpOps_assign (x := .own 1 ((out ++ [((j : Nat) : Int)]).map i64c)) rfl rfl rfl rfl rfl rfl rfl ?_
              refine vpOps_nil ?_
              refine vp_region ?_
              refine vpOps_pure (x := .v (.int .i64 ((j : Nat) : Int))) (pMv rfl rfl rfl) rfl rfl rfl rfl ?_
              refine vpOps_pure (x := .v (.int .i64 (((j : Nat) : Int) + 1))) (pure_add rfl rfl rfl (in64 (by omega) (by omega))) rfl rfl rfl rfl ?_
              refine vpOps_pure (x := .v (.int .i64 (((j : Nat) : Int) + 1))) (pAs rfl rfl rfl) rfl rfl rfl rfl ?_
              refine vpOps_nil ?_
              exact ⟨(j + 1, out ++ [((j : Nat) : Int)]), (by first | omega | (dsimp only; omega)), ⟨(by omega), (by rw [idxTo, hdj, ← ho]; first | (rw [if_pos (by assumption)]; done) | (rw [if_neg (by assumption)]; done)), (by first | omega | (simp only [List.length_append, List.length_cons, List.length_nil]; omega)), trivial⟩, ⟨rfl, rfl, rfl, rfl, rfl, rfl, rfl, rfl, rfl, rfl, trivial⟩⟩
            · skip
              refine vp_skip ?_
              refine vp_region ?_
              refine vpOps_pure (x := .v (.int .i64 ((j : Nat) : Int))) (pMv rfl rfl rfl) rfl rfl rfl rfl ?_
              refine vpOps_pure (x := .v (.int .i64 (((j : Nat) : Int) + 1))) (pure_add rfl rfl rfl (in64 (by omega) (by omega))) rfl rfl rfl rfl ?_
              refine vpOps_pure (x := .v (.int .i64 (((j : Nat) : Int) + 1))) (pAs rfl rfl rfl) rfl rfl rfl rfl ?_
              refine vpOps_nil ?_
              exact ⟨(j + 1, out), (by first | omega | (dsimp only; omega)), ⟨(by omega), (by rw [idxTo, hdj, ← ho]; first | (rw [if_pos (by assumption)]; done) | (rw [if_neg (by assumption)]; done)), (by first | omega | (simp only [List.length_append, List.length_cons, List.length_nil]; omega)), trivial⟩, ⟨rfl, rfl, rfl, rfl, rfl, rfl, rfl, rfl, rfl, rfl, trivial⟩⟩
          · skip
            refine vp_exit ?_
            refine vp_seq ?_
            refine vp_region ?_
            refine vpOps_pure (x := .lv 9 []) (pure_move_lv rfl) rfl rfl rfl rfl ?_
            refine vpOps_pure (x := .v (.int .i64 least)) (pMv rfl rfl rfl) rfl rfl rfl rfl ?_
            refine vpOps_ghost (ghost_own (t := 65) rfl rfl rfl rfl) ?_
            refine vpOps_assign (x := .own 1 (out.map i64c)) rfl rfl rfl rfl rfl rfl rfl ?_
            refine vpOps_pure (x := .v (.int .i64 least)) (pAs rfl rfl rfl) rfl rfl rfl rfl ?_
            refine vpOps_pure (x := .v (.int .i64 0)) (pAs rfl rfl rfl) rfl rfl rfl rfl ?_
            refine vpOps_nil ?_
            refine vp_ret ?_
            exact ⟨[.own 1 (out.map i64c), .v (.int .i64 least), .v (.int .i64 0)], [4, 5, 6], (.cons (.tmp rfl rfl) (.cons (.tmp rfl rfl) (.cons (.tmp rfl rfl) .nil))), rfl, ⟨(show (.tup [.own 1 (out.map i64c), .v (.int .i64 least), .v (.int .i64 0)] : PV) = .tup [.own 1 ((nearL d m).map i64c), .v (.int .i64 (nearD d m)), .v (.int .i64 (nearC d m))] from (by rcases near_cases d m with ⟨hz, e1, e2, e3⟩ | ⟨hz, hy, e1, e2, e3⟩ | ⟨hz, hy, e1, e2, e3⟩ <;> rw [e1, e2, e3] <;> first | rfl | (exfalso; first | omega | exact absurd hz.1 (by assumption) | exact absurd hz.2 (by assumption) | exact hz ⟨by assumption, by assumption⟩ | exact hz hg | exact hz ⟨hg.1, hg.2.1⟩ | exact hg.2.2 hy) | (rw [ho, hl, show j = d.length by omega, show i = d.length by omega]))), rfl⟩⟩
  · skip
    refine vPass rfl rfl rfl (not_of_f (decide_eq_false h1)) rfl rfl rfl ?_
    refine vPass rfl rfl rfl (not_of_f (decide_eq_false h1)) rfl rfl rfl ?_
    refine vPass rfl rfl rfl (not_of_f (decide_eq_false h1)) rfl rfl rfl ?_
    refine vpOps_pure (x := .v (.bool (true))) (pPt rfl rfl (not_of_f (decide_eq_false h1)) rfl rfl) rfl rfl rfl rfl ?_
    refine vpOps_nil ?_
    refine vIfT rfl rfl ?_
    refine vp_seq ?_
    refine vp_region ?_
    refine vpOps_pure (x := .own 1 []) (pBs (cs := []) rfl rfl rfl rfl rfl rfl rfl) rfl rfl rfl rfl ?_
    refine vpOps_assign (x := .own 1 []) rfl rfl rfl rfl rfl rfl rfl ?_
    refine vpOps_pure (x := .v (.int .i64 0)) (pAs rfl rfl rfl) rfl rfl rfl rfl ?_
    refine vpOps_pure (x := .v (.int .i64 1)) (pAs rfl rfl rfl) rfl rfl rfl rfl ?_
    refine vpOps_nil ?_
    refine vp_ret ?_
    exact ⟨[.own 1 [], .v (.int .i64 0), .v (.int .i64 1)], [4, 5, 6], (.cons (.tmp rfl rfl) (.cons (.tmp rfl rfl) (.cons (.tmp rfl rfl) .nil))), rfl, ⟨(show (.tup [.own 1 [], .v (.int .i64 0), .v (.int .i64 1)] : PV) = .tup [.own 1 ((nearL d m).map i64c), .v (.int .i64 (nearD d m)), .v (.int .i64 (nearC d m))] from (by rcases near_cases d m with ⟨hz, e1, e2, e3⟩ | ⟨hz, hy, e1, e2, e3⟩ | ⟨hz, hy, e1, e2, e3⟩ <;> rw [e1, e2, e3] <;> first | rfl | (exfalso; first | omega | exact absurd hz.1 (by assumption) | exact absurd hz.2 (by assumption) | exact hz ⟨by assumption, by assumption⟩ | exact hz hg | exact hz ⟨hg.1, hg.2.1⟩ | exact hg.2.2 hy) | (rw [ho, hl, show j = d.length by omega, show i = d.length by omega]))), rfl⟩⟩

/-- impl.DuplicatesOf -/
theorem c_DuplicatesOf {G : World → Prop} (d : List Card) (hw : ∀ c ∈ d, c.wf) (hn : d.length ≤ 9223372036854775807) : CallsV Tryd.prog G 12 [.sh 3 (d.map cardc)] (fun r outs => r = .tup [.own 1 ((dupL d).map i64sO), .v (.int .i64 (dupC d))] ∧ outs = [.junk]) := by
  refine callsV_enter [] Tryd.func12 rfl rfl rfl ?_
  refine vp_seq ?_
  refine vp_region ?_
  refine vpOps_pure (x := .v (.slice none 0 0)) (pAs rfl rfl rfl) rfl rfl rfl rfl ?_
  refine vpOps_pure (x := .v (.int .i64 0)) (pAs rfl rfl rfl) rfl rfl rfl rfl ?_
  refine vpOps_nil ?_
  refine vp_seq ?_
  refine vp_seq ?_
  refine vp_region ?_
  refine vpOps_pure (x := .sh 3 (d.map cardc)) (pMv rfl rfl rfl) rfl rfl rfl rfl ?_
  refine vpOps_call (gs := [⟨.tmp 10, .sh 3 (d.map cardc), none, none⟩]) (c_isDeck d (by first | assumption | omega) (by first | assumption | omega)) rfl rfl rfl rfl rfl trivial (by kernel_rfl) rfl rfl (gives_cons (gC rfl rfl) gives_nil) rfl (fun _ _ _ => .inl rfl) ?_
  rintro _ _ ⟨rfl, rfl⟩
  refine vpOps_pure (x := .v (.bool (!decide (deckOk d)))) (pure_not rfl rfl) rfl rfl rfl rfl ?_
  refine vpOps_nil ?_
  refine vIfN rfl (fun h1 => ?_) (fun h1 => ?_)
  · skip
    refine vp_seq ?_
    refine vp_region ?_
    refine vpOps_pure (x := .v (.slice none 0 0)) (pAs rfl rfl rfl) rfl rfl rfl rfl ?_
    refine vpOps_pure (x := .v (.int .i64 1)) (pAs rfl rfl rfl) rfl rfl rfl rfl ?_
    refine vpOps_nil ?_
    refine vp_ghost (ghost_nil (k := 2) (n := 1) rfl) ?_
    refine vp_ret ?_
    exact ⟨[.own 1 (([]).map i64sO), .v (.int .i64 1)], [2, 3], (.cons (.tmp rfl rfl) (.cons (.tmp rfl rfl) .nil)), rfl, ⟨(show (.tup [.own 1 (([]).map i64sO), .v (.int .i64 1)] : PV) = .tup [.own 1 ((dupL d).map i64sO), .v (.int .i64 (dupC d))] from (by unfold dupL dupC; by_cases hz : deckOk d <;> first | (rw [if_neg hz, if_neg hz]; done) | (rw [if_neg hz, if_neg hz]; rfl) | (exfalso; first | exact absurd hz (by assumption) | exact hz hg | omega) | (rw [if_pos hz, if_pos hz, ho, show i = d.length by omega]))), rfl⟩⟩
  · skip
    refine vp_skip ?_
    refine vp_seq ?_
    refine vp_region ?_
    refine vpOps_pure (x := .own 1 []) (pBs (cs := []) rfl rfl rfl rfl rfl rfl rfl) rfl rfl rfl rfl ?_
    refine vpOps_assign (x := .own 1 []) rfl rfl rfl rfl rfl rfl rfl ?_
    refine vpOps_nil ?_
    refine vp_seq ?_
    refine vp_seq ?_
    refine vp_region ?_
    refine vpOps_pure (x := .sh 3 (d.map cardc)) (pMv rfl rfl rfl) rfl rfl rfl rfl ?_
    refine vpOps_pure (x := .v (.int .i64 ((d.length : Nat) : Int))) (pLen rfl rfl (List.length_map _)) rfl rfl rfl rfl ?_
    refine vpOps_pure (x := .v (.int .i64 0)) (pMv rfl rfl rfl) rfl rfl rfl rfl ?_
    refine vpOps_nil ?_
    refine vp_block ?_
    refine vLoop (α := Nat × List (List Int)) (fun (i, out) => d.length - i) (fun (i, out) => (i ≤ d.length) ∧ (deckOk d) ∧ (out = dupTo d i) ∧ (out.length ≤ i) ∧ True) (fun (i, out) => [(0, .sh 3 (d.map cardc)), (2, .v (.slice none 0 0)), (3, .v (.int .i64 0)), (4, .own 1 (out.map i64sO)), (14, .sh 3 (d.map cardc)), (15, .v (.int .i64 ((d.length : Nat) : Int))), (16, .v (.int .i64 ((i : Nat) : Int)))]) (fun ⟨_, _⟩ => rfl) (fun ⟨_, _⟩ => rfl) (0, []) ⟨(by omega), (by assumption), (by rfl), (by exact Nat.zero_le _), trivial⟩ ⟨rfl, rfl, rfl, rfl, rfl, rfl, rfl, trivial⟩ ?_
    rintro ⟨i, out⟩ ⟨hi, hg, ho, hol, -⟩
    have hdl := hg.1
    refine vp_seq ?_
    refine vp_region ?_
    refine vpOps_pure (x := .v (.bool (decide (((i : Nat) : Int) < ((d.length : Nat) : Int))))) (pure_bin rfl rfl rfl rfl) rfl rfl rfl rfl ?_
    refine vpOps_nil ?_
    refine vp_seq ?_
    refine vIf rfl (fun h2 => ?_) (fun h2 => ?_)
    · skip
      refine vp_skip ?_
      refine vp_seq ?_
      refine vp_block ?_
      refine vp_seq ?_
      refine vp_region ?_
      refine vpOps_pure (x := .v (.int .i64 ((i : Nat) : Int))) (pMv rfl rfl rfl) rfl rfl rfl rfl ?_
      refine vpOps_pure (x := .rbox [.v (.string ((d.getD i default).name)), .v (.int .u64 (((((d.getD i default).notches).a : Nat) : Int))), .v (.int .u64 (((((d.getD i default).notches).b : Nat) : Int)))]) (pIx (m := i) rfl rfl rfl (by first | rfl | omega) (by omega) rfl) rfl rfl rfl rfl ?_
      refine vpOps_pure (x := .agg [.v (.string ((d.getD i default).name)), .v (.int .u64 (((((d.getD i default).notches).a : Nat) : Int))), .v (.int .u64 (((((d.getD i default).notches).b : Nat) : Int)))]) (pure_load_rbox_agg rfl rfl rfl rfl rfl) rfl rfl rfl rfl ?_
      refine vpOps_pure (x := .box [.v (.string (ByteArray.mk #[])), .v (.int .u64 0), .v (.int .u64 0)]) (pure_alloc rfl) rfl rfl rfl rfl ?_
      refine vpOps_pure (x := .v (.int .i64 ((i : Nat) : Int))) (pAs rfl rfl rfl) rfl rfl rfl rfl ?_
      refine vStB (x := .agg [.v (.string ((d.getD i default).name)), .v (.int .u64 (((((d.getD i default).notches).a : Nat) : Int))), .v (.int .u64 (((((d.getD i default).notches).b : Nat) : Int)))]) (row' := [.v (.string ((d.getD i default).name)), .v (.int .u64 (((((d.getD i default).notches).a : Nat) : Int))), .v (.int .u64 (((((d.getD i default).notches).b : Nat) : Int)))]) rfl rfl rfl rfl rfl rfl rfl rfl rfl rfl rfl rfl ?_
      refine vpOps_nil ?_
      refine vp_seq ?_
      refine vp_region ?_
      refine vpOps_pure (x := .own 1 []) (pBs (cs := []) rfl rfl rfl rfl rfl rfl rfl) rfl rfl rfl rfl ?_
      refine vpOps_assign (x := .own 1 []) rfl rfl rfl rfl rfl rfl rfl ?_
      refine vpOps_nil ?_
      refine vp_seq ?_
      refine vp_seq ?_
      refine vp_region ?_
      refine vpOps_pure (x := .sh 3 (d.map cardc)) (pMv rfl rfl rfl) rfl rfl rfl rfl ?_
      refine vpOps_pure (x := .v (.int .i64 ((d.length : Nat) : Int))) (pLen rfl rfl (List.length_map _)) rfl rfl rfl rfl ?_
      refine vpOps_pure (x := .v (.int .i64 0)) (pMv rfl rfl rfl) rfl rfl rfl rfl ?_
      refine vpOps_nil ?_
      refine vp_block ?_
      refine vLoop (α := Nat × List Int) (fun (k, gr) => d.length - k) (fun (k, gr) => (k ≤ d.length) ∧ (gr = grpTo d i k) ∧ (gr.length ≤ k) ∧ True) (fun (k, gr) => [(0, .sh 3 (d.map cardc)), (2, .v (.slice none 0 0)), (3, .v (.int .i64 0)), (4, .own 1 (out.map i64sO)), (5, .v (.int .i64 ((i : Nat) : Int))), (6, .box [.v (.string ((d.getD i default).name)), .v (.int .u64 (((((d.getD i default).notches).a : Nat) : Int))), .v (.int .u64 (((((d.getD i default).notches).b : Nat) : Int)))]), (7, .own 1 (gr.map i64c)), (14, .sh 3 (d.map cardc)), (15, .v (.int .i64 ((d.length : Nat) : Int))), (16, .v (.int .i64 ((i : Nat) : Int))), (22, .sh 3 (d.map cardc)), (23, .v (.int .i64 ((d.length : Nat) : Int))), (24, .v (.int .i64 ((k : Nat) : Int)))]) (fun ⟨_, _⟩ => rfl) (fun ⟨_, _⟩ => rfl) (0, []) ⟨(by omega), (by rfl), (by exact Nat.zero_le _), trivial⟩ ⟨rfl, rfl, rfl, rfl, rfl, rfl, rfl, rfl, rfl, rfl, rfl, rfl, rfl, trivial⟩ ?_
      rintro ⟨k, gr⟩ ⟨hk, hgr, hgl, -⟩
      refine vp_seq ?_
      refine vp_region ?_
      refine vpOps_pure (x := .v (.bool (decide (((k : Nat) : Int) < ((d.length : Nat) : Int))))) (pure_bin rfl rfl rfl rfl) rfl rfl rfl rfl ?_
      refine vpOps_nil ?_
      refine vp_seq ?_
      refine vIf rfl (fun h3 => ?_) (fun h3 => ?_)
      · skip
        refine vp_skip ?_
        refine vp_seq ?_
        refine vp_block ?_
        refine vp_seq ?_
        refine vp_region ?_
        refine vpOps_pure (x := .v (.int .i64 ((k : Nat) : Int))) (pMv rfl rfl rfl) rfl rfl rfl rfl ?_
        refine vpOps_pure (x := .rbox [.v (.string ((d.getD k default).name)), .v (.int .u64 (((((d.getD k default).notches).a : Nat) : Int))), .v (.int .u64 (((((d.getD k default).notches).b : Nat) : Int)))]) (pIx (m := k) rfl rfl rfl (by first | rfl | omega) (by omega) rfl) rfl rfl rfl rfl ?_
        refine vpOps_pure (x := .agg [.v (.string ((d.getD k default).name)), .v (.int .u64 (((((d.getD k default).notches).a : Nat) : Int))), .v (.int .u64 (((((d.getD k default).notches).b : Nat) : Int)))]) (pure_load_rbox_agg rfl rfl rfl rfl rfl) rfl rfl rfl rfl ?_
        refine vpOps_pure (x := .box [.v (.string (ByteArray.mk #[])), .v (.int .u64 0), .v (.int .u64 0)]) (pure_alloc rfl) rfl rfl rfl rfl ?_
        refine vpOps_pure (x := .v (.int .i64 ((k : Nat) : Int))) (pAs rfl rfl rfl) rfl rfl rfl rfl ?_
        refine vStB (x := .agg [.v (.string ((d.getD k default).name)), .v (.int .u64 (((((d.getD k default).notches).a : Nat) : Int))), .v (.int .u64 (((((d.getD k default).notches).b : Nat) : Int)))]) (row' := [.v (.string ((d.getD k default).name)), .v (.int .u64 (((((d.getD k default).notches).a : Nat) : Int))), .v (.int .u64 (((((d.getD k default).notches).b : Nat) : Int)))]) rfl rfl rfl rfl rfl rfl rfl rfl rfl rfl rfl rfl ?_
        refine vpOps_nil ?_
        refine vp_seq ?_
        refine vp_region ?_
        refine vpOps_pure (x := .pl 9 [⟨0, 1, 0⟩]) (pure_field_ref rfl rfl rfl rfl) rfl rfl rfl rfl ?_
        refine vpOps_pure (x := .agg [.v (.int .u64 (((((d.getD k default).notches).a : Nat) : Int))), .v (.int .u64 (((((d.getD k default).notches).b : Nat) : Int)))]) (pure_load_pl_agg rfl rfl rfl rfl rfl rfl rfl rfl (by simp [PV.flatL, PV.flat])) rfl rfl rfl rfl ?_
        refine vpOps_pure (x := .pl 6 [⟨0, 1, 0⟩]) (pure_field_ref rfl rfl rfl rfl) rfl rfl rfl rfl ?_
        refine vpOps_pure (x := .agg [.v (.int .u64 (((((d.getD i default).notches).a : Nat) : Int))), .v (.int .u64 (((((d.getD i default).notches).b : Nat) : Int)))]) (pure_load_pl_agg rfl rfl rfl rfl rfl rfl rfl rfl (by simp [PV.flatL, PV.flat])) rfl rfl rfl rfl ?_
        refine vpOps_pure (x := .v (.bool (decide ((d.getD k default).notches = (d.getD i default).notches)))) (pEqAgg [(.int .u64 (((((d.getD k default).notches).a : Nat) : Int))), (.int .u64 (((((d.getD k default).notches).b : Nat) : Int)))] [(.int .u64 (((((d.getD i default).notches).a : Nat) : Int))), (.int .u64 (((((d.getD i default).notches).b : Nat) : Int)))] (φ := (d.getD k default).notches = (d.getD i default).notches) rfl rfl rfl rfl rfl rfl rfl (mask_inj)) rfl rfl rfl rfl ?_
        refine vpOps_nil ?_
        refine vIf rfl (fun h4 => ?_) (fun h4 => ?_)
        · skip
          refine vp_region ?_
          refine vpOps_pure (x := .lv 7 []) (pure_move_lv rfl) rfl rfl rfl rfl ?_
          refine vpOps_pure (x := .v (.int .i64 ((k : Nat) : Int))) (pMv rfl rfl rfl) rfl rfl rfl rfl ?_
          refine vpOps_pure (x := .own 1 [[.v (.int .i64 ((k : Nat) : Int))]]) (pBs (cs := [.v (.int .i64 ((k : Nat) : Int))]) rfl rfl rfl rfl rfl rfl rfl) rfl rfl rfl rfl ?_
          refine vpOps_ghost (ghost_own (t := 34) rfl rfl rfl rfl) ?_
          refine vApp (f := i64c) (xs := gr) (ys := [((k : Nat) : Int)]) (l := 1) rfl rfl rfl rfl rfl (srcOwn rfl rfl (fun _ => mvOkL_flat _ rfl)) rfl rfl (fun _ => rfl) (.inl ⟨_, rfl⟩) rfl rfl rfl (rfl) (by omega) (by omega) ?_
          refine vpOps_assign (x := .own 1 ((gr ++ [((k : Nat) : Int)]).map i64c)) rfl rfl rfl rfl rfl rfl rfl ?_
          refine vpOps_nil ?_
          refine vp_region ?_
          refine vpOps_pure (x := .v (.int .i64 (((k : Nat) : Int) + 1))) (pure_add rfl rfl rfl (in64 (by omega) (by omega))) rfl rfl rfl rfl ?_
          refine vpOps_pure (x := .v (.int .i64 (((k : Nat) : Int) + 1))) (pMv rfl rfl rfl) rfl rfl rfl rfl ?_
          refine vpOps_nil ?_
          exact ⟨(k + 1, gr ++ [((k : Nat) : Int)]), (by first | omega | (dsimp only; omega)), ⟨(by omega), (by rw [grpTo, ← hgr]; first | (rw [if_pos (by assumption)]; done) | (rw [if_neg (by assumption)]; done)), (by first | omega | (simp only [List.length_append, List.length_cons, List.length_nil]; omega)), trivial⟩, ⟨rfl, rfl, rfl, rfl, rfl, rfl, rfl, rfl, rfl, rfl, rfl, rfl, rfl, trivial⟩⟩
        · skip
          refine vp_skip ?_
          refine vp_region ?_
          refine vpOps_pure (x := .v (.int .i64 (((k : Nat) : Int) + 1))) (pure_add rfl rfl rfl (in64 (by omega) (by omega))) rfl rfl rfl rfl ?_
          refine vpOps_pure (x := .v (.int .i64 (((k : Nat) : Int) + 1))) (pMv rfl rfl rfl) rfl rfl rfl rfl ?_
          refine vpOps_nil ?_
          exact ⟨(k + 1, gr), (by first | omega | (dsimp only; omega)), ⟨(by omega), (by rw [grpTo, ← hgr]; first | (rw [if_pos (by assumption)]; done) | (rw [if_neg (by assumption)]; done)), (by first | omega | (simp only [List.length_append, List.length_cons, List.length_nil]; omega)), trivial⟩, ⟨rfl, rfl, rfl, rfl, rfl, rfl, rfl, rfl, rfl, rfl, rfl, rfl, rfl, trivial⟩⟩
      · skip
        refine vp_exit ?_
        refine vp_seq ?_
        refine vp_region ?_
        refine vpOps_pure (x := .lv 7 []) (pure_move_lv rfl) rfl rfl rfl rfl ?_
        refine vpOps_pure (x := .v (.int .i64 ((gr.length : Nat) : Int))) (pLenR rfl rfl rfl rfl rfl (List.length_map _)) rfl rfl rfl rfl ?_
        refine vpOps_pure (x := .v (.bool (decide (1 < ((gr.length : Nat) : Int))))) (pure_bin rfl rfl rfl rfl) rfl rfl rfl rfl ?_
        refine vpOps_pure (x := .v (.bool (decide (1 < ((gr.length : Nat) : Int))))) (pMv rfl rfl rfl) rfl rfl rfl rfl ?_
        by_cases h5 : 1 < ((gr.length : Nat) : Int)
        · skip
          refine vRun rfl rfl rfl (decide_eq_true h5) rfl rfl rfl ?_
          refine vpOps_pure (x := .lv 7 []) (pure_move_lv rfl) rfl rfl rfl rfl ?_
          refine vRun rfl rfl rfl (decide_eq_true h5) rfl rfl rfl ?_
          refine vpOps_pure (x := .pl 7 [⟨0, 0, 1⟩]) (pIxR (m := 0) rfl rfl rfl rfl rfl rfl (by first | rfl | omega) (by rw [List.length_map]; omega) rfl) rfl rfl rfl rfl ?_
          refine vRun rfl rfl rfl (decide_eq_true h5) rfl rfl rfl ?_
          refine vpOps_pure (x := .v (.int .i64 (gr.getD 0 default))) (pure_load_pl rfl rfl rfl rfl rfl (row_map (by omega)) rfl trivial rfl) rfl rfl rfl rfl ?_
          refine vRun rfl rfl rfl (decide_eq_true h5) rfl rfl rfl ?_
          refine vpOps_pure (x := .v (.int .i64 ((i : Nat) : Int))) (pMv rfl rfl rfl) rfl rfl rfl rfl ?_
          refine vRun rfl rfl rfl (decide_eq_true h5) rfl rfl rfl ?_
          refine vpOps_pure (x := .v (.bool (decide ((gr.getD 0 default) = ((i : Nat) : Int))))) (pure_bin rfl rfl rfl rfl) rfl rfl rfl rfl ?_
          refine vpOps_pure (x := .v (.bool (decide ((gr.getD 0 default) = ((i : Nat) : Int))))) (pPt rfl rfl (decide_eq_true h5) rfl rfl) rfl rfl rfl rfl ?_
          refine vpOps_nil ?_
          refine vIf rfl (fun h6 => ?_) (fun h6 => ?_)
          · skip
            refine vp_region ?_
            refine vpOps_pure (x := .lv 4 []) (pure_move_lv rfl) rfl rfl rfl rfl ?_
            refine vpOps_pure (x := .lv 7 []) (pure_move_lv rfl) rfl rfl rfl rfl ?_
            refine vpOps_ghost (ghost_own (t := 50) rfl rfl rfl rfl) ?_
            refine vpOps_buildSliceOwn (els := [[.own 1 (gr.map i64c)]]) [50] rfl rfl rfl rfl rfl rfl ⟨trivial, trivial⟩ rfl rfl rfl rfl ⟨rfl, rfl⟩ ?_
            refine vpOps_ghost (ghost_own (t := 49) rfl rfl rfl rfl) ?_
            refine vApp (f := i64sO) (xs := out) (ys := [gr]) (l := 1) rfl rfl rfl rfl rfl (srcMv rfl rfl) rfl rfl (fun _ => rfl) (.inl ⟨_, rfl⟩) rfl rfl rfl (rfl) (by omega) (by omega) ?_
            refine vpOps_assign (x := .own 1 ((out ++ [gr]).map i64sO)) rfl rfl rfl rfl rfl rfl rfl ?_
            refine vpOps_nil ?_
            refine vp_region ?_
            refine vpOps_pure (x := .v (.int .i64 (((i : Nat) : Int) + 1))) (pure_add rfl rfl rfl (in64 (by omega) (by omega))) rfl rfl rfl rfl ?_
            refine vpOps_pure (x := .v (.int .i64 (((i : Nat) : Int) + 1))) (pMv rfl rfl rfl) rfl rfl rfl rfl ?_
            refine vpOps_nil ?_
            exact ⟨(i + 1, out ++ [gr]), (by first | omega | (dsimp only; omega)), ⟨(by omega), (by assumption), (by have hkk : k = d.length := (by omega); subst hkk; rw [dup_step hgr (by omega), ← ho]; first | (rw [if_pos ⟨by omega, by assumption⟩]; done) | (rw [if_neg (fun h => by have := h.1; omega)]; done) | (rw [if_neg (fun h => absurd h.2 (by assumption))]; done)), (by first | omega | (simp only [List.length_append, List.length_cons, List.length_nil]; omega)), trivial⟩, ⟨rfl, rfl, rfl, rfl, rfl, rfl, rfl, trivial⟩⟩
          · skip
            refine vp_skip ?_
            refine vp_region ?_
            refine vpOps_pure (x := .v (.int .i64 (((i : Nat) : Int) + 1))) (pure_add rfl rfl rfl (in64 (by omega) (by omega))) rfl rfl rfl rfl ?_
            refine vpOps_pure (x := .v (.int .i64 (((i : Nat) : Int) + 1))) (pMv rfl rfl rfl) rfl rfl rfl rfl ?_
            refine vpOps_nil ?_
            exact ⟨(i + 1, out), (by first | omega | (dsimp only; omega)), ⟨(by omega), (by assumption), (by have hkk : k = d.length := (by omega); subst hkk; rw [dup_step hgr (by omega), ← ho]; first | (rw [if_pos ⟨by omega, by assumption⟩]; done) | (rw [if_neg (fun h => by have := h.1; omega)]; done) | (rw [if_neg (fun h => absurd h.2 (by assumption))]; done)), (by first | omega | (simp only [List.length_append, List.length_cons, List.length_nil]; omega)), trivial⟩, ⟨rfl, rfl, rfl, rfl, rfl, rfl, rfl, trivial⟩⟩
        · skip
          refine vPass rfl rfl rfl (decide_eq_false h5) rfl rfl rfl ?_
          refine vPass rfl rfl rfl (decide_eq_false h5) rfl rfl rfl ?_
          refine vPass rfl rfl rfl (decide_eq_false h5) rfl rfl rfl ?_
          refine vPass rfl rfl rfl (decide_eq_false h5) rfl rfl rfl ?_
          refine vPass rfl rfl rfl (decide_eq_false h5) rfl rfl rfl ?_
          refine vpOps_pure (x := .v (.bool (false))) (pPf rfl rfl (decide_eq_false h5) rfl rfl) rfl rfl rfl rfl ?_
          refine vpOps_nil ?_
          refine vIfF rfl rfl ?_
          refine vp_skip ?_
          refine vp_region ?_
          refine vpOps_pure (x := .v (.int .i64 (((i : Nat) : Int) + 1))) (pure_add rfl rfl rfl (in64 (by omega) (by omega))) rfl rfl rfl rfl ?_
          refine vpOps_pure (x := .v (.int .i64 (((i : Nat) : Int) + 1))) (pMv rfl rfl rfl) rfl rfl rfl rfl ?_
          refine vpOps_nil ?_
          exact ⟨(i + 1, out), (by first | omega | (dsimp only; omega)), ⟨(by omega), (by assumption), (by have hkk : k = d.length := (by omega); subst hkk; rw [dup_step hgr (by omega), ← ho]; first | (rw [if_pos ⟨by omega, by assumption⟩]; done) | (rw [if_neg (fun h => by have := h.1; omega)]; done) | (rw [if_neg (fun h => absurd h.2 (by assumption))]; done)), (by first | omega | (simp only [List.length_append, List.length_cons, List.length_nil]; omega)), trivial⟩, ⟨rfl, rfl, rfl, rfl, rfl, rfl, rfl, trivial⟩⟩
    · skip
      refine vp_exit ?_
      refine vp_seq ?_
      refine vp_region ?_
      refine vpOps_pure (x := .lv 4 []) (pure_move_lv rfl) rfl rfl rfl rfl ?_
      refine vpOps_ghost (ghost_own (t := 54) rfl rfl rfl rfl) ?_
      refine vpOps_assign (x := .own 1 (out.map i64sO)) rfl rfl rfl rfl rfl rfl rfl ?_
      refine vpOps_pure (x := .v (.int .i64 0)) (pAs rfl rfl rfl) rfl rfl rfl rfl ?_
      refine vpOps_nil ?_
      refine vp_ret ?_
      exact ⟨[.own 1 (out.map i64sO), .v (.int .i64 0)], [2, 3], (.cons (.tmp rfl rfl) (.cons (.tmp rfl rfl) .nil)), rfl, ⟨(show (.tup [.own 1 (out.map i64sO), .v (.int .i64 0)] : PV) = .tup [.own 1 ((dupL d).map i64sO), .v (.int .i64 (dupC d))] from (by unfold dupL dupC; by_cases hz : deckOk d <;> first | (rw [if_neg hz, if_neg hz]; done) | (rw [if_neg hz, if_neg hz]; rfl) | (exfalso; first | exact absurd hz (by assumption) | exact hz hg | omega) | (rw [if_pos hz, if_pos hz, ho, show i = d.length by omega]))), rfl⟩⟩

/-- spec.DuplicatesOf -/
theorem c_sDuplicatesOf {G : World → Prop} (d : List Card) (hw : ∀ c ∈ d, c.wf) (hn : d.length ≤ 9223372036854775807) : CallsV Tryd.prog G 13 [.sh 3 (d.map cardc)] (fun r outs => r = .tup [.own 1 ((dupL d).map i64sO), .v (.int .i64 (dupC d))] ∧ outs = [.junk]) := by
  refine callsV_enter [] Tryd.func13 rfl rfl rfl ?_
  refine vp_seq ?_
  refine vp_region ?_
  refine vpOps_pure (x := .v (.slice none 0 0)) (pAs rfl rfl rfl) rfl rfl rfl rfl ?_
  refine vpOps_pure (x := .v (.int .i64 0)) (pAs rfl rfl rfl) rfl rfl rfl rfl ?_
  refine vpOps_nil ?_
  refine vp_seq ?_
  refine vp_seq ?_
  refine vp_region ?_
  refine vpOps_pure (x := .sh 3 (d.map cardc)) (pMv rfl rfl rfl) rfl rfl rfl rfl ?_
  refine vpOps_call (gs := [⟨.tmp 9, .sh 3 (d.map cardc), none, none⟩]) (c_sDeckOk d (by first | assumption | omega) (by first | assumption | omega)) rfl rfl rfl rfl rfl trivial (by kernel_rfl) rfl rfl (gives_cons (gC rfl rfl) gives_nil) rfl (fun _ _ _ => .inl rfl) ?_
  rintro _ _ ⟨rfl, rfl⟩
  refine vpOps_pure (x := .v (.bool (!decide (deckOk d)))) (pure_not rfl rfl) rfl rfl rfl rfl ?_
  refine vpOps_nil ?_
  refine vIfN rfl (fun h1 => ?_) (fun h1 => ?_)
  · skip
    refine vp_seq ?_
    refine vp_region ?_
    refine vpOps_pure (x := .own 1 []) (pBs (cs := []) rfl rfl rfl rfl rfl rfl rfl) rfl rfl rfl rfl ?_
    refine vpOps_assign (x := .own 1 []) rfl rfl rfl rfl rfl rfl rfl ?_
    refine vpOps_pure (x := .v (.int .i64 1)) (pAs rfl rfl rfl) rfl rfl rfl rfl ?_
    refine vpOps_nil ?_
    refine vp_ret ?_
    exact ⟨[.own 1 [], .v (.int .i64 1)], [2, 3], (.cons (.tmp rfl rfl) (.cons (.tmp rfl rfl) .nil)), rfl, ⟨(show (.tup [.own 1 [], .v (.int .i64 1)] : PV) = .tup [.own 1 ((dupL d).map i64sO), .v (.int .i64 (dupC d))] from (by unfold dupL dupC; by_cases hz : deckOk d <;> first | (rw [if_neg hz, if_neg hz]; done) | (rw [if_neg hz, if_neg hz]; rfl) | (exfalso; first | exact absurd hz (by assumption) | exact hz hg | omega) | (rw [if_pos hz, if_pos hz, ho, show i = d.length by omega]))), rfl⟩⟩
  · skip
    refine vp_skip ?_
    refine vp_seq ?_
    refine vp_region ?_
    refine vpOps_pure (x := .own 1 []) (pBs (cs := []) rfl rfl rfl rfl rfl rfl rfl) rfl rfl rfl rfl ?_
    refine vpOps_assign (x := .own 1 []) rfl rfl rfl rfl rfl rfl rfl ?_
    refine vpOps_nil ?_
    refine vp_seq ?_
    refine vp_seq ?_
    refine vp_region ?_
    refine vpOps_pure (x := .v (.int .i64 0)) (pAs rfl rfl rfl) rfl rfl rfl rfl ?_
    refine vpOps_nil ?_
    refine vp_block ?_
    refine vLoop (α := Nat × List (List Int)) (fun (i, out) => d.length - i) (fun (i, out) => (i ≤ d.length) ∧ (deckOk d) ∧ (out = dupTo d i) ∧ (out.length ≤ i) ∧ True) (fun (i, out) => [(0, .sh 3 (d.map cardc)), (2, .v (.slice none 0 0)), (3, .v (.int .i64 0)), (4, .own 1 (out.map i64sO)), (5, .v (.int .i64 ((i : Nat) : Int)))]) (fun ⟨_, _⟩ => rfl) (fun ⟨_, _⟩ => rfl) (0, []) ⟨(by omega), (by assumption), (by rfl), (by exact Nat.zero_le _), trivial⟩ ⟨rfl, rfl, rfl, rfl, rfl, trivial⟩ ?_
    rintro ⟨i, out⟩ ⟨hi, hg, ho, hol, -⟩
    have hdl := hg.1
    refine vp_seq ?_
    refine vp_seq ?_
    refine vp_region ?_
    refine vpOps_pure (x := .v (.int .i64 ((i : Nat) : Int))) (pMv rfl rfl rfl) rfl rfl rfl rfl ?_
    refine vpOps_pure (x := .sh 3 (d.map cardc)) (pMv rfl rfl rfl) rfl rfl rfl rfl ?_
    refine vpOps_pure (x := .v (.int .i64 ((d.length : Nat) : Int))) (pLen rfl rfl (List.length_map _)) rfl rfl rfl rfl ?_
    refine vpOps_pure (x := .v (.bool (decide (((i : Nat) : Int) < ((d.length : Nat) : Int))))) (pure_bin rfl rfl rfl rfl) rfl rfl rfl rfl ?_
    refine vpOps_nil ?_
    refine vIf rfl (fun h2 => ?_) (fun h2 => ?_)
    · skip
      refine vp_skip ?_
      refine vp_seq ?_
      refine vp_block ?_
      refine vp_seq ?_
      refine vp_region ?_
      refine vpOps_pure (x := .own 1 []) (pBs (cs := []) rfl rfl rfl rfl rfl rfl rfl) rfl rfl rfl rfl ?_
      refine vpOps_assign (x := .own 1 []) rfl rfl rfl rfl rfl rfl rfl ?_
      refine vpOps_nil ?_
      refine vp_seq ?_
      refine vp_region ?_
      refine vpOps_pure (x := .v (.bool (true))) (pAs rfl rfl rfl) rfl rfl rfl rfl ?_
      refine vpOps_nil ?_
      refine vp_seq ?_
      refine vp_seq ?_
      refine vp_region ?_
      refine vpOps_pure (x := .v (.int .i64 0)) (pAs rfl rfl rfl) rfl rfl rfl rfl ?_
      refine vpOps_nil ?_
      refine vp_block ?_
      refine vLoop (α := Nat × List Int × Bool) (fun (k, gr, b) => d.length - k) (fun (k, gr, b) => (k ≤ d.length) ∧ (gr = grpTo d i k) ∧ (gr.length ≤ k) ∧ (b = true ↔ ∀ m, m < k → m < i → (d.getD m default).notches ≠ (d.getD i default).notches) ∧ True) (fun (k, gr, b) => [(0, .sh 3 (d.map cardc)), (2, .v (.slice none 0 0)), (3, .v (.int .i64 0)), (4, .own 1 (out.map i64sO)), (5, .v (.int .i64 ((i : Nat) : Int))), (6, .own 1 (gr.map i64c)), (7, .v (.bool (b))), (8, .v (.int .i64 ((k : Nat) : Int)))]) (fun ⟨_, _, _⟩ => rfl) (fun ⟨_, _, _⟩ => rfl) (0, [], true) ⟨(by omega), (by rfl), (by exact Nat.zero_le _), (by exact ⟨fun _ m hm => by omega, fun _ => rfl⟩), trivial⟩ ⟨rfl, rfl, rfl, rfl, rfl, rfl, rfl, rfl, trivial⟩ ?_
      rintro ⟨k, gr, b⟩ ⟨hk, hgr, hgl, hb, -⟩
      refine vp_seq ?_
      refine vp_seq ?_
      refine vp_region ?_
      refine vpOps_pure (x := .v (.int .i64 ((k : Nat) : Int))) (pMv rfl rfl rfl) rfl rfl rfl rfl ?_
      refine vpOps_pure (x := .sh 3 (d.map cardc)) (pMv rfl rfl rfl) rfl rfl rfl rfl ?_
      refine vpOps_pure (x := .v (.int .i64 ((d.length : Nat) : Int))) (pLen rfl rfl (List.length_map _)) rfl rfl rfl rfl ?_
      refine vpOps_pure (x := .v (.bool (decide (((k : Nat) : Int) < ((d.length : Nat) : Int))))) (pure_bin rfl rfl rfl rfl) rfl rfl rfl rfl ?_
      refine vpOps_nil ?_
      refine vIf rfl (fun h3 => ?_) (fun h3 => ?_)
      · skip
        refine vp_skip ?_
        refine vp_seq ?_
        refine vp_block ?_
        refine vp_seq ?_
        refine vRegD 11 ((27, .sh 3 (d.map cardc)) :: (28, .v (.int .i64 ((k : Nat) : Int))) :: (29, .rbox [.v (.string ((d.getD k default).name)), .v (.int .u64 (((((d.getD k default).notches).a : Nat) : Int))), .v (.int .u64 (((((d.getD k default).notches).b : Nat) : Int)))]) :: (30, .rbox [.v (.int .u64 (((((d.getD k default).notches).a : Nat) : Int))), .v (.int .u64 (((((d.getD k default).notches).b : Nat) : Int)))]) :: (31, .agg [.v (.int .u64 (((((d.getD k default).notches).a : Nat) : Int))), .v (.int .u64 (((((d.getD k default).notches).b : Nat) : Int)))]) :: (32, .sh 3 (d.map cardc)) :: (33, .v (.int .i64 ((i : Nat) : Int))) :: (34, .rbox [.v (.string ((d.getD i default).name)), .v (.int .u64 (((((d.getD i default).notches).a : Nat) : Int))), .v (.int .u64 (((((d.getD i default).notches).b : Nat) : Int)))]) :: (35, .rbox [.v (.int .u64 (((((d.getD i default).notches).a : Nat) : Int))), .v (.int .u64 (((((d.getD i default).notches).b : Nat) : Int)))]) :: (36, .agg [.v (.int .u64 (((((d.getD i default).notches).a : Nat) : Int))), .v (.int .u64 (((((d.getD i default).notches).b : Nat) : Int)))]) :: (37, .v (.bool (decide ((d.getD k default).notches = (d.getD i default).notches)))) :: []) (0 :: 0 :: 3 :: 7 :: 15 :: 0 :: 0 :: 96 :: 224 :: 480 :: 1023 :: []) (by kernel_rfl) rfl (by kernel_rfl) (by kernel_rfl) (by kernel_rfl) (by kernel_rfl) (by kernel_rfl) ⟨
            dPure rfl (pMv rfl rfl rfl),
            dPure rfl (pMv rfl rfl rfl),
            dPure rfl (pIx (m := k) rfl rfl rfl (by first | rfl | omega) (by omega) rfl),
            dPure rfl (pure_field_rbox rfl rfl rfl rfl),
            dPure rfl (pure_load_rbox_agg rfl rfl rfl rfl rfl),
            dPure rfl (pMv rfl rfl rfl),
            dPure rfl (pMv rfl rfl rfl),
            dPure rfl (pIx (m := i) rfl rfl rfl (by first | rfl | omega) (by omega) rfl),
            dPure rfl (pure_field_rbox rfl rfl rfl rfl),
            dPure rfl (pure_load_rbox_agg rfl rfl rfl rfl rfl),
            dPure rfl (pEqAgg [(.int .u64 (((((d.getD k default).notches).a : Nat) : Int))), (.int .u64 (((((d.getD k default).notches).b : Nat) : Int)))] [(.int .u64 (((((d.getD i default).notches).a : Nat) : Int))), (.int .u64 (((((d.getD i default).notches).b : Nat) : Int)))] (φ := (d.getD k default).notches = (d.getD i default).notches) rfl rfl rfl rfl rfl rfl rfl (mask_inj)),
            trivial⟩ ?_
        refine vpOps_nil ?_
        refine vIf rfl (fun h4 => ?_) (fun h4 => ?_)
        · skip
          refine vp_seq ?_
          refine vp_region ?_
          refine vpOps_pure (x := .v (.bool (b))) (pMv rfl rfl rfl) rfl rfl rfl rfl ?_
          refine vpOps_pure (x := .v (.bool (b))) (pMv rfl rfl rfl) rfl rfl rfl rfl ?_
          rcases Bool.eq_false_or_eq_true b with h5 | h5
          · skip
            refine vRun rfl rfl rfl h5 rfl rfl rfl ?_
            refine vpOps_pure (x := .v (.int .i64 ((k : Nat) : Int))) (pMv rfl rfl rfl) rfl rfl rfl rfl ?_
            refine vRun rfl rfl rfl h5 rfl rfl rfl ?_
            refine vpOps_pure (x := .v (.int .i64 ((i : Nat) : Int))) (pMv rfl rfl rfl) rfl rfl rfl rfl ?_
            refine vRun rfl rfl rfl h5 rfl rfl rfl ?_
            refine vpOps_pure (x := .v (.bool (decide (((i : Nat) : Int) ≤ ((k : Nat) : Int))))) (pure_bin rfl rfl rfl rfl) rfl rfl rfl rfl ?_
            refine vpOps_pure (x := .v (.bool (decide (((i : Nat) : Int) ≤ ((k : Nat) : Int))))) (pPt rfl rfl h5 rfl rfl) rfl rfl rfl rfl ?_
            refine vpOps_pure (x := .v (.bool (decide (((i : Nat) : Int) ≤ ((k : Nat) : Int))))) (pAs rfl rfl rfl) rfl rfl rfl rfl ?_
            refine vpOps_nil ?_
            refine vp_region ?_
            refine vpOps_pure (x := .lv 6 []) (pure_move_lv rfl) rfl rfl rfl rfl ?_
            refine vpOps_pure (x := .v (.int .i64 ((k : Nat) : Int))) (pMv rfl rfl rfl) rfl rfl rfl rfl ?_
            refine vpOps_pure (x := .own 1 [[.v (.int .i64 ((k : Nat) : Int))]]) (pBs (cs := [.v (.int .i64 ((k : Nat) : Int))]) rfl rfl rfl rfl rfl rfl rfl) rfl rfl rfl rfl ?_
            refine vpOps_ghost (ghost_own (t := 44) rfl rfl rfl rfl) ?_
            refine vApp (f := i64c) (xs := gr) (ys := [((k : Nat) : Int)]) (l := 1) rfl rfl rfl rfl rfl (srcOwn rfl rfl (fun _ => mvOkL_flat _ rfl)) rfl rfl (fun _ => rfl) (.inl ⟨_, rfl⟩) rfl rfl rfl (rfl) (by omega) (by omega) ?_
            refine vpOps_assign (x := .own 1 ((gr ++ [((k : Nat) : Int)]).map i64c)) rfl rfl rfl rfl rfl rfl rfl ?_
            refine vpOps_nil ?_
            refine vp_region ?_
            refine vpOps_pure (x := .v (.int .i64 ((k : Nat) : Int))) (pMv rfl rfl rfl) rfl rfl rfl rfl ?_
            refine vpOps_pure (x := .v (.int .i64 (((k : Nat) : Int) + 1))) (pure_add rfl rfl rfl (in64 (by omega) (by omega))) rfl rfl rfl rfl ?_
            refine vpOps_pure (x := .v (.int .i64 (((k : Nat) : Int) + 1))) (pAs rfl rfl rfl) rfl rfl rfl rfl ?_
            refine vpOps_nil ?_
            exact ⟨(k + 1, gr ++ [((k : Nat) : Int)], decide (((i : Nat) : Int) ≤ ((k : Nat) : Int))), (by first | omega | (dsimp only; omega)), ⟨(by omega), (by rw [grpTo, ← hgr]; first | (rw [if_pos (by assumption)]; done) | (rw [if_neg (by assumption)]; done)), (by first | omega | (simp only [List.length_append, List.length_cons, List.length_nil]; omega)), (by first | exact first_keep hb (by assumption) | exact first_dec hb (by assumption) (by assumption) | exact first_false hb (by assumption) | exact first_hit hb (by assumption) (by assumption) (by omega) | exact first_more hb (by assumption)), trivial⟩, ⟨rfl, rfl, rfl, rfl, rfl, rfl, rfl, rfl, trivial⟩⟩
          · skip
            refine vPass rfl rfl rfl h5 rfl rfl rfl ?_
            refine vPass rfl rfl rfl h5 rfl rfl rfl ?_
            refine vPass rfl rfl rfl h5 rfl rfl rfl ?_
            refine vpOps_pure (x := .v (.bool (false))) (pPf rfl rfl h5 rfl rfl) rfl rfl rfl rfl ?_
            refine vpOps_pure (x := .v (.bool (false))) (pAs rfl rfl rfl) rfl rfl rfl rfl ?_
            refine vpOps_nil ?_
            refine vp_region ?_
            refine vpOps_pure (x := .lv 6 []) (pure_move_lv rfl) rfl rfl rfl rfl ?_
            refine vpOps_pure (x := .v (.int .i64 ((k : Nat) : Int))) (pMv rfl rfl rfl) rfl rfl rfl rfl ?_
            refine vpOps_pure (x := .own 1 [[.v (.int .i64 ((k : Nat) : Int))]]) (pBs (cs := [.v (.int .i64 ((k : Nat) : Int))]) rfl rfl rfl rfl rfl rfl rfl) rfl rfl rfl rfl ?_
            refine vpOps_ghost (ghost_own (t := 44) rfl rfl rfl rfl) ?_
            refine vApp (f := i64c) (xs := gr) (ys := [((k : Nat) : Int)]) (l := 1) rfl rfl rfl rfl rfl (srcOwn rfl rfl (fun _ => mvOkL_flat _ rfl)) rfl rfl (fun _ => rfl) (.inl ⟨_, rfl⟩) rfl rfl rfl (rfl) (by omega) (by omega) ?_
            refine vpOps_assign (x := .own 1 ((gr ++ [((k : Nat) : Int)]).map i64c)) rfl rfl rfl rfl rfl rfl rfl ?_
            refine vpOps_nil ?_
            refine vp_region ?_
            refine vpOps_pure (x := .v (.int .i64 ((k : Nat) : Int))) (pMv rfl rfl rfl) rfl rfl rfl rfl ?_
            refine vpOps_pure (x := .v (.int .i64 (((k : Nat) : Int) + 1))) (pure_add rfl rfl rfl (in64 (by omega) (by omega))) rfl rfl rfl rfl ?_
            refine vpOps_pure (x := .v (.int .i64 (((k : Nat) : Int) + 1))) (pAs rfl rfl rfl) rfl rfl rfl rfl ?_
            refine vpOps_nil ?_
            exact ⟨(k + 1, gr ++ [((k : Nat) : Int)], false), (by first | omega | (dsimp only; omega)), ⟨(by omega), (by rw [grpTo, ← hgr]; first | (rw [if_pos (by assumption)]; done) | (rw [if_neg (by assumption)]; done)), (by first | omega | (simp only [List.length_append, List.length_cons, List.length_nil]; omega)), (by first | exact first_keep hb (by assumption) | exact first_dec hb (by assumption) (by assumption) | exact first_false hb (by assumption) | exact first_hit hb (by assumption) (by assumption) (by omega) | exact first_more hb (by assumption)), trivial⟩, ⟨rfl, rfl, rfl, rfl, rfl, rfl, rfl, rfl, trivial⟩⟩
        · skip
          refine vp_skip ?_
          refine vp_region ?_
          refine vpOps_pure (x := .v (.int .i64 ((k : Nat) : Int))) (pMv rfl rfl rfl) rfl rfl rfl rfl ?_
          refine vpOps_pure (x := .v (.int .i64 (((k : Nat) : Int) + 1))) (pure_add rfl rfl rfl (in64 (by omega) (by omega))) rfl rfl rfl rfl ?_
          refine vpOps_pure (x := .v (.int .i64 (((k : Nat) : Int) + 1))) (pAs rfl rfl rfl) rfl rfl rfl rfl ?_
          refine vpOps_nil ?_
          exact ⟨(k + 1, gr, b), (by first | omega | (dsimp only; omega)), ⟨(by omega), (by rw [grpTo, ← hgr]; first | (rw [if_pos (by assumption)]; done) | (rw [if_neg (by assumption)]; done)), (by first | omega | (simp only [List.length_append, List.length_cons, List.length_nil]; omega)), (by first | exact first_keep hb (by assumption) | exact first_dec hb (by assumption) (by assumption) | exact first_false hb (by assumption) | exact first_hit hb (by assumption) (by assumption) (by omega) | exact first_more hb (by assumption)), trivial⟩, ⟨rfl, rfl, rfl, rfl, rfl, rfl, rfl, rfl, trivial⟩⟩
      · skip
        refine vp_exit ?_
        refine vp_seq ?_
        refine vp_region ?_
        refine vpOps_pure (x := .v (.bool (b))) (pMv rfl rfl rfl) rfl rfl rfl rfl ?_
        refine vpOps_pure (x := .v (.bool (b))) (pMv rfl rfl rfl) rfl rfl rfl rfl ?_
        rcases Bool.eq_false_or_eq_true b with h6 | h6
        · skip
          refine vRun rfl rfl rfl h6 rfl rfl rfl ?_
          refine vpOps_pure (x := .lv 6 []) (pure_move_lv rfl) rfl rfl rfl rfl ?_
          refine vRun rfl rfl rfl h6 rfl rfl rfl ?_
          refine vpOps_pure (x := .v (.int .i64 ((gr.length : Nat) : Int))) (pLenR rfl rfl rfl rfl rfl (List.length_map _)) rfl rfl rfl rfl ?_
          refine vRun rfl rfl rfl h6 rfl rfl rfl ?_
          refine vpOps_pure (x := .v (.bool (decide (1 < ((gr.length : Nat) : Int))))) (pure_bin rfl rfl rfl rfl) rfl rfl rfl rfl ?_
          refine vpOps_pure (x := .v (.bool (decide (1 < ((gr.length : Nat) : Int))))) (pPt rfl rfl h6 rfl rfl) rfl rfl rfl rfl ?_
          refine vpOps_nil ?_
          refine vIf rfl (fun h7 => ?_) (fun h7 => ?_)
          · skip
            refine vp_region ?_
            refine vpOps_pure (x := .lv 4 []) (pure_move_lv rfl) rfl rfl rfl rfl ?_
            refine vpOps_pure (x := .lv 6 []) (pure_move_lv rfl) rfl rfl rfl rfl ?_
            refine vpOps_ghost (ghost_own (t := 55) rfl rfl rfl rfl) ?_
            refine vpOps_buildSliceOwn (els := [[.own 1 (gr.map i64c)]]) [55] rfl rfl rfl rfl rfl rfl ⟨trivial, trivial⟩ rfl rfl rfl rfl ⟨rfl, rfl⟩ ?_
            refine vpOps_ghost (ghost_own (t := 54) rfl rfl rfl rfl) ?_
            refine vApp (f := i64sO) (xs := out) (ys := [gr]) (l := 1) rfl rfl rfl rfl rfl (srcMv rfl rfl) rfl rfl (fun _ => rfl) (.inl ⟨_, rfl⟩) rfl rfl rfl (rfl) (by omega) (by omega) ?_
            refine vpOps_assign (x := .own 1 ((out ++ [gr]).map i64sO)) rfl rfl rfl rfl rfl rfl rfl ?_
            refine vpOps_nil ?_
            refine vp_region ?_
            refine vpOps_pure (x := .v (.int .i64 ((i : Nat) : Int))) (pMv rfl rfl rfl) rfl rfl rfl rfl ?_
            refine vpOps_pure (x := .v (.int .i64 (((i : Nat) : Int) + 1))) (pure_add rfl rfl rfl (in64 (by omega) (by omega))) rfl rfl rfl rfl ?_
            refine vpOps_pure (x := .v (.int .i64 (((i : Nat) : Int) + 1))) (pAs rfl rfl rfl) rfl rfl rfl rfl ?_
            refine vpOps_nil ?_
            exact ⟨(i + 1, out ++ [gr]), (by first | omega | (dsimp only; omega)), ⟨(by omega), (by assumption), (by rw [dupTo, ← ho, ← show gr = grpTo d i d.length by rw [hgr, show k = d.length by omega]]; first | (rw [if_pos ⟨first_all (hb.1 (by assumption)) (by omega), by omega⟩]; done) | (rw [if_neg (fun h => by have := h.2; omega)]; done) | (rw [if_neg (fun h => by have := hb.2 (fun m hm hmi => h.1 m hmi); simp_all)]; done)), (by first | omega | (simp only [List.length_append, List.length_cons, List.length_nil]; omega)), trivial⟩, ⟨rfl, rfl, rfl, rfl, rfl, trivial⟩⟩
          · skip
            refine vp_skip ?_
            refine vp_region ?_
            refine vpOps_pure (x := .v (.int .i64 ((i : Nat) : Int))) (pMv rfl rfl rfl) rfl rfl rfl rfl ?_
            refine vpOps_pure (x := .v (.int .i64 (((i : Nat) : Int) + 1))) (pure_add rfl rfl rfl (in64 (by omega) (by omega))) rfl rfl rfl rfl ?_
            refine vpOps_pure (x := .v (.int .i64 (((i : Nat) : Int) + 1))) (pAs rfl rfl rfl) rfl rfl rfl rfl ?_
            refine vpOps_nil ?_
            exact ⟨(i + 1, out), (by first | omega | (dsimp only; omega)), ⟨(by omega), (by assumption), (by rw [dupTo, ← ho, ← show gr = grpTo d i d.length by rw [hgr, show k = d.length by omega]]; first | (rw [if_pos ⟨first_all (hb.1 (by assumption)) (by omega), by omega⟩]; done) | (rw [if_neg (fun h => by have := h.2; omega)]; done) | (rw [if_neg (fun h => by have := hb.2 (fun m hm hmi => h.1 m hmi); simp_all)]; done)), (by first | omega | (simp only [List.length_append, List.length_cons, List.length_nil]; omega)), trivial⟩, ⟨rfl, rfl, rfl, rfl, rfl, trivial⟩⟩
        · skip
          refine vPass rfl rfl rfl h6 rfl rfl rfl ?_
          refine vPass rfl rfl rfl h6 rfl rfl rfl ?_
          refine vPass rfl rfl rfl h6 rfl rfl rfl ?_
          refine vpOps_pure (x := .v (.bool (false))) (pPf rfl rfl h6 rfl rfl) rfl rfl rfl rfl ?_
          refine vpOps_nil ?_
          refine vIfF rfl rfl ?_
          refine vp_skip ?_
          refine vp_region ?_
          refine vpOps_pure (x := .v (.int .i64 ((i : Nat) : Int))) (pMv rfl rfl rfl) rfl rfl rfl rfl ?_
          refine vpOps_pure (x := .v (.int .i64 (((i : Nat) : Int) + 1))) (pure_add rfl rfl rfl (in64 (by omega) (by omega))) rfl rfl rfl rfl ?_
          refine vpOps_pure (x := .v (.int .i64 (((i : Nat) : Int) + 1))) (pAs rfl rfl rfl) rfl rfl rfl rfl ?_
          refine vpOps_nil ?_
          exact ⟨(i + 1, out), (by first | omega | (dsimp only; omega)), ⟨(by omega), (by assumption), (by rw [dupTo, ← ho, ← show gr = grpTo d i d.length by rw [hgr, show k = d.length by omega]]; first | (rw [if_pos ⟨first_all (hb.1 (by assumption)) (by omega), by omega⟩]; done) | (rw [if_neg (fun h => by have := h.2; omega)]; done) | (rw [if_neg (fun h => by have := hb.2 (fun m hm hmi => h.1 m hmi); simp_all)]; done)), (by first | omega | (simp only [List.length_append, List.length_cons, List.length_nil]; omega)), trivial⟩, ⟨rfl, rfl, rfl, rfl, rfl, trivial⟩⟩
    · skip
      refine vp_exit ?_
      refine vp_seq ?_
      refine vp_region ?_
      refine vpOps_pure (x := .lv 4 []) (pure_move_lv rfl) rfl rfl rfl rfl ?_
      refine vpOps_ghost (ghost_own (t := 58) rfl rfl rfl rfl) ?_
      refine vpOps_assign (x := .own 1 (out.map i64sO)) rfl rfl rfl rfl rfl rfl rfl ?_
      refine vpOps_pure (x := .v (.int .i64 0)) (pAs rfl rfl rfl) rfl rfl rfl rfl ?_
      refine vpOps_nil ?_
      refine vp_ret ?_
      exact ⟨[.own 1 (out.map i64sO), .v (.int .i64 0)], [2, 3], (.cons (.tmp rfl rfl) (.cons (.tmp rfl rfl) .nil)), rfl, ⟨(show (.tup [.own 1 (out.map i64sO), .v (.int .i64 0)] : PV) = .tup [.own 1 ((dupL d).map i64sO), .v (.int .i64 (dupC d))] from (by unfold dupL dupC; by_cases hz : deckOk d <;> first | (rw [if_neg hz, if_neg hz]; done) | (rw [if_neg hz, if_neg hz]; rfl) | (exfalso; first | exact absurd hz (by assumption) | exact hz hg | omega) | (rw [if_pos hz, if_pos hz, ho, show i = d.length by omega]))), rfl⟩⟩

end Go.Vr
