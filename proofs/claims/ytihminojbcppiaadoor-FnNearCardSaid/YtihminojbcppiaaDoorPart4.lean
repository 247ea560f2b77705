/- Walks through functions that the law reaches, and what these compute in plain terms; a part of the proof of the statement in YtihminojbcppiaaDoorClose. -/
import Derived.Test.YtihminojbcppiaaDoorPart3
/- Walks of the functions that the law reaches: what each gives, by value. -/
namespace Go.Vr
open Go Go.Proofs
set_option linter.unusedVariables false
set_option linter.unusedSimpArgs false
set_option maxRecDepth 8000

/-- laws.FnNear -/
theorem c_law {G : World → Prop} (code : List Int) (more : List Int) (hc : ∀ x ∈ code, 0 ≤ x ∧ x ≤ 255) (hcl : code.length ≤ 9223372036854775807) (hm_ : ∀ x ∈ more, 0 ≤ x ∧ x ≤ 255) (hml : more.length ≤ 9223372036854775807) : CallsV Tryd.prog G 3 [.sh 1 (code.map u8c), .sh 1 (more.map u8c)] (fun r outs => r = .v (.bool (true)) ∧ outs = [.junk, .junk]) := by
  refine callsV_enter [] Tryd.func3 rfl rfl rfl ?_
  refine vp_seq ?_
  refine vp_region ?_
  refine vpOps_pure (x := .v (.bool (false))) (pAs rfl rfl rfl) rfl rfl rfl rfl ?_
  refine vpOps_nil ?_
  refine vp_seq ?_
  refine vp_seq ?_
  refine vp_region ?_
  refine vpOps_pure (x := .sh 1 (code.map u8c)) (pMv rfl rfl rfl) rfl rfl rfl rfl ?_
  refine vpOps_pure (x := .sh 1 (more.map u8c)) (pMv rfl rfl rfl) rfl rfl rfl rfl ?_
  refine vpOps_call (gs := [⟨.tmp 33, .sh 1 (code.map u8c), none, none⟩, ⟨.tmp 34, .sh 1 (more.map u8c), none, none⟩]) (c_a2Long code more ) rfl rfl rfl rfl rfl trivial (by kernel_rfl) rfl rfl (gives_cons (gC rfl rfl) (gives_cons (gC rfl rfl) gives_nil)) rfl (fun _ _ _ => .inl rfl) ?_
  rintro _ _ ⟨rfl, rfl⟩
  refine vpOps_nil ?_
  refine vIf rfl (fun h1 => ?_) (fun h1 => ?_)
  · skip
    refine vp_seq ?_
    refine vp_region ?_
    refine vpOps_pure (x := .v (.bool (true))) (pAs rfl rfl rfl) rfl rfl rfl rfl ?_
    refine vpOps_nil ?_
    refine vp_ret ?_
    exact ⟨[.v (.bool (true))], [4], (.cons (.tmp rfl rfl) .nil), rfl, ⟨(show (.v (.bool (true)) : PV) = .v (.bool (true)) from rfl), rfl⟩⟩
  · skip
    refine vp_skip ?_
    refine vp_seq ?_
    refine vp_region ?_
    refine vpOps_pure (x := .sh 1 (code.map u8c)) (pMv rfl rfl rfl) rfl rfl rfl rfl ?_
    refine vpOps_call (gs := [⟨.tmp 36, .sh 1 (code.map u8c), none, none⟩]) (c_A2Scheme code (by first | assumption | omega | exact hS_2.f | exact hwd | exact hm_4.wf | exact hm_5.wf | exact (hD_3.m _ (by omega)).wf | (have := nearL_len (d := deck_3) (m := m_4); omega) | (have := dupL_len (d := deck_3); omega) | (have := dupL_in (d := deck_3) _ (getD_mem (i := i) (by omega)); omega) | (have := dupL_in (d := deck_3) _ (getD_mem (i := k2) (by omega)); omega)) (by first | assumption | omega | exact hS_2.f | exact hwd | exact hm_4.wf | exact hm_5.wf | exact (hD_3.m _ (by omega)).wf | (have := nearL_len (d := deck_3) (m := m_4); omega) | (have := dupL_len (d := deck_3); omega) | (have := dupL_in (d := deck_3) _ (getD_mem (i := i) (by omega)); omega) | (have := dupL_in (d := deck_3) _ (getD_mem (i := k2) (by omega)); omega))) rfl rfl rfl rfl rfl trivial (by kernel_rfl) rfl rfl (gives_cons (gC rfl rfl) gives_nil) rfl (fun _ _ _ => .inl rfl) ?_
    rintro _ _ ⟨list_2, rfl, rfl, hS_2, hl_2⟩
    refine vpOps_assign (x := .own 4 (list_2.map fieldc)) rfl rfl rfl rfl rfl rfl rfl ?_
    refine vpOps_nil ?_
    refine vp_seq ?_
    refine vp_region ?_
    refine vpOps_pure (x := .sh 1 (more.map u8c)) (pMv rfl rfl rfl) rfl rfl rfl rfl ?_
    refine vpOps_pure (x := .lv 5 []) (pure_move_lv rfl) rfl rfl rfl rfl ?_
    refine vpOps_call (gs := [⟨.tmp 38, .sh 1 (more.map u8c), none, none⟩, ⟨.tmp 39, .sh 4 (list_2.map fieldc), none, some 5⟩]) (c_A2Deck more list_2 (by first | assumption | omega | exact hS_2.f | exact hwd | exact hm_4.wf | exact hm_5.wf | exact (hD_3.m _ (by omega)).wf | (have := nearL_len (d := deck_3) (m := m_4); omega) | (have := dupL_len (d := deck_3); omega) | (have := dupL_in (d := deck_3) _ (getD_mem (i := i) (by omega)); omega) | (have := dupL_in (d := deck_3) _ (getD_mem (i := k2) (by omega)); omega)) (by first | assumption | omega | exact hS_2.f | exact hwd | exact hm_4.wf | exact hm_5.wf | exact (hD_3.m _ (by omega)).wf | (have := nearL_len (d := deck_3) (m := m_4); omega) | (have := dupL_len (d := deck_3); omega) | (have := dupL_in (d := deck_3) _ (getD_mem (i := i) (by omega)); omega) | (have := dupL_in (d := deck_3) _ (getD_mem (i := k2) (by omega)); omega)) (by first | assumption | omega | exact hS_2.f | exact hwd | exact hm_4.wf | exact hm_5.wf | exact (hD_3.m _ (by omega)).wf | (have := nearL_len (d := deck_3) (m := m_4); omega) | (have := dupL_len (d := deck_3); omega) | (have := dupL_in (d := deck_3) _ (getD_mem (i := i) (by omega)); omega) | (have := dupL_in (d := deck_3) _ (getD_mem (i := k2) (by omega)); omega)) (by first | assumption | omega | exact hS_2.f | exact hwd | exact hm_4.wf | exact hm_5.wf | exact (hD_3.m _ (by omega)).wf | (have := nearL_len (d := deck_3) (m := m_4); omega) | (have := dupL_len (d := deck_3); omega) | (have := dupL_in (d := deck_3) _ (getD_mem (i := i) (by omega)); omega) | (have := dupL_in (d := deck_3) _ (getD_mem (i := k2) (by omega)); omega))) rfl rfl rfl rfl rfl trivial (by kernel_rfl) rfl rfl (gives_cons (gC rfl rfl) (gives_cons (give_view (c := .own 4 (list_2.map fieldc)) rfl rfl rfl rfl (view_map (fun _ => rfl))) gives_nil)) rfl (fun _ _ h => .inr (by obtain ⟨_, h1, h2, _, _⟩ := h; subst h1; subst h2; exact ⟨by simp [PV.closed, PV.closedL, closedE_map], by simp [PV.closedL, PV.closed]⟩)) ?_
    rintro _ _ ⟨deck_3, rfl, rfl, hD_3, hdl_3⟩
    refine vpOps_assign (x := .own 3 (deck_3.map cardc)) rfl rfl rfl rfl rfl rfl rfl ?_
    refine vpOps_nil ?_
    refine vp_seq ?_
    refine vp_region ?_
    refine vpOps_pure (x := .sh 1 (more.map u8c)) (pMv rfl rfl rfl) rfl rfl rfl rfl ?_
    refine vpOps_call (gs := [⟨.tmp 41, .sh 1 (more.map u8c), none, none⟩]) (c_A2Mask more (by first | assumption | omega | exact hS_2.f | exact hwd | exact hm_4.wf | exact hm_5.wf | exact (hD_3.m _ (by omega)).wf | (have := nearL_len (d := deck_3) (m := m_4); omega) | (have := dupL_len (d := deck_3); omega) | (have := dupL_in (d := deck_3) _ (getD_mem (i := i) (by omega)); omega) | (have := dupL_in (d := deck_3) _ (getD_mem (i := k2) (by omega)); omega)) (by first | assumption | omega | exact hS_2.f | exact hwd | exact hm_4.wf | exact hm_5.wf | exact (hD_3.m _ (by omega)).wf | (have := nearL_len (d := deck_3) (m := m_4); omega) | (have := dupL_len (d := deck_3); omega) | (have := dupL_in (d := deck_3) _ (getD_mem (i := i) (by omega)); omega) | (have := dupL_in (d := deck_3) _ (getD_mem (i := k2) (by omega)); omega))) rfl rfl rfl rfl rfl trivial (by kernel_rfl) rfl rfl (gives_cons (gC rfl rfl) gives_nil) rfl (fun _ _ _ => .inl rfl) ?_
    rintro _ _ ⟨m_4, rfl, rfl, hm_4⟩
    refine vpOps_pure (x := .box [.v (.int .u64 0), .v (.int .u64 0)]) (pure_alloc rfl) rfl rfl rfl rfl ?_
    refine vStB (x := .agg [.v (.int .u64 ((m_4.a : Nat) : Int)), .v (.int .u64 ((m_4.b : Nat) : Int))]) (row' := [.v (.int .u64 ((m_4.a : Nat) : Int)), .v (.int .u64 ((m_4.b : Nat) : Int))]) rfl rfl rfl rfl rfl rfl rfl rfl rfl rfl rfl rfl ?_
    refine vpOps_nil ?_
    refine vp_seq ?_
    refine vp_region ?_
    refine vpOps_pure (x := .sh 1 (code.map u8c)) (pMv rfl rfl rfl) rfl rfl rfl rfl ?_
    refine vpOps_call (gs := [⟨.tmp 43, .sh 1 (code.map u8c), none, none⟩]) (c_A2Mask code (by first | assumption | omega | exact hS_2.f | exact hwd | exact hm_4.wf | exact hm_5.wf | exact (hD_3.m _ (by omega)).wf | (have := nearL_len (d := deck_3) (m := m_4); omega) | (have := dupL_len (d := deck_3); omega) | (have := dupL_in (d := deck_3) _ (getD_mem (i := i) (by omega)); omega) | (have := dupL_in (d := deck_3) _ (getD_mem (i := k2) (by omega)); omega)) (by first | assumption | omega | exact hS_2.f | exact hwd | exact hm_4.wf | exact hm_5.wf | exact (hD_3.m _ (by omega)).wf | (have := nearL_len (d := deck_3) (m := m_4); omega) | (have := dupL_len (d := deck_3); omega) | (have := dupL_in (d := deck_3) _ (getD_mem (i := i) (by omega)); omega) | (have := dupL_in (d := deck_3) _ (getD_mem (i := k2) (by omega)); omega))) rfl rfl rfl rfl rfl trivial (by kernel_rfl) rfl rfl (gives_cons (gC rfl rfl) gives_nil) rfl (fun _ _ _ => .inl rfl) ?_
    rintro _ _ ⟨m_5, rfl, rfl, hm_5⟩
    refine vpOps_pure (x := .box [.v (.int .u64 0), .v (.int .u64 0)]) (pure_alloc rfl) rfl rfl rfl rfl ?_
    refine vStB (x := .agg [.v (.int .u64 ((m_5.a : Nat) : Int)), .v (.int .u64 ((m_5.b : Nat) : Int))]) (row' := [.v (.int .u64 ((m_5.a : Nat) : Int)), .v (.int .u64 ((m_5.b : Nat) : Int))]) rfl rfl rfl rfl rfl rfl rfl rfl rfl rfl rfl rfl ?_
    refine vpOps_nil ?_
    refine vp_seq ?_
    refine vp_region ?_
    have hk4 := ok_maskOk hm_4
    have hk5 := ok_maskOk hm_5
    have hdd : deckOk deck_3 := hD_3.ok (by omega)
    have hwd := hD_3.wf (by omega)
    have hnl := nearL_len (d := deck_3) (m := m_4)
    have hdl := dupL_len (d := deck_3)
    have hnc := nearC_ok hdd hk4
    refine vpOps_pure (x := .agg [.v (.int .u64 ((m_4.a : Nat) : Int)), .v (.int .u64 ((m_4.b : Nat) : Int))]) (pure_load_pl_agg rfl rfl rfl rfl rfl rfl rfl rfl (by simp [PV.flatL, PV.flat])) rfl rfl rfl rfl ?_
    refine vpOps_pure (x := .agg [.v (.int .u64 ((m_5.a : Nat) : Int)), .v (.int .u64 ((m_5.b : Nat) : Int))]) (pure_load_pl_agg rfl rfl rfl rfl rfl rfl rfl rfl (by simp [PV.flatL, PV.flat])) rfl rfl rfl rfl ?_
    refine vpOps_call (gs := [⟨.tmp 46, .agg [.v (.int .u64 ((m_4.a : Nat) : Int)), .v (.int .u64 ((m_4.b : Nat) : Int))], none, none⟩, ⟨.tmp 47, .agg [.v (.int .u64 ((m_5.a : Nat) : Int)), .v (.int .u64 ((m_5.b : Nat) : Int))], none, none⟩]) (c_DistanceOf m_4 m_5 (by first | assumption | omega | exact hS_2.f | exact hwd | exact hm_4.wf | exact hm_5.wf | exact (hD_3.m _ (by omega)).wf | (have := nearL_len (d := deck_3) (m := m_4); omega) | (have := dupL_len (d := deck_3); omega) | (have := dupL_in (d := deck_3) _ (getD_mem (i := i) (by omega)); omega) | (have := dupL_in (d := deck_3) _ (getD_mem (i := k2) (by omega)); omega)) (by first | assumption | omega | exact hS_2.f | exact hwd | exact hm_4.wf | exact hm_5.wf | exact (hD_3.m _ (by omega)).wf | (have := nearL_len (d := deck_3) (m := m_4); omega) | (have := dupL_len (d := deck_3); omega) | (have := dupL_in (d := deck_3) _ (getD_mem (i := i) (by omega)); omega) | (have := dupL_in (d := deck_3) _ (getD_mem (i := k2) (by omega)); omega))) rfl rfl rfl rfl rfl trivial (by kernel_rfl) rfl rfl (gives_cons (gC rfl rfl) (gives_cons (gC rfl rfl) gives_nil)) rfl (fun _ _ _ => .inl rfl) ?_
    rintro _ _ ⟨rfl, rfl⟩
    refine vpOps_pure (x := .tup [.v (.int .i64 (if maskOk m_4 ∧ maskOk m_5 then (farM m_4 m_5 : Int) else 0)), .v (.int .i64 (if maskOk m_4 ∧ maskOk m_5 then 0 else 1))]) (pMv rfl rfl rfl) rfl rfl rfl rfl ?_
    refine vpOps_pure (x := .v (.int .i64 ((((farM m_4 m_5) : Nat) : Int)))) (pEqI (pure_extract rfl rfl rfl (mvOkL_flat _ rfl)) (if_pos ⟨hk4, hk5⟩)) rfl rfl rfl rfl ?_
    refine vpOps_pure (x := .v (.int .i64 0)) (pEqI (pure_extract rfl rfl rfl (mvOkL_flat _ rfl)) (if_pos ⟨hk4, hk5⟩)) rfl rfl rfl rfl ?_
    refine vpOps_pure (x := .v (.int .i64 ((((farM m_4 m_5) : Nat) : Int)))) (pAs rfl rfl rfl) rfl rfl rfl rfl ?_
    refine vpOps_pure (x := .v (.int .i64 0)) (pAs rfl rfl rfl) rfl rfl rfl rfl ?_
    refine vpOps_nil ?_
    refine vp_seq ?_
    refine vp_region ?_
    refine vpOps_pure (x := .agg [.v (.int .u64 ((m_5.a : Nat) : Int)), .v (.int .u64 ((m_5.b : Nat) : Int))]) (pure_load_pl_agg rfl rfl rfl rfl rfl rfl rfl rfl (by simp [PV.flatL, PV.flat])) rfl rfl rfl rfl ?_
    refine vpOps_pure (x := .agg [.v (.int .u64 ((m_4.a : Nat) : Int)), .v (.int .u64 ((m_4.b : Nat) : Int))]) (pure_load_pl_agg rfl rfl rfl rfl rfl rfl rfl rfl (by simp [PV.flatL, PV.flat])) rfl rfl rfl rfl ?_
    refine vpOps_call (gs := [⟨.tmp 52, .agg [.v (.int .u64 ((m_5.a : Nat) : Int)), .v (.int .u64 ((m_5.b : Nat) : Int))], none, none⟩, ⟨.tmp 53, .agg [.v (.int .u64 ((m_4.a : Nat) : Int)), .v (.int .u64 ((m_4.b : Nat) : Int))], none, none⟩]) (c_DistanceOf m_5 m_4 (by first | assumption | omega | exact hS_2.f | exact hwd | exact hm_4.wf | exact hm_5.wf | exact (hD_3.m _ (by omega)).wf | (have := nearL_len (d := deck_3) (m := m_4); omega) | (have := dupL_len (d := deck_3); omega) | (have := dupL_in (d := deck_3) _ (getD_mem (i := i) (by omega)); omega) | (have := dupL_in (d := deck_3) _ (getD_mem (i := k2) (by omega)); omega)) (by first | assumption | omega | exact hS_2.f | exact hwd | exact hm_4.wf | exact hm_5.wf | exact (hD_3.m _ (by omega)).wf | (have := nearL_len (d := deck_3) (m := m_4); omega) | (have := dupL_len (d := deck_3); omega) | (have := dupL_in (d := deck_3) _ (getD_mem (i := i) (by omega)); omega) | (have := dupL_in (d := deck_3) _ (getD_mem (i := k2) (by omega)); omega))) rfl rfl rfl rfl rfl trivial (by kernel_rfl) rfl rfl (gives_cons (gC rfl rfl) (gives_cons (gC rfl rfl) gives_nil)) rfl (fun _ _ _ => .inl rfl) ?_
    rintro _ _ ⟨rfl, rfl⟩
    refine vpOps_pure (x := .tup [.v (.int .i64 (if maskOk m_5 ∧ maskOk m_4 then (farM m_5 m_4 : Int) else 0)), .v (.int .i64 (if maskOk m_5 ∧ maskOk m_4 then 0 else 1))]) (pMv rfl rfl rfl) rfl rfl rfl rfl ?_
    refine vpOps_pure (x := .v (.int .i64 ((((farM m_5 m_4) : Nat) : Int)))) (pEqI (pure_extract rfl rfl rfl (mvOkL_flat _ rfl)) (if_pos ⟨hk5, hk4⟩)) rfl rfl rfl rfl ?_
    refine vpOps_pure (x := .v (.int .i64 0)) (pEqI (pure_extract rfl rfl rfl (mvOkL_flat _ rfl)) (if_pos ⟨hk5, hk4⟩)) rfl rfl rfl rfl ?_
    refine vpOps_pure (x := .v (.int .i64 ((((farM m_5 m_4) : Nat) : Int)))) (pAs rfl rfl rfl) rfl rfl rfl rfl ?_
    refine vpOps_pure (x := .v (.int .i64 0)) (pAs rfl rfl rfl) rfl rfl rfl rfl ?_
    refine vpOps_nil ?_
    refine vp_seq ?_
    refine vp_region ?_
    refine vpOps_pure (x := .lv 6 []) (pure_move_lv rfl) rfl rfl rfl rfl ?_
    refine vpOps_pure (x := .agg [.v (.int .u64 ((m_4.a : Nat) : Int)), .v (.int .u64 ((m_4.b : Nat) : Int))]) (pure_load_pl_agg rfl rfl rfl rfl rfl rfl rfl rfl (by simp [PV.flatL, PV.flat])) rfl rfl rfl rfl ?_
    refine vpOps_call (gs := [⟨.tmp 58, .sh 3 (deck_3.map cardc), none, some 6⟩, ⟨.tmp 59, .agg [.v (.int .u64 ((m_4.a : Nat) : Int)), .v (.int .u64 ((m_4.b : Nat) : Int))], none, none⟩]) (c_NearestCards deck_3 m_4 (by first | assumption | omega | exact hS_2.f | exact hwd | exact hm_4.wf | exact hm_5.wf | exact (hD_3.m _ (by omega)).wf | (have := nearL_len (d := deck_3) (m := m_4); omega) | (have := dupL_len (d := deck_3); omega) | (have := dupL_in (d := deck_3) _ (getD_mem (i := i) (by omega)); omega) | (have := dupL_in (d := deck_3) _ (getD_mem (i := k2) (by omega)); omega)) (by first | assumption | omega | exact hS_2.f | exact hwd | exact hm_4.wf | exact hm_5.wf | exact (hD_3.m _ (by omega)).wf | (have := nearL_len (d := deck_3) (m := m_4); omega) | (have := dupL_len (d := deck_3); omega) | (have := dupL_in (d := deck_3) _ (getD_mem (i := i) (by omega)); omega) | (have := dupL_in (d := deck_3) _ (getD_mem (i := k2) (by omega)); omega)) (by first | assumption | omega | exact hS_2.f | exact hwd | exact hm_4.wf | exact hm_5.wf | exact (hD_3.m _ (by omega)).wf | (have := nearL_len (d := deck_3) (m := m_4); omega) | (have := dupL_len (d := deck_3); omega) | (have := dupL_in (d := deck_3) _ (getD_mem (i := i) (by omega)); omega) | (have := dupL_in (d := deck_3) _ (getD_mem (i := k2) (by omega)); omega))) rfl rfl rfl rfl rfl trivial (by kernel_rfl) rfl rfl (gives_cons (give_view (c := .own 3 (deck_3.map cardc)) rfl rfl rfl rfl (view_map (fun _ => rfl))) (gives_cons (gC rfl rfl) gives_nil)) rfl (fun _ _ h => .inr (by obtain ⟨h1, h2⟩ := h; subst h1; subst h2; exact ⟨by simp [PV.closed, PV.closedL, closedE_map], by simp [PV.closedL, PV.closed]⟩)) ?_
    rintro _ _ ⟨rfl, rfl⟩
    refine vpOps_pure (x := .lv 60 []) (pure_move_lv rfl) rfl rfl rfl rfl ?_
    refine vpOps_ghost (ghost_own (t := 57) rfl rfl rfl rfl) ?_
    refine vpOps_extract rfl rfl rfl rfl rfl rfl rfl rfl ?_
    refine vpOps_extract rfl rfl rfl rfl rfl rfl rfl rfl ?_
    refine vpOps_extract rfl rfl rfl rfl rfl rfl rfl rfl ?_
    refine vpOps_assign (x := .own 1 ((nearL deck_3 m_4).map i64c)) rfl rfl rfl rfl rfl rfl rfl ?_
    refine vpOps_pure (x := .v (.int .i64 (nearD deck_3 m_4))) (pAs rfl rfl rfl) rfl rfl rfl rfl ?_
    refine vpOps_pure (x := .v (.int .i64 (nearC deck_3 m_4))) (pAs rfl rfl rfl) rfl rfl rfl rfl ?_
    refine vpOps_nil ?_
    refine vp_seq ?_
    refine vp_region ?_
    refine vpOps_pure (x := .lv 6 []) (pure_move_lv rfl) rfl rfl rfl rfl ?_
    refine vpOps_pure (x := .agg [.v (.int .u64 ((m_4.a : Nat) : Int)), .v (.int .u64 ((m_4.b : Nat) : Int))]) (pure_load_pl_agg rfl rfl rfl rfl rfl rfl rfl rfl (by simp [PV.flatL, PV.flat])) rfl rfl rfl rfl ?_
    refine vpOps_call (gs := [⟨.tmp 65, .sh 3 (deck_3.map cardc), none, some 6⟩, ⟨.tmp 66, .agg [.v (.int .u64 ((m_4.a : Nat) : Int)), .v (.int .u64 ((m_4.b : Nat) : Int))], none, none⟩]) (c_sNearestCards deck_3 m_4 (by first | assumption | omega | exact hS_2.f | exact hwd | exact hm_4.wf | exact hm_5.wf | exact (hD_3.m _ (by omega)).wf | (have := nearL_len (d := deck_3) (m := m_4); omega) | (have := dupL_len (d := deck_3); omega) | (have := dupL_in (d := deck_3) _ (getD_mem (i := i) (by omega)); omega) | (have := dupL_in (d := deck_3) _ (getD_mem (i := k2) (by omega)); omega)) (by first | assumption | omega | exact hS_2.f | exact hwd | exact hm_4.wf | exact hm_5.wf | exact (hD_3.m _ (by omega)).wf | (have := nearL_len (d := deck_3) (m := m_4); omega) | (have := dupL_len (d := deck_3); omega) | (have := dupL_in (d := deck_3) _ (getD_mem (i := i) (by omega)); omega) | (have := dupL_in (d := deck_3) _ (getD_mem (i := k2) (by omega)); omega)) (by first | assumption | omega | exact hS_2.f | exact hwd | exact hm_4.wf | exact hm_5.wf | exact (hD_3.m _ (by omega)).wf | (have := nearL_len (d := deck_3) (m := m_4); omega) | (have := dupL_len (d := deck_3); omega) | (have := dupL_in (d := deck_3) _ (getD_mem (i := i) (by omega)); omega) | (have := dupL_in (d := deck_3) _ (getD_mem (i := k2) (by omega)); omega))) rfl rfl rfl rfl rfl trivial (by kernel_rfl) rfl rfl (gives_cons (give_view (c := .own 3 (deck_3.map cardc)) rfl rfl rfl rfl (view_map (fun _ => rfl))) (gives_cons (gC rfl rfl) gives_nil)) rfl (fun _ _ h => .inr (by obtain ⟨h1, h2⟩ := h; subst h1; subst h2; exact ⟨by simp [PV.closed, PV.closedL, closedE_map], by simp [PV.closedL, PV.closed]⟩)) ?_
    rintro _ _ ⟨rfl, rfl⟩
    refine vpOps_pure (x := .lv 67 []) (pure_move_lv rfl) rfl rfl rfl rfl ?_
    refine vpOps_ghost (ghost_own (t := 64) rfl rfl rfl rfl) ?_
    refine vpOps_extract rfl rfl rfl rfl rfl rfl rfl rfl ?_
    refine vpOps_extract rfl rfl rfl rfl rfl rfl rfl rfl ?_
    refine vpOps_extract rfl rfl rfl rfl rfl rfl rfl rfl ?_
    refine vpOps_assign (x := .own 1 ((nearL deck_3 m_4).map i64c)) rfl rfl rfl rfl rfl rfl rfl ?_
    refine vpOps_pure (x := .v (.int .i64 (nearD deck_3 m_4))) (pAs rfl rfl rfl) rfl rfl rfl rfl ?_
    refine vpOps_pure (x := .v (.int .i64 (nearC deck_3 m_4))) (pAs rfl rfl rfl) rfl rfl rfl rfl ?_
    refine vpOps_nil ?_
    refine vp_seq ?_
    refine vp_seq ?_
    refine vp_region ?_
    refine vpOps_pure (x := .v (.int .i64 0)) (pMv rfl rfl rfl) rfl rfl rfl rfl ?_
    refine vpOps_pure (x := .v (.bool (!decide (0 = 0)))) (pure_bin rfl rfl rfl rfl) rfl rfl rfl rfl ?_
    refine vpOps_pure (x := .v (.bool (!decide (0 = 0)))) (pMv rfl rfl rfl) rfl rfl rfl rfl ?_
    refine vRun rfl rfl rfl (not_of_t (decide_eq_true (by decide))) rfl rfl rfl ?_
    refine vpOps_pure (x := .v (.int .i64 0)) (pMv rfl rfl rfl) rfl rfl rfl rfl ?_
    refine vRun rfl rfl rfl (not_of_t (decide_eq_true (by decide))) rfl rfl rfl ?_
    refine vpOps_pure (x := .v (.bool (!decide (0 = 0)))) (pure_bin rfl rfl rfl rfl) rfl rfl rfl rfl ?_
    refine vpOps_pure (x := .v (.bool (!decide (0 = 0)))) (pPf rfl rfl (not_of_t (decide_eq_true (by decide))) rfl rfl) rfl rfl rfl rfl ?_
    refine vpOps_pure (x := .v (.bool (!decide (0 = 0)))) (pMv rfl rfl rfl) rfl rfl rfl rfl ?_
    refine vRun rfl rfl rfl (not_of_t (decide_eq_true (by decide))) rfl rfl rfl ?_
    refine vpOps_pure (x := .v (.int .i64 ((((farM m_4 m_5) : Nat) : Int)))) (pMv rfl rfl rfl) rfl rfl rfl rfl ?_
    refine vRun rfl rfl rfl (not_of_t (decide_eq_true (by decide))) rfl rfl rfl ?_
    refine vpOps_pure (x := .v (.int .i64 ((((farM m_5 m_4) : Nat) : Int)))) (pMv rfl rfl rfl) rfl rfl rfl rfl ?_
    refine vRun rfl rfl rfl (not_of_t (decide_eq_true (by decide))) rfl rfl rfl ?_
    refine vpOps_pure (x := .v (.bool (!decide (((((farM m_4 m_5) : Nat) : Int)) = ((((farM m_5 m_4) : Nat) : Int)))))) (pure_bin rfl rfl rfl rfl) rfl rfl rfl rfl ?_
    refine vpOps_pure (x := .v (.bool (!decide (((((farM m_4 m_5) : Nat) : Int)) = ((((farM m_5 m_4) : Nat) : Int)))))) (pPf rfl rfl (not_of_t (decide_eq_true (by decide))) rfl rfl) rfl rfl rfl rfl ?_
    refine vpOps_pure (x := .v (.bool (!decide (((((farM m_4 m_5) : Nat) : Int)) = ((((farM m_5 m_4) : Nat) : Int)))))) (pMv rfl rfl rfl) rfl rfl rfl rfl ?_
    by_cases h2 : ((((farM m_4 m_5) : Nat) : Int)) = ((((farM m_5 m_4) : Nat) : Int))
    · skip
      refine vRun rfl rfl rfl (not_of_t (decide_eq_true h2)) rfl rfl rfl ?_
      refine vpOps_pure (x := .v (.int .i64 ((((farM m_4 m_5) : Nat) : Int)))) (pMv rfl rfl rfl) rfl rfl rfl rfl ?_
      refine vRun rfl rfl rfl (not_of_t (decide_eq_true h2)) rfl rfl rfl ?_
      refine vpOps_pure (x := .v (.bool (decide (((((farM m_4 m_5) : Nat) : Int)) = 0)))) (pure_bin rfl rfl rfl rfl) rfl rfl rfl rfl ?_
      refine vRun rfl rfl rfl (not_of_t (decide_eq_true h2)) rfl rfl rfl ?_
      refine vpOps_pure (x := .agg [.v (.int .u64 ((m_4.a : Nat) : Int)), .v (.int .u64 ((m_4.b : Nat) : Int))]) (pure_load_pl_agg rfl rfl rfl rfl rfl rfl rfl rfl (by simp [PV.flatL, PV.flat])) rfl rfl rfl rfl ?_
      refine vRun rfl rfl rfl (not_of_t (decide_eq_true h2)) rfl rfl rfl ?_
      refine vpOps_pure (x := .agg [.v (.int .u64 ((m_5.a : Nat) : Int)), .v (.int .u64 ((m_5.b : Nat) : Int))]) (pure_load_pl_agg rfl rfl rfl rfl rfl rfl rfl rfl (by simp [PV.flatL, PV.flat])) rfl rfl rfl rfl ?_
      refine vRun rfl rfl rfl (not_of_t (decide_eq_true h2)) rfl rfl rfl ?_
      refine vpOps_pure (x := .v (.bool (decide (m_4 = m_5)))) (pEqAgg [(.int .u64 ((m_4.a : Nat) : Int)), (.int .u64 ((m_4.b : Nat) : Int))] [(.int .u64 ((m_5.a : Nat) : Int)), (.int .u64 ((m_5.b : Nat) : Int))] (φ := m_4 = m_5) rfl rfl rfl rfl rfl rfl rfl (mask_inj)) rfl rfl rfl rfl ?_
      refine vRun rfl rfl rfl (not_of_t (decide_eq_true h2)) rfl rfl rfl ?_
      refine vpOps_pure (x := .v (.bool (((decide (((((farM m_4 m_5) : Nat) : Int)) = 0)) != (decide (m_4 = m_5)))))) (pBoolNe rfl rfl rfl) rfl rfl rfl rfl ?_
      refine vpOps_pure (x := .v (.bool (((decide (((((farM m_4 m_5) : Nat) : Int)) = 0)) != (decide (m_4 = m_5)))))) (pPf rfl rfl (not_of_t (decide_eq_true h2)) rfl rfl) rfl rfl rfl rfl ?_
      refine vpOps_pure (x := .v (.bool (((decide (((((farM m_4 m_5) : Nat) : Int)) = 0)) != (decide (m_4 = m_5)))))) (pMv rfl rfl rfl) rfl rfl rfl rfl ?_
      rcases Bool.eq_false_or_eq_true ((decide (((((farM m_4 m_5) : Nat) : Int)) = 0)) != (decide (m_4 = m_5))) with h3 | h3
      · skip
        refine vPass rfl rfl rfl h3 rfl rfl rfl ?_
        refine vPass rfl rfl rfl h3 rfl rfl rfl ?_
        refine vPass rfl rfl rfl h3 rfl rfl rfl ?_
        refine vpOps_pure (x := .v (.bool (true))) (pPt rfl rfl h3 rfl rfl) rfl rfl rfl rfl ?_
        refine vpOps_pure (x := .v (.bool (true))) (pMv rfl rfl rfl) rfl rfl rfl rfl ?_
        refine vPass rfl rfl rfl rfl rfl rfl rfl ?_
        refine vPass rfl rfl rfl rfl rfl rfl rfl ?_
        refine vPass rfl rfl rfl rfl rfl rfl rfl ?_
        refine vPass rfl rfl rfl rfl rfl rfl rfl ?_
        refine vpOps_pure (x := .v (.bool (true))) (pPt rfl rfl rfl rfl rfl) rfl rfl rfl rfl ?_
        refine vpOps_pure (x := .v (.bool (true))) (pMv rfl rfl rfl) rfl rfl rfl rfl ?_
        refine vPass rfl rfl rfl rfl rfl rfl rfl ?_
        refine vPass rfl rfl rfl rfl rfl rfl rfl ?_
        refine vPass rfl rfl rfl rfl rfl rfl rfl ?_
        refine vpOps_pure (x := .v (.bool (true))) (pPt rfl rfl rfl rfl rfl) rfl rfl rfl rfl ?_
        refine vpOps_nil ?_
        refine vIfT rfl rfl ?_
        refine vp_seq ?_
        refine vp_region ?_
        refine vpOps_pure (x := .v (.bool (false))) (pAs rfl rfl rfl) rfl rfl rfl rfl ?_
        refine vpOps_nil ?_
        refine vp_ret ?_
        exact ⟨[.v (.bool (false))], [4], (.cons (.tmp rfl rfl) .nil), rfl, ⟨(show (.v (.bool (false)) : PV) = .v (.bool (true)) from (by first | rfl | (exfalso; omega) | exact ne_dec (far0 _ _) (by assumption) | exact absurd (dupC_ok hdd) (by assumption) | exact absurd (congrArg (fun n : Nat => (n : Int)) (farM_comm _ _)) (by assumption) | exact absurd (hnc.trans (if_pos (by omega))) (by assumption) | exact (dec_t (hnc.trans (if_neg (by omega)))).symm | exact (dec_t (by omega)).symm | exact not_self (by assumption) | exact absurd (rfl : nearL deck_3 m_4 = nearL deck_3 m_4) (by assumption) | exact absurd (rfl : (dupL deck_3).getD i default = (dupL deck_3).getD i default) (by assumption) | (exfalso; have := farM_comm m_4 m_5; omega) | exact ne_dec (hnear (by omega)).2.symm (by assumption) | (have := (hnear (by omega)).1; omega) | (have := htri; omega) | (have := htt (by omega) (by omega); simp_all; done) | skip)), rfl⟩⟩
      · skip
        refine vRun rfl rfl rfl h3 rfl rfl rfl ?_
        refine vpOps_pure (x := .v (.int .i64 (nearC deck_3 m_4))) (pMv rfl rfl rfl) rfl rfl rfl rfl ?_
        refine vRun rfl rfl rfl h3 rfl rfl rfl ?_
        refine vpOps_pure (x := .v (.int .i64 (nearC deck_3 m_4))) (pMv rfl rfl rfl) rfl rfl rfl rfl ?_
        refine vRun rfl rfl rfl h3 rfl rfl rfl ?_
        refine vpOps_pure (x := .v (.bool (!decide ((nearC deck_3 m_4) = (nearC deck_3 m_4))))) (pure_bin rfl rfl rfl rfl) rfl rfl rfl rfl ?_
        refine vpOps_pure (x := .v (.bool (!decide ((nearC deck_3 m_4) = (nearC deck_3 m_4))))) (pPf rfl rfl h3 rfl rfl) rfl rfl rfl rfl ?_
        refine vpOps_pure (x := .v (.bool (!decide ((nearC deck_3 m_4) = (nearC deck_3 m_4))))) (pMv rfl rfl rfl) rfl rfl rfl rfl ?_
        by_cases h4 : (nearC deck_3 m_4) = (nearC deck_3 m_4)
        · skip
          refine vRun rfl rfl rfl (not_of_t (decide_eq_true h4)) rfl rfl rfl ?_
          refine vpOps_pure (x := .lv 13 []) (pure_move_lv rfl) rfl rfl rfl rfl ?_
          refine vRun rfl rfl rfl (not_of_t (decide_eq_true h4)) rfl rfl rfl ?_
          refine vpOps_pure (x := .lv 16 []) (pure_move_lv rfl) rfl rfl rfl rfl ?_
          refine vRun rfl rfl rfl (not_of_t (decide_eq_true h4)) rfl rfl rfl ?_
          refine vpOps_call (gs := [⟨.tmp 96, .sh 1 ((nearL deck_3 m_4).map i64c), none, some 13⟩, ⟨.tmp 97, .sh 1 ((nearL deck_3 m_4).map i64c), none, some 16⟩]) (c_A2Same (nearL deck_3 m_4) (nearL deck_3 m_4) (by first | assumption | omega | exact hS_2.f | exact hwd | exact hm_4.wf | exact hm_5.wf | exact (hD_3.m _ (by omega)).wf | (have := nearL_len (d := deck_3) (m := m_4); omega) | (have := dupL_len (d := deck_3); omega) | (have := dupL_in (d := deck_3) _ (getD_mem (i := i) (by omega)); omega) | (have := dupL_in (d := deck_3) _ (getD_mem (i := k2) (by omega)); omega))) rfl rfl rfl rfl rfl trivial (by kernel_rfl) rfl rfl (gives_cons (give_view (c := .own 1 ((nearL deck_3 m_4).map i64c)) rfl rfl rfl rfl (view_map (fun _ => rfl))) (gives_cons (give_view (c := .own 1 ((nearL deck_3 m_4).map i64c)) rfl rfl rfl rfl (view_map (fun _ => rfl))) gives_nil)) rfl (fun _ _ h => .inr (by obtain ⟨h1, h2⟩ := h; subst h1; subst h2; exact ⟨by simp [PV.closed, PV.closedL, closedE_map], by simp [PV.closedL, PV.closed]⟩)) ?_
          rintro _ _ ⟨rfl, rfl⟩
          refine vRun rfl rfl rfl (not_of_t (decide_eq_true h4)) rfl rfl rfl ?_
          refine vpOps_pure (x := .v (.bool (!decide ((nearL deck_3 m_4) = (nearL deck_3 m_4))))) (pure_not rfl rfl) rfl rfl rfl rfl ?_
          refine vpOps_pure (x := .v (.bool (!decide ((nearL deck_3 m_4) = (nearL deck_3 m_4))))) (pPf rfl rfl (not_of_t (decide_eq_true h4)) rfl rfl) rfl rfl rfl rfl ?_
          refine vpOps_pure (x := .v (.bool (!decide ((nearL deck_3 m_4) = (nearL deck_3 m_4))))) (pMv rfl rfl rfl) rfl rfl rfl rfl ?_
          by_cases h5 : (nearL deck_3 m_4) = (nearL deck_3 m_4)
          · skip
            refine vRun rfl rfl rfl (not_of_t (decide_eq_true h5)) rfl rfl rfl ?_
            refine vpOps_pure (x := .v (.int .i64 (nearD deck_3 m_4))) (pMv rfl rfl rfl) rfl rfl rfl rfl ?_
            refine vRun rfl rfl rfl (not_of_t (decide_eq_true h5)) rfl rfl rfl ?_
            refine vpOps_pure (x := .v (.int .i64 (nearD deck_3 m_4))) (pMv rfl rfl rfl) rfl rfl rfl rfl ?_
            refine vRun rfl rfl rfl (not_of_t (decide_eq_true h5)) rfl rfl rfl ?_
            refine vpOps_pure (x := .v (.bool (!decide ((nearD deck_3 m_4) = (nearD deck_3 m_4))))) (pure_bin rfl rfl rfl rfl) rfl rfl rfl rfl ?_
            refine vpOps_pure (x := .v (.bool (!decide ((nearD deck_3 m_4) = (nearD deck_3 m_4))))) (pPf rfl rfl (not_of_t (decide_eq_true h5)) rfl rfl) rfl rfl rfl rfl ?_
            refine vpOps_nil ?_
            refine vIfN rfl (fun h6 => ?_) (fun h6 => ?_)
            · skip
              refine vp_seq ?_
              refine vp_region ?_
              refine vpOps_pure (x := .v (.bool (false))) (pAs rfl rfl rfl) rfl rfl rfl rfl ?_
              refine vpOps_nil ?_
              refine vp_ret ?_
              exact ⟨[.v (.bool (false))], [4], (.cons (.tmp rfl rfl) .nil), rfl, ⟨(show (.v (.bool (false)) : PV) = .v (.bool (true)) from (by first | rfl | (exfalso; omega) | exact ne_dec (far0 _ _) (by assumption) | exact absurd (dupC_ok hdd) (by assumption) | exact absurd (congrArg (fun n : Nat => (n : Int)) (farM_comm _ _)) (by assumption) | exact absurd (hnc.trans (if_pos (by omega))) (by assumption) | exact (dec_t (hnc.trans (if_neg (by omega)))).symm | exact (dec_t (by omega)).symm | exact not_self (by assumption) | exact absurd (rfl : nearL deck_3 m_4 = nearL deck_3 m_4) (by assumption) | exact absurd (rfl : (dupL deck_3).getD i default = (dupL deck_3).getD i default) (by assumption) | (exfalso; have := farM_comm m_4 m_5; omega) | exact ne_dec (hnear (by omega)).2.symm (by assumption) | (have := (hnear (by omega)).1; omega) | (have := htri; omega) | (have := htt (by omega) (by omega); simp_all; done) | skip)), rfl⟩⟩
            · skip
              refine vp_skip ?_
              refine vp_seq ?_
              refine vp_region ?_
              refine vpOps_pure (x := .lv 6 []) (pure_move_lv rfl) rfl rfl rfl rfl ?_
              refine vpOps_call (gs := [⟨.tmp 107, .sh 3 (deck_3.map cardc), none, some 6⟩]) (c_DuplicatesOf deck_3 (by first | assumption | omega | exact hS_2.f | exact hwd | exact hm_4.wf | exact hm_5.wf | exact (hD_3.m _ (by omega)).wf | (have := nearL_len (d := deck_3) (m := m_4); omega) | (have := dupL_len (d := deck_3); omega) | (have := dupL_in (d := deck_3) _ (getD_mem (i := i) (by omega)); omega) | (have := dupL_in (d := deck_3) _ (getD_mem (i := k2) (by omega)); omega)) (by first | assumption | omega | exact hS_2.f | exact hwd | exact hm_4.wf | exact hm_5.wf | exact (hD_3.m _ (by omega)).wf | (have := nearL_len (d := deck_3) (m := m_4); omega) | (have := dupL_len (d := deck_3); omega) | (have := dupL_in (d := deck_3) _ (getD_mem (i := i) (by omega)); omega) | (have := dupL_in (d := deck_3) _ (getD_mem (i := k2) (by omega)); omega))) rfl rfl rfl rfl rfl trivial (by kernel_rfl) rfl rfl (gives_cons (give_view (c := .own 3 (deck_3.map cardc)) rfl rfl rfl rfl (view_map (fun _ => rfl))) gives_nil) rfl (fun _ _ h => .inr (by obtain ⟨h1, h2⟩ := h; subst h1; subst h2; exact ⟨by simp [PV.closed, PV.closedL, closedE_map], by simp [PV.closedL, PV.closed]⟩)) ?_
              rintro _ _ ⟨rfl, rfl⟩
              refine vpOps_pure (x := .lv 108 []) (pure_move_lv rfl) rfl rfl rfl rfl ?_
              refine vpOps_ghost (ghost_own (t := 106) rfl rfl rfl rfl) ?_
              refine vpOps_extract rfl rfl rfl rfl rfl rfl rfl rfl ?_
              refine vpOps_extract rfl rfl rfl rfl rfl rfl rfl rfl ?_
              refine vpOps_assign (x := .own 1 ((dupL deck_3).map i64sO)) rfl rfl rfl rfl rfl rfl rfl ?_
              refine vpOps_pure (x := .v (.int .i64 (dupC deck_3))) (pAs rfl rfl rfl) rfl rfl rfl rfl ?_
              refine vpOps_nil ?_
              refine vp_seq ?_
              refine vp_region ?_
              refine vpOps_pure (x := .lv 6 []) (pure_move_lv rfl) rfl rfl rfl rfl ?_
              refine vpOps_call (gs := [⟨.tmp 112, .sh 3 (deck_3.map cardc), none, some 6⟩]) (c_sDuplicatesOf deck_3 (by first | assumption | omega | exact hS_2.f | exact hwd | exact hm_4.wf | exact hm_5.wf | exact (hD_3.m _ (by omega)).wf | (have := nearL_len (d := deck_3) (m := m_4); omega) | (have := dupL_len (d := deck_3); omega) | (have := dupL_in (d := deck_3) _ (getD_mem (i := i) (by omega)); omega) | (have := dupL_in (d := deck_3) _ (getD_mem (i := k2) (by omega)); omega)) (by first | assumption | omega | exact hS_2.f | exact hwd | exact hm_4.wf | exact hm_5.wf | exact (hD_3.m _ (by omega)).wf | (have := nearL_len (d := deck_3) (m := m_4); omega) | (have := dupL_len (d := deck_3); omega) | (have := dupL_in (d := deck_3) _ (getD_mem (i := i) (by omega)); omega) | (have := dupL_in (d := deck_3) _ (getD_mem (i := k2) (by omega)); omega))) rfl rfl rfl rfl rfl trivial (by kernel_rfl) rfl rfl (gives_cons (give_view (c := .own 3 (deck_3.map cardc)) rfl rfl rfl rfl (view_map (fun _ => rfl))) gives_nil) rfl (fun _ _ h => .inr (by obtain ⟨h1, h2⟩ := h; subst h1; subst h2; exact ⟨by simp [PV.closed, PV.closedL, closedE_map], by simp [PV.closedL, PV.closed]⟩)) ?_
              rintro _ _ ⟨rfl, rfl⟩
              refine vpOps_pure (x := .lv 113 []) (pure_move_lv rfl) rfl rfl rfl rfl ?_
              refine vpOps_ghost (ghost_own (t := 111) rfl rfl rfl rfl) ?_
              refine vpOps_extract rfl rfl rfl rfl rfl rfl rfl rfl ?_
              refine vpOps_extract rfl rfl rfl rfl rfl rfl rfl rfl ?_
              refine vpOps_assign (x := .own 1 ((dupL deck_3).map i64sO)) rfl rfl rfl rfl rfl rfl rfl ?_
              refine vpOps_pure (x := .v (.int .i64 (dupC deck_3))) (pAs rfl rfl rfl) rfl rfl rfl rfl ?_
              refine vpOps_nil ?_
              refine vp_seq ?_
              refine vp_seq ?_
              refine vp_region ?_
              refine vpOps_pure (x := .v (.int .i64 (dupC deck_3))) (pMv rfl rfl rfl) rfl rfl rfl rfl ?_
              refine vpOps_pure (x := .v (.int .i64 (dupC deck_3))) (pMv rfl rfl rfl) rfl rfl rfl rfl ?_
              refine vpOps_pure (x := .v (.bool (!decide ((dupC deck_3) = (dupC deck_3))))) (pure_bin rfl rfl rfl rfl) rfl rfl rfl rfl ?_
              refine vpOps_pure (x := .v (.bool (!decide ((dupC deck_3) = (dupC deck_3))))) (pMv rfl rfl rfl) rfl rfl rfl rfl ?_
              by_cases h7 : (dupC deck_3) = (dupC deck_3)
              · skip
                refine vRun rfl rfl rfl (not_of_t (decide_eq_true h7)) rfl rfl rfl ?_
                refine vpOps_pure (x := .v (.int .i64 (dupC deck_3))) (pMv rfl rfl rfl) rfl rfl rfl rfl ?_
                refine vRun rfl rfl rfl (not_of_t (decide_eq_true h7)) rfl rfl rfl ?_
                refine vpOps_pure (x := .v (.bool (!decide ((dupC deck_3) = 0)))) (pure_bin rfl rfl rfl rfl) rfl rfl rfl rfl ?_
                refine vpOps_pure (x := .v (.bool (!decide ((dupC deck_3) = 0)))) (pPf rfl rfl (not_of_t (decide_eq_true h7)) rfl rfl) rfl rfl rfl rfl ?_
                refine vpOps_pure (x := .v (.bool (!decide ((dupC deck_3) = 0)))) (pMv rfl rfl rfl) rfl rfl rfl rfl ?_
                by_cases h8 : (dupC deck_3) = 0
                · skip
                  refine vRun rfl rfl rfl (not_of_t (decide_eq_true h8)) rfl rfl rfl ?_
                  refine vpOps_pure (x := .lv 19 []) (pure_move_lv rfl) rfl rfl rfl rfl ?_
                  refine vRun rfl rfl rfl (not_of_t (decide_eq_true h8)) rfl rfl rfl ?_
                  refine vpOps_pure (x := .v (.int .i64 (((((dupL deck_3).length) : Nat) : Int)))) (pLenR rfl rfl rfl rfl rfl (List.length_map _)) rfl rfl rfl rfl ?_
                  refine vRun rfl rfl rfl (not_of_t (decide_eq_true h8)) rfl rfl rfl ?_
                  refine vpOps_pure (x := .lv 21 []) (pure_move_lv rfl) rfl rfl rfl rfl ?_
                  refine vRun rfl rfl rfl (not_of_t (decide_eq_true h8)) rfl rfl rfl ?_
                  refine vpOps_pure (x := .v (.int .i64 (((((dupL deck_3).length) : Nat) : Int)))) (pLenR rfl rfl rfl rfl rfl (List.length_map _)) rfl rfl rfl rfl ?_
                  refine vRun rfl rfl rfl (not_of_t (decide_eq_true h8)) rfl rfl rfl ?_
                  refine vpOps_pure (x := .v (.bool (!decide ((((((dupL deck_3).length) : Nat) : Int)) = (((((dupL deck_3).length) : Nat) : Int)))))) (pure_bin rfl rfl rfl rfl) rfl rfl rfl rfl ?_
                  refine vpOps_pure (x := .v (.bool (!decide ((((((dupL deck_3).length) : Nat) : Int)) = (((((dupL deck_3).length) : Nat) : Int)))))) (pPf rfl rfl (not_of_t (decide_eq_true h8)) rfl rfl) rfl rfl rfl rfl ?_
                  refine vpOps_nil ?_
                  refine vIfN rfl (fun h9 => ?_) (fun h9 => ?_)
                  · skip
                    refine vp_seq ?_
                    refine vp_region ?_
                    refine vpOps_pure (x := .v (.bool (false))) (pAs rfl rfl rfl) rfl rfl rfl rfl ?_
                    refine vpOps_nil ?_
                    refine vp_ret ?_
                    exact ⟨[.v (.bool (false))], [4], (.cons (.tmp rfl rfl) .nil), rfl, ⟨(show (.v (.bool (false)) : PV) = .v (.bool (true)) from (by first | rfl | (exfalso; omega) | exact ne_dec (far0 _ _) (by assumption) | exact absurd (dupC_ok hdd) (by assumption) | exact absurd (congrArg (fun n : Nat => (n : Int)) (farM_comm _ _)) (by assumption) | exact absurd (hnc.trans (if_pos (by omega))) (by assumption) | exact (dec_t (hnc.trans (if_neg (by omega)))).symm | exact (dec_t (by omega)).symm | exact not_self (by assumption) | exact absurd (rfl : nearL deck_3 m_4 = nearL deck_3 m_4) (by assumption) | exact absurd (rfl : (dupL deck_3).getD i default = (dupL deck_3).getD i default) (by assumption) | (exfalso; have := farM_comm m_4 m_5; omega) | exact ne_dec (hnear (by omega)).2.symm (by assumption) | (have := (hnear (by omega)).1; omega) | (have := htri; omega) | (have := htt (by omega) (by omega); simp_all; done) | skip)), rfl⟩⟩
                  · skip
                    refine vp_skip ?_
                    refine vp_seq ?_
                    refine vp_seq ?_
                    refine vp_region ?_
                    refine vpOps_pure (x := .v (.int .i64 0)) (pAs rfl rfl rfl) rfl rfl rfl rfl ?_
                    refine vpOps_nil ?_
                    refine vp_block ?_
                    refine vLoop (α := Nat) (fun i => (dupL deck_3).length - i) (fun i => (i ≤ (dupL deck_3).length) ∧ True) (fun i => [(0, .sh 1 (code.map u8c)), (1, .sh 1 (more.map u8c)), (5, .own 4 (list_2.map fieldc)), (6, .own 3 (deck_3.map cardc)), (7, .box [.v (.int .u64 ((m_4.a : Nat) : Int)), .v (.int .u64 ((m_4.b : Nat) : Int))]), (8, .box [.v (.int .u64 ((m_5.a : Nat) : Int)), .v (.int .u64 ((m_5.b : Nat) : Int))]), (9, .v (.int .i64 ((((farM m_4 m_5) : Nat) : Int)))), (10, .v (.int .i64 0)), (11, .v (.int .i64 ((((farM m_5 m_4) : Nat) : Int)))), (12, .v (.int .i64 0)), (13, .own 1 ((nearL deck_3 m_4).map i64c)), (14, .v (.int .i64 (nearD deck_3 m_4))), (15, .v (.int .i64 (nearC deck_3 m_4))), (16, .own 1 ((nearL deck_3 m_4).map i64c)), (17, .v (.int .i64 (nearD deck_3 m_4))), (18, .v (.int .i64 (nearC deck_3 m_4))), (19, .own 1 ((dupL deck_3).map i64sO)), (20, .v (.int .i64 (dupC deck_3))), (21, .own 1 ((dupL deck_3).map i64sO)), (22, .v (.int .i64 (dupC deck_3))), (23, .v (.int .i64 ((i : Nat) : Int)))]) (fun _ => rfl) (fun _ => rfl) 0 ⟨(by omega), trivial⟩ ⟨rfl, rfl, rfl, rfl, rfl, rfl, rfl, rfl, rfl, rfl, rfl, rfl, rfl, rfl, rfl, rfl, rfl, rfl, rfl, rfl, rfl, trivial⟩ ?_
                    rintro i ⟨hi, -⟩
                    have hgl := fun h => dupL_in (d := deck_3) _ (getD_mem (i := i) h)
                    refine vp_seq ?_
                    refine vp_seq ?_
                    refine vp_region ?_
                    refine vpOps_pure (x := .v (.int .i64 ((i : Nat) : Int))) (pMv rfl rfl rfl) rfl rfl rfl rfl ?_
                    refine vpOps_pure (x := .lv 21 []) (pure_move_lv rfl) rfl rfl rfl rfl ?_
                    refine vpOps_pure (x := .v (.int .i64 (((((dupL deck_3).length) : Nat) : Int)))) (pLenR rfl rfl rfl rfl rfl (List.length_map _)) rfl rfl rfl rfl ?_
                    refine vpOps_pure (x := .v (.bool (decide (((i : Nat) : Int) < (((((dupL deck_3).length) : Nat) : Int)))))) (pure_bin rfl rfl rfl rfl) rfl rfl rfl rfl ?_
                    refine vpOps_nil ?_
                    refine vIf rfl (fun h10 => ?_) (fun h10 => ?_)
                    · skip
                      refine vp_skip ?_
                      refine vp_seq ?_
                      refine vp_block ?_
                      refine vp_seq ?_
                      refine vRegD 10 ((136, .lv 19 []) :: (137, .v (.int .i64 ((i : Nat) : Int))) :: (138, .pl 19 [⟨i, 0, 1⟩]) :: (139, .lv 19 [⟨i, 0, 1⟩]) :: (140, .lv 21 []) :: (141, .v (.int .i64 ((i : Nat) : Int))) :: (142, .pl 21 [⟨i, 0, 1⟩]) :: (143, .lv 21 [⟨i, 0, 1⟩]) :: (144, .v (.bool (decide (((dupL deck_3).getD i default) = ((dupL deck_3).getD i default))))) :: (145, .v (.bool (!decide (((dupL deck_3).getD i default) = ((dupL deck_3).getD i default))))) :: []) (0 :: 0 :: 3 :: 7 :: 0 :: 0 :: 48 :: 112 :: 255 :: 511 :: []) (by kernel_rfl) rfl (by kernel_rfl) (by kernel_rfl) (by kernel_rfl) (by kernel_rfl) (by kernel_rfl) ⟨
                          dPure rfl (pure_move_lv rfl),
                          dPure rfl (pMv rfl rfl rfl),
                          dPure rfl (pIxR (m := i) rfl rfl rfl rfl rfl rfl (by first | rfl | omega) (by rw [List.length_map]; omega) rfl),
                          dPure rfl (pure_load_lv rfl rfl rfl rfl rfl (row_map (by omega)) rfl),
                          dPure rfl (pure_move_lv rfl),
                          dPure rfl (pMv rfl rfl rfl),
                          dPure rfl (pIxR (m := i) rfl rfl rfl rfl rfl rfl (by first | rfl | omega) (by rw [List.length_map]; omega) rfl),
                          dPure rfl (pure_load_lv rfl rfl rfl rfl rfl (row_map (by omega)) rfl),
                          dPure rfl (pure_call (gs := [⟨.tmp 139, .sh 1 (((dupL deck_3).getD i default).map i64c), none, some 19⟩, ⟨.tmp 143, .sh 1 (((dupL deck_3).getD i default).map i64c), none, some 21⟩]) (c_A2Same ((dupL deck_3).getD i default) ((dupL deck_3).getD i default) (by first | assumption | omega | exact hS_2.f | exact hwd | exact hm_4.wf | exact hm_5.wf | exact (hD_3.m _ (by omega)).wf | (have := nearL_len (d := deck_3) (m := m_4); omega) | (have := dupL_len (d := deck_3); omega) | (have := dupL_in (d := deck_3) _ (getD_mem (i := i) (by omega)); omega) | (have := dupL_in (d := deck_3) _ (getD_mem (i := k2) (by omega)); omega))) rfl rfl trivial (by kernel_rfl) rfl rfl (gives_cons (give_view (c := .own 1 (((dupL deck_3).getD i default).map i64c)) rfl rfl rfl (at_map (by omega) rfl) (view_map (fun _ => rfl))) (gives_cons (give_view (c := .own 1 (((dupL deck_3).getD i default).map i64c)) rfl rfl rfl (at_map (by omega) rfl) (view_map (fun _ => rfl))) gives_nil)) rfl (fun _ _ h => h.1) trivial),
                          dPure rfl (pure_not rfl rfl),
                          trivial⟩ ?_
                      refine vpOps_nil ?_
                      refine vIfN rfl (fun h11 => ?_) (fun h11 => ?_)
                      · skip
                        refine vp_seq ?_
                        refine vp_region ?_
                        refine vpOps_pure (x := .v (.bool (false))) (pAs rfl rfl rfl) rfl rfl rfl rfl ?_
                        refine vpOps_nil ?_
                        refine vp_ret ?_
                        exact ⟨[.v (.bool (false))], [4], (.cons (.tmp rfl rfl) .nil), rfl, ⟨(show (.v (.bool (false)) : PV) = .v (.bool (true)) from (by first | rfl | (exfalso; omega) | exact ne_dec (far0 _ _) (by assumption) | exact absurd (dupC_ok hdd) (by assumption) | exact absurd (congrArg (fun n : Nat => (n : Int)) (farM_comm _ _)) (by assumption) | exact absurd (hnc.trans (if_pos (by omega))) (by assumption) | exact (dec_t (hnc.trans (if_neg (by omega)))).symm | exact (dec_t (by omega)).symm | exact not_self (by assumption) | exact absurd (rfl : nearL deck_3 m_4 = nearL deck_3 m_4) (by assumption) | exact absurd (rfl : (dupL deck_3).getD i default = (dupL deck_3).getD i default) (by assumption) | (exfalso; have := farM_comm m_4 m_5; omega) | exact ne_dec (hnear (by omega)).2.symm (by assumption) | (have := (hnear (by omega)).1; omega) | (have := htri; omega) | (have := htt (by omega) (by omega); simp_all; done) | skip)), rfl⟩⟩
                      · skip
                        refine vp_skip ?_
                        refine vp_region ?_
                        refine vpOps_pure (x := .v (.int .i64 ((i : Nat) : Int))) (pMv rfl rfl rfl) rfl rfl rfl rfl ?_
                        refine vpOps_pure (x := .v (.int .i64 (((i : Nat) : Int) + 1))) (pure_add rfl rfl rfl (in64 (by omega) (by omega))) rfl rfl rfl rfl ?_
                        refine vpOps_pure (x := .v (.int .i64 (((i : Nat) : Int) + 1))) (pAs rfl rfl rfl) rfl rfl rfl rfl ?_
                        refine vpOps_nil ?_
                        exact ⟨i + 1, (by first | omega | (dsimp only; omega)), ⟨(by omega), trivial⟩, ⟨rfl, rfl, rfl, rfl, rfl, rfl, rfl, rfl, rfl, rfl, rfl, rfl, rfl, rfl, rfl, rfl, rfl, rfl, rfl, rfl, rfl, trivial⟩⟩
                    · skip
                      refine vp_exit ?_
                      refine vp_seq ?_
                      refine vp_seq ?_
                      refine vp_region ?_
                      refine vpOps_pure (x := .lv 6 []) (pure_move_lv rfl) rfl rfl rfl rfl ?_
                      refine vpOps_pure (x := .v (.int .i64 ((deck_3.length : Nat) : Int))) (pLenR rfl rfl rfl rfl rfl (List.length_map _)) rfl rfl rfl rfl ?_
                      refine vpOps_pure (x := .v (.bool (decide (((deck_3.length : Nat) : Int) = 0)))) (pure_bin rfl rfl rfl rfl) rfl rfl rfl rfl ?_
                      refine vpOps_nil ?_
                      refine vIf rfl (fun h12 => ?_) (fun h12 => ?_)
                      · skip
                        refine vp_seq ?_
                        refine vp_region ?_
                        refine vpOps_pure (x := .v (.int .i64 (nearC deck_3 m_4))) (pMv rfl rfl rfl) rfl rfl rfl rfl ?_
                        refine vpOps_pure (x := .v (.bool (decide ((nearC deck_3 m_4) = 6)))) (pure_bin rfl rfl rfl rfl) rfl rfl rfl rfl ?_
                        refine vpOps_pure (x := .v (.bool (decide ((nearC deck_3 m_4) = 6)))) (pMv rfl rfl rfl) rfl rfl rfl rfl ?_
                        by_cases h13 : (nearC deck_3 m_4) = 6
                        · skip
                          refine vRun rfl rfl rfl (decide_eq_true h13) rfl rfl rfl ?_
                          refine vpOps_pure (x := .lv 21 []) (pure_move_lv rfl) rfl rfl rfl rfl ?_
                          refine vRun rfl rfl rfl (decide_eq_true h13) rfl rfl rfl ?_
                          refine vpOps_pure (x := .v (.int .i64 (((((dupL deck_3).length) : Nat) : Int)))) (pLenR rfl rfl rfl rfl rfl (List.length_map _)) rfl rfl rfl rfl ?_
                          refine vRun rfl rfl rfl (decide_eq_true h13) rfl rfl rfl ?_
                          refine vpOps_pure (x := .v (.bool (decide ((((((dupL deck_3).length) : Nat) : Int)) = 0)))) (pure_bin rfl rfl rfl rfl) rfl rfl rfl rfl ?_
                          refine vpOps_pure (x := .v (.bool (decide ((((((dupL deck_3).length) : Nat) : Int)) = 0)))) (pPt rfl rfl (decide_eq_true h13) rfl rfl) rfl rfl rfl rfl ?_
                          refine vpOps_pure (x := .v (.bool (decide ((((((dupL deck_3).length) : Nat) : Int)) = 0)))) (pAs rfl rfl rfl) rfl rfl rfl rfl ?_
                          refine vpOps_nil ?_
                          refine vp_ret ?_
                          exact ⟨[.v (.bool (decide ((((((dupL deck_3).length) : Nat) : Int)) = 0)))], [4], (.cons (.tmp rfl rfl) .nil), rfl, ⟨(show (.v (.bool (decide ((((((dupL deck_3).length) : Nat) : Int)) = 0))) : PV) = .v (.bool (true)) from (by first | rfl | (exfalso; omega) | exact ne_dec (far0 _ _) (by assumption) | exact absurd (dupC_ok hdd) (by assumption) | exact absurd (congrArg (fun n : Nat => (n : Int)) (farM_comm _ _)) (by assumption) | exact absurd (hnc.trans (if_pos (by omega))) (by assumption) | exact (dec_t (hnc.trans (if_neg (by omega)))).symm | exact (dec_t (by omega)).symm | exact not_self (by assumption) | exact absurd (rfl : nearL deck_3 m_4 = nearL deck_3 m_4) (by assumption) | exact absurd (rfl : (dupL deck_3).getD i default = (dupL deck_3).getD i default) (by assumption) | (exfalso; have := farM_comm m_4 m_5; omega) | exact ne_dec (hnear (by omega)).2.symm (by assumption) | (have := (hnear (by omega)).1; omega) | (have := htri; omega) | (have := htt (by omega) (by omega); simp_all; done) | skip)), rfl⟩⟩
                        · skip
                          refine vPass rfl rfl rfl (decide_eq_false h13) rfl rfl rfl ?_
                          refine vPass rfl rfl rfl (decide_eq_false h13) rfl rfl rfl ?_
                          refine vPass rfl rfl rfl (decide_eq_false h13) rfl rfl rfl ?_
                          refine vpOps_pure (x := .v (.bool (false))) (pPf rfl rfl (decide_eq_false h13) rfl rfl) rfl rfl rfl rfl ?_
                          refine vpOps_pure (x := .v (.bool (false))) (pAs rfl rfl rfl) rfl rfl rfl rfl ?_
                          refine vpOps_nil ?_
                          refine vp_ret ?_
                          exact ⟨[.v (.bool (false))], [4], (.cons (.tmp rfl rfl) .nil), rfl, ⟨(show (.v (.bool (false)) : PV) = .v (.bool (true)) from (by first | rfl | (exfalso; omega) | exact ne_dec (far0 _ _) (by assumption) | exact absurd (dupC_ok hdd) (by assumption) | exact absurd (congrArg (fun n : Nat => (n : Int)) (farM_comm _ _)) (by assumption) | exact absurd (hnc.trans (if_pos (by omega))) (by assumption) | exact (dec_t (hnc.trans (if_neg (by omega)))).symm | exact (dec_t (by omega)).symm | exact not_self (by assumption) | exact absurd (rfl : nearL deck_3 m_4 = nearL deck_3 m_4) (by assumption) | exact absurd (rfl : (dupL deck_3).getD i default = (dupL deck_3).getD i default) (by assumption) | (exfalso; have := farM_comm m_4 m_5; omega) | exact ne_dec (hnear (by omega)).2.symm (by assumption) | (have := (hnear (by omega)).1; omega) | (have := htri; omega) | (have := htt (by omega) (by omega); simp_all; done) | skip)), rfl⟩⟩
                      · skip
                        refine vp_skip ?_
                        refine vp_seq ?_
                        refine vp_seq ?_
                        refine vp_region ?_
                        refine vpOps_pure (x := .v (.int .i64 0)) (pAs rfl rfl rfl) rfl rfl rfl rfl ?_
                        refine vpOps_nil ?_
                        refine vp_block ?_
                        refine vLoop (α := Nat) (fun q => deck_3.length - q) (fun q => (q ≤ deck_3.length) ∧ True) (fun q => [(0, .sh 1 (code.map u8c)), (1, .sh 1 (more.map u8c)), (5, .own 4 (list_2.map fieldc)), (6, .own 3 (deck_3.map cardc)), (7, .box [.v (.int .u64 ((m_4.a : Nat) : Int)), .v (.int .u64 ((m_4.b : Nat) : Int))]), (8, .box [.v (.int .u64 ((m_5.a : Nat) : Int)), .v (.int .u64 ((m_5.b : Nat) : Int))]), (9, .v (.int .i64 ((((farM m_4 m_5) : Nat) : Int)))), (10, .v (.int .i64 0)), (11, .v (.int .i64 ((((farM m_5 m_4) : Nat) : Int)))), (12, .v (.int .i64 0)), (13, .own 1 ((nearL deck_3 m_4).map i64c)), (14, .v (.int .i64 (nearD deck_3 m_4))), (15, .v (.int .i64 (nearC deck_3 m_4))), (16, .own 1 ((nearL deck_3 m_4).map i64c)), (17, .v (.int .i64 (nearD deck_3 m_4))), (18, .v (.int .i64 (nearC deck_3 m_4))), (19, .own 1 ((dupL deck_3).map i64sO)), (20, .v (.int .i64 (dupC deck_3))), (21, .own 1 ((dupL deck_3).map i64sO)), (22, .v (.int .i64 (dupC deck_3))), (23, .v (.int .i64 ((i : Nat) : Int))), (24, .v (.int .i64 ((q : Nat) : Int)))]) (fun _ => rfl) (fun _ => rfl) 0 ⟨(by omega), trivial⟩ ⟨rfl, rfl, rfl, rfl, rfl, rfl, rfl, rfl, rfl, rfl, rfl, rfl, rfl, rfl, rfl, rfl, rfl, rfl, rfl, rfl, rfl, rfl, trivial⟩ ?_
                        rintro q ⟨hi, -⟩
                        have hkq := fun h : q < deck_3.length => ok_maskOk (hD_3.m q h)
                        have hnear := fun h : q < deck_3.length => near_all hdd hk4 h
                        have hb4 := fun h : q < deck_3.length => farM_le (hD_3.m q h).wf hm_4.wf
                        have hb5 := fun h : q < deck_3.length => farM_le (hD_3.m q h).wf hm_5.wf
                        have htri := farM_tri m_4 m_5 (deck_3.getD q default).notches
                        refine vp_seq ?_
                        refine vp_seq ?_
                        refine vp_region ?_
                        refine vpOps_pure (x := .v (.int .i64 ((q : Nat) : Int))) (pMv rfl rfl rfl) rfl rfl rfl rfl ?_
                        refine vpOps_pure (x := .lv 6 []) (pure_move_lv rfl) rfl rfl rfl rfl ?_
                        refine vpOps_pure (x := .v (.int .i64 ((deck_3.length : Nat) : Int))) (pLenR rfl rfl rfl rfl rfl (List.length_map _)) rfl rfl rfl rfl ?_
                        refine vpOps_pure (x := .v (.bool (decide (((q : Nat) : Int) < ((deck_3.length : Nat) : Int))))) (pure_bin rfl rfl rfl rfl) rfl rfl rfl rfl ?_
                        refine vpOps_nil ?_
                        refine vIf rfl (fun h14 => ?_) (fun h14 => ?_)
                        · skip
                          refine vp_skip ?_
                          refine vp_seq ?_
                          refine vp_block ?_
                          refine vp_seq ?_
                          refine vRegD 11 ((163, .lv 6 []) :: (164, .v (.int .i64 ((q : Nat) : Int))) :: (165, .pl 6 [⟨q, 0, 3⟩]) :: (166, .pl 6 [⟨q, 1, 3⟩]) :: (167, .agg [.v (.int .u64 (((((deck_3.getD q default).notches).a : Nat) : Int))), .v (.int .u64 (((((deck_3.getD q default).notches).b : Nat) : Int)))]) :: (168, .agg [.v (.int .u64 ((m_4.a : Nat) : Int)), .v (.int .u64 ((m_4.b : Nat) : Int))]) :: (169, .tup [.v (.int .i64 (if maskOk ((deck_3.getD q default).notches) ∧ maskOk m_4 then (farM ((deck_3.getD q default).notches) m_4 : Int) else 0)), .v (.int .i64 (if maskOk ((deck_3.getD q default).notches) ∧ maskOk m_4 then 0 else 1))]) :: (162, .tup [.v (.int .i64 (if maskOk ((deck_3.getD q default).notches) ∧ maskOk m_4 then (farM ((deck_3.getD q default).notches) m_4 : Int) else 0)), .v (.int .i64 (if maskOk ((deck_3.getD q default).notches) ∧ maskOk m_4 then 0 else 1))]) :: (170, .v (.int .i64 ((((farM (deck_3.getD q default).notches m_4) : Nat) : Int)))) :: (171, .v (.int .i64 0)) :: (25, .v (.int .i64 ((((farM (deck_3.getD q default).notches m_4) : Nat) : Int)))) :: []) (0 :: 0 :: 3 :: 7 :: 15 :: 0 :: 63 :: 127 :: 255 :: 255 :: 511 :: 2047 :: []) (by kernel_rfl) rfl (by kernel_rfl) (by kernel_rfl) (by kernel_rfl) (by kernel_rfl) (by kernel_rfl) ⟨
                              dPure rfl (pure_move_lv rfl),
                              dPure rfl (pMv rfl rfl rfl),
                              dPure rfl (pIxR (m := q) rfl rfl rfl rfl rfl rfl (by first | rfl | omega) (by rw [List.length_map]; omega) rfl),
                              dPure rfl (pure_field_pl rfl rfl rfl rfl),
                              dPure rfl (pure_load_pl_agg rfl rfl rfl rfl rfl (row_map (by omega)) rfl rfl (by simp [PV.flatL, PV.flat])),
                              dPure rfl (pure_load_pl_agg rfl rfl rfl rfl rfl rfl rfl rfl (by simp [PV.flatL, PV.flat])),
                              dPure rfl (pure_call (gs := [⟨.tmp 167, .agg [.v (.int .u64 (((((deck_3.getD q default).notches).a : Nat) : Int))), .v (.int .u64 (((((deck_3.getD q default).notches).b : Nat) : Int)))], none, none⟩, ⟨.tmp 168, .agg [.v (.int .u64 ((m_4.a : Nat) : Int)), .v (.int .u64 ((m_4.b : Nat) : Int))], none, none⟩]) (c_DistanceOf ((deck_3.getD q default).notches) m_4 (by first | assumption | omega | exact hS_2.f | exact hwd | exact hm_4.wf | exact hm_5.wf | exact (hD_3.m _ (by omega)).wf | (have := nearL_len (d := deck_3) (m := m_4); omega) | (have := dupL_len (d := deck_3); omega) | (have := dupL_in (d := deck_3) _ (getD_mem (i := i) (by omega)); omega) | (have := dupL_in (d := deck_3) _ (getD_mem (i := k2) (by omega)); omega)) (by first | assumption | omega | exact hS_2.f | exact hwd | exact hm_4.wf | exact hm_5.wf | exact (hD_3.m _ (by omega)).wf | (have := nearL_len (d := deck_3) (m := m_4); omega) | (have := dupL_len (d := deck_3); omega) | (have := dupL_in (d := deck_3) _ (getD_mem (i := i) (by omega)); omega) | (have := dupL_in (d := deck_3) _ (getD_mem (i := k2) (by omega)); omega))) rfl rfl trivial (by kernel_rfl) rfl rfl (gives_cons (gC rfl rfl) (gives_cons (gC rfl rfl) gives_nil)) rfl (fun _ _ h => h.1) ⟨trivial, ⟨trivial, trivial⟩⟩),
                              dPure rfl (pMv rfl rfl rfl),
                              dPure rfl (pEqI (pure_extract rfl rfl rfl (mvOkL_flat _ rfl)) (if_pos ⟨hkq (by omega), hk4⟩)),
                              dPure rfl (pEqI (pure_extract rfl rfl rfl (mvOkL_flat _ rfl)) (if_pos ⟨hkq (by omega), hk4⟩)),
                              dPure rfl (pAs rfl rfl rfl),
                              trivial⟩ ?_
                          refine vpOps_pure (x := .v (.int .i64 0)) (pAs rfl rfl rfl) rfl rfl rfl rfl ?_
                          refine vpOps_nil ?_
                          refine vp_seq ?_
                          refine vRegD 11 ((173, .lv 6 []) :: (174, .v (.int .i64 ((q : Nat) : Int))) :: (175, .pl 6 [⟨q, 0, 3⟩]) :: (176, .pl 6 [⟨q, 1, 3⟩]) :: (177, .agg [.v (.int .u64 (((((deck_3.getD q default).notches).a : Nat) : Int))), .v (.int .u64 (((((deck_3.getD q default).notches).b : Nat) : Int)))]) :: (178, .agg [.v (.int .u64 ((m_5.a : Nat) : Int)), .v (.int .u64 ((m_5.b : Nat) : Int))]) :: (179, .tup [.v (.int .i64 (if maskOk ((deck_3.getD q default).notches) ∧ maskOk m_5 then (farM ((deck_3.getD q default).notches) m_5 : Int) else 0)), .v (.int .i64 (if maskOk ((deck_3.getD q default).notches) ∧ maskOk m_5 then 0 else 1))]) :: (172, .tup [.v (.int .i64 (if maskOk ((deck_3.getD q default).notches) ∧ maskOk m_5 then (farM ((deck_3.getD q default).notches) m_5 : Int) else 0)), .v (.int .i64 (if maskOk ((deck_3.getD q default).notches) ∧ maskOk m_5 then 0 else 1))]) :: (180, .v (.int .i64 ((((farM (deck_3.getD q default).notches m_5) : Nat) : Int)))) :: (181, .v (.int .i64 0)) :: (27, .v (.int .i64 ((((farM (deck_3.getD q default).notches m_5) : Nat) : Int)))) :: []) (0 :: 0 :: 3 :: 7 :: 15 :: 0 :: 63 :: 127 :: 255 :: 255 :: 511 :: 2047 :: []) (by kernel_rfl) rfl (by kernel_rfl) (by kernel_rfl) (by kernel_rfl) (by kernel_rfl) (by kernel_rfl) ⟨
                              dPure rfl (pure_move_lv rfl),
                              dPure rfl (pMv rfl rfl rfl),
                              dPure rfl (pIxR (m := q) rfl rfl rfl rfl rfl rfl (by first | rfl | omega) (by rw [List.length_map]; omega) rfl),
                              dPure rfl (pure_field_pl rfl rfl rfl rfl),
                              dPure rfl (pure_load_pl_agg rfl rfl rfl rfl rfl (row_map (by omega)) rfl rfl (by simp [PV.flatL, PV.flat])),
                              dPure rfl (pure_load_pl_agg rfl rfl rfl rfl rfl rfl rfl rfl (by simp [PV.flatL, PV.flat])),
                              dPure rfl (pure_call (gs := [⟨.tmp 177, .agg [.v (.int .u64 (((((deck_3.getD q default).notches).a : Nat) : Int))), .v (.int .u64 (((((deck_3.getD q default).notches).b : Nat) : Int)))], none, none⟩, ⟨.tmp 178, .agg [.v (.int .u64 ((m_5.a : Nat) : Int)), .v (.int .u64 ((m_5.b : Nat) : Int))], none, none⟩]) (c_DistanceOf ((deck_3.getD q default).notches) m_5 (by first | assumption | omega | exact hS_2.f | exact hwd | exact hm_4.wf | exact hm_5.wf | exact (hD_3.m _ (by omega)).wf | (have := nearL_len (d := deck_3) (m := m_4); omega) | (have := dupL_len (d := deck_3); omega) | (have := dupL_in (d := deck_3) _ (getD_mem (i := i) (by omega)); omega) | (have := dupL_in (d := deck_3) _ (getD_mem (i := k2) (by omega)); omega)) (by first | assumption | omega | exact hS_2.f | exact hwd | exact hm_4.wf | exact hm_5.wf | exact (hD_3.m _ (by omega)).wf | (have := nearL_len (d := deck_3) (m := m_4); omega) | (have := dupL_len (d := deck_3); omega) | (have := dupL_in (d := deck_3) _ (getD_mem (i := i) (by omega)); omega) | (have := dupL_in (d := deck_3) _ (getD_mem (i := k2) (by omega)); omega))) rfl rfl trivial (by kernel_rfl) rfl rfl (gives_cons (gC rfl rfl) (gives_cons (gC rfl rfl) gives_nil)) rfl (fun _ _ h => h.1) ⟨trivial, ⟨trivial, trivial⟩⟩),
                              dPure rfl (pMv rfl rfl rfl),
                              dPure rfl (pEqI (pure_extract rfl rfl rfl (mvOkL_flat _ rfl)) (if_pos ⟨hkq (by omega), hk5⟩)),
                              dPure rfl (pEqI (pure_extract rfl rfl rfl (mvOkL_flat _ rfl)) (if_pos ⟨hkq (by omega), hk5⟩)),
                              dPure rfl (pAs rfl rfl rfl),
                              trivial⟩ ?_
                          refine vpOps_pure (x := .v (.int .i64 0)) (pAs rfl rfl rfl) rfl rfl rfl rfl ?_
                          refine vpOps_nil ?_
                          refine vp_seq ?_
                          refine vp_region ?_
                          refine vpOps_pure (x := .v (.bool (false))) (pAs rfl rfl rfl) rfl rfl rfl rfl ?_
                          refine vpOps_nil ?_
                          refine vp_seq ?_
                          refine vp_seq ?_
                          refine vp_region ?_
                          refine vpOps_pure (x := .v (.int .i64 0)) (pAs rfl rfl rfl) rfl rfl rfl rfl ?_
                          refine vpOps_nil ?_
                          refine vp_block ?_
                          refine vLoop (α := Nat × Bool) (fun (k, b) => deck_3.length - k) (fun (k, b) => (k ≤ deck_3.length) ∧ (b = true ↔ ∃ j, j < k ∧ j ≠ q ∧ (deck_3.getD j default).notches = (deck_3.getD q default).notches) ∧ True) (fun (k, b) => [(0, .sh 1 (code.map u8c)), (1, .sh 1 (more.map u8c)), (5, .own 4 (list_2.map fieldc)), (6, .own 3 (deck_3.map cardc)), (7, .box [.v (.int .u64 ((m_4.a : Nat) : Int)), .v (.int .u64 ((m_4.b : Nat) : Int))]), (8, .box [.v (.int .u64 ((m_5.a : Nat) : Int)), .v (.int .u64 ((m_5.b : Nat) : Int))]), (9, .v (.int .i64 ((((farM m_4 m_5) : Nat) : Int)))), (10, .v (.int .i64 0)), (11, .v (.int .i64 ((((farM m_5 m_4) : Nat) : Int)))), (12, .v (.int .i64 0)), (13, .own 1 ((nearL deck_3 m_4).map i64c)), (14, .v (.int .i64 (nearD deck_3 m_4))), (15, .v (.int .i64 (nearC deck_3 m_4))), (16, .own 1 ((nearL deck_3 m_4).map i64c)), (17, .v (.int .i64 (nearD deck_3 m_4))), (18, .v (.int .i64 (nearC deck_3 m_4))), (19, .own 1 ((dupL deck_3).map i64sO)), (20, .v (.int .i64 (dupC deck_3))), (21, .own 1 ((dupL deck_3).map i64sO)), (22, .v (.int .i64 (dupC deck_3))), (23, .v (.int .i64 ((i : Nat) : Int))), (24, .v (.int .i64 ((q : Nat) : Int))), (25, .v (.int .i64 ((((farM (deck_3.getD q default).notches m_4) : Nat) : Int)))), (26, .v (.int .i64 0)), (27, .v (.int .i64 ((((farM (deck_3.getD q default).notches m_5) : Nat) : Int)))), (28, .v (.int .i64 0)), (29, .v (.bool (b))), (30, .v (.int .i64 ((k : Nat) : Int)))]) (fun ⟨_, _⟩ => rfl) (fun ⟨_, _⟩ => rfl) (0, false) ⟨(by omega), (by exact ex_none), trivial⟩ ⟨rfl, rfl, rfl, rfl, rfl, rfl, rfl, rfl, rfl, rfl, rfl, rfl, rfl, rfl, rfl, rfl, rfl, rfl, rfl, rfl, rfl, rfl, rfl, rfl, rfl, rfl, rfl, rfl, trivial⟩ ?_
                          rintro ⟨k, b⟩ ⟨hk, hb, -⟩
                          refine vp_seq ?_
                          refine vp_seq ?_
                          refine vp_region ?_
                          refine vpOps_pure (x := .v (.int .i64 ((k : Nat) : Int))) (pMv rfl rfl rfl) rfl rfl rfl rfl ?_
                          refine vpOps_pure (x := .lv 6 []) (pure_move_lv rfl) rfl rfl rfl rfl ?_
                          refine vpOps_pure (x := .v (.int .i64 ((deck_3.length : Nat) : Int))) (pLenR rfl rfl rfl rfl rfl (List.length_map _)) rfl rfl rfl rfl ?_
                          refine vpOps_pure (x := .v (.bool (decide (((k : Nat) : Int) < ((deck_3.length : Nat) : Int))))) (pure_bin rfl rfl rfl rfl) rfl rfl rfl rfl ?_
                          refine vpOps_nil ?_
                          refine vIf rfl (fun h15 => ?_) (fun h15 => ?_)
                          · skip
                            refine vp_skip ?_
                            refine vp_seq ?_
                            refine vp_block ?_
                            rcases Bool.eq_false_or_eq_true b with h16 | h16
                            · skip
                              refine vRegD 19 ((188, .v (.bool (b))) :: (189, .v (.bool (b))) :: (190, .v undef) :: (191, .v undef) :: (192, .v undef) :: (193, .v undef) :: (194, .v undef) :: (195, .v undef) :: (196, .v undef) :: (197, .v undef) :: (198, .v undef) :: (199, .v undef) :: (200, .v undef) :: (201, .v undef) :: (202, .v undef) :: (203, .v undef) :: (204, .v undef) :: (205, .v undef) :: (206, .v (.bool (true))) :: []) (0 :: 1 :: 3 :: 3 :: 15 :: 31 :: 63 :: 63 :: 255 :: 511 :: 1023 :: 63 :: 63 :: 6207 :: 14399 :: 30783 :: 65535 :: 131071 :: 262143 :: 524287 :: []) (by kernel_rfl) rfl (by kernel_rfl) (by kernel_rfl) (by kernel_rfl) (by kernel_rfl) (by kernel_rfl) ⟨
                                  dPure rfl (pMv rfl rfl rfl),
                                  dPure rfl (pMv rfl rfl rfl),
                                  dPass rfl rfl h16 (by kernel_rfl) rfl,
                                  dPass rfl rfl h16 (by kernel_rfl) rfl,
                                  dPass rfl rfl h16 (by kernel_rfl) rfl,
                                  dPass rfl rfl h16 (by kernel_rfl) rfl,
                                  dSkip rfl rfl (by kernel_rfl) rfl,
                                  dSkip rfl rfl (by kernel_rfl) rfl,
                                  dSkip rfl rfl (by kernel_rfl) rfl,
                                  dSkip rfl rfl (by kernel_rfl) rfl,
                                  dSkip rfl rfl (by kernel_rfl) rfl,
                                  dSkip rfl rfl (by kernel_rfl) rfl,
                                  dSkip rfl rfl (by kernel_rfl) rfl,
                                  dSkip rfl rfl (by kernel_rfl) rfl,
                                  dSkip rfl rfl (by kernel_rfl) rfl,
                                  dSkip rfl rfl (by kernel_rfl) rfl,
                                  dSkip rfl rfl (by kernel_rfl) rfl,
                                  dPass rfl rfl h16 (by kernel_rfl) rfl,
                                  dPure rfl (pPt rfl rfl h16 rfl rfl),
                                  trivial⟩ ?_
                              refine vpOps_pure (x := .v (.bool (true))) (pAs rfl rfl rfl) rfl rfl rfl rfl ?_
                              refine vpOps_nil ?_
                              refine vp_region ?_
                              refine vpOps_pure (x := .v (.int .i64 ((k : Nat) : Int))) (pMv rfl rfl rfl) rfl rfl rfl rfl ?_
                              refine vpOps_pure (x := .v (.int .i64 (((k : Nat) : Int) + 1))) (pure_add rfl rfl rfl (in64 (by omega) (by omega))) rfl rfl rfl rfl ?_
                              refine vpOps_pure (x := .v (.int .i64 (((k : Nat) : Int) + 1))) (pAs rfl rfl rfl) rfl rfl rfl rfl ?_
                              refine vpOps_nil ?_
                              exact ⟨(k + 1, true), (by first | omega | (dsimp only; omega)), ⟨(by omega), (by refine ex_step hb _ ?_; first | (simp [*]; done) | (have hkq1 : k = q := (by omega); subst hkq1; simp [*]; done) | (have hkq1 : ¬ k = q := (by omega); simp [*]; done) | skip), trivial⟩, ⟨rfl, rfl, rfl, rfl, rfl, rfl, rfl, rfl, rfl, rfl, rfl, rfl, rfl, rfl, rfl, rfl, rfl, rfl, rfl, rfl, rfl, rfl, rfl, rfl, rfl, rfl, rfl, rfl, trivial⟩⟩
                            · skip
                              by_cases h17 : ((k : Nat) : Int) = ((q : Nat) : Int)
                              · skip
                                refine vRegD 19 ((188, .v (.bool (b))) :: (189, .v (.bool (b))) :: (190, .v (.int .i64 ((k : Nat) : Int))) :: (191, .v (.int .i64 ((q : Nat) : Int))) :: (192, .v (.bool (!decide (((k : Nat) : Int) = ((q : Nat) : Int))))) :: (193, .v (.bool (!decide (((k : Nat) : Int) = ((q : Nat) : Int))))) :: (194, .v undef) :: (195, .v undef) :: (196, .v undef) :: (197, .v undef) :: (198, .v undef) :: (199, .v undef) :: (200, .v undef) :: (201, .v undef) :: (202, .v undef) :: (203, .v undef) :: (204, .v undef) :: (205, .v (.bool (false))) :: (206, .v (.bool (false))) :: []) (0 :: 1 :: 3 :: 3 :: 15 :: 31 :: 63 :: 63 :: 255 :: 511 :: 1023 :: 63 :: 63 :: 6207 :: 14399 :: 30783 :: 65535 :: 131071 :: 262143 :: 524287 :: []) (by kernel_rfl) rfl (by kernel_rfl) (by kernel_rfl) (by kernel_rfl) (by kernel_rfl) (by kernel_rfl) ⟨
                                    dPure rfl (pMv rfl rfl rfl),
                                    dPure rfl (pMv rfl rfl rfl),
                                    dRun rfl rfl h16 (by kernel_rfl) (pMv rfl rfl rfl),
                                    dRun rfl rfl h16 (by kernel_rfl) (pMv rfl rfl rfl),
                                    dRun rfl rfl h16 (by kernel_rfl) (pure_bin rfl rfl rfl rfl),
                                    dRun rfl rfl h16 (by kernel_rfl) (pMv rfl rfl rfl),
                                    dPass rfl rfl (not_of_t (decide_eq_true h17)) (by kernel_rfl) rfl,
                                    dPass rfl rfl (not_of_t (decide_eq_true h17)) (by kernel_rfl) rfl,
                                    dPass rfl rfl (not_of_t (decide_eq_true h17)) (by kernel_rfl) rfl,
                                    dPass rfl rfl (not_of_t (decide_eq_true h17)) (by kernel_rfl) rfl,
                                    dPass rfl rfl (not_of_t (decide_eq_true h17)) (by kernel_rfl) rfl,
                                    dPass rfl rfl (not_of_t (decide_eq_true h17)) (by kernel_rfl) rfl,
                                    dPass rfl rfl (not_of_t (decide_eq_true h17)) (by kernel_rfl) rfl,
                                    dPass rfl rfl (not_of_t (decide_eq_true h17)) (by kernel_rfl) rfl,
                                    dPass rfl rfl (not_of_t (decide_eq_true h17)) (by kernel_rfl) rfl,
                                    dPass rfl rfl (not_of_t (decide_eq_true h17)) (by kernel_rfl) rfl,
                                    dPass rfl rfl (not_of_t (decide_eq_true h17)) (by kernel_rfl) rfl,
                                    dRun rfl rfl h16 (by kernel_rfl) (pPf rfl rfl (not_of_t (decide_eq_true h17)) rfl rfl),
                                    dPure rfl (pPf rfl rfl h16 rfl rfl),
                                    trivial⟩ ?_
                                refine vpOps_pure (x := .v (.bool (false))) (pAs rfl rfl rfl) rfl rfl rfl rfl ?_
                                refine vpOps_nil ?_
                                refine vp_region ?_
                                refine vpOps_pure (x := .v (.int .i64 ((k : Nat) : Int))) (pMv rfl rfl rfl) rfl rfl rfl rfl ?_
                                refine vpOps_pure (x := .v (.int .i64 (((k : Nat) : Int) + 1))) (pure_add rfl rfl rfl (in64 (by omega) (by omega))) rfl rfl rfl rfl ?_
                                refine vpOps_pure (x := .v (.int .i64 (((k : Nat) : Int) + 1))) (pAs rfl rfl rfl) rfl rfl rfl rfl ?_
                                refine vpOps_nil ?_
                                exact ⟨(k + 1, false), (by first | omega | (dsimp only; omega)), ⟨(by omega), (by refine ex_step hb _ ?_; first | (simp [*]; done) | (have hkq1 : k = q := (by omega); subst hkq1; simp [*]; done) | (have hkq1 : ¬ k = q := (by omega); simp [*]; done) | skip), trivial⟩, ⟨rfl, rfl, rfl, rfl, rfl, rfl, rfl, rfl, rfl, rfl, rfl, rfl, rfl, rfl, rfl, rfl, rfl, rfl, rfl, rfl, rfl, rfl, rfl, rfl, rfl, rfl, rfl, rfl, trivial⟩⟩
                              · skip
                                refine vRegD 19 ((188, .v (.bool (b))) :: (189, .v (.bool (b))) :: (190, .v (.int .i64 ((k : Nat) : Int))) :: (191, .v (.int .i64 ((q : Nat) : Int))) :: (192, .v (.bool (!decide (((k : Nat) : Int) = ((q : Nat) : Int))))) :: (193, .v (.bool (!decide (((k : Nat) : Int) = ((q : Nat) : Int))))) :: (194, .lv 6 []) :: (195, .v (.int .i64 ((k : Nat) : Int))) :: (196, .pl 6 [⟨k, 0, 3⟩]) :: (197, .pl 6 [⟨k, 1, 3⟩]) :: (198, .agg [.v (.int .u64 (((((deck_3.getD k default).notches).a : Nat) : Int))), .v (.int .u64 (((((deck_3.getD k default).notches).b : Nat) : Int)))]) :: (199, .lv 6 []) :: (200, .v (.int .i64 ((q : Nat) : Int))) :: (201, .pl 6 [⟨q, 0, 3⟩]) :: (202, .pl 6 [⟨q, 1, 3⟩]) :: (203, .agg [.v (.int .u64 (((((deck_3.getD q default).notches).a : Nat) : Int))), .v (.int .u64 (((((deck_3.getD q default).notches).b : Nat) : Int)))]) :: (204, .v (.bool (decide ((deck_3.getD k default).notches = (deck_3.getD q default).notches)))) :: (205, .v (.bool (decide ((deck_3.getD k default).notches = (deck_3.getD q default).notches)))) :: (206, .v (.bool (decide ((deck_3.getD k default).notches = (deck_3.getD q default).notches)))) :: []) (0 :: 1 :: 3 :: 3 :: 15 :: 31 :: 63 :: 63 :: 255 :: 511 :: 1023 :: 63 :: 63 :: 6207 :: 14399 :: 30783 :: 65535 :: 131071 :: 262143 :: 524287 :: []) (by kernel_rfl) rfl (by kernel_rfl) (by kernel_rfl) (by kernel_rfl) (by kernel_rfl) (by kernel_rfl) ⟨
                                    dPure rfl (pMv rfl rfl rfl),
                                    dPure rfl (pMv rfl rfl rfl),
                                    dRun rfl rfl h16 (by kernel_rfl) (pMv rfl rfl rfl),
                                    dRun rfl rfl h16 (by kernel_rfl) (pMv rfl rfl rfl),
                                    dRun rfl rfl h16 (by kernel_rfl) (pure_bin rfl rfl rfl rfl),
                                    dRun rfl rfl h16 (by kernel_rfl) (pMv rfl rfl rfl),
                                    dRun rfl rfl (not_of_f (decide_eq_false h17)) (by kernel_rfl) (pure_move_lv rfl),
                                    dRun rfl rfl (not_of_f (decide_eq_false h17)) (by kernel_rfl) (pMv rfl rfl rfl),
                                    dRun rfl rfl (not_of_f (decide_eq_false h17)) (by kernel_rfl) (pIxR (m := k) rfl rfl rfl rfl rfl rfl (by first | rfl | omega) (by rw [List.length_map]; omega) rfl),
                                    dRun rfl rfl (not_of_f (decide_eq_false h17)) (by kernel_rfl) (pure_field_pl rfl rfl rfl rfl),
                                    dRun rfl rfl (not_of_f (decide_eq_false h17)) (by kernel_rfl) (pure_load_pl_agg rfl rfl rfl rfl rfl (row_map (by omega)) rfl rfl (by simp [PV.flatL, PV.flat])),
                                    dRun rfl rfl (not_of_f (decide_eq_false h17)) (by kernel_rfl) (pure_move_lv rfl),
                                    dRun rfl rfl (not_of_f (decide_eq_false h17)) (by kernel_rfl) (pMv rfl rfl rfl),
                                    dRun rfl rfl (not_of_f (decide_eq_false h17)) (by kernel_rfl) (pIxR (m := q) rfl rfl rfl rfl rfl rfl (by first | rfl | omega) (by rw [List.length_map]; omega) rfl),
                                    dRun rfl rfl (not_of_f (decide_eq_false h17)) (by kernel_rfl) (pure_field_pl rfl rfl rfl rfl),
                                    dRun rfl rfl (not_of_f (decide_eq_false h17)) (by kernel_rfl) (pure_load_pl_agg rfl rfl rfl rfl rfl (row_map (by omega)) rfl rfl (by simp [PV.flatL, PV.flat])),
                                    dRun rfl rfl (not_of_f (decide_eq_false h17)) (by kernel_rfl) (pEqAgg [(.int .u64 (((((deck_3.getD k default).notches).a : Nat) : Int))), (.int .u64 (((((deck_3.getD k default).notches).b : Nat) : Int)))] [(.int .u64 (((((deck_3.getD q default).notches).a : Nat) : Int))), (.int .u64 (((((deck_3.getD q default).notches).b : Nat) : Int)))] (φ := (deck_3.getD k default).notches = (deck_3.getD q default).notches) rfl rfl rfl rfl rfl rfl rfl (mask_inj)),
                                    dRun rfl rfl h16 (by kernel_rfl) (pPt rfl rfl (not_of_f (decide_eq_false h17)) rfl rfl),
                                    dPure rfl (pPf rfl rfl h16 rfl rfl),
                                    trivial⟩ ?_
                                refine vpOps_pure (x := .v (.bool (decide ((deck_3.getD k default).notches = (deck_3.getD q default).notches)))) (pAs rfl rfl rfl) rfl rfl rfl rfl ?_
                                refine vpOps_nil ?_
                                refine vp_region ?_
                                refine vpOps_pure (x := .v (.int .i64 ((k : Nat) : Int))) (pMv rfl rfl rfl) rfl rfl rfl rfl ?_
                                refine vpOps_pure (x := .v (.int .i64 (((k : Nat) : Int) + 1))) (pure_add rfl rfl rfl (in64 (by omega) (by omega))) rfl rfl rfl rfl ?_
                                refine vpOps_pure (x := .v (.int .i64 (((k : Nat) : Int) + 1))) (pAs rfl rfl rfl) rfl rfl rfl rfl ?_
                                refine vpOps_nil ?_
                                exact ⟨(k + 1, decide ((deck_3.getD k default).notches = (deck_3.getD q default).notches)), (by first | omega | (dsimp only; omega)), ⟨(by omega), (by refine ex_step hb _ ?_; first | (simp [*]; done) | (have hkq1 : k = q := (by omega); subst hkq1; simp [*]; done) | (have hkq1 : ¬ k = q := (by omega); simp [*]; done) | skip), trivial⟩, ⟨rfl, rfl, rfl, rfl, rfl, rfl, rfl, rfl, rfl, rfl, rfl, rfl, rfl, rfl, rfl, rfl, rfl, rfl, rfl, rfl, rfl, rfl, rfl, rfl, rfl, rfl, rfl, rfl, trivial⟩⟩
                          · skip
                            refine vp_exit ?_
                            refine vp_seq ?_
                            refine vp_region ?_
                            refine vpOps_pure (x := .v (.bool (false))) (pAs rfl rfl rfl) rfl rfl rfl rfl ?_
                            refine vpOps_nil ?_
                            refine vp_seq ?_
                            refine vp_seq ?_
                            refine vp_region ?_
                            refine vpOps_pure (x := .v (.int .i64 0)) (pAs rfl rfl rfl) rfl rfl rfl rfl ?_
                            refine vpOps_nil ?_
                            refine vp_block ?_
                            refine vLoop (α := Nat × Bool) (fun (k2, b2) => (dupL deck_3).length - k2) (fun (k2, b2) => (k2 ≤ (dupL deck_3).length) ∧ (b2 = true ↔ ∃ j, j < k2 ∧ (q : Int) ∈ (dupL deck_3).getD j default) ∧ True) (fun (k2, b2) => [(0, .sh 1 (code.map u8c)), (1, .sh 1 (more.map u8c)), (5, .own 4 (list_2.map fieldc)), (6, .own 3 (deck_3.map cardc)), (7, .box [.v (.int .u64 ((m_4.a : Nat) : Int)), .v (.int .u64 ((m_4.b : Nat) : Int))]), (8, .box [.v (.int .u64 ((m_5.a : Nat) : Int)), .v (.int .u64 ((m_5.b : Nat) : Int))]), (9, .v (.int .i64 ((((farM m_4 m_5) : Nat) : Int)))), (10, .v (.int .i64 0)), (11, .v (.int .i64 ((((farM m_5 m_4) : Nat) : Int)))), (12, .v (.int .i64 0)), (13, .own 1 ((nearL deck_3 m_4).map i64c)), (14, .v (.int .i64 (nearD deck_3 m_4))), (15, .v (.int .i64 (nearC deck_3 m_4))), (16, .own 1 ((nearL deck_3 m_4).map i64c)), (17, .v (.int .i64 (nearD deck_3 m_4))), (18, .v (.int .i64 (nearC deck_3 m_4))), (19, .own 1 ((dupL deck_3).map i64sO)), (20, .v (.int .i64 (dupC deck_3))), (21, .own 1 ((dupL deck_3).map i64sO)), (22, .v (.int .i64 (dupC deck_3))), (23, .v (.int .i64 ((i : Nat) : Int))), (24, .v (.int .i64 ((q : Nat) : Int))), (25, .v (.int .i64 ((((farM (deck_3.getD q default).notches m_4) : Nat) : Int)))), (26, .v (.int .i64 0)), (27, .v (.int .i64 ((((farM (deck_3.getD q default).notches m_5) : Nat) : Int)))), (28, .v (.int .i64 0)), (29, .v (.bool (b))), (30, .v (.int .i64 ((k : Nat) : Int))), (31, .v (.bool (b2))), (32, .v (.int .i64 ((k2 : Nat) : Int)))]) (fun ⟨_, _⟩ => rfl) (fun ⟨_, _⟩ => rfl) (0, false) ⟨(by omega), (by exact ex_none), trivial⟩ ⟨rfl, rfl, rfl, rfl, rfl, rfl, rfl, rfl, rfl, rfl, rfl, rfl, rfl, rfl, rfl, rfl, rfl, rfl, rfl, rfl, rfl, rfl, rfl, rfl, rfl, rfl, rfl, rfl, rfl, rfl, trivial⟩ ?_
                            rintro ⟨k2, b2⟩ ⟨hk2, hb2, -⟩
                            have htt := fun h1 h2 => twin_told hdd (i := q) (by omega) (k := k) (k2 := k2) h1 h2 hb hb2
                            refine vp_seq ?_
                            refine vp_seq ?_
                            refine vp_region ?_
                            refine vpOps_pure (x := .v (.int .i64 ((k2 : Nat) : Int))) (pMv rfl rfl rfl) rfl rfl rfl rfl ?_
                            refine vpOps_pure (x := .lv 21 []) (pure_move_lv rfl) rfl rfl rfl rfl ?_
                            refine vpOps_pure (x := .v (.int .i64 (((((dupL deck_3).length) : Nat) : Int)))) (pLenR rfl rfl rfl rfl rfl (List.length_map _)) rfl rfl rfl rfl ?_
                            refine vpOps_pure (x := .v (.bool (decide (((k2 : Nat) : Int) < (((((dupL deck_3).length) : Nat) : Int)))))) (pure_bin rfl rfl rfl rfl) rfl rfl rfl rfl ?_
                            refine vpOps_nil ?_
                            refine vIf rfl (fun h18 => ?_) (fun h18 => ?_)
                            · skip
                              refine vp_skip ?_
                              refine vp_seq ?_
                              refine vp_block ?_
                              refine vp_region ?_
                              refine vpOps_pure (x := .v (.bool (b2))) (pMv rfl rfl rfl) rfl rfl rfl rfl ?_
                              refine vpOps_pure (x := .v (.bool (b2))) (pMv rfl rfl rfl) rfl rfl rfl rfl ?_
                              rcases Bool.eq_false_or_eq_true b2 with h19 | h19
                              · skip
                                refine vPass rfl rfl rfl h19 rfl rfl rfl ?_
                                refine vPass rfl rfl rfl h19 rfl rfl rfl ?_
                                refine vPass rfl rfl rfl h19 rfl rfl rfl ?_
                                refine vPass rfl rfl rfl h19 rfl rfl rfl ?_
                                refine vPass rfl rfl rfl h19 rfl rfl rfl ?_
                                refine vPass rfl rfl rfl h19 rfl rfl rfl ?_
                                refine vpOps_pure (x := .v (.bool (true))) (pPt rfl rfl h19 rfl rfl) rfl rfl rfl rfl ?_
                                refine vpOps_pure (x := .v (.bool (true))) (pAs rfl rfl rfl) rfl rfl rfl rfl ?_
                                refine vpOps_nil ?_
                                refine vp_region ?_
                                refine vpOps_pure (x := .v (.int .i64 ((k2 : Nat) : Int))) (pMv rfl rfl rfl) rfl rfl rfl rfl ?_
                                refine vpOps_pure (x := .v (.int .i64 (((k2 : Nat) : Int) + 1))) (pure_add rfl rfl rfl (in64 (by omega) (by omega))) rfl rfl rfl rfl ?_
                                refine vpOps_pure (x := .v (.int .i64 (((k2 : Nat) : Int) + 1))) (pAs rfl rfl rfl) rfl rfl rfl rfl ?_
                                refine vpOps_nil ?_
                                exact ⟨(k2 + 1, true), (by first | omega | (dsimp only; omega)), ⟨(by omega), (by refine ex_step hb2 _ ?_; first | simp [*] | skip), trivial⟩, ⟨rfl, rfl, rfl, rfl, rfl, rfl, rfl, rfl, rfl, rfl, rfl, rfl, rfl, rfl, rfl, rfl, rfl, rfl, rfl, rfl, rfl, rfl, rfl, rfl, rfl, rfl, rfl, rfl, rfl, rfl, trivial⟩⟩
                              · skip
                                refine vRun rfl rfl rfl h19 rfl rfl rfl ?_
                                refine vpOps_pure (x := .lv 21 []) (pure_move_lv rfl) rfl rfl rfl rfl ?_
                                refine vRun rfl rfl rfl h19 rfl rfl rfl ?_
                                refine vpOps_pure (x := .v (.int .i64 ((k2 : Nat) : Int))) (pMv rfl rfl rfl) rfl rfl rfl rfl ?_
                                refine vRun rfl rfl rfl h19 rfl rfl rfl ?_
                                refine vpOps_pure (x := .pl 21 [⟨k2, 0, 1⟩]) (pIxR (m := k2) rfl rfl rfl rfl rfl rfl (by first | rfl | omega) (by rw [List.length_map]; omega) rfl) rfl rfl rfl rfl ?_
                                refine vRun rfl rfl rfl h19 rfl rfl rfl ?_
                                refine vpOps_pure (x := .lv 21 [⟨k2, 0, 1⟩]) (pure_load_lv rfl rfl rfl rfl rfl (row_map (by omega)) rfl) rfl rfl rfl rfl ?_
                                refine vRun rfl rfl rfl h19 rfl rfl rfl ?_
                                refine vpOps_pure (x := .v (.int .i64 ((q : Nat) : Int))) (pMv rfl rfl rfl) rfl rfl rfl rfl ?_
                                refine vRun rfl rfl rfl h19 rfl rfl rfl ?_
                                refine vpOps_call (gs := [⟨.tmp 218, .sh 1 (((dupL deck_3).getD k2 default).map i64c), none, some 21⟩, ⟨.tmp 219, .v (.int .i64 ((q : Nat) : Int)), none, none⟩]) (c_A2Has ((dupL deck_3).getD k2 default) ((q : Nat) : Int) (by first | assumption | omega | exact hS_2.f | exact hwd | exact hm_4.wf | exact hm_5.wf | exact (hD_3.m _ (by omega)).wf | (have := nearL_len (d := deck_3) (m := m_4); omega) | (have := dupL_len (d := deck_3); omega) | (have := dupL_in (d := deck_3) _ (getD_mem (i := i) (by omega)); omega) | (have := dupL_in (d := deck_3) _ (getD_mem (i := k2) (by omega)); omega))) rfl rfl rfl rfl rfl trivial (by kernel_rfl) rfl rfl (gives_cons (give_view (c := .own 1 (((dupL deck_3).getD k2 default).map i64c)) rfl rfl rfl (at_map (by omega) rfl) (view_map (fun _ => rfl))) (gives_cons (gC rfl rfl) gives_nil)) rfl (fun _ _ h => .inr (by obtain ⟨h1, h2⟩ := h; subst h1; subst h2; exact ⟨by simp [PV.closed, PV.closedL, closedE_map], by simp [PV.closedL, PV.closed]⟩)) ?_
                                rintro _ _ ⟨rfl, rfl⟩
                                refine vpOps_pure (x := .v (.bool (decide (((q : Nat) : Int) ∈ ((dupL deck_3).getD k2 default))))) (pPf rfl rfl h19 rfl rfl) rfl rfl rfl rfl ?_
                                refine vpOps_pure (x := .v (.bool (decide (((q : Nat) : Int) ∈ ((dupL deck_3).getD k2 default))))) (pAs rfl rfl rfl) rfl rfl rfl rfl ?_
                                refine vpOps_nil ?_
                                refine vp_region ?_
                                refine vpOps_pure (x := .v (.int .i64 ((k2 : Nat) : Int))) (pMv rfl rfl rfl) rfl rfl rfl rfl ?_
                                refine vpOps_pure (x := .v (.int .i64 (((k2 : Nat) : Int) + 1))) (pure_add rfl rfl rfl (in64 (by omega) (by omega))) rfl rfl rfl rfl ?_
                                refine vpOps_pure (x := .v (.int .i64 (((k2 : Nat) : Int) + 1))) (pAs rfl rfl rfl) rfl rfl rfl rfl ?_
                                refine vpOps_nil ?_
                                exact ⟨(k2 + 1, decide (((q : Nat) : Int) ∈ ((dupL deck_3).getD k2 default))), (by first | omega | (dsimp only; omega)), ⟨(by omega), (by refine ex_step hb2 _ ?_; first | simp [*] | skip), trivial⟩, ⟨rfl, rfl, rfl, rfl, rfl, rfl, rfl, rfl, rfl, rfl, rfl, rfl, rfl, rfl, rfl, rfl, rfl, rfl, rfl, rfl, rfl, rfl, rfl, rfl, rfl, rfl, rfl, rfl, rfl, rfl, trivial⟩⟩
                            · skip
                              refine vp_exit ?_
                              refine vp_seq ?_
                              refine vp_region ?_
                              refine vpOps_pure (x := .v (.int .i64 0)) (pMv rfl rfl rfl) rfl rfl rfl rfl ?_
                              refine vpOps_pure (x := .v (.bool (!decide (0 = 0)))) (pure_bin rfl rfl rfl rfl) rfl rfl rfl rfl ?_
                              refine vpOps_pure (x := .v (.bool (!decide (0 = 0)))) (pMv rfl rfl rfl) rfl rfl rfl rfl ?_
                              refine vRun rfl rfl rfl (not_of_t (decide_eq_true (by decide))) rfl rfl rfl ?_
                              refine vpOps_pure (x := .v (.int .i64 0)) (pMv rfl rfl rfl) rfl rfl rfl rfl ?_
                              refine vRun rfl rfl rfl (not_of_t (decide_eq_true (by decide))) rfl rfl rfl ?_
                              refine vpOps_pure (x := .v (.bool (!decide (0 = 0)))) (pure_bin rfl rfl rfl rfl) rfl rfl rfl rfl ?_
                              refine vpOps_pure (x := .v (.bool (!decide (0 = 0)))) (pPf rfl rfl (not_of_t (decide_eq_true (by decide))) rfl rfl) rfl rfl rfl rfl ?_
                              refine vpOps_pure (x := .v (.bool (!decide (0 = 0)))) (pMv rfl rfl rfl) rfl rfl rfl rfl ?_
                              refine vRun rfl rfl rfl (not_of_t (decide_eq_true (by decide))) rfl rfl rfl ?_
                              refine vpOps_pure (x := .v (.int .i64 ((((farM (deck_3.getD q default).notches m_4) : Nat) : Int)))) (pMv rfl rfl rfl) rfl rfl rfl rfl ?_
                              refine vRun rfl rfl rfl (not_of_t (decide_eq_true (by decide))) rfl rfl rfl ?_
                              refine vpOps_pure (x := .v (.int .i64 (nearD deck_3 m_4))) (pMv rfl rfl rfl) rfl rfl rfl rfl ?_
                              refine vRun rfl rfl rfl (not_of_t (decide_eq_true (by decide))) rfl rfl rfl ?_
                              refine vpOps_pure (x := .v (.bool (decide (((((farM (deck_3.getD q default).notches m_4) : Nat) : Int)) < (nearD deck_3 m_4))))) (pure_bin rfl rfl rfl rfl) rfl rfl rfl rfl ?_
                              refine vpOps_pure (x := .v (.bool (decide (((((farM (deck_3.getD q default).notches m_4) : Nat) : Int)) < (nearD deck_3 m_4))))) (pPf rfl rfl (not_of_t (decide_eq_true (by decide))) rfl rfl) rfl rfl rfl rfl ?_
                              refine vpOps_pure (x := .v (.bool (decide (((((farM (deck_3.getD q default).notches m_4) : Nat) : Int)) < (nearD deck_3 m_4))))) (pMv rfl rfl rfl) rfl rfl rfl rfl ?_
                              by_cases h20 : ((((farM (deck_3.getD q default).notches m_4) : Nat) : Int)) < (nearD deck_3 m_4)
                              · skip
                                refine vPass rfl rfl rfl (decide_eq_true h20) rfl rfl rfl ?_
                                refine vPass rfl rfl rfl (decide_eq_true h20) rfl rfl rfl ?_
                                refine vPass rfl rfl rfl (decide_eq_true h20) rfl rfl rfl ?_
                                refine vPass rfl rfl rfl (decide_eq_true h20) rfl rfl rfl ?_
                                refine vPass rfl rfl rfl (decide_eq_true h20) rfl rfl rfl ?_
                                refine vPass rfl rfl rfl (decide_eq_true h20) rfl rfl rfl ?_
                                refine vPass rfl rfl rfl (decide_eq_true h20) rfl rfl rfl ?_
                                refine vpOps_pure (x := .v (.bool (true))) (pPt rfl rfl (decide_eq_true h20) rfl rfl) rfl rfl rfl rfl ?_
                                refine vpOps_pure (x := .v (.bool (true))) (pMv rfl rfl rfl) rfl rfl rfl rfl ?_
                                refine vPass rfl rfl rfl rfl rfl rfl rfl ?_
                                refine vPass rfl rfl rfl rfl rfl rfl rfl ?_
                                refine vPass rfl rfl rfl rfl rfl rfl rfl ?_
                                refine vPass rfl rfl rfl rfl rfl rfl rfl ?_
                                refine vPass rfl rfl rfl rfl rfl rfl rfl ?_
                                refine vpOps_pure (x := .v (.bool (true))) (pPt rfl rfl rfl rfl rfl) rfl rfl rfl rfl ?_
                                refine vpOps_pure (x := .v (.bool (true))) (pMv rfl rfl rfl) rfl rfl rfl rfl ?_
                                refine vPass rfl rfl rfl rfl rfl rfl rfl ?_
                                refine vPass rfl rfl rfl rfl rfl rfl rfl ?_
                                refine vPass rfl rfl rfl rfl rfl rfl rfl ?_
                                refine vpOps_pure (x := .v (.bool (true))) (pPt rfl rfl rfl rfl rfl) rfl rfl rfl rfl ?_
                                refine vpOps_nil ?_
                                refine vIfT rfl rfl ?_
                                refine vp_seq ?_
                                refine vp_region ?_
                                refine vpOps_pure (x := .v (.bool (false))) (pAs rfl rfl rfl) rfl rfl rfl rfl ?_
                                refine vpOps_nil ?_
                                refine vp_ret ?_
                                exact ⟨[.v (.bool (false))], [4], (.cons (.tmp rfl rfl) .nil), rfl, ⟨(show (.v (.bool (false)) : PV) = .v (.bool (true)) from (by first | rfl | (exfalso; omega) | exact ne_dec (far0 _ _) (by assumption) | exact absurd (dupC_ok hdd) (by assumption) | exact absurd (congrArg (fun n : Nat => (n : Int)) (farM_comm _ _)) (by assumption) | exact absurd (hnc.trans (if_pos (by omega))) (by assumption) | exact (dec_t (hnc.trans (if_neg (by omega)))).symm | exact (dec_t (by omega)).symm | exact not_self (by assumption) | exact absurd (rfl : nearL deck_3 m_4 = nearL deck_3 m_4) (by assumption) | exact absurd (rfl : (dupL deck_3).getD i default = (dupL deck_3).getD i default) (by assumption) | (exfalso; have := farM_comm m_4 m_5; omega) | exact ne_dec (hnear (by omega)).2.symm (by assumption) | (have := (hnear (by omega)).1; omega) | (have := htri; omega) | (have := htt (by omega) (by omega); simp_all; done) | skip)), rfl⟩⟩
                              · skip
                                refine vRun rfl rfl rfl (decide_eq_false h20) rfl rfl rfl ?_
                                refine vpOps_pure (x := .v (.int .i64 ((((farM (deck_3.getD q default).notches m_4) : Nat) : Int)))) (pMv rfl rfl rfl) rfl rfl rfl rfl ?_
                                refine vRun rfl rfl rfl (decide_eq_false h20) rfl rfl rfl ?_
                                refine vpOps_pure (x := .v (.int .i64 (nearD deck_3 m_4))) (pMv rfl rfl rfl) rfl rfl rfl rfl ?_
                                refine vRun rfl rfl rfl (decide_eq_false h20) rfl rfl rfl ?_
                                refine vpOps_pure (x := .v (.bool (decide (((((farM (deck_3.getD q default).notches m_4) : Nat) : Int)) = (nearD deck_3 m_4))))) (pure_bin rfl rfl rfl rfl) rfl rfl rfl rfl ?_
                                refine vRun rfl rfl rfl (decide_eq_false h20) rfl rfl rfl ?_
                                refine vpOps_pure (x := .lv 16 []) (pure_move_lv rfl) rfl rfl rfl rfl ?_
                                refine vRun rfl rfl rfl (decide_eq_false h20) rfl rfl rfl ?_
                                refine vpOps_pure (x := .v (.int .i64 ((q : Nat) : Int))) (pMv rfl rfl rfl) rfl rfl rfl rfl ?_
                                refine vRun rfl rfl rfl (decide_eq_false h20) rfl rfl rfl ?_
                                refine vpOps_call (gs := [⟨.tmp 237, .sh 1 ((nearL deck_3 m_4).map i64c), none, some 16⟩, ⟨.tmp 238, .v (.int .i64 ((q : Nat) : Int)), none, none⟩]) (c_A2Has (nearL deck_3 m_4) ((q : Nat) : Int) (by first | assumption | omega | exact hS_2.f | exact hwd | exact hm_4.wf | exact hm_5.wf | exact (hD_3.m _ (by omega)).wf | (have := nearL_len (d := deck_3) (m := m_4); omega) | (have := dupL_len (d := deck_3); omega) | (have := dupL_in (d := deck_3) _ (getD_mem (i := i) (by omega)); omega) | (have := dupL_in (d := deck_3) _ (getD_mem (i := k2) (by omega)); omega))) rfl rfl rfl rfl rfl trivial (by kernel_rfl) rfl rfl (gives_cons (give_view (c := .own 1 ((nearL deck_3 m_4).map i64c)) rfl rfl rfl rfl (view_map (fun _ => rfl))) (gives_cons (gC rfl rfl) gives_nil)) rfl (fun _ _ h => .inr (by obtain ⟨h1, h2⟩ := h; subst h1; subst h2; exact ⟨by simp [PV.closed, PV.closedL, closedE_map], by simp [PV.closedL, PV.closed]⟩)) ?_
                                rintro _ _ ⟨rfl, rfl⟩
                                refine vRun rfl rfl rfl (decide_eq_false h20) rfl rfl rfl ?_
                                refine vpOps_pure (x := .v (.bool (((decide (((((farM (deck_3.getD q default).notches m_4) : Nat) : Int)) = (nearD deck_3 m_4))) != (decide (((q : Nat) : Int) ∈ (nearL deck_3 m_4))))))) (pBoolNe rfl rfl rfl) rfl rfl rfl rfl ?_
                                refine vpOps_pure (x := .v (.bool (((decide (((((farM (deck_3.getD q default).notches m_4) : Nat) : Int)) = (nearD deck_3 m_4))) != (decide (((q : Nat) : Int) ∈ (nearL deck_3 m_4))))))) (pPf rfl rfl (decide_eq_false h20) rfl rfl) rfl rfl rfl rfl ?_
                                refine vpOps_pure (x := .v (.bool (((decide (((((farM (deck_3.getD q default).notches m_4) : Nat) : Int)) = (nearD deck_3 m_4))) != (decide (((q : Nat) : Int) ∈ (nearL deck_3 m_4))))))) (pMv rfl rfl rfl) rfl rfl rfl rfl ?_
                                rcases Bool.eq_false_or_eq_true ((decide (((((farM (deck_3.getD q default).notches m_4) : Nat) : Int)) = (nearD deck_3 m_4))) != (decide (((q : Nat) : Int) ∈ (nearL deck_3 m_4)))) with h21 | h21
                                · skip
                                  refine vPass rfl rfl rfl h21 rfl rfl rfl ?_
                                  refine vPass rfl rfl rfl h21 rfl rfl rfl ?_
                                  refine vPass rfl rfl rfl h21 rfl rfl rfl ?_
                                  refine vPass rfl rfl rfl h21 rfl rfl rfl ?_
                                  refine vPass rfl rfl rfl h21 rfl rfl rfl ?_
                                  refine vpOps_pure (x := .v (.bool (true))) (pPt rfl rfl h21 rfl rfl) rfl rfl rfl rfl ?_
                                  refine vpOps_pure (x := .v (.bool (true))) (pMv rfl rfl rfl) rfl rfl rfl rfl ?_
                                  refine vPass rfl rfl rfl rfl rfl rfl rfl ?_
                                  refine vPass rfl rfl rfl rfl rfl rfl rfl ?_
                                  refine vPass rfl rfl rfl rfl rfl rfl rfl ?_
                                  refine vpOps_pure (x := .v (.bool (true))) (pPt rfl rfl rfl rfl rfl) rfl rfl rfl rfl ?_
                                  refine vpOps_nil ?_
                                  refine vIfT rfl rfl ?_
                                  refine vp_seq ?_
                                  refine vp_region ?_
                                  refine vpOps_pure (x := .v (.bool (false))) (pAs rfl rfl rfl) rfl rfl rfl rfl ?_
                                  refine vpOps_nil ?_
                                  refine vp_ret ?_
                                  exact ⟨[.v (.bool (false))], [4], (.cons (.tmp rfl rfl) .nil), rfl, ⟨(show (.v (.bool (false)) : PV) = .v (.bool (true)) from (by first | rfl | (exfalso; omega) | exact ne_dec (far0 _ _) (by assumption) | exact absurd (dupC_ok hdd) (by assumption) | exact absurd (congrArg (fun n : Nat => (n : Int)) (farM_comm _ _)) (by assumption) | exact absurd (hnc.trans (if_pos (by omega))) (by assumption) | exact (dec_t (hnc.trans (if_neg (by omega)))).symm | exact (dec_t (by omega)).symm | exact not_self (by assumption) | exact absurd (rfl : nearL deck_3 m_4 = nearL deck_3 m_4) (by assumption) | exact absurd (rfl : (dupL deck_3).getD i default = (dupL deck_3).getD i default) (by assumption) | (exfalso; have := farM_comm m_4 m_5; omega) | exact ne_dec (hnear (by omega)).2.symm (by assumption) | (have := (hnear (by omega)).1; omega) | (have := htri; omega) | (have := htt (by omega) (by omega); simp_all; done) | skip)), rfl⟩⟩
                                · skip
                                  refine vRun rfl rfl rfl h21 rfl rfl rfl ?_
                                  refine vpOps_pure (x := .v (.int .i64 ((((farM m_4 m_5) : Nat) : Int)))) (pMv rfl rfl rfl) rfl rfl rfl rfl ?_
                                  refine vRun rfl rfl rfl h21 rfl rfl rfl ?_
                                  refine vpOps_pure (x := .v (.int .i64 ((((farM (deck_3.getD q default).notches m_4) : Nat) : Int)))) (pMv rfl rfl rfl) rfl rfl rfl rfl ?_
                                  refine vRun rfl rfl rfl h21 rfl rfl rfl ?_
                                  refine vpOps_pure (x := .v (.int .i64 ((((farM (deck_3.getD q default).notches m_5) : Nat) : Int)))) (pMv rfl rfl rfl) rfl rfl rfl rfl ?_
                                  refine vRun rfl rfl rfl h21 rfl rfl rfl ?_
                                  refine vpOps_pure (x := .v (.int .i64 (((((farM (deck_3.getD q default).notches m_4) : Nat) : Int)) + ((((farM (deck_3.getD q default).notches m_5) : Nat) : Int))))) (pure_add rfl rfl rfl (in64 (by clear htt hb hb2; omega) (by clear htt hb hb2; omega))) rfl rfl rfl rfl ?_
                                  refine vRun rfl rfl rfl h21 rfl rfl rfl ?_
                                  refine vpOps_pure (x := .v (.bool (decide ((((((farM (deck_3.getD q default).notches m_4) : Nat) : Int)) + ((((farM (deck_3.getD q default).notches m_5) : Nat) : Int))) < ((((farM m_4 m_5) : Nat) : Int)))))) (pure_bin rfl rfl rfl rfl) rfl rfl rfl rfl ?_
                                  refine vpOps_pure (x := .v (.bool (decide ((((((farM (deck_3.getD q default).notches m_4) : Nat) : Int)) + ((((farM (deck_3.getD q default).notches m_5) : Nat) : Int))) < ((((farM m_4 m_5) : Nat) : Int)))))) (pPf rfl rfl h21 rfl rfl) rfl rfl rfl rfl ?_
                                  refine vpOps_pure (x := .v (.bool (decide ((((((farM (deck_3.getD q default).notches m_4) : Nat) : Int)) + ((((farM (deck_3.getD q default).notches m_5) : Nat) : Int))) < ((((farM m_4 m_5) : Nat) : Int)))))) (pMv rfl rfl rfl) rfl rfl rfl rfl ?_
                                  by_cases h22 : (((((farM (deck_3.getD q default).notches m_4) : Nat) : Int)) + ((((farM (deck_3.getD q default).notches m_5) : Nat) : Int))) < ((((farM m_4 m_5) : Nat) : Int))
                                  · skip
                                    refine vPass rfl rfl rfl (decide_eq_true h22) rfl rfl rfl ?_
                                    refine vPass rfl rfl rfl (decide_eq_true h22) rfl rfl rfl ?_
                                    refine vPass rfl rfl rfl (decide_eq_true h22) rfl rfl rfl ?_
                                    refine vpOps_pure (x := .v (.bool (true))) (pPt rfl rfl (decide_eq_true h22) rfl rfl) rfl rfl rfl rfl ?_
                                    refine vpOps_nil ?_
                                    refine vIfT rfl rfl ?_
                                    refine vp_seq ?_
                                    refine vp_region ?_
                                    refine vpOps_pure (x := .v (.bool (false))) (pAs rfl rfl rfl) rfl rfl rfl rfl ?_
                                    refine vpOps_nil ?_
                                    refine vp_ret ?_
                                    exact ⟨[.v (.bool (false))], [4], (.cons (.tmp rfl rfl) .nil), rfl, ⟨(show (.v (.bool (false)) : PV) = .v (.bool (true)) from (by first | rfl | (exfalso; omega) | exact ne_dec (far0 _ _) (by assumption) | exact absurd (dupC_ok hdd) (by assumption) | exact absurd (congrArg (fun n : Nat => (n : Int)) (farM_comm _ _)) (by assumption) | exact absurd (hnc.trans (if_pos (by omega))) (by assumption) | exact (dec_t (hnc.trans (if_neg (by omega)))).symm | exact (dec_t (by omega)).symm | exact not_self (by assumption) | exact absurd (rfl : nearL deck_3 m_4 = nearL deck_3 m_4) (by assumption) | exact absurd (rfl : (dupL deck_3).getD i default = (dupL deck_3).getD i default) (by assumption) | (exfalso; have := farM_comm m_4 m_5; omega) | exact ne_dec (hnear (by omega)).2.symm (by assumption) | (have := (hnear (by omega)).1; omega) | (have := htri; omega) | (have := htt (by omega) (by omega); simp_all; done) | skip)), rfl⟩⟩
                                  · skip
                                    refine vRun rfl rfl rfl (decide_eq_false h22) rfl rfl rfl ?_
                                    refine vpOps_pure (x := .v (.bool (b))) (pMv rfl rfl rfl) rfl rfl rfl rfl ?_
                                    refine vRun rfl rfl rfl (decide_eq_false h22) rfl rfl rfl ?_
                                    refine vpOps_pure (x := .v (.bool (b2))) (pMv rfl rfl rfl) rfl rfl rfl rfl ?_
                                    refine vRun rfl rfl rfl (decide_eq_false h22) rfl rfl rfl ?_
                                    refine vpOps_pure (x := .v (.bool ((b != b2)))) (pBoolNe rfl rfl rfl) rfl rfl rfl rfl ?_
                                    refine vpOps_pure (x := .v (.bool ((b != b2)))) (pPf rfl rfl (decide_eq_false h22) rfl rfl) rfl rfl rfl rfl ?_
                                    refine vpOps_nil ?_
                                    refine vIfB rfl (fun h23 => ?_) (fun h23 => ?_)
                                    · skip
                                      refine vp_seq ?_
                                      refine vp_region ?_
                                      refine vpOps_pure (x := .v (.bool (false))) (pAs rfl rfl rfl) rfl rfl rfl rfl ?_
                                      refine vpOps_nil ?_
                                      refine vp_ret ?_
                                      exact ⟨[.v (.bool (false))], [4], (.cons (.tmp rfl rfl) .nil), rfl, ⟨(show (.v (.bool (false)) : PV) = .v (.bool (true)) from (by first | rfl | (exfalso; omega) | exact ne_dec (far0 _ _) (by assumption) | exact absurd (dupC_ok hdd) (by assumption) | exact absurd (congrArg (fun n : Nat => (n : Int)) (farM_comm _ _)) (by assumption) | exact absurd (hnc.trans (if_pos (by omega))) (by assumption) | exact (dec_t (hnc.trans (if_neg (by omega)))).symm | exact (dec_t (by omega)).symm | exact not_self (by assumption) | exact absurd (rfl : nearL deck_3 m_4 = nearL deck_3 m_4) (by assumption) | exact absurd (rfl : (dupL deck_3).getD i default = (dupL deck_3).getD i default) (by assumption) | (exfalso; have := farM_comm m_4 m_5; omega) | exact ne_dec (hnear (by omega)).2.symm (by assumption) | (have := (hnear (by omega)).1; omega) | (have := htri; omega) | (have := htt (by omega) (by omega); simp_all; done) | skip)), rfl⟩⟩
                                    · skip
                                      refine vp_skip ?_
                                      refine vp_region ?_
                                      refine vpOps_pure (x := .v (.int .i64 ((q : Nat) : Int))) (pMv rfl rfl rfl) rfl rfl rfl rfl ?_
                                      refine vpOps_pure (x := .v (.int .i64 (((q : Nat) : Int) + 1))) (pure_add rfl rfl rfl (in64 (by omega) (by omega))) rfl rfl rfl rfl ?_
                                      refine vpOps_pure (x := .v (.int .i64 (((q : Nat) : Int) + 1))) (pAs rfl rfl rfl) rfl rfl rfl rfl ?_
                                      refine vpOps_nil ?_
                                      exact ⟨q + 1, (by first | omega | (dsimp only; omega)), ⟨(by omega), trivial⟩, ⟨rfl, rfl, rfl, rfl, rfl, rfl, rfl, rfl, rfl, rfl, rfl, rfl, rfl, rfl, rfl, rfl, rfl, rfl, rfl, rfl, rfl, rfl, trivial⟩⟩
                        · skip
                          refine vp_exit ?_
                          refine vp_seq ?_
                          refine vp_region ?_
                          refine vpOps_pure (x := .v (.int .i64 (nearC deck_3 m_4))) (pMv rfl rfl rfl) rfl rfl rfl rfl ?_
                          refine vpOps_pure (x := .v (.bool (decide ((nearC deck_3 m_4) = 0)))) (pure_bin rfl rfl rfl rfl) rfl rfl rfl rfl ?_
                          refine vpOps_pure (x := .v (.bool (decide ((nearC deck_3 m_4) = 0)))) (pAs rfl rfl rfl) rfl rfl rfl rfl ?_
                          refine vpOps_nil ?_
                          refine vp_ret ?_
                          exact ⟨[.v (.bool (decide ((nearC deck_3 m_4) = 0)))], [4], (.cons (.tmp rfl rfl) .nil), rfl, ⟨(show (.v (.bool (decide ((nearC deck_3 m_4) = 0))) : PV) = .v (.bool (true)) from (by first | rfl | (exfalso; omega) | exact ne_dec (far0 _ _) (by assumption) | exact absurd (dupC_ok hdd) (by assumption) | exact absurd (congrArg (fun n : Nat => (n : Int)) (farM_comm _ _)) (by assumption) | exact absurd (hnc.trans (if_pos (by omega))) (by assumption) | exact (dec_t (hnc.trans (if_neg (by omega)))).symm | exact (dec_t (by omega)).symm | exact not_self (by assumption) | exact absurd (rfl : nearL deck_3 m_4 = nearL deck_3 m_4) (by assumption) | exact absurd (rfl : (dupL deck_3).getD i default = (dupL deck_3).getD i default) (by assumption) | (exfalso; have := farM_comm m_4 m_5; omega) | exact ne_dec (hnear (by omega)).2.symm (by assumption) | (have := (hnear (by omega)).1; omega) | (have := htri; omega) | (have := htt (by omega) (by omega); simp_all; done) | skip)), rfl⟩⟩
                · skip
                  refine vPass rfl rfl rfl (not_of_f (decide_eq_false h8)) rfl rfl rfl ?_
                  refine vPass rfl rfl rfl (not_of_f (decide_eq_false h8)) rfl rfl rfl ?_
                  refine vPass rfl rfl rfl (not_of_f (decide_eq_false h8)) rfl rfl rfl ?_
                  refine vPass rfl rfl rfl (not_of_f (decide_eq_false h8)) rfl rfl rfl ?_
                  refine vPass rfl rfl rfl (not_of_f (decide_eq_false h8)) rfl rfl rfl ?_
                  refine vpOps_pure (x := .v (.bool (true))) (pPt rfl rfl (not_of_f (decide_eq_false h8)) rfl rfl) rfl rfl rfl rfl ?_
                  refine vpOps_nil ?_
                  refine vIfT rfl rfl ?_
                  refine vp_seq ?_
                  refine vp_region ?_
                  refine vpOps_pure (x := .v (.bool (false))) (pAs rfl rfl rfl) rfl rfl rfl rfl ?_
                  refine vpOps_nil ?_
                  refine vp_ret ?_
                  exact ⟨[.v (.bool (false))], [4], (.cons (.tmp rfl rfl) .nil), rfl, ⟨(show (.v (.bool (false)) : PV) = .v (.bool (true)) from (by first | rfl | (exfalso; omega) | exact ne_dec (far0 _ _) (by assumption) | exact absurd (dupC_ok hdd) (by assumption) | exact absurd (congrArg (fun n : Nat => (n : Int)) (farM_comm _ _)) (by assumption) | exact absurd (hnc.trans (if_pos (by omega))) (by assumption) | exact (dec_t (hnc.trans (if_neg (by omega)))).symm | exact (dec_t (by omega)).symm | exact not_self (by assumption) | exact absurd (rfl : nearL deck_3 m_4 = nearL deck_3 m_4) (by assumption) | exact absurd (rfl : (dupL deck_3).getD i default = (dupL deck_3).getD i default) (by assumption) | (exfalso; have := farM_comm m_4 m_5; omega) | exact ne_dec (hnear (by omega)).2.symm (by assumption) | (have := (hnear (by omega)).1; omega) | (have := htri; omega) | (have := htt (by omega) (by omega); simp_all; done) | skip)), rfl⟩⟩
              · skip
                refine vPass rfl rfl rfl (not_of_f (decide_eq_false h7)) rfl rfl rfl ?_
                refine vPass rfl rfl rfl (not_of_f (decide_eq_false h7)) rfl rfl rfl ?_
                refine vpOps_pure (x := .v (.bool (true))) (pPt rfl rfl (not_of_f (decide_eq_false h7)) rfl rfl) rfl rfl rfl rfl ?_
                refine vpOps_pure (x := .v (.bool (true))) (pMv rfl rfl rfl) rfl rfl rfl rfl ?_
                refine vPass rfl rfl rfl rfl rfl rfl rfl ?_
                refine vPass rfl rfl rfl rfl rfl rfl rfl ?_
                refine vPass rfl rfl rfl rfl rfl rfl rfl ?_
                refine vPass rfl rfl rfl rfl rfl rfl rfl ?_
                refine vPass rfl rfl rfl rfl rfl rfl rfl ?_
                refine vpOps_pure (x := .v (.bool (true))) (pPt rfl rfl rfl rfl rfl) rfl rfl rfl rfl ?_
                refine vpOps_nil ?_
                refine vIfT rfl rfl ?_
                refine vp_seq ?_
                refine vp_region ?_
                refine vpOps_pure (x := .v (.bool (false))) (pAs rfl rfl rfl) rfl rfl rfl rfl ?_
                refine vpOps_nil ?_
                refine vp_ret ?_
                exact ⟨[.v (.bool (false))], [4], (.cons (.tmp rfl rfl) .nil), rfl, ⟨(show (.v (.bool (false)) : PV) = .v (.bool (true)) from (by first | rfl | (exfalso; omega) | exact ne_dec (far0 _ _) (by assumption) | exact absurd (dupC_ok hdd) (by assumption) | exact absurd (congrArg (fun n : Nat => (n : Int)) (farM_comm _ _)) (by assumption) | exact absurd (hnc.trans (if_pos (by omega))) (by assumption) | exact (dec_t (hnc.trans (if_neg (by omega)))).symm | exact (dec_t (by omega)).symm | exact not_self (by assumption) | exact absurd (rfl : nearL deck_3 m_4 = nearL deck_3 m_4) (by assumption) | exact absurd (rfl : (dupL deck_3).getD i default = (dupL deck_3).getD i default) (by assumption) | (exfalso; have := farM_comm m_4 m_5; omega) | exact ne_dec (hnear (by omega)).2.symm (by assumption) | (have := (hnear (by omega)).1; omega) | (have := htri; omega) | (have := htt (by omega) (by omega); simp_all; done) | skip)), rfl⟩⟩
          · skip
            refine vPass rfl rfl rfl (not_of_f (decide_eq_false h5)) rfl rfl rfl ?_
            refine vPass rfl rfl rfl (not_of_f (decide_eq_false h5)) rfl rfl rfl ?_
            refine vPass rfl rfl rfl (not_of_f (decide_eq_false h5)) rfl rfl rfl ?_
            refine vpOps_pure (x := .v (.bool (true))) (pPt rfl rfl (not_of_f (decide_eq_false h5)) rfl rfl) rfl rfl rfl rfl ?_
            refine vpOps_nil ?_
            refine vIfT rfl rfl ?_
            refine vp_seq ?_
            refine vp_region ?_
            refine vpOps_pure (x := .v (.bool (false))) (pAs rfl rfl rfl) rfl rfl rfl rfl ?_
            refine vpOps_nil ?_
            refine vp_ret ?_
            exact ⟨[.v (.bool (false))], [4], (.cons (.tmp rfl rfl) .nil), rfl, ⟨(show (.v (.bool (false)) : PV) = .v (.bool (true)) from (by first | rfl | (exfalso; omega) | exact ne_dec (far0 _ _) (by assumption) | exact absurd (dupC_ok hdd) (by assumption) | exact absurd (congrArg (fun n : Nat => (n : Int)) (farM_comm _ _)) (by assumption) | exact absurd (hnc.trans (if_pos (by omega))) (by assumption) | exact (dec_t (hnc.trans (if_neg (by omega)))).symm | exact (dec_t (by omega)).symm | exact not_self (by assumption) | exact absurd (rfl : nearL deck_3 m_4 = nearL deck_3 m_4) (by assumption) | exact absurd (rfl : (dupL deck_3).getD i default = (dupL deck_3).getD i default) (by assumption) | (exfalso; have := farM_comm m_4 m_5; omega) | exact ne_dec (hnear (by omega)).2.symm (by assumption) | (have := (hnear (by omega)).1; omega) | (have := htri; omega) | (have := htt (by omega) (by omega); simp_all; done) | skip)), rfl⟩⟩
        · skip
          refine vPass rfl rfl rfl (not_of_f (decide_eq_false h4)) rfl rfl rfl ?_
          refine vPass rfl rfl rfl (not_of_f (decide_eq_false h4)) rfl rfl rfl ?_
          refine vPass rfl rfl rfl (not_of_f (decide_eq_false h4)) rfl rfl rfl ?_
          refine vPass rfl rfl rfl (not_of_f (decide_eq_false h4)) rfl rfl rfl ?_
          refine vpOps_pure (x := .v (.bool (true))) (pPt rfl rfl (not_of_f (decide_eq_false h4)) rfl rfl) rfl rfl rfl rfl ?_
          refine vpOps_pure (x := .v (.bool (true))) (pMv rfl rfl rfl) rfl rfl rfl rfl ?_
          refine vPass rfl rfl rfl rfl rfl rfl rfl ?_
          refine vPass rfl rfl rfl rfl rfl rfl rfl ?_
          refine vPass rfl rfl rfl rfl rfl rfl rfl ?_
          refine vpOps_pure (x := .v (.bool (true))) (pPt rfl rfl rfl rfl rfl) rfl rfl rfl rfl ?_
          refine vpOps_nil ?_
          refine vIfT rfl rfl ?_
          refine vp_seq ?_
          refine vp_region ?_
          refine vpOps_pure (x := .v (.bool (false))) (pAs rfl rfl rfl) rfl rfl rfl rfl ?_
          refine vpOps_nil ?_
          refine vp_ret ?_
          exact ⟨[.v (.bool (false))], [4], (.cons (.tmp rfl rfl) .nil), rfl, ⟨(show (.v (.bool (false)) : PV) = .v (.bool (true)) from (by first | rfl | (exfalso; omega) | exact ne_dec (far0 _ _) (by assumption) | exact absurd (dupC_ok hdd) (by assumption) | exact absurd (congrArg (fun n : Nat => (n : Int)) (farM_comm _ _)) (by assumption) | exact absurd (hnc.trans (if_pos (by omega))) (by assumption) | exact (dec_t (hnc.trans (if_neg (by omega)))).symm | exact (dec_t (by omega)).symm | exact not_self (by assumption) | exact absurd (rfl : nearL deck_3 m_4 = nearL deck_3 m_4) (by assumption) | exact absurd (rfl : (dupL deck_3).getD i default = (dupL deck_3).getD i default) (by assumption) | (exfalso; have := farM_comm m_4 m_5; omega) | exact ne_dec (hnear (by omega)).2.symm (by assumption) | (have := (hnear (by omega)).1; omega) | (have := htri; omega) | (have := htt (by omega) (by omega); simp_all; done) | skip)), rfl⟩⟩
    · skip
      refine vPass rfl rfl rfl (not_of_f (decide_eq_false h2)) rfl rfl rfl ?_
      refine vPass rfl rfl rfl (not_of_f (decide_eq_false h2)) rfl rfl rfl ?_
      refine vPass rfl rfl rfl (not_of_f (decide_eq_false h2)) rfl rfl rfl ?_
      refine vPass rfl rfl rfl (not_of_f (decide_eq_false h2)) rfl rfl rfl ?_
      refine vPass rfl rfl rfl (not_of_f (decide_eq_false h2)) rfl rfl rfl ?_
      refine vPass rfl rfl rfl (not_of_f (decide_eq_false h2)) rfl rfl rfl ?_
      refine vpOps_pure (x := .v (.bool (true))) (pPt rfl rfl (not_of_f (decide_eq_false h2)) rfl rfl) rfl rfl rfl rfl ?_
      refine vpOps_pure (x := .v (.bool (true))) (pMv rfl rfl rfl) rfl rfl rfl rfl ?_
      refine vPass rfl rfl rfl rfl rfl rfl rfl ?_
      refine vPass rfl rfl rfl rfl rfl rfl rfl ?_
      refine vPass rfl rfl rfl rfl rfl rfl rfl ?_
      refine vpOps_pure (x := .v (.bool (true))) (pPt rfl rfl rfl rfl rfl) rfl rfl rfl rfl ?_
      refine vpOps_pure (x := .v (.bool (true))) (pMv rfl rfl rfl) rfl rfl rfl rfl ?_
      refine vPass rfl rfl rfl rfl rfl rfl rfl ?_
      refine vPass rfl rfl rfl rfl rfl rfl rfl ?_
      refine vPass rfl rfl rfl rfl rfl rfl rfl ?_
      refine vPass rfl rfl rfl rfl rfl rfl rfl ?_
      refine vpOps_pure (x := .v (.bool (true))) (pPt rfl rfl rfl rfl rfl) rfl rfl rfl rfl ?_
      refine vpOps_pure (x := .v (.bool (true))) (pMv rfl rfl rfl) rfl rfl rfl rfl ?_
      refine vPass rfl rfl rfl rfl rfl rfl rfl ?_
      refine vPass rfl rfl rfl rfl rfl rfl rfl ?_
      refine vPass rfl rfl rfl rfl rfl rfl rfl ?_
      refine vpOps_pure (x := .v (.bool (true))) (pPt rfl rfl rfl rfl rfl) rfl rfl rfl rfl ?_
      refine vpOps_nil ?_
      refine vIfT rfl rfl ?_
      refine vp_seq ?_
      refine vp_region ?_
      refine vpOps_pure (x := .v (.bool (false))) (pAs rfl rfl rfl) rfl rfl rfl rfl ?_
      refine vpOps_nil ?_
      refine vp_ret ?_
      exact ⟨[.v (.bool (false))], [4], (.cons (.tmp rfl rfl) .nil), rfl, ⟨(show (.v (.bool (false)) : PV) = .v (.bool (true)) from (by first | rfl | (exfalso; omega) | exact ne_dec (far0 _ _) (by assumption) | exact absurd (dupC_ok hdd) (by assumption) | exact absurd (congrArg (fun n : Nat => (n : Int)) (farM_comm _ _)) (by assumption) | exact absurd (hnc.trans (if_pos (by omega))) (by assumption) | exact (dec_t (hnc.trans (if_neg (by omega)))).symm | exact (dec_t (by omega)).symm | exact not_self (by assumption) | exact absurd (rfl : nearL deck_3 m_4 = nearL deck_3 m_4) (by assumption) | exact absurd (rfl : (dupL deck_3).getD i default = (dupL deck_3).getD i default) (by assumption) | (exfalso; have := farM_comm m_4 m_5; omega) | exact ne_dec (hnear (by omega)).2.symm (by assumption) | (have := (hnear (by omega)).1; omega) | (have := htri; omega) | (have := htt (by omega) (by omega); simp_all; done) | skip)), rfl⟩⟩

end Go.Vr
