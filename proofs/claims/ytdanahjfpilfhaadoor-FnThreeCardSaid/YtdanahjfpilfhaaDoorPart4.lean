/- Walks through functions that the law reaches, and what these compute in plain terms; a part of the proof of the statement in YtdanahjfpilfhaaDoorClose. -/
import Derived.Test.YtdanahjfpilfhaaDoorPart3
/- Walks of the functions that the law reaches: what each gives, by value. -/
namespace Go.Vr
open Go Go.Proofs
set_option linter.unusedVariables false
set_option linter.unusedSimpArgs false
set_option maxRecDepth 8000

/-- spec.l07Names -/
theorem c_sNamesOf {G : World → Prop} (ds : List (List Card)) (hds : ∀ x ∈ ds, x.length ≤ 80) (hdl : ds.length ≤ 3) (hdd : ∀ x ∈ ds, distinctD x) : CallsV Tryd.prog G 26 [.sh 1 (ds.map cardsS)] (fun r outs => r = .own 1 ((namesA ds).map strc) ∧ outs = [.junk]) := by
  refine callsV_enter [] Tryd.func26 rfl rfl rfl ?_
  refine vp_seq ?_
  refine vp_region ?_
  refine vpOps_pure (x := .v (.slice none 0 0)) (pAs rfl rfl rfl) rfl rfl rfl rfl ?_
  refine vpOps_nil ?_
  refine vp_seq ?_
  refine vp_region ?_
  refine vpOps_pure (x := .own 1 []) (pBs (cs := []) rfl rfl rfl rfl rfl rfl rfl) rfl rfl rfl rfl ?_
  refine vpOps_assign (x := .own 1 []) rfl rfl rfl rfl rfl rfl rfl ?_
  refine vpOps_nil ?_
  refine vp_seq ?_
  refine vp_seq ?_
  refine vp_region ?_
  refine vpOps_pure (x := .v (.int .i64 0)) (pAs rfl rfl rfl) rfl rfl rfl rfl ?_
  refine vpOps_nil ?_
  refine vp_block ?_
  refine vLoop (α := Nat × List ByteArray) (fun (d, out) => ds.length - d) (fun (d, out) => (d ≤ ds.length) ∧ (out = nmA ds d) ∧ True) (fun (d, out) => [(0, .sh 1 (ds.map cardsS)), (2, .v (.slice none 0 0)), (3, .own 1 (out.map strc)), (4, .v (.int .i64 ((d : Nat) : Int)))]) (fun ⟨_, _⟩ => rfl) (fun ⟨_, _⟩ => rfl) (0, []) ⟨(by omega), (by rfl), trivial⟩ ⟨rfl, rfl, rfl, rfl, trivial⟩ ?_
  rintro ⟨d, out⟩ ⟨hi, ho, -⟩
  have hlx := getD_of (p := fun x : List Card => x.length ≤ 80) hds (Nat.zero_le _) d
  have hna := nmA_len hds d
  rw [← ho] at hna
  refine vp_seq ?_
  refine vp_seq ?_
  refine vp_region ?_
  refine vpOps_pure (x := .v (.int .i64 ((d : Nat) : Int))) (pMv rfl rfl rfl) rfl rfl rfl rfl ?_
  refine vpOps_pure (x := .sh 1 (ds.map cardsS)) (pMv rfl rfl rfl) rfl rfl rfl rfl ?_
  refine vpOps_pure (x := .v (.int .i64 ((ds.length : Nat) : Int))) (pLen rfl rfl (List.length_map _)) rfl rfl rfl rfl ?_
  refine vpOps_pure (x := .v (.bool (decide (((d : Nat) : Int) < ((ds.length : Nat) : Int))))) (pure_bin rfl rfl rfl rfl) rfl rfl rfl rfl ?_
  refine vpOps_nil ?_
  refine vIf rfl (fun h1 => ?_) (fun h1 => ?_)
  · skip
    refine vp_skip ?_
    refine vp_seq ?_
    refine vp_block ?_
    refine vp_seq ?_
    refine vp_region ?_
    refine vpOps_pure (x := .v (.int .i64 0)) (pAs rfl rfl rfl) rfl rfl rfl rfl ?_
    refine vpOps_nil ?_
    refine vp_block ?_
    refine vLoop (α := Nat × List ByteArray) (fun (i, out2) => (ds.getD d default).length - i) (fun (i, out2) => (i ≤ (ds.getD d default).length) ∧ (out2 = nmD (ds.getD d default) out i) ∧ True) (fun (i, out2) => [(0, .sh 1 (ds.map cardsS)), (2, .v (.slice none 0 0)), (3, .own 1 (out2.map strc)), (4, .v (.int .i64 ((d : Nat) : Int))), (5, .v (.int .i64 ((i : Nat) : Int)))]) (fun ⟨_, _⟩ => rfl) (fun ⟨_, _⟩ => rfl) (0, out) ⟨(by omega), (by rfl), trivial⟩ ⟨rfl, rfl, rfl, rfl, rfl, trivial⟩ ?_
    rintro ⟨i, out2⟩ ⟨hk, ho2, -⟩
    have hnb := nmD_len (ds.getD d default) out i
    rw [← ho2] at hnb
    have hnw := fun h => nmD_new (ds := ds) (d := d) (i := i) (getD_of (p := distinctD) hdd distinct_nil d) h
    rw [← ho, ← ho2] at hnw
    refine vp_seq ?_
    refine vp_seq ?_
    refine vp_region ?_
    refine vpOps_pure (x := .v (.int .i64 ((i : Nat) : Int))) (pMv rfl rfl rfl) rfl rfl rfl rfl ?_
    refine vpOps_pure (x := .sh 1 (ds.map cardsS)) (pMv rfl rfl rfl) rfl rfl rfl rfl ?_
    refine vpOps_pure (x := .v (.int .i64 ((d : Nat) : Int))) (pMv rfl rfl rfl) rfl rfl rfl rfl ?_
    refine vpOps_pure (x := .rbox [.sh 3 ((ds.getD d default).map cardc)]) (pIx (m := d) rfl rfl rfl (by first | rfl | omega) (by omega) rfl) rfl rfl rfl rfl ?_
    refine vpOps_pure (x := .sh 3 ((ds.getD d default).map cardc)) (pure_load_rbox rfl rfl rfl) rfl rfl rfl rfl ?_
    refine vpOps_pure (x := .v (.int .i64 (((((ds.getD d default).length) : Nat) : Int)))) (pLen rfl rfl (List.length_map _)) rfl rfl rfl rfl ?_
    refine vpOps_pure (x := .v (.bool (decide (((i : Nat) : Int) < (((((ds.getD d default).length) : Nat) : Int)))))) (pure_bin rfl rfl rfl rfl) rfl rfl rfl rfl ?_
    refine vpOps_nil ?_
    refine vIf rfl (fun h2 => ?_) (fun h2 => ?_)
    · skip
      refine vp_skip ?_
      refine vp_seq ?_
      refine vp_block ?_
      refine vp_seq ?_
      refine vp_region ?_
      refine vpOps_pure (x := .v (.bool (false))) (pAs rfl rfl rfl) rfl rfl rfl rfl ?_
      refine vpOps_nil ?_
      refine vp_seq ?_
      refine vp_seq ?_
      refine vp_region ?_
      refine vpOps_pure (x := .v (.int .i64 0)) (pAs rfl rfl rfl) rfl rfl rfl rfl ?_
      refine vpOps_nil ?_
      refine vp_block ?_
      refine vLoop (α := Nat × Bool) (fun (k, b) => d - k) (fun (k, b) => (k ≤ d) ∧ (b = true ↔ ∃ j, j < k ∧ 0 ≤ placeC (ds.getD j default) ((ds.getD d default).getD i default).name) ∧ True) (fun (k, b) => [(0, .sh 1 (ds.map cardsS)), (2, .v (.slice none 0 0)), (3, .own 1 (out2.map strc)), (4, .v (.int .i64 ((d : Nat) : Int))), (5, .v (.int .i64 ((i : Nat) : Int))), (6, .v (.bool (b))), (7, .v (.int .i64 ((k : Nat) : Int)))]) (fun ⟨_, _⟩ => rfl) (fun ⟨_, _⟩ => rfl) (0, false) ⟨(by omega), (by exact ex_none), trivial⟩ ⟨rfl, rfl, rfl, rfl, rfl, rfl, rfl, trivial⟩ ?_
      rintro ⟨k, b⟩ ⟨hk4, hb, -⟩
      refine vp_seq ?_
      refine vp_seq ?_
      refine vp_region ?_
      refine vpOps_pure (x := .v (.int .i64 ((k : Nat) : Int))) (pMv rfl rfl rfl) rfl rfl rfl rfl ?_
      refine vpOps_pure (x := .v (.int .i64 ((d : Nat) : Int))) (pMv rfl rfl rfl) rfl rfl rfl rfl ?_
      refine vpOps_pure (x := .v (.bool (decide (((k : Nat) : Int) < ((d : Nat) : Int))))) (pure_bin rfl rfl rfl rfl) rfl rfl rfl rfl ?_
      refine vpOps_nil ?_
      refine vIf rfl (fun h3 => ?_) (fun h3 => ?_)
      · skip
        refine vp_skip ?_
        refine vp_seq ?_
        refine vp_block ?_
        rcases Bool.eq_false_or_eq_true b with h4 | h4
        · skip
          refine vRegD 17 ((29, .v (.bool (b))) :: (30, .v (.bool (b))) :: (31, .v undef) :: (32, .v undef) :: (33, .v undef) :: (34, .v undef) :: (35, .v undef) :: (36, .v undef) :: (37, .v undef) :: (38, .v undef) :: (39, .v undef) :: (40, .v undef) :: (41, .v undef) :: (42, .v undef) :: (43, .v undef) :: (44, .v undef) :: (45, .v (.bool (true))) :: []) (0 :: 1 :: 3 :: 3 :: 15 :: 31 :: 3 :: 3 :: 195 :: 451 :: 3 :: 1987 :: 4035 :: 8131 :: 16383 :: 32767 :: 65535 :: 131071 :: []) (by kernel_rfl) rfl (by kernel_rfl) (by kernel_rfl) (by kernel_rfl) (by kernel_rfl) (by kernel_rfl) ⟨
              dPure rfl (pMv rfl rfl rfl),
              dPure rfl (pMv rfl rfl rfl),
              dPass rfl rfl h4 (by kernel_rfl) rfl,
              dPass rfl rfl h4 (by kernel_rfl) rfl,
              dPass rfl rfl h4 (by kernel_rfl) rfl,
              dPass rfl rfl h4 (by kernel_rfl) rfl,
              dPass rfl rfl h4 (by kernel_rfl) rfl,
              dPass rfl rfl h4 (by kernel_rfl) rfl,
              dPass rfl rfl h4 (by kernel_rfl) rfl,
              dPass rfl rfl h4 (by kernel_rfl) rfl,
              dPass rfl rfl h4 (by kernel_rfl) rfl,
              dPass rfl rfl h4 (by kernel_rfl) rfl,
              dPass rfl rfl h4 (by kernel_rfl) rfl,
              dPass rfl rfl h4 (by kernel_rfl) rfl,
              dPass rfl rfl h4 (by kernel_rfl) rfl,
              dPass rfl rfl h4 (by kernel_rfl) rfl,
              dPure rfl (pPt rfl rfl h4 rfl rfl),
              trivial⟩ ?_
          refine vpOps_pure (x := .v (.bool (true))) (pAs rfl rfl rfl) rfl rfl rfl rfl ?_
          refine vpOps_nil ?_
          refine vp_region ?_
          refine vpOps_pure (x := .v (.int .i64 ((k : Nat) : Int))) (pMv rfl rfl rfl) rfl rfl rfl rfl ?_
          refine vpOps_pure (x := .v (.int .i64 (((k : Nat) : Int) + 1))) (pure_add rfl rfl rfl (in64 (by omega) (by omega))) rfl rfl rfl rfl ?_
          refine vpOps_pure (x := .v (.int .i64 (((k : Nat) : Int) + 1))) (pAs rfl rfl rfl) rfl rfl rfl rfl ?_
          refine vpOps_nil ?_
          exact ⟨(k + 1, true), (by first | omega | (dsimp only; omega)), ⟨(by omega), (by refine ex_step hb _ ?_; first | (simp [*]; done) | skip), trivial⟩, ⟨rfl, rfl, rfl, rfl, rfl, rfl, rfl, trivial⟩⟩
        · skip
          refine vRegD 17 ((29, .v (.bool (b))) :: (30, .v (.bool (b))) :: (31, .sh 1 (ds.map cardsS)) :: (32, .v (.int .i64 ((k : Nat) : Int))) :: (33, .rbox [.sh 3 ((ds.getD k default).map cardc)]) :: (34, .sh 3 ((ds.getD k default).map cardc)) :: (35, .sh 1 (ds.map cardsS)) :: (36, .v (.int .i64 ((d : Nat) : Int))) :: (37, .rbox [.sh 3 ((ds.getD d default).map cardc)]) :: (38, .sh 3 ((ds.getD d default).map cardc)) :: (39, .v (.int .i64 ((i : Nat) : Int))) :: (40, .rbox [.v (.string (((ds.getD d default).getD i default).name)), .v (.int .u64 ((((((ds.getD d default).getD i default).notches).a : Nat) : Int))), .v (.int .u64 ((((((ds.getD d default).getD i default).notches).b : Nat) : Int)))]) :: (41, .rbox [.v (.string (((ds.getD d default).getD i default).name)), .v (.int .u64 ((((((ds.getD d default).getD i default).notches).a : Nat) : Int))), .v (.int .u64 ((((((ds.getD d default).getD i default).notches).b : Nat) : Int)))]) :: (42, .v (.string (((ds.getD d default).getD i default).name))) :: (43, .v (.int .i64 (placeC (ds.getD k default) (((ds.getD d default).getD i default).name)))) :: (44, .v (.bool (decide (0 ≤ (placeC (ds.getD k default) (((ds.getD d default).getD i default).name)))))) :: (45, .v (.bool (decide (0 ≤ (placeC (ds.getD k default) (((ds.getD d default).getD i default).name)))))) :: []) (0 :: 1 :: 3 :: 3 :: 15 :: 31 :: 3 :: 3 :: 195 :: 451 :: 3 :: 1987 :: 4035 :: 8131 :: 16383 :: 32767 :: 65535 :: 131071 :: []) (by kernel_rfl) rfl (by kernel_rfl) (by kernel_rfl) (by kernel_rfl) (by kernel_rfl) (by kernel_rfl) ⟨
              dPure rfl (pMv rfl rfl rfl),
              dPure rfl (pMv rfl rfl rfl),
              dRun rfl rfl h4 (by kernel_rfl) (pMv rfl rfl rfl),
              dRun rfl rfl h4 (by kernel_rfl) (pMv rfl rfl rfl),
              dRun rfl rfl h4 (by kernel_rfl) (pIx (m := k) rfl rfl rfl (by first | rfl | omega) (by omega) rfl),
              dRun rfl rfl h4 (by kernel_rfl) (pure_load_rbox rfl rfl rfl),
              dRun rfl rfl h4 (by kernel_rfl) (pMv rfl rfl rfl),
              dRun rfl rfl h4 (by kernel_rfl) (pMv rfl rfl rfl),
              dRun rfl rfl h4 (by kernel_rfl) (pIx (m := d) rfl rfl rfl (by first | rfl | omega) (by omega) rfl),
              dRun rfl rfl h4 (by kernel_rfl) (pure_load_rbox rfl rfl rfl),
              dRun rfl rfl h4 (by kernel_rfl) (pMv rfl rfl rfl),
              dRun rfl rfl h4 (by kernel_rfl) (pIx (m := i) rfl rfl rfl (by first | rfl | omega) (by omega) rfl),
              dRun rfl rfl h4 (by kernel_rfl) (pure_field_rbox rfl rfl rfl rfl),
              dRun rfl rfl h4 (by kernel_rfl) (pure_load_rbox rfl rfl rfl),
              dRun rfl rfl h4 (by kernel_rfl) (pure_call (gs := [⟨.tmp 34, .sh 3 ((ds.getD k default).map cardc), none, none⟩, ⟨.tmp 42, .v (.string (((ds.getD d default).getD i default).name)), none, none⟩]) (c_sFind (ds.getD k default) (((ds.getD d default).getD i default).name) (by first | assumption | omega | exact getD_of (p := fun x : List Card => x.length ≤ 9223372036854775807) (fun x hx => Nat.le_trans (hds x hx) (by decide)) (Nat.zero_le _) _)) rfl rfl trivial (by kernel_rfl) rfl rfl (gives_cons (gC rfl rfl) (gives_cons (gC rfl rfl) gives_nil)) rfl (fun _ _ h => h.1) trivial),
              dRun rfl rfl h4 (by kernel_rfl) (pure_bin rfl rfl rfl rfl),
              dPure rfl (pPf rfl rfl h4 rfl rfl),
              trivial⟩ ?_
          refine vpOps_pure (x := .v (.bool (decide (0 ≤ (placeC (ds.getD k default) (((ds.getD d default).getD i default).name)))))) (pAs rfl rfl rfl) rfl rfl rfl rfl ?_
          refine vpOps_nil ?_
          refine vp_region ?_
          refine vpOps_pure (x := .v (.int .i64 ((k : Nat) : Int))) (pMv rfl rfl rfl) rfl rfl rfl rfl ?_
          refine vpOps_pure (x := .v (.int .i64 (((k : Nat) : Int) + 1))) (pure_add rfl rfl rfl (in64 (by omega) (by omega))) rfl rfl rfl rfl ?_
          refine vpOps_pure (x := .v (.int .i64 (((k : Nat) : Int) + 1))) (pAs rfl rfl rfl) rfl rfl rfl rfl ?_
          refine vpOps_nil ?_
          exact ⟨(k + 1, decide (0 ≤ (placeC (ds.getD k default) (((ds.getD d default).getD i default).name)))), (by first | omega | (dsimp only; omega)), ⟨(by omega), (by refine ex_step hb _ ?_; first | (simp [*]; done) | skip), trivial⟩, ⟨rfl, rfl, rfl, rfl, rfl, rfl, rfl, trivial⟩⟩
      · skip
        refine vp_exit ?_
        refine vp_seq ?_
        refine vp_region ?_
        refine vpOps_pure (x := .v (.bool (b))) (pMv rfl rfl rfl) rfl rfl rfl rfl ?_
        refine vpOps_pure (x := .v (.bool (!b))) (pure_not rfl rfl) rfl rfl rfl rfl ?_
        refine vpOps_nil ?_
        refine vIfBN rfl (fun h5 => ?_) (fun h5 => ?_)
        · skip
          refine vp_region ?_
          refine vpOps_pure (x := .lv 3 []) (pure_move_lv rfl) rfl rfl rfl rfl ?_
          refine vpOps_pure (x := .sh 1 (ds.map cardsS)) (pMv rfl rfl rfl) rfl rfl rfl rfl ?_
          refine vpOps_pure (x := .v (.int .i64 ((d : Nat) : Int))) (pMv rfl rfl rfl) rfl rfl rfl rfl ?_
          refine vpOps_pure (x := .rbox [.sh 3 ((ds.getD d default).map cardc)]) (pIx (m := d) rfl rfl rfl (by first | rfl | omega) (by omega) rfl) rfl rfl rfl rfl ?_
          refine vpOps_pure (x := .sh 3 ((ds.getD d default).map cardc)) (pure_load_rbox rfl rfl rfl) rfl rfl rfl rfl ?_
          refine vpOps_pure (x := .v (.int .i64 ((i : Nat) : Int))) (pMv rfl rfl rfl) rfl rfl rfl rfl ?_
          refine vpOps_pure (x := .rbox [.v (.string (((ds.getD d default).getD i default).name)), .v (.int .u64 ((((((ds.getD d default).getD i default).notches).a : Nat) : Int))), .v (.int .u64 ((((((ds.getD d default).getD i default).notches).b : Nat) : Int)))]) (pIx (m := i) rfl rfl rfl (by first | rfl | omega) (by omega) rfl) rfl rfl rfl rfl ?_
          refine vpOps_pure (x := .rbox [.v (.string (((ds.getD d default).getD i default).name)), .v (.int .u64 ((((((ds.getD d default).getD i default).notches).a : Nat) : Int))), .v (.int .u64 ((((((ds.getD d default).getD i default).notches).b : Nat) : Int)))]) (pure_field_rbox rfl rfl rfl rfl) rfl rfl rfl rfl ?_
          refine vpOps_pure (x := .v (.string (((ds.getD d default).getD i default).name))) (pure_load_rbox rfl rfl rfl) rfl rfl rfl rfl ?_
          refine vpOps_pure (x := .own 1 [[.v (.string (((ds.getD d default).getD i default).name))]]) (pBs (cs := [.v (.string (((ds.getD d default).getD i default).name))]) rfl rfl rfl rfl rfl rfl rfl) rfl rfl rfl rfl ?_
          refine vpOps_ghost (ghost_own (t := 48) rfl rfl rfl rfl) ?_
          refine vApp (f := strc) (xs := out2) (ys := [((ds.getD d default).getD i default).name]) (l := 1) rfl rfl rfl rfl rfl (srcOwn rfl rfl (fun _ => mvOkL_flat _ rfl)) rfl rfl (fun _ => rfl) (.inl ⟨_, rfl⟩) rfl rfl rfl (rfl) (by omega) (by omega) ?_
          refine vpOps_assign (x := .own 1 ((out2 ++ [((ds.getD d default).getD i default).name]).map strc)) rfl rfl rfl rfl rfl rfl rfl ?_
          refine vpOps_nil ?_
          refine vp_region ?_
          refine vpOps_pure (x := .v (.int .i64 ((i : Nat) : Int))) (pMv rfl rfl rfl) rfl rfl rfl rfl ?_
          refine vpOps_pure (x := .v (.int .i64 (((i : Nat) : Int) + 1))) (pure_add rfl rfl rfl (in64 (by omega) (by omega))) rfl rfl rfl rfl ?_
          refine vpOps_pure (x := .v (.int .i64 (((i : Nat) : Int) + 1))) (pAs rfl rfl rfl) rfl rfl rfl rfl ?_
          refine vpOps_nil ?_
          exact ⟨(i + 1, out2 ++ [((ds.getD d default).getD i default).name]), (by first | omega | (dsimp only; omega)), ⟨(by omega), (by have hkd : k = d := (by omega); subst hkd; rw [nmD, ← ho2]; unfold addN; first | (rw [if_pos ((hnw (by omega)).2 (hb.1 (by assumption)))]; done) | (rw [if_neg (fun h => by have := hb.2 ((hnw (by omega)).1 h); simp_all)]; done)), trivial⟩, ⟨rfl, rfl, rfl, rfl, rfl, trivial⟩⟩
        · skip
          refine vp_skip ?_
          refine vp_region ?_
          refine vpOps_pure (x := .v (.int .i64 ((i : Nat) : Int))) (pMv rfl rfl rfl) rfl rfl rfl rfl ?_
          refine vpOps_pure (x := .v (.int .i64 (((i : Nat) : Int) + 1))) (pure_add rfl rfl rfl (in64 (by omega) (by omega))) rfl rfl rfl rfl ?_
          refine vpOps_pure (x := .v (.int .i64 (((i : Nat) : Int) + 1))) (pAs rfl rfl rfl) rfl rfl rfl rfl ?_
          refine vpOps_nil ?_
          exact ⟨(i + 1, out2), (by first | omega | (dsimp only; omega)), ⟨(by omega), (by have hkd : k = d := (by omega); subst hkd; rw [nmD, ← ho2]; unfold addN; first | (rw [if_pos ((hnw (by omega)).2 (hb.1 (by assumption)))]; done) | (rw [if_neg (fun h => by have := hb.2 ((hnw (by omega)).1 h); simp_all)]; done)), trivial⟩, ⟨rfl, rfl, rfl, rfl, rfl, trivial⟩⟩
    · skip
      refine vp_exit ?_
      refine vp_region ?_
      refine vpOps_pure (x := .v (.int .i64 ((d : Nat) : Int))) (pMv rfl rfl rfl) rfl rfl rfl rfl ?_
      refine vpOps_pure (x := .v (.int .i64 (((d : Nat) : Int) + 1))) (pure_add rfl rfl rfl (in64 (by omega) (by omega))) rfl rfl rfl rfl ?_
      refine vpOps_pure (x := .v (.int .i64 (((d : Nat) : Int) + 1))) (pAs rfl rfl rfl) rfl rfl rfl rfl ?_
      refine vpOps_nil ?_
      exact ⟨(d + 1, out2), (by first | omega | (dsimp only; omega)), ⟨(by omega), (by rw [nmA, ← ho, ho2, show i = (ds.getD d default).length by omega]), trivial⟩, ⟨rfl, rfl, rfl, rfl, trivial⟩⟩
  · skip
    refine vp_exit ?_
    refine vp_seq ?_
    refine vp_region ?_
    refine vpOps_pure (x := .lv 3 []) (pure_move_lv rfl) rfl rfl rfl rfl ?_
    refine vpOps_ghost (ghost_own (t := 59) rfl rfl rfl rfl) ?_
    refine vpOps_assign (x := .own 1 (out.map strc)) rfl rfl rfl rfl rfl rfl rfl ?_
    refine vpOps_nil ?_
    refine vp_ret ?_
    exact ⟨[.own 1 (out.map strc)], [2], (.cons (.tmp rfl rfl) .nil), rfl, ⟨(show (.own 1 (out.map strc) : PV) = .own 1 ((namesA ds).map strc) from (by rw [ho, show d = ds.length by omega]; rfl)), rfl⟩⟩

/-- spec.l07Of -/
theorem c_sStateOf {G : World → Prop} (d : List Card) (n : ByteArray) (hn : d.length ≤ 9223372036854775807) : CallsV Tryd.prog G 27 [.sh 3 (d.map cardc), .v (.string n)] (fun r outs => r = .agg [.v (.bool ((stC d n).there)), .v (.int .u64 (((((stC d n).notches).a : Nat) : Int))), .v (.int .u64 (((((stC d n).notches).b : Nat) : Int)))] ∧ outs = [.junk, .junk]) := by
  refine callsV_enter [] Tryd.func27 rfl rfl rfl ?_
  have hpn := placeC_num d n
  refine vp_seq ?_
  refine vp_region ?_
  refine vpOps_pure (x := .box [.v (.bool (false)), .v (.int .u64 0), .v (.int .u64 0)]) (pure_alloc rfl) rfl rfl rfl rfl ?_
  refine vpOps_nil ?_
  refine vp_seq ?_
  refine vp_region ?_
  refine vpOps_pure (x := .sh 3 (d.map cardc)) (pMv rfl rfl rfl) rfl rfl rfl rfl ?_
  refine vpOps_pure (x := .v (.string n)) (pMv rfl rfl rfl) rfl rfl rfl rfl ?_
  refine vpOps_call (gs := [⟨.tmp 6, .sh 3 (d.map cardc), none, none⟩, ⟨.tmp 7, .v (.string n), none, none⟩]) (c_sFind d n (by first | assumption | omega)) rfl rfl rfl rfl rfl trivial (by kernel_rfl) rfl rfl (gives_cons (gC rfl rfl) (gives_cons (gC rfl rfl) gives_nil)) rfl (fun _ _ _ => .inl rfl) ?_
  rintro _ _ ⟨rfl, rfl⟩
  refine vpOps_pure (x := .v (.int .i64 (placeC d n))) (pAs rfl rfl rfl) rfl rfl rfl rfl ?_
  refine vpOps_nil ?_
  refine vp_seq ?_
  refine vp_seq ?_
  refine vp_region ?_
  refine vpOps_pure (x := .v (.int .i64 (placeC d n))) (pMv rfl rfl rfl) rfl rfl rfl rfl ?_
  refine vpOps_pure (x := .v (.bool (decide ((placeC d n) < 0)))) (pure_bin rfl rfl rfl rfl) rfl rfl rfl rfl ?_
  refine vpOps_nil ?_
  refine vIf rfl (fun h1 => ?_) (fun h1 => ?_)
  · skip
    refine vp_seq ?_
    refine vp_region ?_
    refine vpOps_pure (x := .agg [.v (.bool (false)), .v (.int .u64 0), .v (.int .u64 0)]) (pure_build_st rfl (flatsB_ok rfl) rfl) rfl rfl rfl rfl ?_
    refine vStB (x := .agg [.v (.bool (false)), .v (.int .u64 0), .v (.int .u64 0)]) (row' := [.v (.bool (false)), .v (.int .u64 0), .v (.int .u64 0)]) rfl rfl rfl rfl rfl rfl rfl rfl rfl rfl rfl rfl ?_
    refine vpOps_nil ?_
    refine vp_ret ?_
    exact ⟨[.agg [.v (.bool (false)), .v (.int .u64 0), .v (.int .u64 0)]], [4], (.cons (.cellAgg rfl rfl rfl) .nil), rfl, ⟨(show (.agg [.v (.bool (false)), .v (.int .u64 0), .v (.int .u64 0)] : PV) = .agg [.v (.bool ((stC d n).there)), .v (.int .u64 (((((stC d n).notches).a : Nat) : Int))), .v (.int .u64 (((((stC d n).notches).b : Nat) : Int)))] from (by unfold stC; first | (rw [if_pos (by assumption)]; rfl) | (rw [if_neg (by assumption)]))), rfl⟩⟩
  · skip
    refine vp_skip ?_
    refine vp_seq ?_
    refine vp_region ?_
    refine vpOps_pure (x := .sh 3 (d.map cardc)) (pMv rfl rfl rfl) rfl rfl rfl rfl ?_
    refine vpOps_pure (x := .v (.int .i64 (placeC d n))) (pMv rfl rfl rfl) rfl rfl rfl rfl ?_
    refine vpOps_pure (x := .rbox [.v (.string ((d.getD ((placeC d n).toNat) default).name)), .v (.int .u64 (((((d.getD ((placeC d n).toNat) default).notches).a : Nat) : Int))), .v (.int .u64 (((((d.getD ((placeC d n).toNat) default).notches).b : Nat) : Int)))]) (pIx (m := (placeC d n).toNat) rfl rfl rfl (by first | rfl | omega) (by omega) rfl) rfl rfl rfl rfl ?_
    refine vpOps_pure (x := .rbox [.v (.int .u64 (((((d.getD ((placeC d n).toNat) default).notches).a : Nat) : Int))), .v (.int .u64 (((((d.getD ((placeC d n).toNat) default).notches).b : Nat) : Int)))]) (pure_field_rbox rfl rfl rfl rfl) rfl rfl rfl rfl ?_
    refine vpOps_pure (x := .agg [.v (.int .u64 (((((d.getD ((placeC d n).toNat) default).notches).a : Nat) : Int))), .v (.int .u64 (((((d.getD ((placeC d n).toNat) default).notches).b : Nat) : Int)))]) (pure_load_rbox_agg rfl rfl rfl rfl rfl) rfl rfl rfl rfl ?_
    refine vpOps_pure (x := .agg [.v (.bool (true)), .v (.int .u64 (((((d.getD ((placeC d n).toNat) default).notches).a : Nat) : Int))), .v (.int .u64 (((((d.getD ((placeC d n).toNat) default).notches).b : Nat) : Int)))]) (pure_build_st rfl (flatsB_ok rfl) rfl) rfl rfl rfl rfl ?_
    refine vStB (x := .agg [.v (.bool (true)), .v (.int .u64 (((((d.getD ((placeC d n).toNat) default).notches).a : Nat) : Int))), .v (.int .u64 (((((d.getD ((placeC d n).toNat) default).notches).b : Nat) : Int)))]) (row' := [.v (.bool (true)), .v (.int .u64 (((((d.getD ((placeC d n).toNat) default).notches).a : Nat) : Int))), .v (.int .u64 (((((d.getD ((placeC d n).toNat) default).notches).b : Nat) : Int)))]) rfl rfl rfl rfl rfl rfl rfl rfl rfl rfl rfl rfl ?_
    refine vpOps_nil ?_
    refine vp_ret ?_
    exact ⟨[.agg [.v (.bool (true)), .v (.int .u64 (((((d.getD ((placeC d n).toNat) default).notches).a : Nat) : Int))), .v (.int .u64 (((((d.getD ((placeC d n).toNat) default).notches).b : Nat) : Int)))]], [4], (.cons (.cellAgg rfl rfl rfl) .nil), rfl, ⟨(show (.agg [.v (.bool (true)), .v (.int .u64 (((((d.getD ((placeC d n).toNat) default).notches).a : Nat) : Int))), .v (.int .u64 (((((d.getD ((placeC d n).toNat) default).notches).b : Nat) : Int)))] : PV) = .agg [.v (.bool ((stC d n).there)), .v (.int .u64 (((((stC d n).notches).a : Nat) : Int))), .v (.int .u64 (((((stC d n).notches).b : Nat) : Int)))] from (by unfold stC; first | (rw [if_pos (by assumption)]; rfl) | (rw [if_neg (by assumption)]))), rfl⟩⟩

/-- spec.l07Conflicts -/
theorem c_sConflicts {G : World → Prop} (base : List Card) (a : List Card) (b : List Card) (hok : ok3 base a b) : CallsV Tryd.prog G 22 [.sh 3 (base.map cardc), .sh 3 (a.map cardc), .sh 3 (b.map cardc)] (fun r outs => r = .own 1 ((confL base a b).map strc) ∧ outs = [.junk, .junk, .junk]) := by
  refine callsV_enter [] Tryd.func22 rfl rfl rfl ?_
  have hn2 := names2_len hok.1 hok.2.1
  refine vp_seq ?_
  refine vp_region ?_
  refine vpOps_pure (x := .v (.slice none 0 0)) (pAs rfl rfl rfl) rfl rfl rfl rfl ?_
  refine vpOps_nil ?_
  refine vp_seq ?_
  refine vp_region ?_
  refine vpOps_pure (x := .sh 3 (base.map cardc)) (pMv rfl rfl rfl) rfl rfl rfl rfl ?_
  refine vpOps_pure (x := .sh 3 (a.map cardc)) (pMv rfl rfl rfl) rfl rfl rfl rfl ?_
  refine vpOps_pure (x := .own 1 [[.sh 3 (base.map cardc)], [.sh 3 (a.map cardc)]]) (pBs (cs := [.sh 3 (base.map cardc), .sh 3 (a.map cardc)]) rfl rfl rfl rfl rfl rfl rfl) rfl rfl rfl rfl ?_
  refine vpOps_call (gs := [⟨.tmp 15, .sh 1 [[.sh 3 (base.map cardc)], [.sh 3 (a.map cardc)]], none, some 15⟩]) (c_sNamesOf ([base, a]) (by first | exact all2 (deckOk_distinct hok.1) (deckOk_distinct hok.2.1) | exact all3 (deckOk_distinct hok.1) (deckOk_distinct hok.2.1) (deckOk_distinct hok.2.2) | assumption | omega | exact dl80 hok.1 | exact dl80 hok.2.1 | exact dl80 hok.2.2 | exact short2 hok.1 hok.2.1 | exact short3 hok.1 hok.2.1 hok.2.2 | exact Nat.le_of_lt_succ (by simp) | (simp; done)) (by first | exact all2 (deckOk_distinct hok.1) (deckOk_distinct hok.2.1) | exact all3 (deckOk_distinct hok.1) (deckOk_distinct hok.2.1) (deckOk_distinct hok.2.2) | assumption | omega | exact dl80 hok.1 | exact dl80 hok.2.1 | exact dl80 hok.2.2 | exact short2 hok.1 hok.2.1 | exact short3 hok.1 hok.2.1 hok.2.2 | exact Nat.le_of_lt_succ (by simp) | (simp; done)) (by first | exact all2 (deckOk_distinct hok.1) (deckOk_distinct hok.2.1) | exact all3 (deckOk_distinct hok.1) (deckOk_distinct hok.2.1) (deckOk_distinct hok.2.2) | assumption | omega | exact dl80 hok.1 | exact dl80 hok.2.1 | exact dl80 hok.2.2 | exact short2 hok.1 hok.2.1 | exact short3 hok.1 hok.2.1 hok.2.2 | exact Nat.le_of_lt_succ (by simp) | (simp; done))) rfl rfl rfl rfl rfl trivial (by kernel_rfl) rfl rfl (gives_cons (give_view (c := .own 1 [[.sh 3 (base.map cardc)], [.sh 3 (a.map cardc)]]) rfl rfl rfl rfl rfl) gives_nil) rfl (fun _ _ h => .inr (by obtain ⟨h1, h2⟩ := h; subst h1; subst h2; exact ⟨by simp [PV.closed, PV.closedL, closedE_map], by simp [PV.closedL, PV.closed]⟩)) ?_
  rintro _ _ ⟨rfl, rfl⟩
  refine vpOps_assign (x := .own 1 ((namesA ([base, a])).map strc)) rfl rfl rfl rfl rfl rfl rfl ?_
  refine vpOps_nil ?_
  refine vp_seq ?_
  refine vp_region ?_
  refine vpOps_pure (x := .own 1 []) (pBs (cs := []) rfl rfl rfl rfl rfl rfl rfl) rfl rfl rfl rfl ?_
  refine vpOps_assign (x := .own 1 []) rfl rfl rfl rfl rfl rfl rfl ?_
  refine vpOps_nil ?_
  refine vp_seq ?_
  refine vp_seq ?_
  refine vp_region ?_
  refine vpOps_pure (x := .v (.int .i64 0)) (pAs rfl rfl rfl) rfl rfl rfl rfl ?_
  refine vpOps_nil ?_
  refine vp_block ?_
  refine vLoop (α := Nat × List ByteArray) (fun (i, out) => (namesA [base, a]).length - i) (fun (i, out) => (i ≤ (namesA [base, a]).length) ∧ (out = confTo base a b (namesA [base, a]) i) ∧ (out.length ≤ i) ∧ True) (fun (i, out) => [(0, .sh 3 (base.map cardc)), (1, .sh 3 (a.map cardc)), (2, .sh 3 (b.map cardc)), (6, .v (.slice none 0 0)), (7, .own 1 ((namesA ([base, a])).map strc)), (8, .own 1 (out.map strc)), (9, .v (.int .i64 ((i : Nat) : Int)))]) (fun ⟨_, _⟩ => rfl) (fun ⟨_, _⟩ => rfl) (0, []) ⟨(by omega), (by rfl), (by exact Nat.zero_le _), trivial⟩ ⟨rfl, rfl, rfl, rfl, rfl, rfl, rfl, trivial⟩ ?_
  rintro ⟨i, out⟩ ⟨hi, ho, hol, -⟩
  refine vp_seq ?_
  refine vp_seq ?_
  refine vp_region ?_
  refine vpOps_pure (x := .v (.int .i64 ((i : Nat) : Int))) (pMv rfl rfl rfl) rfl rfl rfl rfl ?_
  refine vpOps_pure (x := .lv 7 []) (pure_move_lv rfl) rfl rfl rfl rfl ?_
  refine vpOps_pure (x := .v (.int .i64 (((((namesA ([base, a])).length) : Nat) : Int)))) (pLenR rfl rfl rfl rfl rfl (List.length_map _)) rfl rfl rfl rfl ?_
  refine vpOps_pure (x := .v (.bool (decide (((i : Nat) : Int) < (((((namesA ([base, a])).length) : Nat) : Int)))))) (pure_bin rfl rfl rfl rfl) rfl rfl rfl rfl ?_
  refine vpOps_nil ?_
  refine vIf rfl (fun h1 => ?_) (fun h1 => ?_)
  · skip
    refine vp_skip ?_
    refine vp_seq ?_
    refine vp_block ?_
    refine vp_seq ?_
    refine vp_region ?_
    refine vpOps_pure (x := .sh 3 (base.map cardc)) (pMv rfl rfl rfl) rfl rfl rfl rfl ?_
    refine vpOps_pure (x := .lv 7 []) (pure_move_lv rfl) rfl rfl rfl rfl ?_
    refine vpOps_pure (x := .v (.int .i64 ((i : Nat) : Int))) (pMv rfl rfl rfl) rfl rfl rfl rfl ?_
    refine vpOps_pure (x := .pl 7 [⟨i, 0, 1⟩]) (pIxR (m := i) rfl rfl rfl rfl rfl rfl (by first | rfl | omega) (by rw [List.length_map]; omega) rfl) rfl rfl rfl rfl ?_
    refine vpOps_pure (x := .v (.string ((namesA ([base, a])).getD i default))) (pure_load_pl rfl rfl rfl rfl rfl (row_map (by omega)) rfl trivial rfl) rfl rfl rfl rfl ?_
    refine vpOps_call (gs := [⟨.tmp 24, .sh 3 (base.map cardc), none, none⟩, ⟨.tmp 28, .v (.string ((namesA ([base, a])).getD i default)), none, none⟩]) (c_sStateOf base ((namesA ([base, a])).getD i default) (by first | exact all2 (deckOk_distinct hok.1) (deckOk_distinct hok.2.1) | exact all3 (deckOk_distinct hok.1) (deckOk_distinct hok.2.1) (deckOk_distinct hok.2.2) | assumption | omega | exact dl80 hok.1 | exact dl80 hok.2.1 | exact dl80 hok.2.2 | exact short2 hok.1 hok.2.1 | exact short3 hok.1 hok.2.1 hok.2.2 | exact Nat.le_of_lt_succ (by simp) | (simp; done))) rfl rfl rfl rfl rfl trivial (by kernel_rfl) rfl rfl (gives_cons (gC rfl rfl) (gives_cons (gC rfl rfl) gives_nil)) rfl (fun _ _ _ => .inl rfl) ?_
    rintro _ _ ⟨rfl, rfl⟩
    refine vpOps_pure (x := .box [.v (.bool (false)), .v (.int .u64 0), .v (.int .u64 0)]) (pure_alloc rfl) rfl rfl rfl rfl ?_
    refine vStB (x := .agg [.v (.bool ((stC base ((namesA ([base, a])).getD i default)).there)), .v (.int .u64 (((((stC base ((namesA ([base, a])).getD i default)).notches).a : Nat) : Int))), .v (.int .u64 (((((stC base ((namesA ([base, a])).getD i default)).notches).b : Nat) : Int)))]) (row' := [.v (.bool ((stC base ((namesA ([base, a])).getD i default)).there)), .v (.int .u64 (((((stC base ((namesA ([base, a])).getD i default)).notches).a : Nat) : Int))), .v (.int .u64 (((((stC base ((namesA ([base, a])).getD i default)).notches).b : Nat) : Int)))]) rfl rfl rfl rfl rfl rfl rfl rfl rfl rfl rfl rfl ?_
    refine vpOps_nil ?_
    refine vp_seq ?_
    refine vp_region ?_
    refine vpOps_pure (x := .sh 3 (a.map cardc)) (pMv rfl rfl rfl) rfl rfl rfl rfl ?_
    refine vpOps_pure (x := .lv 7 []) (pure_move_lv rfl) rfl rfl rfl rfl ?_
    refine vpOps_pure (x := .v (.int .i64 ((i : Nat) : Int))) (pMv rfl rfl rfl) rfl rfl rfl rfl ?_
    refine vpOps_pure (x := .pl 7 [⟨i, 0, 1⟩]) (pIxR (m := i) rfl rfl rfl rfl rfl rfl (by first | rfl | omega) (by rw [List.length_map]; omega) rfl) rfl rfl rfl rfl ?_
    refine vpOps_pure (x := .v (.string ((namesA ([base, a])).getD i default))) (pure_load_pl rfl rfl rfl rfl rfl (row_map (by omega)) rfl trivial rfl) rfl rfl rfl rfl ?_
    refine vpOps_call (gs := [⟨.tmp 30, .sh 3 (a.map cardc), none, none⟩, ⟨.tmp 34, .v (.string ((namesA ([base, a])).getD i default)), none, none⟩]) (c_sStateOf a ((namesA ([base, a])).getD i default) (by first | exact all2 (deckOk_distinct hok.1) (deckOk_distinct hok.2.1) | exact all3 (deckOk_distinct hok.1) (deckOk_distinct hok.2.1) (deckOk_distinct hok.2.2) | assumption | omega | exact dl80 hok.1 | exact dl80 hok.2.1 | exact dl80 hok.2.2 | exact short2 hok.1 hok.2.1 | exact short3 hok.1 hok.2.1 hok.2.2 | exact Nat.le_of_lt_succ (by simp) | (simp; done))) rfl rfl rfl rfl rfl trivial (by kernel_rfl) rfl rfl (gives_cons (gC rfl rfl) (gives_cons (gC rfl rfl) gives_nil)) rfl (fun _ _ _ => .inl rfl) ?_
    rintro _ _ ⟨rfl, rfl⟩
    refine vpOps_pure (x := .box [.v (.bool (false)), .v (.int .u64 0), .v (.int .u64 0)]) (pure_alloc rfl) rfl rfl rfl rfl ?_
    refine vStB (x := .agg [.v (.bool ((stC a ((namesA ([base, a])).getD i default)).there)), .v (.int .u64 (((((stC a ((namesA ([base, a])).getD i default)).notches).a : Nat) : Int))), .v (.int .u64 (((((stC a ((namesA ([base, a])).getD i default)).notches).b : Nat) : Int)))]) (row' := [.v (.bool ((stC a ((namesA ([base, a])).getD i default)).there)), .v (.int .u64 (((((stC a ((namesA ([base, a])).getD i default)).notches).a : Nat) : Int))), .v (.int .u64 (((((stC a ((namesA ([base, a])).getD i default)).notches).b : Nat) : Int)))]) rfl rfl rfl rfl rfl rfl rfl rfl rfl rfl rfl rfl ?_
    refine vpOps_nil ?_
    refine vp_seq ?_
    refine vp_region ?_
    refine vpOps_pure (x := .sh 3 (b.map cardc)) (pMv rfl rfl rfl) rfl rfl rfl rfl ?_
    refine vpOps_pure (x := .lv 7 []) (pure_move_lv rfl) rfl rfl rfl rfl ?_
    refine vpOps_pure (x := .v (.int .i64 ((i : Nat) : Int))) (pMv rfl rfl rfl) rfl rfl rfl rfl ?_
    refine vpOps_pure (x := .pl 7 [⟨i, 0, 1⟩]) (pIxR (m := i) rfl rfl rfl rfl rfl rfl (by first | rfl | omega) (by rw [List.length_map]; omega) rfl) rfl rfl rfl rfl ?_
    refine vpOps_pure (x := .v (.string ((namesA ([base, a])).getD i default))) (pure_load_pl rfl rfl rfl rfl rfl (row_map (by omega)) rfl trivial rfl) rfl rfl rfl rfl ?_
    refine vpOps_call (gs := [⟨.tmp 36, .sh 3 (b.map cardc), none, none⟩, ⟨.tmp 40, .v (.string ((namesA ([base, a])).getD i default)), none, none⟩]) (c_sStateOf b ((namesA ([base, a])).getD i default) (by first | exact all2 (deckOk_distinct hok.1) (deckOk_distinct hok.2.1) | exact all3 (deckOk_distinct hok.1) (deckOk_distinct hok.2.1) (deckOk_distinct hok.2.2) | assumption | omega | exact dl80 hok.1 | exact dl80 hok.2.1 | exact dl80 hok.2.2 | exact short2 hok.1 hok.2.1 | exact short3 hok.1 hok.2.1 hok.2.2 | exact Nat.le_of_lt_succ (by simp) | (simp; done))) rfl rfl rfl rfl rfl trivial (by kernel_rfl) rfl rfl (gives_cons (gC rfl rfl) (gives_cons (gC rfl rfl) gives_nil)) rfl (fun _ _ _ => .inl rfl) ?_
    rintro _ _ ⟨rfl, rfl⟩
    refine vpOps_pure (x := .box [.v (.bool (false)), .v (.int .u64 0), .v (.int .u64 0)]) (pure_alloc rfl) rfl rfl rfl rfl ?_
    refine vStB (x := .agg [.v (.bool ((stC b ((namesA ([base, a])).getD i default)).there)), .v (.int .u64 (((((stC b ((namesA ([base, a])).getD i default)).notches).a : Nat) : Int))), .v (.int .u64 (((((stC b ((namesA ([base, a])).getD i default)).notches).b : Nat) : Int)))]) (row' := [.v (.bool ((stC b ((namesA ([base, a])).getD i default)).there)), .v (.int .u64 (((((stC b ((namesA ([base, a])).getD i default)).notches).a : Nat) : Int))), .v (.int .u64 (((((stC b ((namesA ([base, a])).getD i default)).notches).b : Nat) : Int)))]) rfl rfl rfl rfl rfl rfl rfl rfl rfl rfl rfl rfl ?_
    refine vpOps_nil ?_
    refine vp_seq ?_
    refine vp_region ?_
    refine vpOps_pure (x := .agg [.v (.bool ((stC base ((namesA ([base, a])).getD i default)).there)), .v (.int .u64 (((((stC base ((namesA ([base, a])).getD i default)).notches).a : Nat) : Int))), .v (.int .u64 (((((stC base ((namesA ([base, a])).getD i default)).notches).b : Nat) : Int)))]) (pure_load_pl_agg rfl rfl rfl rfl rfl rfl rfl rfl (by simp [PV.flatL, PV.flat])) rfl rfl rfl rfl ?_
    refine vpOps_pure (x := .agg [.v (.bool ((stC a ((namesA ([base, a])).getD i default)).there)), .v (.int .u64 (((((stC a ((namesA ([base, a])).getD i default)).notches).a : Nat) : Int))), .v (.int .u64 (((((stC a ((namesA ([base, a])).getD i default)).notches).b : Nat) : Int)))]) (pure_load_pl_agg rfl rfl rfl rfl rfl rfl rfl rfl (by simp [PV.flatL, PV.flat])) rfl rfl rfl rfl ?_
    refine vpOps_pure (x := .v (.bool (!decide (stC base ((namesA ([base, a])).getD i default) = stC a ((namesA ([base, a])).getD i default))))) (pNeAgg [(.bool ((stC base ((namesA ([base, a])).getD i default)).there)), (.int .u64 (((((stC base ((namesA ([base, a])).getD i default)).notches).a : Nat) : Int))), (.int .u64 (((((stC base ((namesA ([base, a])).getD i default)).notches).b : Nat) : Int)))] [(.bool ((stC a ((namesA ([base, a])).getD i default)).there)), (.int .u64 (((((stC a ((namesA ([base, a])).getD i default)).notches).a : Nat) : Int))), (.int .u64 (((((stC a ((namesA ([base, a])).getD i default)).notches).b : Nat) : Int)))] (φ := stC base ((namesA ([base, a])).getD i default) = stC a ((namesA ([base, a])).getD i default)) rfl rfl rfl rfl rfl rfl rfl (st_inj)) rfl rfl rfl rfl ?_
    refine vpOps_pure (x := .v (.bool (!decide (stC base ((namesA ([base, a])).getD i default) = stC a ((namesA ([base, a])).getD i default))))) (pMv rfl rfl rfl) rfl rfl rfl rfl ?_
    by_cases h2 : stC base ((namesA ([base, a])).getD i default) = stC a ((namesA ([base, a])).getD i default)
    · skip
      refine vPass rfl rfl rfl (not_of_t (decide_eq_true h2)) rfl rfl rfl ?_
      refine vPass rfl rfl rfl (not_of_t (decide_eq_true h2)) rfl rfl rfl ?_
      refine vPass rfl rfl rfl (not_of_t (decide_eq_true h2)) rfl rfl rfl ?_
      refine vpOps_pure (x := .v (.bool (false))) (pPf rfl rfl (not_of_t (decide_eq_true h2)) rfl rfl) rfl rfl rfl rfl ?_
      refine vpOps_pure (x := .v (.bool (false))) (pMv rfl rfl rfl) rfl rfl rfl rfl ?_
      refine vPass rfl rfl rfl rfl rfl rfl rfl ?_
      refine vPass rfl rfl rfl rfl rfl rfl rfl ?_
      refine vPass rfl rfl rfl rfl rfl rfl rfl ?_
      refine vpOps_pure (x := .v (.bool (false))) (pPf rfl rfl rfl rfl rfl) rfl rfl rfl rfl ?_
      refine vpOps_nil ?_
      refine vIfF rfl rfl ?_
      refine vp_skip ?_
      refine vp_region ?_
      refine vpOps_pure (x := .v (.int .i64 ((i : Nat) : Int))) (pMv rfl rfl rfl) rfl rfl rfl rfl ?_
      refine vpOps_pure (x := .v (.int .i64 (((i : Nat) : Int) + 1))) (pure_add rfl rfl rfl (in64 (by omega) (by omega))) rfl rfl rfl rfl ?_
      refine vpOps_pure (x := .v (.int .i64 (((i : Nat) : Int) + 1))) (pAs rfl rfl rfl) rfl rfl rfl rfl ?_
      refine vpOps_nil ?_
      exact ⟨(i + 1, out), (by first | omega | (dsimp only; omega)), ⟨(by omega), (by rw [confTo, ← ho]; first | (rw [if_pos ⟨by assumption, by assumption, by assumption⟩]; done) | (rw [if_neg (fun h => by have h1 := h.1; have h2 := h.2.1; have hh3 := h.2.2; first | exact absurd (by assumption) h1 | exact absurd (by assumption) h2 | exact absurd (by assumption) hh3)]; done)), (by first | omega | (simp only [List.length_append, List.length_cons, List.length_nil]; omega)), trivial⟩, ⟨rfl, rfl, rfl, rfl, rfl, rfl, rfl, trivial⟩⟩
    · skip
      refine vRun rfl rfl rfl (not_of_f (decide_eq_false h2)) rfl rfl rfl ?_
      refine vpOps_pure (x := .agg [.v (.bool ((stC base ((namesA ([base, a])).getD i default)).there)), .v (.int .u64 (((((stC base ((namesA ([base, a])).getD i default)).notches).a : Nat) : Int))), .v (.int .u64 (((((stC base ((namesA ([base, a])).getD i default)).notches).b : Nat) : Int)))]) (pure_load_pl_agg rfl rfl rfl rfl rfl rfl rfl rfl (by simp [PV.flatL, PV.flat])) rfl rfl rfl rfl ?_
      refine vRun rfl rfl rfl (not_of_f (decide_eq_false h2)) rfl rfl rfl ?_
      refine vpOps_pure (x := .agg [.v (.bool ((stC b ((namesA ([base, a])).getD i default)).there)), .v (.int .u64 (((((stC b ((namesA ([base, a])).getD i default)).notches).a : Nat) : Int))), .v (.int .u64 (((((stC b ((namesA ([base, a])).getD i default)).notches).b : Nat) : Int)))]) (pure_load_pl_agg rfl rfl rfl rfl rfl rfl rfl rfl (by simp [PV.flatL, PV.flat])) rfl rfl rfl rfl ?_
      refine vRun rfl rfl rfl (not_of_f (decide_eq_false h2)) rfl rfl rfl ?_
      refine vpOps_pure (x := .v (.bool (!decide (stC base ((namesA ([base, a])).getD i default) = stC b ((namesA ([base, a])).getD i default))))) (pNeAgg [(.bool ((stC base ((namesA ([base, a])).getD i default)).there)), (.int .u64 (((((stC base ((namesA ([base, a])).getD i default)).notches).a : Nat) : Int))), (.int .u64 (((((stC base ((namesA ([base, a])).getD i default)).notches).b : Nat) : Int)))] [(.bool ((stC b ((namesA ([base, a])).getD i default)).there)), (.int .u64 (((((stC b ((namesA ([base, a])).getD i default)).notches).a : Nat) : Int))), (.int .u64 (((((stC b ((namesA ([base, a])).getD i default)).notches).b : Nat) : Int)))] (φ := stC base ((namesA ([base, a])).getD i default) = stC b ((namesA ([base, a])).getD i default)) rfl rfl rfl rfl rfl rfl rfl (st_inj)) rfl rfl rfl rfl ?_
      refine vpOps_pure (x := .v (.bool (!decide (stC base ((namesA ([base, a])).getD i default) = stC b ((namesA ([base, a])).getD i default))))) (pPt rfl rfl (not_of_f (decide_eq_false h2)) rfl rfl) rfl rfl rfl rfl ?_
      refine vpOps_pure (x := .v (.bool (!decide (stC base ((namesA ([base, a])).getD i default) = stC b ((namesA ([base, a])).getD i default))))) (pMv rfl rfl rfl) rfl rfl rfl rfl ?_
      by_cases h3 : stC base ((namesA ([base, a])).getD i default) = stC b ((namesA ([base, a])).getD i default)
      · skip
        refine vPass rfl rfl rfl (not_of_t (decide_eq_true h3)) rfl rfl rfl ?_
        refine vPass rfl rfl rfl (not_of_t (decide_eq_true h3)) rfl rfl rfl ?_
        refine vPass rfl rfl rfl (not_of_t (decide_eq_true h3)) rfl rfl rfl ?_
        refine vpOps_pure (x := .v (.bool (false))) (pPf rfl rfl (not_of_t (decide_eq_true h3)) rfl rfl) rfl rfl rfl rfl ?_
        refine vpOps_nil ?_
        refine vIfF rfl rfl ?_
        refine vp_skip ?_
        refine vp_region ?_
        refine vpOps_pure (x := .v (.int .i64 ((i : Nat) : Int))) (pMv rfl rfl rfl) rfl rfl rfl rfl ?_
        refine vpOps_pure (x := .v (.int .i64 (((i : Nat) : Int) + 1))) (pure_add rfl rfl rfl (in64 (by omega) (by omega))) rfl rfl rfl rfl ?_
        refine vpOps_pure (x := .v (.int .i64 (((i : Nat) : Int) + 1))) (pAs rfl rfl rfl) rfl rfl rfl rfl ?_
        refine vpOps_nil ?_
        exact ⟨(i + 1, out), (by first | omega | (dsimp only; omega)), ⟨(by omega), (by rw [confTo, ← ho]; first | (rw [if_pos ⟨by assumption, by assumption, by assumption⟩]; done) | (rw [if_neg (fun h => by have h1 := h.1; have h2 := h.2.1; have hh3 := h.2.2; first | exact absurd (by assumption) h1 | exact absurd (by assumption) h2 | exact absurd (by assumption) hh3)]; done)), (by first | omega | (simp only [List.length_append, List.length_cons, List.length_nil]; omega)), trivial⟩, ⟨rfl, rfl, rfl, rfl, rfl, rfl, rfl, trivial⟩⟩
      · skip
        refine vRun rfl rfl rfl (not_of_f (decide_eq_false h3)) rfl rfl rfl ?_
        refine vpOps_pure (x := .agg [.v (.bool ((stC a ((namesA ([base, a])).getD i default)).there)), .v (.int .u64 (((((stC a ((namesA ([base, a])).getD i default)).notches).a : Nat) : Int))), .v (.int .u64 (((((stC a ((namesA ([base, a])).getD i default)).notches).b : Nat) : Int)))]) (pure_load_pl_agg rfl rfl rfl rfl rfl rfl rfl rfl (by simp [PV.flatL, PV.flat])) rfl rfl rfl rfl ?_
        refine vRun rfl rfl rfl (not_of_f (decide_eq_false h3)) rfl rfl rfl ?_
        refine vpOps_pure (x := .agg [.v (.bool ((stC b ((namesA ([base, a])).getD i default)).there)), .v (.int .u64 (((((stC b ((namesA ([base, a])).getD i default)).notches).a : Nat) : Int))), .v (.int .u64 (((((stC b ((namesA ([base, a])).getD i default)).notches).b : Nat) : Int)))]) (pure_load_pl_agg rfl rfl rfl rfl rfl rfl rfl rfl (by simp [PV.flatL, PV.flat])) rfl rfl rfl rfl ?_
        refine vRun rfl rfl rfl (not_of_f (decide_eq_false h3)) rfl rfl rfl ?_
        refine vpOps_pure (x := .v (.bool (!decide (stC a ((namesA ([base, a])).getD i default) = stC b ((namesA ([base, a])).getD i default))))) (pNeAgg [(.bool ((stC a ((namesA ([base, a])).getD i default)).there)), (.int .u64 (((((stC a ((namesA ([base, a])).getD i default)).notches).a : Nat) : Int))), (.int .u64 (((((stC a ((namesA ([base, a])).getD i default)).notches).b : Nat) : Int)))] [(.bool ((stC b ((namesA ([base, a])).getD i default)).there)), (.int .u64 (((((stC b ((namesA ([base, a])).getD i default)).notches).a : Nat) : Int))), (.int .u64 (((((stC b ((namesA ([base, a])).getD i default)).notches).b : Nat) : Int)))] (φ := stC a ((namesA ([base, a])).getD i default) = stC b ((namesA ([base, a])).getD i default)) rfl rfl rfl rfl rfl rfl rfl (st_inj)) rfl rfl rfl rfl ?_
        refine vpOps_pure (x := .v (.bool (!decide (stC a ((namesA ([base, a])).getD i default) = stC b ((namesA ([base, a])).getD i default))))) (pPt rfl rfl (not_of_f (decide_eq_false h3)) rfl rfl) rfl rfl rfl rfl ?_
        refine vpOps_nil ?_
        refine vIfN rfl (fun h4 => ?_) (fun h4 => ?_)
        · skip
          refine vp_region ?_
          refine vpOps_pure (x := .lv 8 []) (pure_move_lv rfl) rfl rfl rfl rfl ?_
          refine vpOps_pure (x := .lv 7 []) (pure_move_lv rfl) rfl rfl rfl rfl ?_
          refine vpOps_pure (x := .v (.int .i64 ((i : Nat) : Int))) (pMv rfl rfl rfl) rfl rfl rfl rfl ?_
          refine vpOps_pure (x := .pl 7 [⟨i, 0, 1⟩]) (pIxR (m := i) rfl rfl rfl rfl rfl rfl (by first | rfl | omega) (by rw [List.length_map]; omega) rfl) rfl rfl rfl rfl ?_
          refine vpOps_pure (x := .v (.string ((namesA ([base, a])).getD i default))) (pure_load_pl rfl rfl rfl rfl rfl (row_map (by omega)) rfl trivial rfl) rfl rfl rfl rfl ?_
          refine vpOps_pure (x := .own 1 [[.v (.string ((namesA ([base, a])).getD i default))]]) (pBs (cs := [.v (.string ((namesA ([base, a])).getD i default))]) rfl rfl rfl rfl rfl rfl rfl) rfl rfl rfl rfl ?_
          refine vpOps_ghost (ghost_own (t := 55) rfl rfl rfl rfl) ?_
          refine vApp (f := strc) (xs := out) (ys := [((namesA ([base, a])).getD i default)]) (l := 1) rfl rfl rfl rfl rfl (srcOwn rfl rfl (fun _ => mvOkL_flat _ rfl)) rfl rfl (fun _ => rfl) (.inl ⟨_, rfl⟩) rfl rfl rfl (rfl) (by omega) (by omega) ?_
          refine vpOps_assign (x := .own 1 ((out ++ [((namesA ([base, a])).getD i default)]).map strc)) rfl rfl rfl rfl rfl rfl rfl ?_
          refine vpOps_nil ?_
          refine vp_region ?_
          refine vpOps_pure (x := .v (.int .i64 ((i : Nat) : Int))) (pMv rfl rfl rfl) rfl rfl rfl rfl ?_
          refine vpOps_pure (x := .v (.int .i64 (((i : Nat) : Int) + 1))) (pure_add rfl rfl rfl (in64 (by omega) (by omega))) rfl rfl rfl rfl ?_
          refine vpOps_pure (x := .v (.int .i64 (((i : Nat) : Int) + 1))) (pAs rfl rfl rfl) rfl rfl rfl rfl ?_
          refine vpOps_nil ?_
          exact ⟨(i + 1, out ++ [((namesA ([base, a])).getD i default)]), (by first | omega | (dsimp only; omega)), ⟨(by omega), (by rw [confTo, ← ho]; first | (rw [if_pos ⟨by assumption, by assumption, by assumption⟩]; done) | (rw [if_neg (fun h => by have h1 := h.1; have h2 := h.2.1; have hh3 := h.2.2; first | exact absurd (by assumption) h1 | exact absurd (by assumption) h2 | exact absurd (by assumption) hh3)]; done)), (by first | omega | (simp only [List.length_append, List.length_cons, List.length_nil]; omega)), trivial⟩, ⟨rfl, rfl, rfl, rfl, rfl, rfl, rfl, trivial⟩⟩
        · skip
          refine vp_skip ?_
          refine vp_region ?_
          refine vpOps_pure (x := .v (.int .i64 ((i : Nat) : Int))) (pMv rfl rfl rfl) rfl rfl rfl rfl ?_
          refine vpOps_pure (x := .v (.int .i64 (((i : Nat) : Int) + 1))) (pure_add rfl rfl rfl (in64 (by omega) (by omega))) rfl rfl rfl rfl ?_
          refine vpOps_pure (x := .v (.int .i64 (((i : Nat) : Int) + 1))) (pAs rfl rfl rfl) rfl rfl rfl rfl ?_
          refine vpOps_nil ?_
          exact ⟨(i + 1, out), (by first | omega | (dsimp only; omega)), ⟨(by omega), (by rw [confTo, ← ho]; first | (rw [if_pos ⟨by assumption, by assumption, by assumption⟩]; done) | (rw [if_neg (fun h => by have h1 := h.1; have h2 := h.2.1; have hh3 := h.2.2; first | exact absurd (by assumption) h1 | exact absurd (by assumption) h2 | exact absurd (by assumption) hh3)]; done)), (by first | omega | (simp only [List.length_append, List.length_cons, List.length_nil]; omega)), trivial⟩, ⟨rfl, rfl, rfl, rfl, rfl, rfl, rfl, trivial⟩⟩
  · skip
    refine vp_exit ?_
    refine vp_seq ?_
    refine vp_region ?_
    refine vpOps_pure (x := .lv 8 []) (pure_move_lv rfl) rfl rfl rfl rfl ?_
    refine vpOps_ghost (ghost_own (t := 62) rfl rfl rfl rfl) ?_
    refine vpOps_assign (x := .own 1 (out.map strc)) rfl rfl rfl rfl rfl rfl rfl ?_
    refine vpOps_nil ?_
    refine vp_ret ?_
    exact ⟨[.own 1 (out.map strc)], [6], (.cons (.tmp rfl rfl) .nil), rfl, ⟨(show (.own 1 (out.map strc) : PV) = .own 1 ((confL base a b).map strc) from (by rw [ho, show i = (namesA [base, a]).length by omega]; rfl)), rfl⟩⟩

/-- spec.ConflictsOf -/
theorem c_sConflictsOf {G : World → Prop} (base : List Card) (a : List Card) (b : List Card) (hw1 : ∀ c ∈ base, c.wf) (hw2 : ∀ c ∈ a, c.wf) (hw3 : ∀ c ∈ b, c.wf) (hn1 : base.length ≤ 9223372036854775807) (hn2 : a.length ≤ 9223372036854775807) (hn3 : b.length ≤ 9223372036854775807) : CallsV Tryd.prog G 9 [.sh 3 (base.map cardc), .sh 3 (a.map cardc), .sh 3 (b.map cardc)] (fun r outs => r = .tup [.own 1 ((conL base a b).map strc), .v (.int .i64 (conC base a b))] ∧ outs = [.junk, .junk, .junk]) := by
  refine callsV_enter [] Tryd.func9 rfl rfl rfl ?_
  refine vp_seq ?_
  refine vp_region ?_
  refine vpOps_pure (x := .v (.slice none 0 0)) (pAs rfl rfl rfl) rfl rfl rfl rfl ?_
  refine vpOps_pure (x := .v (.int .i64 0)) (pAs rfl rfl rfl) rfl rfl rfl rfl ?_
  refine vpOps_nil ?_
  refine vp_seq ?_
  refine vp_seq ?_
  refine vp_region ?_
  refine vpOps_pure (x := .sh 3 (base.map cardc)) (pMv rfl rfl rfl) rfl rfl rfl rfl ?_
  refine vpOps_call (gs := [⟨.tmp 8, .sh 3 (base.map cardc), none, none⟩]) (c_sDeckOk base (by first | assumption | omega | exact ⟨by assumption, by assumption, by assumption⟩) (by first | assumption | omega | exact ⟨by assumption, by assumption, by assumption⟩)) rfl rfl rfl rfl rfl trivial (by kernel_rfl) rfl rfl (gives_cons (gC rfl rfl) gives_nil) rfl (fun _ _ _ => .inl rfl) ?_
  rintro _ _ ⟨rfl, rfl⟩
  refine vpOps_pure (x := .v (.bool (!decide (deckOk base)))) (pure_not rfl rfl) rfl rfl rfl rfl ?_
  refine vpOps_pure (x := .v (.bool (!decide (deckOk base)))) (pMv rfl rfl rfl) rfl rfl rfl rfl ?_
  by_cases h1 : deckOk base
  · skip
    refine vRun rfl rfl rfl (not_of_t (decide_eq_true h1)) rfl rfl rfl ?_
    refine vpOps_pure (x := .sh 3 (a.map cardc)) (pMv rfl rfl rfl) rfl rfl rfl rfl ?_
    refine vRun rfl rfl rfl (not_of_t (decide_eq_true h1)) rfl rfl rfl ?_
    refine vpOps_call (gs := [⟨.tmp 12, .sh 3 (a.map cardc), none, none⟩]) (c_sDeckOk a (by first | assumption | omega | exact ⟨by assumption, by assumption, by assumption⟩) (by first | assumption | omega | exact ⟨by assumption, by assumption, by assumption⟩)) rfl rfl rfl rfl rfl trivial (by kernel_rfl) rfl rfl (gives_cons (gC rfl rfl) gives_nil) rfl (fun _ _ _ => .inl rfl) ?_
    rintro _ _ ⟨rfl, rfl⟩
    refine vRun rfl rfl rfl (not_of_t (decide_eq_true h1)) rfl rfl rfl ?_
    refine vpOps_pure (x := .v (.bool (!decide (deckOk a)))) (pure_not rfl rfl) rfl rfl rfl rfl ?_
    refine vpOps_pure (x := .v (.bool (!decide (deckOk a)))) (pPf rfl rfl (not_of_t (decide_eq_true h1)) rfl rfl) rfl rfl rfl rfl ?_
    refine vpOps_pure (x := .v (.bool (!decide (deckOk a)))) (pMv rfl rfl rfl) rfl rfl rfl rfl ?_
    by_cases h2 : deckOk a
    · skip
      refine vRun rfl rfl rfl (not_of_t (decide_eq_true h2)) rfl rfl rfl ?_
      refine vpOps_pure (x := .sh 3 (b.map cardc)) (pMv rfl rfl rfl) rfl rfl rfl rfl ?_
      refine vRun rfl rfl rfl (not_of_t (decide_eq_true h2)) rfl rfl rfl ?_
      refine vpOps_call (gs := [⟨.tmp 17, .sh 3 (b.map cardc), none, none⟩]) (c_sDeckOk b (by first | assumption | omega | exact ⟨by assumption, by assumption, by assumption⟩) (by first | assumption | omega | exact ⟨by assumption, by assumption, by assumption⟩)) rfl rfl rfl rfl rfl trivial (by kernel_rfl) rfl rfl (gives_cons (gC rfl rfl) gives_nil) rfl (fun _ _ _ => .inl rfl) ?_
      rintro _ _ ⟨rfl, rfl⟩
      refine vRun rfl rfl rfl (not_of_t (decide_eq_true h2)) rfl rfl rfl ?_
      refine vpOps_pure (x := .v (.bool (!decide (deckOk b)))) (pure_not rfl rfl) rfl rfl rfl rfl ?_
      refine vpOps_pure (x := .v (.bool (!decide (deckOk b)))) (pPf rfl rfl (not_of_t (decide_eq_true h2)) rfl rfl) rfl rfl rfl rfl ?_
      refine vpOps_nil ?_
      refine vIfN rfl (fun h3 => ?_) (fun h3 => ?_)
      · skip
        refine vp_seq ?_
        refine vp_region ?_
        refine vpOps_pure (x := .own 1 []) (pBs (cs := []) rfl rfl rfl rfl rfl rfl rfl) rfl rfl rfl rfl ?_
        refine vpOps_assign (x := .own 1 []) rfl rfl rfl rfl rfl rfl rfl ?_
        refine vpOps_pure (x := .v (.int .i64 1)) (pAs rfl rfl rfl) rfl rfl rfl rfl ?_
        refine vpOps_nil ?_
        refine vp_ret ?_
        exact ⟨[.own 1 [], .v (.int .i64 1)], [6, 7], (.cons (.tmp rfl rfl) (.cons (.tmp rfl rfl) .nil)), rfl, ⟨(show (.tup [.own 1 [], .v (.int .i64 1)] : PV) = .tup [.own 1 ((conL base a b).map strc), .v (.int .i64 (conC base a b))] from (by rcases con_cases base a b with ⟨hz, e1, e2⟩ | ⟨hz, e1, e2⟩ <;> rw [e1, e2] <;> first | rfl | (exfalso; first | exact hz ⟨by assumption, by assumption, by assumption⟩ | exact absurd hz.1 (by assumption) | exact absurd hz.2.1 (by assumption) | exact absurd hz.2.2 (by assumption)))), rfl⟩⟩
      · skip
        refine vp_skip ?_
        refine vp_seq ?_
        refine vp_region ?_
        refine vpOps_pure (x := .sh 3 (base.map cardc)) (pMv rfl rfl rfl) rfl rfl rfl rfl ?_
        refine vpOps_pure (x := .sh 3 (a.map cardc)) (pMv rfl rfl rfl) rfl rfl rfl rfl ?_
        refine vpOps_pure (x := .sh 3 (b.map cardc)) (pMv rfl rfl rfl) rfl rfl rfl rfl ?_
        refine vpOps_call (gs := [⟨.tmp 22, .sh 3 (base.map cardc), none, none⟩, ⟨.tmp 23, .sh 3 (a.map cardc), none, none⟩, ⟨.tmp 24, .sh 3 (b.map cardc), none, none⟩]) (c_sConflicts base a b (by first | assumption | omega | exact ⟨by assumption, by assumption, by assumption⟩)) rfl rfl rfl rfl rfl trivial (by kernel_rfl) rfl rfl (gives_cons (gC rfl rfl) (gives_cons (gC rfl rfl) (gives_cons (gC rfl rfl) gives_nil))) rfl (fun _ _ _ => .inl rfl) ?_
        rintro _ _ ⟨rfl, rfl⟩
        refine vpOps_assign (x := .own 1 ((confL base a b).map strc)) rfl rfl rfl rfl rfl rfl rfl ?_
        refine vpOps_pure (x := .v (.int .i64 0)) (pAs rfl rfl rfl) rfl rfl rfl rfl ?_
        refine vpOps_nil ?_
        refine vp_ret ?_
        exact ⟨[.own 1 ((confL base a b).map strc), .v (.int .i64 0)], [6, 7], (.cons (.tmp rfl rfl) (.cons (.tmp rfl rfl) .nil)), rfl, ⟨(show (.tup [.own 1 ((confL base a b).map strc), .v (.int .i64 0)] : PV) = .tup [.own 1 ((conL base a b).map strc), .v (.int .i64 (conC base a b))] from (by rcases con_cases base a b with ⟨hz, e1, e2⟩ | ⟨hz, e1, e2⟩ <;> rw [e1, e2] <;> first | rfl | (exfalso; first | exact hz ⟨by assumption, by assumption, by assumption⟩ | exact absurd hz.1 (by assumption) | exact absurd hz.2.1 (by assumption) | exact absurd hz.2.2 (by assumption)))), rfl⟩⟩
    · skip
      refine vPass rfl rfl rfl (not_of_f (decide_eq_false h2)) rfl rfl rfl ?_
      refine vPass rfl rfl rfl (not_of_f (decide_eq_false h2)) rfl rfl rfl ?_
      refine vPass rfl rfl rfl (not_of_f (decide_eq_false h2)) rfl rfl rfl ?_
      refine vpOps_pure (x := .v (.bool (true))) (pPt rfl rfl (not_of_f (decide_eq_false h2)) rfl rfl) rfl rfl rfl rfl ?_
      refine vpOps_nil ?_
      refine vIfT rfl rfl ?_
      refine vp_seq ?_
      refine vp_region ?_
      refine vpOps_pure (x := .own 1 []) (pBs (cs := []) rfl rfl rfl rfl rfl rfl rfl) rfl rfl rfl rfl ?_
      refine vpOps_assign (x := .own 1 []) rfl rfl rfl rfl rfl rfl rfl ?_
      refine vpOps_pure (x := .v (.int .i64 1)) (pAs rfl rfl rfl) rfl rfl rfl rfl ?_
      refine vpOps_nil ?_
      refine vp_ret ?_
      exact ⟨[.own 1 [], .v (.int .i64 1)], [6, 7], (.cons (.tmp rfl rfl) (.cons (.tmp rfl rfl) .nil)), rfl, ⟨(show (.tup [.own 1 [], .v (.int .i64 1)] : PV) = .tup [.own 1 ((conL base a b).map strc), .v (.int .i64 (conC base a b))] from (by rcases con_cases base a b with ⟨hz, e1, e2⟩ | ⟨hz, e1, e2⟩ <;> rw [e1, e2] <;> first | rfl | (exfalso; first | exact hz ⟨by assumption, by assumption, by assumption⟩ | exact absurd hz.1 (by assumption) | exact absurd hz.2.1 (by assumption) | exact absurd hz.2.2 (by assumption)))), rfl⟩⟩
  · skip
    refine vPass rfl rfl rfl (not_of_f (decide_eq_false h1)) rfl rfl rfl ?_
    refine vPass rfl rfl rfl (not_of_f (decide_eq_false h1)) rfl rfl rfl ?_
    refine vPass rfl rfl rfl (not_of_f (decide_eq_false h1)) rfl rfl rfl ?_
    refine vpOps_pure (x := .v (.bool (true))) (pPt rfl rfl (not_of_f (decide_eq_false h1)) rfl rfl) rfl rfl rfl rfl ?_
    refine vpOps_pure (x := .v (.bool (true))) (pMv rfl rfl rfl) rfl rfl rfl rfl ?_
    refine vPass rfl rfl rfl rfl rfl rfl rfl ?_
    refine vPass rfl rfl rfl rfl rfl rfl rfl ?_
    refine vPass rfl rfl rfl rfl rfl rfl rfl ?_
    refine vpOps_pure (x := .v (.bool (true))) (pPt rfl rfl rfl rfl rfl) rfl rfl rfl rfl ?_
    refine vpOps_nil ?_
    refine vIfT rfl rfl ?_
    refine vp_seq ?_
    refine vp_region ?_
    refine vpOps_pure (x := .own 1 []) (pBs (cs := []) rfl rfl rfl rfl rfl rfl rfl) rfl rfl rfl rfl ?_
    refine vpOps_assign (x := .own 1 []) rfl rfl rfl rfl rfl rfl rfl ?_
    refine vpOps_pure (x := .v (.int .i64 1)) (pAs rfl rfl rfl) rfl rfl rfl rfl ?_
    refine vpOps_nil ?_
    refine vp_ret ?_
    exact ⟨[.own 1 [], .v (.int .i64 1)], [6, 7], (.cons (.tmp rfl rfl) (.cons (.tmp rfl rfl) .nil)), rfl, ⟨(show (.tup [.own 1 [], .v (.int .i64 1)] : PV) = .tup [.own 1 ((conL base a b).map strc), .v (.int .i64 (conC base a b))] from (by rcases con_cases base a b with ⟨hz, e1, e2⟩ | ⟨hz, e1, e2⟩ <;> rw [e1, e2] <;> first | rfl | (exfalso; first | exact hz ⟨by assumption, by assumption, by assumption⟩ | exact absurd hz.1 (by assumption) | exact absurd hz.2.1 (by assumption) | exact absurd hz.2.2 (by assumption)))), rfl⟩⟩

end Go.Vr
/- Walks of the functions that the law reaches: what each gives, by value. -/
namespace Go.Vr
open Go Go.Proofs
set_option linter.unusedVariables false
set_option linter.unusedSimpArgs false
set_option maxRecDepth 8000

/-- impl.MergeThree -/
theorem c_MergeThree {G : World → Prop} (base : List Card) (a : List Card) (b : List Card) (hw1 : ∀ c ∈ base, c.wf) (hw2 : ∀ c ∈ a, c.wf) (hw3 : ∀ c ∈ b, c.wf) (hn1 : base.length ≤ 9223372036854775807) (hn2 : a.length ≤ 9223372036854775807) (hn3 : b.length ≤ 9223372036854775807) : CallsV Tryd.prog G 10 [.sh 3 (base.map cardc), .sh 3 (a.map cardc), .sh 3 (b.map cardc)] (fun r outs => r = .tup [.own 3 ((mrgO base a b).map cardc), .v (.int .i64 (mrgC base a b))] ∧ outs = [.junk, .junk, .junk]) := by
  refine callsV_enter [] Tryd.func10 rfl rfl rfl ?_
  refine vp_seq ?_
  refine vp_region ?_
  refine vpOps_pure (x := .v (.slice none 0 0)) (pAs rfl rfl rfl) rfl rfl rfl rfl ?_
  refine vpOps_pure (x := .v (.int .i64 0)) (pAs rfl rfl rfl) rfl rfl rfl rfl ?_
  refine vpOps_nil ?_
  refine vp_seq ?_
  refine vp_seq ?_
  refine vp_region ?_
  refine vpOps_pure (x := .sh 3 (base.map cardc)) (pMv rfl rfl rfl) rfl rfl rfl rfl ?_
  refine vpOps_call (gs := [⟨.tmp 13, .sh 3 (base.map cardc), none, none⟩]) (c_isDeck base (by first | assumption | omega | exact ⟨by assumption, by assumption, by assumption⟩ | exact short3 (by assumption) (by assumption) (by assumption) | exact short3 hok.1 hok.2.1 hok.2.2 | (simp; done)) (by first | assumption | omega | exact ⟨by assumption, by assumption, by assumption⟩ | exact short3 (by assumption) (by assumption) (by assumption) | exact short3 hok.1 hok.2.1 hok.2.2 | (simp; done))) rfl rfl rfl rfl rfl trivial (by kernel_rfl) rfl rfl (gives_cons (gC rfl rfl) gives_nil) rfl (fun _ _ _ => .inl rfl) ?_
  rintro _ _ ⟨rfl, rfl⟩
  refine vpOps_pure (x := .v (.bool (!decide (deckOk base)))) (pure_not rfl rfl) rfl rfl rfl rfl ?_
  refine vpOps_pure (x := .v (.bool (!decide (deckOk base)))) (pMv rfl rfl rfl) rfl rfl rfl rfl ?_
  by_cases h1 : deckOk base
  · skip
    refine vRun rfl rfl rfl (not_of_t (decide_eq_true h1)) rfl rfl rfl ?_
    refine vpOps_pure (x := .sh 3 (a.map cardc)) (pMv rfl rfl rfl) rfl rfl rfl rfl ?_
    refine vRun rfl rfl rfl (not_of_t (decide_eq_true h1)) rfl rfl rfl ?_
    refine vpOps_call (gs := [⟨.tmp 17, .sh 3 (a.map cardc), none, none⟩]) (c_isDeck a (by first | assumption | omega | exact ⟨by assumption, by assumption, by assumption⟩ | exact short3 (by assumption) (by assumption) (by assumption) | exact short3 hok.1 hok.2.1 hok.2.2 | (simp; done)) (by first | assumption | omega | exact ⟨by assumption, by assumption, by assumption⟩ | exact short3 (by assumption) (by assumption) (by assumption) | exact short3 hok.1 hok.2.1 hok.2.2 | (simp; done))) rfl rfl rfl rfl rfl trivial (by kernel_rfl) rfl rfl (gives_cons (gC rfl rfl) gives_nil) rfl (fun _ _ _ => .inl rfl) ?_
    rintro _ _ ⟨rfl, rfl⟩
    refine vRun rfl rfl rfl (not_of_t (decide_eq_true h1)) rfl rfl rfl ?_
    refine vpOps_pure (x := .v (.bool (!decide (deckOk a)))) (pure_not rfl rfl) rfl rfl rfl rfl ?_
    refine vpOps_pure (x := .v (.bool (!decide (deckOk a)))) (pPf rfl rfl (not_of_t (decide_eq_true h1)) rfl rfl) rfl rfl rfl rfl ?_
    refine vpOps_pure (x := .v (.bool (!decide (deckOk a)))) (pMv rfl rfl rfl) rfl rfl rfl rfl ?_
    by_cases h2 : deckOk a
    · skip
      refine vRun rfl rfl rfl (not_of_t (decide_eq_true h2)) rfl rfl rfl ?_
      refine vpOps_pure (x := .sh 3 (b.map cardc)) (pMv rfl rfl rfl) rfl rfl rfl rfl ?_
      refine vRun rfl rfl rfl (not_of_t (decide_eq_true h2)) rfl rfl rfl ?_
      refine vpOps_call (gs := [⟨.tmp 22, .sh 3 (b.map cardc), none, none⟩]) (c_isDeck b (by first | assumption | omega | exact ⟨by assumption, by assumption, by assumption⟩ | exact short3 (by assumption) (by assumption) (by assumption) | exact short3 hok.1 hok.2.1 hok.2.2 | (simp; done)) (by first | assumption | omega | exact ⟨by assumption, by assumption, by assumption⟩ | exact short3 (by assumption) (by assumption) (by assumption) | exact short3 hok.1 hok.2.1 hok.2.2 | (simp; done))) rfl rfl rfl rfl rfl trivial (by kernel_rfl) rfl rfl (gives_cons (gC rfl rfl) gives_nil) rfl (fun _ _ _ => .inl rfl) ?_
      rintro _ _ ⟨rfl, rfl⟩
      refine vRun rfl rfl rfl (not_of_t (decide_eq_true h2)) rfl rfl rfl ?_
      refine vpOps_pure (x := .v (.bool (!decide (deckOk b)))) (pure_not rfl rfl) rfl rfl rfl rfl ?_
      refine vpOps_pure (x := .v (.bool (!decide (deckOk b)))) (pPf rfl rfl (not_of_t (decide_eq_true h2)) rfl rfl) rfl rfl rfl rfl ?_
      refine vpOps_nil ?_
      refine vIfN rfl (fun h3 => ?_) (fun h3 => ?_)
      · skip
        refine vp_seq ?_
        refine vp_region ?_
        refine vpOps_pure (x := .v (.slice none 0 0)) (pAs rfl rfl rfl) rfl rfl rfl rfl ?_
        refine vpOps_pure (x := .v (.int .i64 1)) (pAs rfl rfl rfl) rfl rfl rfl rfl ?_
        refine vpOps_nil ?_
        refine vp_ghost (ghost_nil (k := 6) (n := 3) rfl) ?_
        refine vp_ret ?_
        exact ⟨[.own 3 (([]).map cardc), .v (.int .i64 1)], [6, 7], (.cons (.tmp rfl rfl) (.cons (.tmp rfl rfl) .nil)), rfl, ⟨(show (.tup [.own 3 (([]).map cardc), .v (.int .i64 1)] : PV) = .tup [.own 3 ((mrgO base a b).map cardc), .v (.int .i64 (mrgC base a b))] from (by first | (rcases mrg_cases base a b with ⟨e0, e1, e2⟩ | ⟨e0, e3, e1, e2⟩ | ⟨e0, e3, e4, e1, e2⟩ | ⟨e0, e3, e4, e1, e2⟩ <;> rw [e1, e2] <;> first | rfl | (exfalso; first | omega | exact e0 ⟨by assumption, by assumption, by assumption⟩ | exact absurd e0.1 (by assumption) | exact absurd e0.2.1 (by assumption) | exact absurd e0.2.2 (by assumption))) | (have hml : mrgL base a b = out := (by unfold mrgL; rw [ho, show i = (namesA [base, a, b]).length by omega]); rcases mrg_cases base a b with ⟨e0, e1, e2⟩ | ⟨e0, e3, e1, e2⟩ | ⟨e0, e3, e4, e1, e2⟩ | ⟨e0, e3, e4, e1, e2⟩ <;> rw [e1, e2] <;> first | (exfalso; first | omega | exact e0 hok | (rw [hml] at e4; omega)) | (rw [hml]; done) | rfl))), rfl⟩⟩
      · skip
        refine vp_skip ?_
        refine vp_seq ?_
        refine vp_seq ?_
        refine vp_region ?_
        refine vpOps_pure (x := .sh 3 (base.map cardc)) (pMv rfl rfl rfl) rfl rfl rfl rfl ?_
        refine vpOps_pure (x := .sh 3 (a.map cardc)) (pMv rfl rfl rfl) rfl rfl rfl rfl ?_
        refine vpOps_pure (x := .sh 3 (b.map cardc)) (pMv rfl rfl rfl) rfl rfl rfl rfl ?_
        refine vpOps_call (gs := [⟨.tmp 26, .sh 3 (base.map cardc), none, none⟩, ⟨.tmp 27, .sh 3 (a.map cardc), none, none⟩, ⟨.tmp 28, .sh 3 (b.map cardc), none, none⟩]) (c_conflicts base a b (by first | assumption | omega | exact ⟨by assumption, by assumption, by assumption⟩ | exact short3 (by assumption) (by assumption) (by assumption) | exact short3 hok.1 hok.2.1 hok.2.2 | (simp; done))) rfl rfl rfl rfl rfl trivial (by kernel_rfl) rfl rfl (gives_cons (gC rfl rfl) (gives_cons (gC rfl rfl) (gives_cons (gC rfl rfl) gives_nil))) rfl (fun _ _ _ => .inl rfl) ?_
        rintro _ _ ⟨rfl, rfl⟩
        refine vpOps_pure (x := .v (.int .i64 (((((confL base a b).length) : Nat) : Int)))) (pLenR rfl rfl rfl rfl rfl (List.length_map _)) rfl rfl rfl rfl ?_
        refine vpOps_pure (x := .v (.bool (decide (0 < (((((confL base a b).length) : Nat) : Int)))))) (pure_bin rfl rfl rfl rfl) rfl rfl rfl rfl ?_
        refine vpOps_nil ?_
        refine vIf rfl (fun h4 => ?_) (fun h4 => ?_)
        · skip
          refine vp_seq ?_
          refine vp_region ?_
          refine vpOps_pure (x := .v (.slice none 0 0)) (pAs rfl rfl rfl) rfl rfl rfl rfl ?_
          refine vpOps_pure (x := .v (.int .i64 8)) (pAs rfl rfl rfl) rfl rfl rfl rfl ?_
          refine vpOps_nil ?_
          refine vp_ghost (ghost_nil (k := 6) (n := 3) rfl) ?_
          refine vp_ret ?_
          exact ⟨[.own 3 (([]).map cardc), .v (.int .i64 8)], [6, 7], (.cons (.tmp rfl rfl) (.cons (.tmp rfl rfl) .nil)), rfl, ⟨(show (.tup [.own 3 (([]).map cardc), .v (.int .i64 8)] : PV) = .tup [.own 3 ((mrgO base a b).map cardc), .v (.int .i64 (mrgC base a b))] from (by first | (rcases mrg_cases base a b with ⟨e0, e1, e2⟩ | ⟨e0, e3, e1, e2⟩ | ⟨e0, e3, e4, e1, e2⟩ | ⟨e0, e3, e4, e1, e2⟩ <;> rw [e1, e2] <;> first | rfl | (exfalso; first | omega | exact e0 ⟨by assumption, by assumption, by assumption⟩ | exact absurd e0.1 (by assumption) | exact absurd e0.2.1 (by assumption) | exact absurd e0.2.2 (by assumption))) | (have hml : mrgL base a b = out := (by unfold mrgL; rw [ho, show i = (namesA [base, a, b]).length by omega]); rcases mrg_cases base a b with ⟨e0, e1, e2⟩ | ⟨e0, e3, e1, e2⟩ | ⟨e0, e3, e4, e1, e2⟩ | ⟨e0, e3, e4, e1, e2⟩ <;> rw [e1, e2] <;> first | (exfalso; first | omega | exact e0 hok | (rw [hml] at e4; omega)) | (rw [hml]; done) | rfl))), rfl⟩⟩
        · skip
          refine vp_skip ?_
          refine vp_seq ?_
          refine vp_region ?_
          refine vpOps_pure (x := .own 3 []) (pBs (cs := []) rfl rfl rfl rfl rfl rfl rfl) rfl rfl rfl rfl ?_
          refine vpOps_assign (x := .own 3 []) rfl rfl rfl rfl rfl rfl rfl ?_
          refine vpOps_nil ?_
          refine vp_seq ?_
          refine vp_seq ?_
          refine vp_region ?_
          refine vpOps_pure (x := .sh 3 (base.map cardc)) (pMv rfl rfl rfl) rfl rfl rfl rfl ?_
          refine vpOps_pure (x := .sh 3 (a.map cardc)) (pMv rfl rfl rfl) rfl rfl rfl rfl ?_
          refine vpOps_pure (x := .sh 3 (b.map cardc)) (pMv rfl rfl rfl) rfl rfl rfl rfl ?_
          refine vpOps_pure (x := .own 1 [[.sh 3 (base.map cardc)], [.sh 3 (a.map cardc)], [.sh 3 (b.map cardc)]]) (pBs (cs := [.sh 3 (base.map cardc), .sh 3 (a.map cardc), .sh 3 (b.map cardc)]) rfl rfl rfl rfl rfl rfl rfl) rfl rfl rfl rfl ?_
          refine vpOps_call (gs := [⟨.tmp 36, .sh 1 [[.sh 3 (base.map cardc)], [.sh 3 (a.map cardc)], [.sh 3 (b.map cardc)]], none, some 36⟩]) (c_namesOf ([base, a, b]) (by first | assumption | omega | exact ⟨by assumption, by assumption, by assumption⟩ | exact short3 (by assumption) (by assumption) (by assumption) | exact short3 hok.1 hok.2.1 hok.2.2 | (simp; done)) (by first | assumption | omega | exact ⟨by assumption, by assumption, by assumption⟩ | exact short3 (by assumption) (by assumption) (by assumption) | exact short3 hok.1 hok.2.1 hok.2.2 | (simp; done))) rfl rfl rfl rfl rfl trivial (by kernel_rfl) rfl rfl (gives_cons (give_view (c := .own 1 [[.sh 3 (base.map cardc)], [.sh 3 (a.map cardc)], [.sh 3 (b.map cardc)]]) rfl rfl rfl rfl rfl) gives_nil) rfl (fun _ _ h => .inr (by obtain ⟨h1, h2⟩ := h; subst h1; subst h2; exact ⟨by simp [PV.closed, PV.closedL, closedE_map], by simp [PV.closedL, PV.closed]⟩)) ?_
          rintro _ _ ⟨rfl, rfl⟩
          refine vpOps_pure (x := .v (.int .i64 (((((namesA ([base, a, b])).length) : Nat) : Int)))) (pLenR rfl rfl rfl rfl rfl (List.length_map _)) rfl rfl rfl rfl ?_
          refine vpOps_pure (x := .v (.int .i64 0)) (pMv rfl rfl rfl) rfl rfl rfl rfl ?_
          refine vpOps_nil ?_
          refine vp_block ?_
          refine vLoop (α := Nat × List Card) (fun (i, out) => (namesA [base, a, b]).length - i) (fun (i, out) => (i ≤ (namesA [base, a, b]).length) ∧ (ok3 base a b) ∧ (¬ 0 < (confL base a b).length) ∧ (out = mrgTo base a b (namesA [base, a, b]) i) ∧ (out.length ≤ i) ∧ True) (fun (i, out) => [(0, .sh 3 (base.map cardc)), (1, .sh 3 (a.map cardc)), (2, .sh 3 (b.map cardc)), (6, .v (.slice none 0 0)), (7, .v (.int .i64 0)), (8, .own 3 (out.map cardc)), (37, .own 1 ((namesA ([base, a, b])).map strc)), (38, .v (.int .i64 (((((namesA ([base, a, b])).length) : Nat) : Int)))), (39, .v (.int .i64 ((i : Nat) : Int)))]) (fun ⟨_, _⟩ => rfl) (fun ⟨_, _⟩ => rfl) (0, []) ⟨(by omega), (by first | assumption | exact ⟨by assumption, by assumption, by assumption⟩), (by omega), (by rfl), (by exact Nat.zero_le _), trivial⟩ ⟨rfl, rfl, rfl, rfl, rfl, rfl, rfl, rfl, rfl, trivial⟩ ?_
          rintro ⟨i, out⟩ ⟨hi, hok, hq, ho, hol, -⟩
          have hn3l := names3_len hok.1 hok.2.1 hok.2.2
          have hpa := placeC_num a ((namesA [base, a, b]).getD i default)
          have hpb := placeC_num b ((namesA [base, a, b]).getD i default)
          refine vp_seq ?_
          refine vp_region ?_
          refine vpOps_pure (x := .v (.bool (decide (((i : Nat) : Int) < (((((namesA ([base, a, b])).length) : Nat) : Int)))))) (pure_bin rfl rfl rfl rfl) rfl rfl rfl rfl ?_
          refine vpOps_nil ?_
          refine vp_seq ?_
          refine vIf rfl (fun h5 => ?_) (fun h5 => ?_)
          · skip
            refine vp_skip ?_
            refine vp_seq ?_
            refine vp_block ?_
            refine vp_seq ?_
            refine vp_region ?_
            refine vpOps_pure (x := .pl 37 [⟨i, 0, 1⟩]) (pIxR (m := i) rfl rfl rfl rfl rfl rfl (by first | rfl | omega) (by rw [List.length_map]; omega) rfl) rfl rfl rfl rfl ?_
            refine vpOps_pure (x := .v (.string ((namesA ([base, a, b])).getD i default))) (pure_load_pl rfl rfl rfl rfl rfl (row_map (by omega)) rfl trivial rfl) rfl rfl rfl rfl ?_
            refine vpOps_pure (x := .v (.string ((namesA ([base, a, b])).getD i default))) (pAs rfl rfl rfl) rfl rfl rfl rfl ?_
            refine vpOps_nil ?_
            refine vp_seq ?_
            refine vp_region ?_
            refine vpOps_pure (x := .sh 3 (b.map cardc)) (pMv rfl rfl rfl) rfl rfl rfl rfl ?_
            refine vpOps_pure (x := .sh 3 (b.map cardc)) (pAs rfl rfl rfl) rfl rfl rfl rfl ?_
            refine vpOps_nil ?_
            refine vp_seq ?_
            refine vp_seq ?_
            refine vp_region ?_
            refine vpOps_pure (x := .sh 3 (b.map cardc)) (pMv rfl rfl rfl) rfl rfl rfl rfl ?_
            refine vpOps_pure (x := .v (.string ((namesA ([base, a, b])).getD i default))) (pMv rfl rfl rfl) rfl rfl rfl rfl ?_
            refine vpOps_call (gs := [⟨.tmp 44, .sh 3 (b.map cardc), none, none⟩, ⟨.tmp 45, .v (.string ((namesA ([base, a, b])).getD i default)), none, none⟩]) (c_stateOf b ((namesA ([base, a, b])).getD i default) (by first | assumption | omega | exact ⟨by assumption, by assumption, by assumption⟩ | exact short3 (by assumption) (by assumption) (by assumption) | exact short3 hok.1 hok.2.1 hok.2.2 | (simp; done))) rfl rfl rfl rfl rfl trivial (by kernel_rfl) rfl rfl (gives_cons (gC rfl rfl) (gives_cons (gC rfl rfl) gives_nil)) rfl (fun _ _ _ => .inl rfl) ?_
            rintro _ _ ⟨rfl, rfl⟩
            refine vpOps_pure (x := .sh 3 (base.map cardc)) (pMv rfl rfl rfl) rfl rfl rfl rfl ?_
            refine vpOps_pure (x := .v (.string ((namesA ([base, a, b])).getD i default))) (pMv rfl rfl rfl) rfl rfl rfl rfl ?_
            refine vpOps_call (gs := [⟨.tmp 47, .sh 3 (base.map cardc), none, none⟩, ⟨.tmp 48, .v (.string ((namesA ([base, a, b])).getD i default)), none, none⟩]) (c_stateOf base ((namesA ([base, a, b])).getD i default) (by first | assumption | omega | exact ⟨by assumption, by assumption, by assumption⟩ | exact short3 (by assumption) (by assumption) (by assumption) | exact short3 hok.1 hok.2.1 hok.2.2 | (simp; done))) rfl rfl rfl rfl rfl trivial (by kernel_rfl) rfl rfl (gives_cons (gC rfl rfl) (gives_cons (gC rfl rfl) gives_nil)) rfl (fun _ _ _ => .inl rfl) ?_
            rintro _ _ ⟨rfl, rfl⟩
            refine vpOps_pure (x := .v (.bool (decide (stC b ((namesA ([base, a, b])).getD i default) = stC base ((namesA ([base, a, b])).getD i default))))) (pEqAgg [(.bool ((stC b ((namesA ([base, a, b])).getD i default)).there)), (.int .u64 (((((stC b ((namesA ([base, a, b])).getD i default)).notches).a : Nat) : Int))), (.int .u64 (((((stC b ((namesA ([base, a, b])).getD i default)).notches).b : Nat) : Int)))] [(.bool ((stC base ((namesA ([base, a, b])).getD i default)).there)), (.int .u64 (((((stC base ((namesA ([base, a, b])).getD i default)).notches).a : Nat) : Int))), (.int .u64 (((((stC base ((namesA ([base, a, b])).getD i default)).notches).b : Nat) : Int)))] (φ := stC b ((namesA ([base, a, b])).getD i default) = stC base ((namesA ([base, a, b])).getD i default)) rfl rfl rfl rfl rfl rfl rfl (st_inj)) rfl rfl rfl rfl ?_
            refine vpOps_nil ?_
            refine vIf rfl (fun h6 => ?_) (fun h6 => ?_)
            · skip
              refine vp_region ?_
              refine vpOps_pure (x := .sh 3 (a.map cardc)) (pMv rfl rfl rfl) rfl rfl rfl rfl ?_
              refine vpOps_pure (x := .sh 3 (a.map cardc)) (pAs rfl rfl rfl) rfl rfl rfl rfl ?_
              refine vpOps_nil ?_
              refine vp_seq ?_
              refine vp_region ?_
              refine vpOps_pure (x := .sh 3 (a.map cardc)) (pMv rfl rfl rfl) rfl rfl rfl rfl ?_
              refine vpOps_pure (x := .v (.string ((namesA ([base, a, b])).getD i default))) (pMv rfl rfl rfl) rfl rfl rfl rfl ?_
              refine vpOps_call (gs := [⟨.tmp 52, .sh 3 (a.map cardc), none, none⟩, ⟨.tmp 53, .v (.string ((namesA ([base, a, b])).getD i default)), none, none⟩]) (c_placeOf a ((namesA ([base, a, b])).getD i default) (by first | assumption | omega | exact ⟨by assumption, by assumption, by assumption⟩ | exact short3 (by assumption) (by assumption) (by assumption) | exact short3 hok.1 hok.2.1 hok.2.2 | (simp; done))) rfl rfl rfl rfl rfl trivial (by kernel_rfl) rfl rfl (gives_cons (gC rfl rfl) (gives_cons (gC rfl rfl) gives_nil)) rfl (fun _ _ _ => .inl rfl) ?_
              rintro _ _ ⟨rfl, rfl⟩
              refine vpOps_pure (x := .v (.int .i64 (placeC a ((namesA ([base, a, b])).getD i default)))) (pAs rfl rfl rfl) rfl rfl rfl rfl ?_
              refine vpOps_nil ?_
              refine vp_seq ?_
              refine vp_region ?_
              refine vpOps_pure (x := .v (.int .i64 (placeC a ((namesA ([base, a, b])).getD i default)))) (pMv rfl rfl rfl) rfl rfl rfl rfl ?_
              refine vpOps_pure (x := .v (.bool (decide (0 ≤ (placeC a ((namesA ([base, a, b])).getD i default)))))) (pure_bin rfl rfl rfl rfl) rfl rfl rfl rfl ?_
              refine vpOps_nil ?_
              refine vIf rfl (fun h7 => ?_) (fun h7 => ?_)
              · skip
                refine vp_region ?_
                refine vpOps_pure (x := .lv 8 []) (pure_move_lv rfl) rfl rfl rfl rfl ?_
                refine vpOps_pure (x := .sh 3 (a.map cardc)) (pMv rfl rfl rfl) rfl rfl rfl rfl ?_
                refine vpOps_pure (x := .v (.int .i64 (placeC a ((namesA ([base, a, b])).getD i default)))) (pMv rfl rfl rfl) rfl rfl rfl rfl ?_
                refine vpOps_pure (x := .rbox [.v (.string ((a.getD ((placeC a ((namesA ([base, a, b])).getD i default)).toNat) default).name)), .v (.int .u64 (((((a.getD ((placeC a ((namesA ([base, a, b])).getD i default)).toNat) default).notches).a : Nat) : Int))), .v (.int .u64 (((((a.getD ((placeC a ((namesA ([base, a, b])).getD i default)).toNat) default).notches).b : Nat) : Int)))]) (pIx (m := (placeC a ((namesA ([base, a, b])).getD i default)).toNat) rfl rfl rfl (by first | rfl | omega) (by omega) rfl) rfl rfl rfl rfl ?_
                refine vpOps_pure (x := .agg [.v (.string ((a.getD ((placeC a ((namesA ([base, a, b])).getD i default)).toNat) default).name)), .v (.int .u64 (((((a.getD ((placeC a ((namesA ([base, a, b])).getD i default)).toNat) default).notches).a : Nat) : Int))), .v (.int .u64 (((((a.getD ((placeC a ((namesA ([base, a, b])).getD i default)).toNat) default).notches).b : Nat) : Int)))]) (pure_load_rbox_agg rfl rfl rfl rfl rfl) rfl rfl rfl rfl ?_
                refine vpOps_pure (x := .own 3 [[.v (.string ((a.getD ((placeC a ((namesA ([base, a, b])).getD i default)).toNat) default).name)), .v (.int .u64 (((((a.getD ((placeC a ((namesA ([base, a, b])).getD i default)).toNat) default).notches).a : Nat) : Int))), .v (.int .u64 (((((a.getD ((placeC a ((namesA ([base, a, b])).getD i default)).toNat) default).notches).b : Nat) : Int)))]]) (pBs (cs := [.v (.string ((a.getD ((placeC a ((namesA ([base, a, b])).getD i default)).toNat) default).name)), .v (.int .u64 (((((a.getD ((placeC a ((namesA ([base, a, b])).getD i default)).toNat) default).notches).a : Nat) : Int))), .v (.int .u64 (((((a.getD ((placeC a ((namesA ([base, a, b])).getD i default)).toNat) default).notches).b : Nat) : Int)))]) rfl rfl rfl rfl rfl rfl rfl) rfl rfl rfl rfl ?_
                refine vpOps_ghost (ghost_own (t := 57) rfl rfl rfl rfl) ?_
                refine vApp (f := cardc) (xs := out) (ys := [a.getD ((placeC a ((namesA ([base, a, b])).getD i default)).toNat) default]) (l := 1) rfl rfl rfl rfl rfl (srcOwn rfl rfl (fun _ => mvOkL_flat _ rfl)) rfl rfl (fun _ => rfl) (.inl ⟨_, rfl⟩) rfl rfl rfl (rfl) (by omega) (by omega) ?_
                refine vpOps_assign (x := .own 3 ((out ++ [a.getD ((placeC a ((namesA ([base, a, b])).getD i default)).toNat) default]).map cardc)) rfl rfl rfl rfl rfl rfl rfl ?_
                refine vpOps_nil ?_
                refine vp_region ?_
                refine vpOps_pure (x := .v (.int .i64 (((i : Nat) : Int) + 1))) (pure_add rfl rfl rfl (in64 (by omega) (by omega))) rfl rfl rfl rfl ?_
                refine vpOps_pure (x := .v (.int .i64 (((i : Nat) : Int) + 1))) (pMv rfl rfl rfl) rfl rfl rfl rfl ?_
                refine vpOps_nil ?_
                exact ⟨(i + 1, out ++ [a.getD ((placeC a ((namesA ([base, a, b])).getD i default)).toNat) default]), (by first | omega | (dsimp only; omega)), ⟨(by omega), (by first | assumption | exact ⟨by assumption, by assumption, by assumption⟩), (by omega), (by first | (rw [mrg_step (stM_pos (by assumption)), ← ho]; first | (rw [if_pos (stC_card (by omega)).1, (stC_card (by omega)).2]; done) | (rw [if_neg (by rw [stC_gone (by assumption)]; decide)]; done)) | (rw [mrg_step (stM_neg (by assumption)), ← ho]; first | (rw [if_pos (stC_card (by omega)).1, (stC_card (by omega)).2]; done) | (rw [if_neg (by rw [stC_gone (by assumption)]; decide)]; done))), (by first | omega | (simp only [List.length_append, List.length_cons, List.length_nil]; omega)), trivial⟩, ⟨rfl, rfl, rfl, rfl, rfl, rfl, rfl, rfl, rfl, trivial⟩⟩
              · skip
                refine vp_skip ?_
                refine vp_region ?_
                refine vpOps_pure (x := .v (.int .i64 (((i : Nat) : Int) + 1))) (pure_add rfl rfl rfl (in64 (by omega) (by omega))) rfl rfl rfl rfl ?_
                refine vpOps_pure (x := .v (.int .i64 (((i : Nat) : Int) + 1))) (pMv rfl rfl rfl) rfl rfl rfl rfl ?_
                refine vpOps_nil ?_
                exact ⟨(i + 1, out), (by first | omega | (dsimp only; omega)), ⟨(by omega), (by first | assumption | exact ⟨by assumption, by assumption, by assumption⟩), (by omega), (by first | (rw [mrg_step (stM_pos (by assumption)), ← ho]; first | (rw [if_pos (stC_card (by omega)).1, (stC_card (by omega)).2]; done) | (rw [if_neg (by rw [stC_gone (by assumption)]; decide)]; done)) | (rw [mrg_step (stM_neg (by assumption)), ← ho]; first | (rw [if_pos (stC_card (by omega)).1, (stC_card (by omega)).2]; done) | (rw [if_neg (by rw [stC_gone (by assumption)]; decide)]; done))), (by first | omega | (simp only [List.length_append, List.length_cons, List.length_nil]; omega)), trivial⟩, ⟨rfl, rfl, rfl, rfl, rfl, rfl, rfl, rfl, rfl, trivial⟩⟩
            · skip
              refine vp_skip ?_
              refine vp_seq ?_
              refine vp_region ?_
              refine vpOps_pure (x := .sh 3 (b.map cardc)) (pMv rfl rfl rfl) rfl rfl rfl rfl ?_
              refine vpOps_pure (x := .v (.string ((namesA ([base, a, b])).getD i default))) (pMv rfl rfl rfl) rfl rfl rfl rfl ?_
              refine vpOps_call (gs := [⟨.tmp 52, .sh 3 (b.map cardc), none, none⟩, ⟨.tmp 53, .v (.string ((namesA ([base, a, b])).getD i default)), none, none⟩]) (c_placeOf b ((namesA ([base, a, b])).getD i default) (by first | assumption | omega | exact ⟨by assumption, by assumption, by assumption⟩ | exact short3 (by assumption) (by assumption) (by assumption) | exact short3 hok.1 hok.2.1 hok.2.2 | (simp; done))) rfl rfl rfl rfl rfl trivial (by kernel_rfl) rfl rfl (gives_cons (gC rfl rfl) (gives_cons (gC rfl rfl) gives_nil)) rfl (fun _ _ _ => .inl rfl) ?_
              rintro _ _ ⟨rfl, rfl⟩
              refine vpOps_pure (x := .v (.int .i64 (placeC b ((namesA ([base, a, b])).getD i default)))) (pAs rfl rfl rfl) rfl rfl rfl rfl ?_
              refine vpOps_nil ?_
              refine vp_seq ?_
              refine vp_region ?_
              refine vpOps_pure (x := .v (.int .i64 (placeC b ((namesA ([base, a, b])).getD i default)))) (pMv rfl rfl rfl) rfl rfl rfl rfl ?_
              refine vpOps_pure (x := .v (.bool (decide (0 ≤ (placeC b ((namesA ([base, a, b])).getD i default)))))) (pure_bin rfl rfl rfl rfl) rfl rfl rfl rfl ?_
              refine vpOps_nil ?_
              refine vIf rfl (fun h8 => ?_) (fun h8 => ?_)
              · skip
                refine vp_region ?_
                refine vpOps_pure (x := .lv 8 []) (pure_move_lv rfl) rfl rfl rfl rfl ?_
                refine vpOps_pure (x := .sh 3 (b.map cardc)) (pMv rfl rfl rfl) rfl rfl rfl rfl ?_
                refine vpOps_pure (x := .v (.int .i64 (placeC b ((namesA ([base, a, b])).getD i default)))) (pMv rfl rfl rfl) rfl rfl rfl rfl ?_
                refine vpOps_pure (x := .rbox [.v (.string ((b.getD ((placeC b ((namesA ([base, a, b])).getD i default)).toNat) default).name)), .v (.int .u64 (((((b.getD ((placeC b ((namesA ([base, a, b])).getD i default)).toNat) default).notches).a : Nat) : Int))), .v (.int .u64 (((((b.getD ((placeC b ((namesA ([base, a, b])).getD i default)).toNat) default).notches).b : Nat) : Int)))]) (pIx (m := (placeC b ((namesA ([base, a, b])).getD i default)).toNat) rfl rfl rfl (by first | rfl | omega) (by omega) rfl) rfl rfl rfl rfl ?_
                refine vpOps_pure (x := .agg [.v (.string ((b.getD ((placeC b ((namesA ([base, a, b])).getD i default)).toNat) default).name)), .v (.int .u64 (((((b.getD ((placeC b ((namesA ([base, a, b])).getD i default)).toNat) default).notches).a : Nat) : Int))), .v (.int .u64 (((((b.getD ((placeC b ((namesA ([base, a, b])).getD i default)).toNat) default).notches).b : Nat) : Int)))]) (pure_load_rbox_agg rfl rfl rfl rfl rfl) rfl rfl rfl rfl ?_
                refine vpOps_pure (x := .own 3 [[.v (.string ((b.getD ((placeC b ((namesA ([base, a, b])).getD i default)).toNat) default).name)), .v (.int .u64 (((((b.getD ((placeC b ((namesA ([base, a, b])).getD i default)).toNat) default).notches).a : Nat) : Int))), .v (.int .u64 (((((b.getD ((placeC b ((namesA ([base, a, b])).getD i default)).toNat) default).notches).b : Nat) : Int)))]]) (pBs (cs := [.v (.string ((b.getD ((placeC b ((namesA ([base, a, b])).getD i default)).toNat) default).name)), .v (.int .u64 (((((b.getD ((placeC b ((namesA ([base, a, b])).getD i default)).toNat) default).notches).a : Nat) : Int))), .v (.int .u64 (((((b.getD ((placeC b ((namesA ([base, a, b])).getD i default)).toNat) default).notches).b : Nat) : Int)))]) rfl rfl rfl rfl rfl rfl rfl) rfl rfl rfl rfl ?_
                refine vpOps_ghost (ghost_own (t := 57) rfl rfl rfl rfl) ?_
                refine vApp (f := cardc) (xs := out) (ys := [b.getD ((placeC b ((namesA ([base, a, b])).getD i default)).toNat) default]) (l := 1) rfl rfl rfl rfl rfl (srcOwn rfl rfl (fun _ => mvOkL_flat _ rfl)) rfl rfl (fun _ => rfl) (.inl ⟨_, rfl⟩) rfl rfl rfl (rfl) (by omega) (by omega) ?_
                refine vpOps_assign (x := .own 3 ((out ++ [b.getD ((placeC b ((namesA ([base, a, b])).getD i default)).toNat) default]).map cardc)) rfl rfl rfl rfl rfl rfl rfl ?_
                refine vpOps_nil ?_
                refine vp_region ?_
                refine vpOps_pure (x := .v (.int .i64 (((i : Nat) : Int) + 1))) (pure_add rfl rfl rfl (in64 (by omega) (by omega))) rfl rfl rfl rfl ?_
                refine vpOps_pure (x := .v (.int .i64 (((i : Nat) : Int) + 1))) (pMv rfl rfl rfl) rfl rfl rfl rfl ?_
                refine vpOps_nil ?_
                exact ⟨(i + 1, out ++ [b.getD ((placeC b ((namesA ([base, a, b])).getD i default)).toNat) default]), (by first | omega | (dsimp only; omega)), ⟨(by omega), (by first | assumption | exact ⟨by assumption, by assumption, by assumption⟩), (by omega), (by first | (rw [mrg_step (stM_pos (by assumption)), ← ho]; first | (rw [if_pos (stC_card (by omega)).1, (stC_card (by omega)).2]; done) | (rw [if_neg (by rw [stC_gone (by assumption)]; decide)]; done)) | (rw [mrg_step (stM_neg (by assumption)), ← ho]; first | (rw [if_pos (stC_card (by omega)).1, (stC_card (by omega)).2]; done) | (rw [if_neg (by rw [stC_gone (by assumption)]; decide)]; done))), (by first | omega | (simp only [List.length_append, List.length_cons, List.length_nil]; omega)), trivial⟩, ⟨rfl, rfl, rfl, rfl, rfl, rfl, rfl, rfl, rfl, trivial⟩⟩
              · skip
                refine vp_skip ?_
                refine vp_region ?_
                refine vpOps_pure (x := .v (.int .i64 (((i : Nat) : Int) + 1))) (pure_add rfl rfl rfl (in64 (by omega) (by omega))) rfl rfl rfl rfl ?_
                refine vpOps_pure (x := .v (.int .i64 (((i : Nat) : Int) + 1))) (pMv rfl rfl rfl) rfl rfl rfl rfl ?_
                refine vpOps_nil ?_
                exact ⟨(i + 1, out), (by first | omega | (dsimp only; omega)), ⟨(by omega), (by first | assumption | exact ⟨by assumption, by assumption, by assumption⟩), (by omega), (by first | (rw [mrg_step (stM_pos (by assumption)), ← ho]; first | (rw [if_pos (stC_card (by omega)).1, (stC_card (by omega)).2]; done) | (rw [if_neg (by rw [stC_gone (by assumption)]; decide)]; done)) | (rw [mrg_step (stM_neg (by assumption)), ← ho]; first | (rw [if_pos (stC_card (by omega)).1, (stC_card (by omega)).2]; done) | (rw [if_neg (by rw [stC_gone (by assumption)]; decide)]; done))), (by first | omega | (simp only [List.length_append, List.length_cons, List.length_nil]; omega)), trivial⟩, ⟨rfl, rfl, rfl, rfl, rfl, rfl, rfl, rfl, rfl, trivial⟩⟩
          · skip
            refine vp_exit ?_
            refine vp_seq ?_
            refine vp_seq ?_
            refine vp_region ?_
            refine vpOps_pure (x := .lv 8 []) (pure_move_lv rfl) rfl rfl rfl rfl ?_
            refine vpOps_pure (x := .v (.int .i64 ((out.length : Nat) : Int))) (pLenR rfl rfl rfl rfl rfl (List.length_map _)) rfl rfl rfl rfl ?_
            refine vpOps_pure (x := .v (.bool (decide (80 < ((out.length : Nat) : Int))))) (pure_bin rfl rfl rfl rfl) rfl rfl rfl rfl ?_
            refine vpOps_nil ?_
            refine vIf rfl (fun h9 => ?_) (fun h9 => ?_)
            · skip
              refine vp_seq ?_
              refine vp_region ?_
              refine vpOps_pure (x := .v (.slice none 0 0)) (pAs rfl rfl rfl) rfl rfl rfl rfl ?_
              refine vpOps_pure (x := .v (.int .i64 3)) (pAs rfl rfl rfl) rfl rfl rfl rfl ?_
              refine vpOps_nil ?_
              refine vp_ghost (ghost_nil (k := 6) (n := 3) rfl) ?_
              refine vp_ret ?_
              exact ⟨[.own 3 (([]).map cardc), .v (.int .i64 3)], [6, 7], (.cons (.tmp rfl rfl) (.cons (.tmp rfl rfl) .nil)), rfl, ⟨(show (.tup [.own 3 (([]).map cardc), .v (.int .i64 3)] : PV) = .tup [.own 3 ((mrgO base a b).map cardc), .v (.int .i64 (mrgC base a b))] from (by first | (rcases mrg_cases base a b with ⟨e0, e1, e2⟩ | ⟨e0, e3, e1, e2⟩ | ⟨e0, e3, e4, e1, e2⟩ | ⟨e0, e3, e4, e1, e2⟩ <;> rw [e1, e2] <;> first | rfl | (exfalso; first | omega | exact e0 ⟨by assumption, by assumption, by assumption⟩ | exact absurd e0.1 (by assumption) | exact absurd e0.2.1 (by assumption) | exact absurd e0.2.2 (by assumption))) | (have hml : mrgL base a b = out := (by unfold mrgL; rw [ho, show i = (namesA [base, a, b]).length by omega]); rcases mrg_cases base a b with ⟨e0, e1, e2⟩ | ⟨e0, e3, e1, e2⟩ | ⟨e0, e3, e4, e1, e2⟩ | ⟨e0, e3, e4, e1, e2⟩ <;> rw [e1, e2] <;> first | (exfalso; first | omega | exact e0 hok | (rw [hml] at e4; omega)) | (rw [hml]; done) | rfl))), rfl⟩⟩
            · skip
              refine vp_skip ?_
              refine vp_seq ?_
              refine vp_region ?_
              refine vpOps_pure (x := .lv 8 []) (pure_move_lv rfl) rfl rfl rfl rfl ?_
              refine vpOps_ghost (ghost_own (t := 68) rfl rfl rfl rfl) ?_
              refine vpOps_assign (x := .own 3 (out.map cardc)) rfl rfl rfl rfl rfl rfl rfl ?_
              refine vpOps_pure (x := .v (.int .i64 0)) (pAs rfl rfl rfl) rfl rfl rfl rfl ?_
              refine vpOps_nil ?_
              refine vp_ret ?_
              exact ⟨[.own 3 (out.map cardc), .v (.int .i64 0)], [6, 7], (.cons (.tmp rfl rfl) (.cons (.tmp rfl rfl) .nil)), rfl, ⟨(show (.tup [.own 3 (out.map cardc), .v (.int .i64 0)] : PV) = .tup [.own 3 ((mrgO base a b).map cardc), .v (.int .i64 (mrgC base a b))] from (by first | (rcases mrg_cases base a b with ⟨e0, e1, e2⟩ | ⟨e0, e3, e1, e2⟩ | ⟨e0, e3, e4, e1, e2⟩ | ⟨e0, e3, e4, e1, e2⟩ <;> rw [e1, e2] <;> first | rfl | (exfalso; first | omega | exact e0 ⟨by assumption, by assumption, by assumption⟩ | exact absurd e0.1 (by assumption) | exact absurd e0.2.1 (by assumption) | exact absurd e0.2.2 (by assumption))) | (have hml : mrgL base a b = out := (by unfold mrgL; rw [ho, show i = (namesA [base, a, b]).length by omega]); rcases mrg_cases base a b with ⟨e0, e1, e2⟩ | ⟨e0, e3, e1, e2⟩ | ⟨e0, e3, e4, e1, e2⟩ | ⟨e0, e3, e4, e1, e2⟩ <;> rw [e1, e2] <;> first | (exfalso; first | omega | exact e0 hok | (rw [hml] at e4; omega)) | (rw [hml]; done) | rfl))), rfl⟩⟩
    · skip
      refine vPass rfl rfl rfl (not_of_f (decide_eq_false h2)) rfl rfl rfl ?_
      refine vPass rfl rfl rfl (not_of_f (decide_eq_false h2)) rfl rfl rfl ?_
      refine vPass rfl rfl rfl (not_of_f (decide_eq_false h2)) rfl rfl rfl ?_
      refine vpOps_pure (x := .v (.bool (true))) (pPt rfl rfl (not_of_f (decide_eq_false h2)) rfl rfl) rfl rfl rfl rfl ?_
      refine vpOps_nil ?_
      refine vIfT rfl rfl ?_
      refine vp_seq ?_
      refine vp_region ?_
      refine vpOps_pure (x := .v (.slice none 0 0)) (pAs rfl rfl rfl) rfl rfl rfl rfl ?_
      refine vpOps_pure (x := .v (.int .i64 1)) (pAs rfl rfl rfl) rfl rfl rfl rfl ?_
      refine vpOps_nil ?_
      refine vp_ghost (ghost_nil (k := 6) (n := 3) rfl) ?_
      refine vp_ret ?_
      exact ⟨[.own 3 (([]).map cardc), .v (.int .i64 1)], [6, 7], (.cons (.tmp rfl rfl) (.cons (.tmp rfl rfl) .nil)), rfl, ⟨(show (.tup [.own 3 (([]).map cardc), .v (.int .i64 1)] : PV) = .tup [.own 3 ((mrgO base a b).map cardc), .v (.int .i64 (mrgC base a b))] from (by first | (rcases mrg_cases base a b with ⟨e0, e1, e2⟩ | ⟨e0, e3, e1, e2⟩ | ⟨e0, e3, e4, e1, e2⟩ | ⟨e0, e3, e4, e1, e2⟩ <;> rw [e1, e2] <;> first | rfl | (exfalso; first | omega | exact e0 ⟨by assumption, by assumption, by assumption⟩ | exact absurd e0.1 (by assumption) | exact absurd e0.2.1 (by assumption) | exact absurd e0.2.2 (by assumption))) | (have hml : mrgL base a b = out := (by unfold mrgL; rw [ho, show i = (namesA [base, a, b]).length by omega]); rcases mrg_cases base a b with ⟨e0, e1, e2⟩ | ⟨e0, e3, e1, e2⟩ | ⟨e0, e3, e4, e1, e2⟩ | ⟨e0, e3, e4, e1, e2⟩ <;> rw [e1, e2] <;> first | (exfalso; first | omega | exact e0 hok | (rw [hml] at e4; omega)) | (rw [hml]; done) | rfl))), rfl⟩⟩
  · skip
    refine vPass rfl rfl rfl (not_of_f (decide_eq_false h1)) rfl rfl rfl ?_
    refine vPass rfl rfl rfl (not_of_f (decide_eq_false h1)) rfl rfl rfl ?_
    refine vPass rfl rfl rfl (not_of_f (decide_eq_false h1)) rfl rfl rfl ?_
    refine vpOps_pure (x := .v (.bool (true))) (pPt rfl rfl (not_of_f (decide_eq_false h1)) rfl rfl) rfl rfl rfl rfl ?_
    refine vpOps_pure (x := .v (.bool (true))) (pMv rfl rfl rfl) rfl rfl rfl rfl ?_
    refine vPass rfl rfl rfl rfl rfl rfl rfl ?_
    refine vPass rfl rfl rfl rfl rfl rfl rfl ?_
    refine vPass rfl rfl rfl rfl rfl rfl rfl ?_
    refine vpOps_pure (x := .v (.bool (true))) (pPt rfl rfl rfl rfl rfl) rfl rfl rfl rfl ?_
    refine vpOps_nil ?_
    refine vIfT rfl rfl ?_
    refine vp_seq ?_
    refine vp_region ?_
    refine vpOps_pure (x := .v (.slice none 0 0)) (pAs rfl rfl rfl) rfl rfl rfl rfl ?_
    refine vpOps_pure (x := .v (.int .i64 1)) (pAs rfl rfl rfl) rfl rfl rfl rfl ?_
    refine vpOps_nil ?_
    refine vp_ghost (ghost_nil (k := 6) (n := 3) rfl) ?_
    refine vp_ret ?_
    exact ⟨[.own 3 (([]).map cardc), .v (.int .i64 1)], [6, 7], (.cons (.tmp rfl rfl) (.cons (.tmp rfl rfl) .nil)), rfl, ⟨(show (.tup [.own 3 (([]).map cardc), .v (.int .i64 1)] : PV) = .tup [.own 3 ((mrgO base a b).map cardc), .v (.int .i64 (mrgC base a b))] from (by first | (rcases mrg_cases base a b with ⟨e0, e1, e2⟩ | ⟨e0, e3, e1, e2⟩ | ⟨e0, e3, e4, e1, e2⟩ | ⟨e0, e3, e4, e1, e2⟩ <;> rw [e1, e2] <;> first | rfl | (exfalso; first | omega | exact e0 ⟨by assumption, by assumption, by assumption⟩ | exact absurd e0.1 (by assumption) | exact absurd e0.2.1 (by assumption) | exact absurd e0.2.2 (by assumption))) | (have hml : mrgL base a b = out := (by unfold mrgL; rw [ho, show i = (namesA [base, a, b]).length by omega]); rcases mrg_cases base a b with ⟨e0, e1, e2⟩ | ⟨e0, e3, e1, e2⟩ | ⟨e0, e3, e4, e1, e2⟩ | ⟨e0, e3, e4, e1, e2⟩ <;> rw [e1, e2] <;> first | (exfalso; first | omega | exact e0 hok | (rw [hml] at e4; omega)) | (rw [hml]; done) | rfl))), rfl⟩⟩

end Go.Vr
/- Walks of the functions that the law reaches: what each gives, by value. -/
namespace Go.Vr
open Go Go.Proofs
set_option linter.unusedVariables false
set_option linter.unusedSimpArgs false
set_option maxRecDepth 8000

/-- spec.MergeThree -/
theorem c_sMergeThree {G : World → Prop} (base : List Card) (a : List Card) (b : List Card) (hw1 : ∀ c ∈ base, c.wf) (hw2 : ∀ c ∈ a, c.wf) (hw3 : ∀ c ∈ b, c.wf) (hn1 : base.length ≤ 9223372036854775807) (hn2 : a.length ≤ 9223372036854775807) (hn3 : b.length ≤ 9223372036854775807) : CallsV Tryd.prog G 11 [.sh 3 (base.map cardc), .sh 3 (a.map cardc), .sh 3 (b.map cardc)] (fun r outs => r = .tup [.own 3 ((mrgO base a b).map cardc), .v (.int .i64 (mrgC base a b))] ∧ outs = [.junk, .junk, .junk]) := by
  refine callsV_enter [] Tryd.func11 rfl rfl rfl ?_
  refine vp_seq ?_
  refine vp_region ?_
  refine vpOps_pure (x := .v (.slice none 0 0)) (pAs rfl rfl rfl) rfl rfl rfl rfl ?_
  refine vpOps_pure (x := .v (.int .i64 0)) (pAs rfl rfl rfl) rfl rfl rfl rfl ?_
  refine vpOps_nil ?_
  refine vp_seq ?_
  refine vp_seq ?_
  refine vp_region ?_
  refine vpOps_pure (x := .sh 3 (base.map cardc)) (pMv rfl rfl rfl) rfl rfl rfl rfl ?_
  refine vpOps_call (gs := [⟨.tmp 12, .sh 3 (base.map cardc), none, none⟩]) (c_sDeckOk base (by first | assumption | omega | exact ⟨by assumption, by assumption, by assumption⟩ | exact short3 (by assumption) (by assumption) (by assumption) | exact all3 (deckOk_distinct (by assumption)) (deckOk_distinct (by assumption)) (deckOk_distinct (by assumption)) | (simp; done)) (by first | assumption | omega | exact ⟨by assumption, by assumption, by assumption⟩ | exact short3 (by assumption) (by assumption) (by assumption) | exact all3 (deckOk_distinct (by assumption)) (deckOk_distinct (by assumption)) (deckOk_distinct (by assumption)) | (simp; done))) rfl rfl rfl rfl rfl trivial (by kernel_rfl) rfl rfl (gives_cons (gC rfl rfl) gives_nil) rfl (fun _ _ _ => .inl rfl) ?_
  rintro _ _ ⟨rfl, rfl⟩
  refine vpOps_pure (x := .v (.bool (!decide (deckOk base)))) (pure_not rfl rfl) rfl rfl rfl rfl ?_
  refine vpOps_pure (x := .v (.bool (!decide (deckOk base)))) (pMv rfl rfl rfl) rfl rfl rfl rfl ?_
  by_cases h1 : deckOk base
  · skip
    refine vRun rfl rfl rfl (not_of_t (decide_eq_true h1)) rfl rfl rfl ?_
    refine vpOps_pure (x := .sh 3 (a.map cardc)) (pMv rfl rfl rfl) rfl rfl rfl rfl ?_
    refine vRun rfl rfl rfl (not_of_t (decide_eq_true h1)) rfl rfl rfl ?_
    refine vpOps_call (gs := [⟨.tmp 16, .sh 3 (a.map cardc), none, none⟩]) (c_sDeckOk a (by first | assumption | omega | exact ⟨by assumption, by assumption, by assumption⟩ | exact short3 (by assumption) (by assumption) (by assumption) | exact all3 (deckOk_distinct (by assumption)) (deckOk_distinct (by assumption)) (deckOk_distinct (by assumption)) | (simp; done)) (by first | assumption | omega | exact ⟨by assumption, by assumption, by assumption⟩ | exact short3 (by assumption) (by assumption) (by assumption) | exact all3 (deckOk_distinct (by assumption)) (deckOk_distinct (by assumption)) (deckOk_distinct (by assumption)) | (simp; done))) rfl rfl rfl rfl rfl trivial (by kernel_rfl) rfl rfl (gives_cons (gC rfl rfl) gives_nil) rfl (fun _ _ _ => .inl rfl) ?_
    rintro _ _ ⟨rfl, rfl⟩
    refine vRun rfl rfl rfl (not_of_t (decide_eq_true h1)) rfl rfl rfl ?_
    refine vpOps_pure (x := .v (.bool (!decide (deckOk a)))) (pure_not rfl rfl) rfl rfl rfl rfl ?_
    refine vpOps_pure (x := .v (.bool (!decide (deckOk a)))) (pPf rfl rfl (not_of_t (decide_eq_true h1)) rfl rfl) rfl rfl rfl rfl ?_
    refine vpOps_pure (x := .v (.bool (!decide (deckOk a)))) (pMv rfl rfl rfl) rfl rfl rfl rfl ?_
    by_cases h2 : deckOk a
    · skip
      refine vRun rfl rfl rfl (not_of_t (decide_eq_true h2)) rfl rfl rfl ?_
      refine vpOps_pure (x := .sh 3 (b.map cardc)) (pMv rfl rfl rfl) rfl rfl rfl rfl ?_
      refine vRun rfl rfl rfl (not_of_t (decide_eq_true h2)) rfl rfl rfl ?_
      refine vpOps_call (gs := [⟨.tmp 21, .sh 3 (b.map cardc), none, none⟩]) (c_sDeckOk b (by first | assumption | omega | exact ⟨by assumption, by assumption, by assumption⟩ | exact short3 (by assumption) (by assumption) (by assumption) | exact all3 (deckOk_distinct (by assumption)) (deckOk_distinct (by assumption)) (deckOk_distinct (by assumption)) | (simp; done)) (by first | assumption | omega | exact ⟨by assumption, by assumption, by assumption⟩ | exact short3 (by assumption) (by assumption) (by assumption) | exact all3 (deckOk_distinct (by assumption)) (deckOk_distinct (by assumption)) (deckOk_distinct (by assumption)) | (simp; done))) rfl rfl rfl rfl rfl trivial (by kernel_rfl) rfl rfl (gives_cons (gC rfl rfl) gives_nil) rfl (fun _ _ _ => .inl rfl) ?_
      rintro _ _ ⟨rfl, rfl⟩
      refine vRun rfl rfl rfl (not_of_t (decide_eq_true h2)) rfl rfl rfl ?_
      refine vpOps_pure (x := .v (.bool (!decide (deckOk b)))) (pure_not rfl rfl) rfl rfl rfl rfl ?_
      refine vpOps_pure (x := .v (.bool (!decide (deckOk b)))) (pPf rfl rfl (not_of_t (decide_eq_true h2)) rfl rfl) rfl rfl rfl rfl ?_
      refine vpOps_nil ?_
      refine vIfN rfl (fun h3 => ?_) (fun h3 => ?_)
      · skip
        refine vp_seq ?_
        refine vp_region ?_
        refine vpOps_pure (x := .own 3 []) (pBs (cs := []) rfl rfl rfl rfl rfl rfl rfl) rfl rfl rfl rfl ?_
        refine vpOps_assign (x := .own 3 []) rfl rfl rfl rfl rfl rfl rfl ?_
        refine vpOps_pure (x := .v (.int .i64 1)) (pAs rfl rfl rfl) rfl rfl rfl rfl ?_
        refine vpOps_nil ?_
        refine vp_ret ?_
        exact ⟨[.own 3 [], .v (.int .i64 1)], [6, 7], (.cons (.tmp rfl rfl) (.cons (.tmp rfl rfl) .nil)), rfl, ⟨(show (.tup [.own 3 [], .v (.int .i64 1)] : PV) = .tup [.own 3 ((mrgO base a b).map cardc), .v (.int .i64 (mrgC base a b))] from (by first | (rcases mrg_cases base a b with ⟨e0, e1, e2⟩ | ⟨e0, e3, e1, e2⟩ | ⟨e0, e3, e4, e1, e2⟩ | ⟨e0, e3, e4, e1, e2⟩ <;> rw [e1, e2] <;> first | rfl | (exfalso; first | omega | exact e0 ⟨by assumption, by assumption, by assumption⟩ | exact absurd e0.1 (by assumption) | exact absurd e0.2.1 (by assumption) | exact absurd e0.2.2 (by assumption))) | (have hml : mrgL base a b = out := (by unfold mrgL; rw [ho, show i = (namesA [base, a, b]).length by omega]); rcases mrg_cases base a b with ⟨e0, e1, e2⟩ | ⟨e0, e3, e1, e2⟩ | ⟨e0, e3, e4, e1, e2⟩ | ⟨e0, e3, e4, e1, e2⟩ <;> rw [e1, e2] <;> first | (exfalso; first | omega | exact e0 hok | (rw [hml] at e4; omega)) | (rw [hml]; done) | rfl))), rfl⟩⟩
      · skip
        refine vp_skip ?_
        refine vp_seq ?_
        refine vp_seq ?_
        refine vp_region ?_
        refine vpOps_pure (x := .sh 3 (base.map cardc)) (pMv rfl rfl rfl) rfl rfl rfl rfl ?_
        refine vpOps_pure (x := .sh 3 (a.map cardc)) (pMv rfl rfl rfl) rfl rfl rfl rfl ?_
        refine vpOps_pure (x := .sh 3 (b.map cardc)) (pMv rfl rfl rfl) rfl rfl rfl rfl ?_
        refine vpOps_call (gs := [⟨.tmp 26, .sh 3 (base.map cardc), none, none⟩, ⟨.tmp 27, .sh 3 (a.map cardc), none, none⟩, ⟨.tmp 28, .sh 3 (b.map cardc), none, none⟩]) (c_sConflicts base a b (by first | assumption | omega | exact ⟨by assumption, by assumption, by assumption⟩ | exact short3 (by assumption) (by assumption) (by assumption) | exact all3 (deckOk_distinct (by assumption)) (deckOk_distinct (by assumption)) (deckOk_distinct (by assumption)) | (simp; done))) rfl rfl rfl rfl rfl trivial (by kernel_rfl) rfl rfl (gives_cons (gC rfl rfl) (gives_cons (gC rfl rfl) (gives_cons (gC rfl rfl) gives_nil))) rfl (fun _ _ _ => .inl rfl) ?_
        rintro _ _ ⟨rfl, rfl⟩
        refine vpOps_pure (x := .v (.int .i64 (((((confL base a b).length) : Nat) : Int)))) (pLenR rfl rfl rfl rfl rfl (List.length_map _)) rfl rfl rfl rfl ?_
        refine vpOps_pure (x := .v (.bool (decide (0 < (((((confL base a b).length) : Nat) : Int)))))) (pure_bin rfl rfl rfl rfl) rfl rfl rfl rfl ?_
        refine vpOps_nil ?_
        refine vIf rfl (fun h4 => ?_) (fun h4 => ?_)
        · skip
          refine vp_seq ?_
          refine vp_region ?_
          refine vpOps_pure (x := .own 3 []) (pBs (cs := []) rfl rfl rfl rfl rfl rfl rfl) rfl rfl rfl rfl ?_
          refine vpOps_assign (x := .own 3 []) rfl rfl rfl rfl rfl rfl rfl ?_
          refine vpOps_pure (x := .v (.int .i64 8)) (pAs rfl rfl rfl) rfl rfl rfl rfl ?_
          refine vpOps_nil ?_
          refine vp_ret ?_
          exact ⟨[.own 3 [], .v (.int .i64 8)], [6, 7], (.cons (.tmp rfl rfl) (.cons (.tmp rfl rfl) .nil)), rfl, ⟨(show (.tup [.own 3 [], .v (.int .i64 8)] : PV) = .tup [.own 3 ((mrgO base a b).map cardc), .v (.int .i64 (mrgC base a b))] from (by first | (rcases mrg_cases base a b with ⟨e0, e1, e2⟩ | ⟨e0, e3, e1, e2⟩ | ⟨e0, e3, e4, e1, e2⟩ | ⟨e0, e3, e4, e1, e2⟩ <;> rw [e1, e2] <;> first | rfl | (exfalso; first | omega | exact e0 ⟨by assumption, by assumption, by assumption⟩ | exact absurd e0.1 (by assumption) | exact absurd e0.2.1 (by assumption) | exact absurd e0.2.2 (by assumption))) | (have hml : mrgL base a b = out := (by unfold mrgL; rw [ho, show i = (namesA [base, a, b]).length by omega]); rcases mrg_cases base a b with ⟨e0, e1, e2⟩ | ⟨e0, e3, e1, e2⟩ | ⟨e0, e3, e4, e1, e2⟩ | ⟨e0, e3, e4, e1, e2⟩ <;> rw [e1, e2] <;> first | (exfalso; first | omega | exact e0 hok | (rw [hml] at e4; omega)) | (rw [hml]; done) | rfl))), rfl⟩⟩
        · skip
          refine vp_skip ?_
          refine vp_seq ?_
          refine vp_region ?_
          refine vpOps_pure (x := .sh 3 (base.map cardc)) (pMv rfl rfl rfl) rfl rfl rfl rfl ?_
          refine vpOps_pure (x := .sh 3 (a.map cardc)) (pMv rfl rfl rfl) rfl rfl rfl rfl ?_
          refine vpOps_pure (x := .sh 3 (b.map cardc)) (pMv rfl rfl rfl) rfl rfl rfl rfl ?_
          refine vpOps_pure (x := .own 1 [[.sh 3 (base.map cardc)], [.sh 3 (a.map cardc)], [.sh 3 (b.map cardc)]]) (pBs (cs := [.sh 3 (base.map cardc), .sh 3 (a.map cardc), .sh 3 (b.map cardc)]) rfl rfl rfl rfl rfl rfl rfl) rfl rfl rfl rfl ?_
          refine vpOps_call (gs := [⟨.tmp 36, .sh 1 [[.sh 3 (base.map cardc)], [.sh 3 (a.map cardc)], [.sh 3 (b.map cardc)]], none, some 36⟩]) (c_sNamesOf ([base, a, b]) (by first | assumption | omega | exact ⟨by assumption, by assumption, by assumption⟩ | exact short3 (by assumption) (by assumption) (by assumption) | exact all3 (deckOk_distinct (by assumption)) (deckOk_distinct (by assumption)) (deckOk_distinct (by assumption)) | (simp; done)) (by first | assumption | omega | exact ⟨by assumption, by assumption, by assumption⟩ | exact short3 (by assumption) (by assumption) (by assumption) | exact all3 (deckOk_distinct (by assumption)) (deckOk_distinct (by assumption)) (deckOk_distinct (by assumption)) | (simp; done)) (by first | assumption | omega | exact ⟨by assumption, by assumption, by assumption⟩ | exact short3 (by assumption) (by assumption) (by assumption) | exact all3 (deckOk_distinct (by assumption)) (deckOk_distinct (by assumption)) (deckOk_distinct (by assumption)) | (simp; done))) rfl rfl rfl rfl rfl trivial (by kernel_rfl) rfl rfl (gives_cons (give_view (c := .own 1 [[.sh 3 (base.map cardc)], [.sh 3 (a.map cardc)], [.sh 3 (b.map cardc)]]) rfl rfl rfl rfl rfl) gives_nil) rfl (fun _ _ h => .inr (by obtain ⟨h1, h2⟩ := h; subst h1; subst h2; exact ⟨by simp [PV.closed, PV.closedL, closedE_map], by simp [PV.closedL, PV.closed]⟩)) ?_
          rintro _ _ ⟨rfl, rfl⟩
          refine vpOps_assign (x := .own 1 ((namesA ([base, a, b])).map strc)) rfl rfl rfl rfl rfl rfl rfl ?_
          refine vpOps_nil ?_
          refine vp_seq ?_
          refine vp_region ?_
          refine vpOps_pure (x := .own 3 []) (pBs (cs := []) rfl rfl rfl rfl rfl rfl rfl) rfl rfl rfl rfl ?_
          refine vpOps_assign (x := .own 3 []) rfl rfl rfl rfl rfl rfl rfl ?_
          refine vpOps_nil ?_
          refine vp_seq ?_
          refine vp_seq ?_
          refine vp_region ?_
          refine vpOps_pure (x := .v (.int .i64 0)) (pAs rfl rfl rfl) rfl rfl rfl rfl ?_
          refine vpOps_nil ?_
          refine vp_block ?_
          refine vLoop (α := Nat × List Card) (fun (i, out) => (namesA [base, a, b]).length - i) (fun (i, out) => (i ≤ (namesA [base, a, b]).length) ∧ (ok3 base a b) ∧ (¬ 0 < (confL base a b).length) ∧ (out = mrgTo base a b (namesA [base, a, b]) i) ∧ (out.length ≤ i) ∧ True) (fun (i, out) => [(0, .sh 3 (base.map cardc)), (1, .sh 3 (a.map cardc)), (2, .sh 3 (b.map cardc)), (6, .v (.slice none 0 0)), (7, .v (.int .i64 0)), (8, .own 1 ((namesA ([base, a, b])).map strc)), (9, .own 3 (out.map cardc)), (10, .v (.int .i64 ((i : Nat) : Int)))]) (fun ⟨_, _⟩ => rfl) (fun ⟨_, _⟩ => rfl) (0, []) ⟨(by omega), (by first | assumption | exact ⟨by assumption, by assumption, by assumption⟩), (by omega), (by rfl), (by exact Nat.zero_le _), trivial⟩ ⟨rfl, rfl, rfl, rfl, rfl, rfl, rfl, rfl, trivial⟩ ?_
          rintro ⟨i, out⟩ ⟨hi, hok, hq, ho, hol, -⟩
          have hn3l := names3_len hok.1 hok.2.1 hok.2.2
          have hpa := placeC_num a ((namesA [base, a, b]).getD i default)
          have hpb := placeC_num b ((namesA [base, a, b]).getD i default)
          refine vp_seq ?_
          refine vp_seq ?_
          refine vp_region ?_
          refine vpOps_pure (x := .v (.int .i64 ((i : Nat) : Int))) (pMv rfl rfl rfl) rfl rfl rfl rfl ?_
          refine vpOps_pure (x := .lv 8 []) (pure_move_lv rfl) rfl rfl rfl rfl ?_
          refine vpOps_pure (x := .v (.int .i64 (((((namesA ([base, a, b])).length) : Nat) : Int)))) (pLenR rfl rfl rfl rfl rfl (List.length_map _)) rfl rfl rfl rfl ?_
          refine vpOps_pure (x := .v (.bool (decide (((i : Nat) : Int) < (((((namesA ([base, a, b])).length) : Nat) : Int)))))) (pure_bin rfl rfl rfl rfl) rfl rfl rfl rfl ?_
          refine vpOps_nil ?_
          refine vIf rfl (fun h5 => ?_) (fun h5 => ?_)
          · skip
            refine vp_skip ?_
            refine vp_seq ?_
            refine vp_block ?_
            refine vp_seq ?_
            refine vp_region ?_
            refine vpOps_pure (x := .sh 3 (b.map cardc)) (pMv rfl rfl rfl) rfl rfl rfl rfl ?_
            refine vpOps_pure (x := .lv 8 []) (pure_move_lv rfl) rfl rfl rfl rfl ?_
            refine vpOps_pure (x := .v (.int .i64 ((i : Nat) : Int))) (pMv rfl rfl rfl) rfl rfl rfl rfl ?_
            refine vpOps_pure (x := .pl 8 [⟨i, 0, 1⟩]) (pIxR (m := i) rfl rfl rfl rfl rfl rfl (by first | rfl | omega) (by rw [List.length_map]; omega) rfl) rfl rfl rfl rfl ?_
            refine vpOps_pure (x := .v (.string ((namesA ([base, a, b])).getD i default))) (pure_load_pl rfl rfl rfl rfl rfl (row_map (by omega)) rfl trivial rfl) rfl rfl rfl rfl ?_
            refine vpOps_call (gs := [⟨.tmp 45, .sh 3 (b.map cardc), none, none⟩, ⟨.tmp 49, .v (.string ((namesA ([base, a, b])).getD i default)), none, none⟩]) (c_sStateOf b ((namesA ([base, a, b])).getD i default) (by first | assumption | omega | exact ⟨by assumption, by assumption, by assumption⟩ | exact short3 (by assumption) (by assumption) (by assumption) | exact all3 (deckOk_distinct (by assumption)) (deckOk_distinct (by assumption)) (deckOk_distinct (by assumption)) | (simp; done))) rfl rfl rfl rfl rfl trivial (by kernel_rfl) rfl rfl (gives_cons (gC rfl rfl) (gives_cons (gC rfl rfl) gives_nil)) rfl (fun _ _ _ => .inl rfl) ?_
            rintro _ _ ⟨rfl, rfl⟩
            refine vpOps_pure (x := .box [.v (.bool (false)), .v (.int .u64 0), .v (.int .u64 0)]) (pure_alloc rfl) rfl rfl rfl rfl ?_
            refine vStB (x := .agg [.v (.bool ((stC b ((namesA ([base, a, b])).getD i default)).there)), .v (.int .u64 (((((stC b ((namesA ([base, a, b])).getD i default)).notches).a : Nat) : Int))), .v (.int .u64 (((((stC b ((namesA ([base, a, b])).getD i default)).notches).b : Nat) : Int)))]) (row' := [.v (.bool ((stC b ((namesA ([base, a, b])).getD i default)).there)), .v (.int .u64 (((((stC b ((namesA ([base, a, b])).getD i default)).notches).a : Nat) : Int))), .v (.int .u64 (((((stC b ((namesA ([base, a, b])).getD i default)).notches).b : Nat) : Int)))]) rfl rfl rfl rfl rfl rfl rfl rfl rfl rfl rfl rfl ?_
            refine vpOps_nil ?_
            refine vp_seq ?_
            refine vp_seq ?_
            refine vRegD 8 ((51, .agg [.v (.bool ((stC b ((namesA ([base, a, b])).getD i default)).there)), .v (.int .u64 (((((stC b ((namesA ([base, a, b])).getD i default)).notches).a : Nat) : Int))), .v (.int .u64 (((((stC b ((namesA ([base, a, b])).getD i default)).notches).b : Nat) : Int)))]) :: (52, .sh 3 (base.map cardc)) :: (53, .lv 8 []) :: (54, .v (.int .i64 ((i : Nat) : Int))) :: (55, .pl 8 [⟨i, 0, 1⟩]) :: (56, .v (.string ((namesA ([base, a, b])).getD i default))) :: (57, .agg [.v (.bool ((stC base ((namesA ([base, a, b])).getD i default)).there)), .v (.int .u64 (((((stC base ((namesA ([base, a, b])).getD i default)).notches).a : Nat) : Int))), .v (.int .u64 (((((stC base ((namesA ([base, a, b])).getD i default)).notches).b : Nat) : Int)))]) :: (58, .v (.bool (decide (stC b ((namesA ([base, a, b])).getD i default) = stC base ((namesA ([base, a, b])).getD i default))))) :: []) (0 :: 0 :: 0 :: 0 :: 12 :: 28 :: 62 :: 127 :: []) (by kernel_rfl) rfl (by kernel_rfl) (by kernel_rfl) (by kernel_rfl) (by kernel_rfl) (by kernel_rfl) ⟨
                dPure rfl (pure_load_pl_agg rfl rfl rfl rfl rfl rfl rfl rfl (by simp [PV.flatL, PV.flat])),
                dPure rfl (pMv rfl rfl rfl),
                dPure rfl (pure_move_lv rfl),
                dPure rfl (pMv rfl rfl rfl),
                dPure rfl (pIxR (m := i) rfl rfl rfl rfl rfl rfl (by first | rfl | omega) (by rw [List.length_map]; omega) rfl),
                dPure rfl (pure_load_pl rfl rfl rfl rfl rfl (row_map (by omega)) rfl trivial rfl),
                dPure rfl (pure_call (gs := [⟨.tmp 52, .sh 3 (base.map cardc), none, none⟩, ⟨.tmp 56, .v (.string ((namesA ([base, a, b])).getD i default)), none, none⟩]) (c_sStateOf base ((namesA ([base, a, b])).getD i default) (by first | assumption | omega | exact ⟨by assumption, by assumption, by assumption⟩ | exact short3 (by assumption) (by assumption) (by assumption) | exact all3 (deckOk_distinct (by assumption)) (deckOk_distinct (by assumption)) (deckOk_distinct (by assumption)) | (simp; done))) rfl rfl trivial (by kernel_rfl) rfl rfl (gives_cons (gC rfl rfl) (gives_cons (gC rfl rfl) gives_nil)) rfl (fun _ _ h => h.1) ⟨trivial, ⟨trivial, ⟨trivial, trivial⟩⟩⟩),
                dPure rfl (pEqAgg [(.bool ((stC b ((namesA ([base, a, b])).getD i default)).there)), (.int .u64 (((((stC b ((namesA ([base, a, b])).getD i default)).notches).a : Nat) : Int))), (.int .u64 (((((stC b ((namesA ([base, a, b])).getD i default)).notches).b : Nat) : Int)))] [(.bool ((stC base ((namesA ([base, a, b])).getD i default)).there)), (.int .u64 (((((stC base ((namesA ([base, a, b])).getD i default)).notches).a : Nat) : Int))), (.int .u64 (((((stC base ((namesA ([base, a, b])).getD i default)).notches).b : Nat) : Int)))] (φ := stC b ((namesA ([base, a, b])).getD i default) = stC base ((namesA ([base, a, b])).getD i default)) rfl rfl rfl rfl rfl rfl rfl (st_inj)),
                trivial⟩ ?_
            refine vpOps_nil ?_
            refine vIf rfl (fun h6 => ?_) (fun h6 => ?_)
            · skip
              refine vp_region ?_
              refine vpOps_pure (x := .sh 3 (a.map cardc)) (pMv rfl rfl rfl) rfl rfl rfl rfl ?_
              refine vpOps_pure (x := .lv 8 []) (pure_move_lv rfl) rfl rfl rfl rfl ?_
              refine vpOps_pure (x := .v (.int .i64 ((i : Nat) : Int))) (pMv rfl rfl rfl) rfl rfl rfl rfl ?_
              refine vpOps_pure (x := .pl 8 [⟨i, 0, 1⟩]) (pIxR (m := i) rfl rfl rfl rfl rfl rfl (by first | rfl | omega) (by rw [List.length_map]; omega) rfl) rfl rfl rfl rfl ?_
              refine vpOps_pure (x := .v (.string ((namesA ([base, a, b])).getD i default))) (pure_load_pl rfl rfl rfl rfl rfl (row_map (by omega)) rfl trivial rfl) rfl rfl rfl rfl ?_
              refine vpOps_call (gs := [⟨.tmp 59, .sh 3 (a.map cardc), none, none⟩, ⟨.tmp 63, .v (.string ((namesA ([base, a, b])).getD i default)), none, none⟩]) (c_sStateOf a ((namesA ([base, a, b])).getD i default) (by first | assumption | omega | exact ⟨by assumption, by assumption, by assumption⟩ | exact short3 (by assumption) (by assumption) (by assumption) | exact all3 (deckOk_distinct (by assumption)) (deckOk_distinct (by assumption)) (deckOk_distinct (by assumption)) | (simp; done))) rfl rfl rfl rfl rfl trivial (by kernel_rfl) rfl rfl (gives_cons (gC rfl rfl) (gives_cons (gC rfl rfl) gives_nil)) rfl (fun _ _ _ => .inl rfl) ?_
              rintro _ _ ⟨rfl, rfl⟩
              refine vStB (x := .agg [.v (.bool ((stC a ((namesA ([base, a, b])).getD i default)).there)), .v (.int .u64 (((((stC a ((namesA ([base, a, b])).getD i default)).notches).a : Nat) : Int))), .v (.int .u64 (((((stC a ((namesA ([base, a, b])).getD i default)).notches).b : Nat) : Int)))]) (row' := [.v (.bool ((stC a ((namesA ([base, a, b])).getD i default)).there)), .v (.int .u64 (((((stC a ((namesA ([base, a, b])).getD i default)).notches).a : Nat) : Int))), .v (.int .u64 (((((stC a ((namesA ([base, a, b])).getD i default)).notches).b : Nat) : Int)))]) rfl rfl rfl rfl rfl rfl rfl rfl rfl rfl rfl rfl ?_
              refine vpOps_nil ?_
              refine vp_seq ?_
              refine vp_region ?_
              refine vpOps_pure (x := .pl 11 [⟨0, 0, 0⟩]) (pure_field_ref rfl rfl rfl rfl) rfl rfl rfl rfl ?_
              refine vpOps_pure (x := .v (.bool ((stC a ((namesA ([base, a, b])).getD i default)).there))) (pure_load_pl rfl rfl rfl rfl rfl rfl rfl trivial rfl) rfl rfl rfl rfl ?_
              refine vpOps_nil ?_
              refine vIfB rfl (fun h7 => ?_) (fun h7 => ?_)
              · skip
                refine vRegD 9 ((67, .lv 9 []) :: (68, .lv 8 []) :: (69, .v (.int .i64 ((i : Nat) : Int))) :: (70, .pl 8 [⟨i, 0, 1⟩]) :: (71, .v (.string ((namesA ([base, a, b])).getD i default))) :: (72, .pl 11 [⟨0, 1, 0⟩]) :: (73, .agg [.v (.int .u64 (((((stC a ((namesA ([base, a, b])).getD i default)).notches).a : Nat) : Int))), .v (.int .u64 (((((stC a ((namesA ([base, a, b])).getD i default)).notches).b : Nat) : Int)))]) :: (74, .agg [.v (.string ((namesA ([base, a, b])).getD i default)), .v (.int .u64 (((((stC a ((namesA ([base, a, b])).getD i default)).notches).a : Nat) : Int))), .v (.int .u64 (((((stC a ((namesA ([base, a, b])).getD i default)).notches).b : Nat) : Int)))]) :: (75, .own 3 [[.v (.string ((namesA ([base, a, b])).getD i default)), .v (.int .u64 (((((stC a ((namesA ([base, a, b])).getD i default)).notches).a : Nat) : Int))), .v (.int .u64 (((((stC a ((namesA ([base, a, b])).getD i default)).notches).b : Nat) : Int)))]]) :: []) (0 :: 0 :: 0 :: 6 :: 14 :: 0 :: 32 :: 126 :: 254 :: 511 :: 1023 :: []) (by kernel_rfl) rfl (by kernel_rfl) (by kernel_rfl) (by kernel_rfl) (by kernel_rfl) (by kernel_rfl) ⟨
                    dPure rfl (pure_move_lv rfl),
                    dPure rfl (pure_move_lv rfl),
                    dPure rfl (pMv rfl rfl rfl),
                    dPure rfl (pIxR (m := i) rfl rfl rfl rfl rfl rfl (by first | rfl | omega) (by rw [List.length_map]; omega) rfl),
                    dPure rfl (pure_load_pl rfl rfl rfl rfl rfl (row_map (by omega)) rfl trivial rfl),
                    dPure rfl (pure_field_ref rfl rfl rfl rfl),
                    dPure rfl (pure_load_pl_agg rfl rfl rfl rfl rfl rfl rfl rfl (by simp [PV.flatL, PV.flat])),
                    dPure rfl (pure_build_st rfl (flatsB_ok rfl) rfl),
                    dPure rfl (pBs (cs := [.v (.string ((namesA ([base, a, b])).getD i default)), .v (.int .u64 (((((stC a ((namesA ([base, a, b])).getD i default)).notches).a : Nat) : Int))), .v (.int .u64 (((((stC a ((namesA ([base, a, b])).getD i default)).notches).b : Nat) : Int)))]) rfl rfl rfl rfl rfl rfl rfl),
                    trivial⟩ ?_
                refine vpOps_ghost (ghost_own (t := 67) rfl rfl rfl rfl) ?_
                refine vApp (f := cardc) (xs := out) (ys := [(⟨(namesA ([base, a, b])).getD i default, (stC a ((namesA ([base, a, b])).getD i default)).notches⟩ : Card)]) (l := 1) rfl rfl rfl rfl rfl (srcOwn rfl rfl (fun _ => mvOkL_flat _ rfl)) rfl rfl (fun _ => rfl) (.inl ⟨_, rfl⟩) rfl rfl rfl (rfl) (by omega) (by omega) ?_
                refine vpOps_assign (x := .own 3 ((out ++ [(⟨(namesA ([base, a, b])).getD i default, (stC a ((namesA ([base, a, b])).getD i default)).notches⟩ : Card)]).map cardc)) rfl rfl rfl rfl rfl rfl rfl ?_
                refine vpOps_nil ?_
                refine vp_region ?_
                refine vpOps_pure (x := .v (.int .i64 ((i : Nat) : Int))) (pMv rfl rfl rfl) rfl rfl rfl rfl ?_
                refine vpOps_pure (x := .v (.int .i64 (((i : Nat) : Int) + 1))) (pure_add rfl rfl rfl (in64 (by omega) (by omega))) rfl rfl rfl rfl ?_
                refine vpOps_pure (x := .v (.int .i64 (((i : Nat) : Int) + 1))) (pAs rfl rfl rfl) rfl rfl rfl rfl ?_
                refine vpOps_nil ?_
                exact ⟨(i + 1, out ++ [(⟨(namesA ([base, a, b])).getD i default, (stC a ((namesA ([base, a, b])).getD i default)).notches⟩ : Card)]), (by first | omega | (dsimp only; omega)), ⟨(by omega), (by first | assumption | exact ⟨by assumption, by assumption, by assumption⟩), (by omega), (by first | (rw [mrg_step (stM_pos (by assumption)), ← ho]; first | (rw [if_pos (by assumption)]; done) | (rw [if_neg (Bool.eq_false_iff.1 (by assumption))]; done)) | (rw [mrg_step (stM_neg (by assumption)), ← ho]; first | (rw [if_pos (by assumption)]; done) | (rw [if_neg (Bool.eq_false_iff.1 (by assumption))]; done))), (by first | omega | (simp only [List.length_append, List.length_cons, List.length_nil]; omega)), trivial⟩, ⟨rfl, rfl, rfl, rfl, rfl, rfl, rfl, rfl, trivial⟩⟩
              · skip
                refine vp_skip ?_
                refine vp_region ?_
                refine vpOps_pure (x := .v (.int .i64 ((i : Nat) : Int))) (pMv rfl rfl rfl) rfl rfl rfl rfl ?_
                refine vpOps_pure (x := .v (.int .i64 (((i : Nat) : Int) + 1))) (pure_add rfl rfl rfl (in64 (by omega) (by omega))) rfl rfl rfl rfl ?_
                refine vpOps_pure (x := .v (.int .i64 (((i : Nat) : Int) + 1))) (pAs rfl rfl rfl) rfl rfl rfl rfl ?_
                refine vpOps_nil ?_
                exact ⟨(i + 1, out), (by first | omega | (dsimp only; omega)), ⟨(by omega), (by first | assumption | exact ⟨by assumption, by assumption, by assumption⟩), (by omega), (by first | (rw [mrg_step (stM_pos (by assumption)), ← ho]; first | (rw [if_pos (by assumption)]; done) | (rw [if_neg (Bool.eq_false_iff.1 (by assumption))]; done)) | (rw [mrg_step (stM_neg (by assumption)), ← ho]; first | (rw [if_pos (by assumption)]; done) | (rw [if_neg (Bool.eq_false_iff.1 (by assumption))]; done))), (by first | omega | (simp only [List.length_append, List.length_cons, List.length_nil]; omega)), trivial⟩, ⟨rfl, rfl, rfl, rfl, rfl, rfl, rfl, rfl, trivial⟩⟩
            · skip
              refine vp_skip ?_
              refine vp_seq ?_
              refine vp_region ?_
              refine vpOps_pure (x := .pl 11 [⟨0, 0, 0⟩]) (pure_field_ref rfl rfl rfl rfl) rfl rfl rfl rfl ?_
              refine vpOps_pure (x := .v (.bool ((stC b ((namesA ([base, a, b])).getD i default)).there))) (pure_load_pl rfl rfl rfl rfl rfl rfl rfl trivial rfl) rfl rfl rfl rfl ?_
              refine vpOps_nil ?_
              refine vIfB rfl (fun h8 => ?_) (fun h8 => ?_)
              · skip
                refine vRegD 9 ((67, .lv 9 []) :: (68, .lv 8 []) :: (69, .v (.int .i64 ((i : Nat) : Int))) :: (70, .pl 8 [⟨i, 0, 1⟩]) :: (71, .v (.string ((namesA ([base, a, b])).getD i default))) :: (72, .pl 11 [⟨0, 1, 0⟩]) :: (73, .agg [.v (.int .u64 (((((stC b ((namesA ([base, a, b])).getD i default)).notches).a : Nat) : Int))), .v (.int .u64 (((((stC b ((namesA ([base, a, b])).getD i default)).notches).b : Nat) : Int)))]) :: (74, .agg [.v (.string ((namesA ([base, a, b])).getD i default)), .v (.int .u64 (((((stC b ((namesA ([base, a, b])).getD i default)).notches).a : Nat) : Int))), .v (.int .u64 (((((stC b ((namesA ([base, a, b])).getD i default)).notches).b : Nat) : Int)))]) :: (75, .own 3 [[.v (.string ((namesA ([base, a, b])).getD i default)), .v (.int .u64 (((((stC b ((namesA ([base, a, b])).getD i default)).notches).a : Nat) : Int))), .v (.int .u64 (((((stC b ((namesA ([base, a, b])).getD i default)).notches).b : Nat) : Int)))]]) :: []) (0 :: 0 :: 0 :: 6 :: 14 :: 0 :: 32 :: 126 :: 254 :: 511 :: 1023 :: []) (by kernel_rfl) rfl (by kernel_rfl) (by kernel_rfl) (by kernel_rfl) (by kernel_rfl) (by kernel_rfl) ⟨
                    dPure rfl (pure_move_lv rfl),
                    dPure rfl (pure_move_lv rfl),
                    dPure rfl (pMv rfl rfl rfl),
                    dPure rfl (pIxR (m := i) rfl rfl rfl rfl rfl rfl (by first | rfl | omega) (by rw [List.length_map]; omega) rfl),
                    dPure rfl (pure_load_pl rfl rfl rfl rfl rfl (row_map (by omega)) rfl trivial rfl),
                    dPure rfl (pure_field_ref rfl rfl rfl rfl),
                    dPure rfl (pure_load_pl_agg rfl rfl rfl rfl rfl rfl rfl rfl (by simp [PV.flatL, PV.flat])),
                    dPure rfl (pure_build_st rfl (flatsB_ok rfl) rfl),
                    dPure rfl (pBs (cs := [.v (.string ((namesA ([base, a, b])).getD i default)), .v (.int .u64 (((((stC b ((namesA ([base, a, b])).getD i default)).notches).a : Nat) : Int))), .v (.int .u64 (((((stC b ((namesA ([base, a, b])).getD i default)).notches).b : Nat) : Int)))]) rfl rfl rfl rfl rfl rfl rfl),
                    trivial⟩ ?_
                refine vpOps_ghost (ghost_own (t := 67) rfl rfl rfl rfl) ?_
                refine vApp (f := cardc) (xs := out) (ys := [(⟨(namesA ([base, a, b])).getD i default, (stC b ((namesA ([base, a, b])).getD i default)).notches⟩ : Card)]) (l := 1) rfl rfl rfl rfl rfl (srcOwn rfl rfl (fun _ => mvOkL_flat _ rfl)) rfl rfl (fun _ => rfl) (.inl ⟨_, rfl⟩) rfl rfl rfl (rfl) (by omega) (by omega) ?_
                refine vpOps_assign (x := .own 3 ((out ++ [(⟨(namesA ([base, a, b])).getD i default, (stC b ((namesA ([base, a, b])).getD i default)).notches⟩ : Card)]).map cardc)) rfl rfl rfl rfl rfl rfl rfl ?_
                refine vpOps_nil ?_
                refine vp_region ?_
                refine vpOps_pure (x := .v (.int .i64 ((i : Nat) : Int))) (pMv rfl rfl rfl) rfl rfl rfl rfl ?_
                refine vpOps_pure (x := .v (.int .i64 (((i : Nat) : Int) + 1))) (pure_add rfl rfl rfl (in64 (by omega) (by omega))) rfl rfl rfl rfl ?_
                refine vpOps_pure (x := .v (.int .i64 (((i : Nat) : Int) + 1))) (pAs rfl rfl rfl) rfl rfl rfl rfl ?_
                refine vpOps_nil ?_
                exact ⟨(i + 1, out ++ [(⟨(namesA ([base, a, b])).getD i default, (stC b ((namesA ([base, a, b])).getD i default)).notches⟩ : Card)]), (by first | omega | (dsimp only; omega)), ⟨(by omega), (by first | assumption | exact ⟨by assumption, by assumption, by assumption⟩), (by omega), (by first | (rw [mrg_step (stM_pos (by assumption)), ← ho]; first | (rw [if_pos (by assumption)]; done) | (rw [if_neg (Bool.eq_false_iff.1 (by assumption))]; done)) | (rw [mrg_step (stM_neg (by assumption)), ← ho]; first | (rw [if_pos (by assumption)]; done) | (rw [if_neg (Bool.eq_false_iff.1 (by assumption))]; done))), (by first | omega | (simp only [List.length_append, List.length_cons, List.length_nil]; omega)), trivial⟩, ⟨rfl, rfl, rfl, rfl, rfl, rfl, rfl, rfl, trivial⟩⟩
              · skip
                refine vp_skip ?_
                refine vp_region ?_
                refine vpOps_pure (x := .v (.int .i64 ((i : Nat) : Int))) (pMv rfl rfl rfl) rfl rfl rfl rfl ?_
                refine vpOps_pure (x := .v (.int .i64 (((i : Nat) : Int) + 1))) (pure_add rfl rfl rfl (in64 (by omega) (by omega))) rfl rfl rfl rfl ?_
                refine vpOps_pure (x := .v (.int .i64 (((i : Nat) : Int) + 1))) (pAs rfl rfl rfl) rfl rfl rfl rfl ?_
                refine vpOps_nil ?_
                exact ⟨(i + 1, out), (by first | omega | (dsimp only; omega)), ⟨(by omega), (by first | assumption | exact ⟨by assumption, by assumption, by assumption⟩), (by omega), (by first | (rw [mrg_step (stM_pos (by assumption)), ← ho]; first | (rw [if_pos (by assumption)]; done) | (rw [if_neg (Bool.eq_false_iff.1 (by assumption))]; done)) | (rw [mrg_step (stM_neg (by assumption)), ← ho]; first | (rw [if_pos (by assumption)]; done) | (rw [if_neg (Bool.eq_false_iff.1 (by assumption))]; done))), (by first | omega | (simp only [List.length_append, List.length_cons, List.length_nil]; omega)), trivial⟩, ⟨rfl, rfl, rfl, rfl, rfl, rfl, rfl, rfl, trivial⟩⟩
          · skip
            refine vp_exit ?_
            refine vp_seq ?_
            refine vp_seq ?_
            refine vp_region ?_
            refine vpOps_pure (x := .lv 9 []) (pure_move_lv rfl) rfl rfl rfl rfl ?_
            refine vpOps_pure (x := .v (.int .i64 ((out.length : Nat) : Int))) (pLenR rfl rfl rfl rfl rfl (List.length_map _)) rfl rfl rfl rfl ?_
            refine vpOps_pure (x := .v (.bool (decide (80 < ((out.length : Nat) : Int))))) (pure_bin rfl rfl rfl rfl) rfl rfl rfl rfl ?_
            refine vpOps_nil ?_
            refine vIf rfl (fun h9 => ?_) (fun h9 => ?_)
            · skip
              refine vp_seq ?_
              refine vp_region ?_
              refine vpOps_pure (x := .own 3 []) (pBs (cs := []) rfl rfl rfl rfl rfl rfl rfl) rfl rfl rfl rfl ?_
              refine vpOps_assign (x := .own 3 []) rfl rfl rfl rfl rfl rfl rfl ?_
              refine vpOps_pure (x := .v (.int .i64 3)) (pAs rfl rfl rfl) rfl rfl rfl rfl ?_
              refine vpOps_nil ?_
              refine vp_ret ?_
              exact ⟨[.own 3 [], .v (.int .i64 3)], [6, 7], (.cons (.tmp rfl rfl) (.cons (.tmp rfl rfl) .nil)), rfl, ⟨(show (.tup [.own 3 [], .v (.int .i64 3)] : PV) = .tup [.own 3 ((mrgO base a b).map cardc), .v (.int .i64 (mrgC base a b))] from (by first | (rcases mrg_cases base a b with ⟨e0, e1, e2⟩ | ⟨e0, e3, e1, e2⟩ | ⟨e0, e3, e4, e1, e2⟩ | ⟨e0, e3, e4, e1, e2⟩ <;> rw [e1, e2] <;> first | rfl | (exfalso; first | omega | exact e0 ⟨by assumption, by assumption, by assumption⟩ | exact absurd e0.1 (by assumption) | exact absurd e0.2.1 (by assumption) | exact absurd e0.2.2 (by assumption))) | (have hml : mrgL base a b = out := (by unfold mrgL; rw [ho, show i = (namesA [base, a, b]).length by omega]); rcases mrg_cases base a b with ⟨e0, e1, e2⟩ | ⟨e0, e3, e1, e2⟩ | ⟨e0, e3, e4, e1, e2⟩ | ⟨e0, e3, e4, e1, e2⟩ <;> rw [e1, e2] <;> first | (exfalso; first | omega | exact e0 hok | (rw [hml] at e4; omega)) | (rw [hml]; done) | rfl))), rfl⟩⟩
            · skip
              refine vp_skip ?_
              refine vp_seq ?_
              refine vp_region ?_
              refine vpOps_pure (x := .lv 9 []) (pure_move_lv rfl) rfl rfl rfl rfl ?_
              refine vpOps_ghost (ghost_own (t := 81) rfl rfl rfl rfl) ?_
              refine vpOps_assign (x := .own 3 (out.map cardc)) rfl rfl rfl rfl rfl rfl rfl ?_
              refine vpOps_pure (x := .v (.int .i64 0)) (pAs rfl rfl rfl) rfl rfl rfl rfl ?_
              refine vpOps_nil ?_
              refine vp_ret ?_
              exact ⟨[.own 3 (out.map cardc), .v (.int .i64 0)], [6, 7], (.cons (.tmp rfl rfl) (.cons (.tmp rfl rfl) .nil)), rfl, ⟨(show (.tup [.own 3 (out.map cardc), .v (.int .i64 0)] : PV) = .tup [.own 3 ((mrgO base a b).map cardc), .v (.int .i64 (mrgC base a b))] from (by first | (rcases mrg_cases base a b with ⟨e0, e1, e2⟩ | ⟨e0, e3, e1, e2⟩ | ⟨e0, e3, e4, e1, e2⟩ | ⟨e0, e3, e4, e1, e2⟩ <;> rw [e1, e2] <;> first | rfl | (exfalso; first | omega | exact e0 ⟨by assumption, by assumption, by assumption⟩ | exact absurd e0.1 (by assumption) | exact absurd e0.2.1 (by assumption) | exact absurd e0.2.2 (by assumption))) | (have hml : mrgL base a b = out := (by unfold mrgL; rw [ho, show i = (namesA [base, a, b]).length by omega]); rcases mrg_cases base a b with ⟨e0, e1, e2⟩ | ⟨e0, e3, e1, e2⟩ | ⟨e0, e3, e4, e1, e2⟩ | ⟨e0, e3, e4, e1, e2⟩ <;> rw [e1, e2] <;> first | (exfalso; first | omega | exact e0 hok | (rw [hml] at e4; omega)) | (rw [hml]; done) | rfl))), rfl⟩⟩
    · skip
      refine vPass rfl rfl rfl (not_of_f (decide_eq_false h2)) rfl rfl rfl ?_
      refine vPass rfl rfl rfl (not_of_f (decide_eq_false h2)) rfl rfl rfl ?_
      refine vPass rfl rfl rfl (not_of_f (decide_eq_false h2)) rfl rfl rfl ?_
      refine vpOps_pure (x := .v (.bool (true))) (pPt rfl rfl (not_of_f (decide_eq_false h2)) rfl rfl) rfl rfl rfl rfl ?_
      refine vpOps_nil ?_
      refine vIfT rfl rfl ?_
      refine vp_seq ?_
      refine vp_region ?_
      refine vpOps_pure (x := .own 3 []) (pBs (cs := []) rfl rfl rfl rfl rfl rfl rfl) rfl rfl rfl rfl ?_
      refine vpOps_assign (x := .own 3 []) rfl rfl rfl rfl rfl rfl rfl ?_
      refine vpOps_pure (x := .v (.int .i64 1)) (pAs rfl rfl rfl) rfl rfl rfl rfl ?_
      refine vpOps_nil ?_
      refine vp_ret ?_
      exact ⟨[.own 3 [], .v (.int .i64 1)], [6, 7], (.cons (.tmp rfl rfl) (.cons (.tmp rfl rfl) .nil)), rfl, ⟨(show (.tup [.own 3 [], .v (.int .i64 1)] : PV) = .tup [.own 3 ((mrgO base a b).map cardc), .v (.int .i64 (mrgC base a b))] from (by first | (rcases mrg_cases base a b with ⟨e0, e1, e2⟩ | ⟨e0, e3, e1, e2⟩ | ⟨e0, e3, e4, e1, e2⟩ | ⟨e0, e3, e4, e1, e2⟩ <;> rw [e1, e2] <;> first | rfl | (exfalso; first | omega | exact e0 ⟨by assumption, by assumption, by assumption⟩ | exact absurd e0.1 (by assumption) | exact absurd e0.2.1 (by assumption) | exact absurd e0.2.2 (by assumption))) | (have hml : mrgL base a b = out := (by unfold mrgL; rw [ho, show i = (namesA [base, a, b]).length by omega]); rcases mrg_cases base a b with ⟨e0, e1, e2⟩ | ⟨e0, e3, e1, e2⟩ | ⟨e0, e3, e4, e1, e2⟩ | ⟨e0, e3, e4, e1, e2⟩ <;> rw [e1, e2] <;> first | (exfalso; first | omega | exact e0 hok | (rw [hml] at e4; omega)) | (rw [hml]; done) | rfl))), rfl⟩⟩
  · skip
    refine vPass rfl rfl rfl (not_of_f (decide_eq_false h1)) rfl rfl rfl ?_
    refine vPass rfl rfl rfl (not_of_f (decide_eq_false h1)) rfl rfl rfl ?_
    refine vPass rfl rfl rfl (not_of_f (decide_eq_false h1)) rfl rfl rfl ?_
    refine vpOps_pure (x := .v (.bool (true))) (pPt rfl rfl (not_of_f (decide_eq_false h1)) rfl rfl) rfl rfl rfl rfl ?_
    refine vpOps_pure (x := .v (.bool (true))) (pMv rfl rfl rfl) rfl rfl rfl rfl ?_
    refine vPass rfl rfl rfl rfl rfl rfl rfl ?_
    refine vPass rfl rfl rfl rfl rfl rfl rfl ?_
    refine vPass rfl rfl rfl rfl rfl rfl rfl ?_
    refine vpOps_pure (x := .v (.bool (true))) (pPt rfl rfl rfl rfl rfl) rfl rfl rfl rfl ?_
    refine vpOps_nil ?_
    refine vIfT rfl rfl ?_
    refine vp_seq ?_
    refine vp_region ?_
    refine vpOps_pure (x := .own 3 []) (pBs (cs := []) rfl rfl rfl rfl rfl rfl rfl) rfl rfl rfl rfl ?_
    refine vpOps_assign (x := .own 3 []) rfl rfl rfl rfl rfl rfl rfl ?_
    refine vpOps_pure (x := .v (.int .i64 1)) (pAs rfl rfl rfl) rfl rfl rfl rfl ?_
    refine vpOps_nil ?_
    refine vp_ret ?_
    exact ⟨[.own 3 [], .v (.int .i64 1)], [6, 7], (.cons (.tmp rfl rfl) (.cons (.tmp rfl rfl) .nil)), rfl, ⟨(show (.tup [.own 3 [], .v (.int .i64 1)] : PV) = .tup [.own 3 ((mrgO base a b).map cardc), .v (.int .i64 (mrgC base a b))] from (by first | (rcases mrg_cases base a b with ⟨e0, e1, e2⟩ | ⟨e0, e3, e1, e2⟩ | ⟨e0, e3, e4, e1, e2⟩ | ⟨e0, e3, e4, e1, e2⟩ <;> rw [e1, e2] <;> first | rfl | (exfalso; first | omega | exact e0 ⟨by assumption, by assumption, by assumption⟩ | exact absurd e0.1 (by assumption) | exact absurd e0.2.1 (by assumption) | exact absurd e0.2.2 (by assumption))) | (have hml : mrgL base a b = out := (by unfold mrgL; rw [ho, show i = (namesA [base, a, b]).length by omega]); rcases mrg_cases base a b with ⟨e0, e1, e2⟩ | ⟨e0, e3, e1, e2⟩ | ⟨e0, e3, e4, e1, e2⟩ | ⟨e0, e3, e4, e1, e2⟩ <;> rw [e1, e2] <;> first | (exfalso; first | omega | exact e0 hok | (rw [hml] at e4; omega)) | (rw [hml]; done) | rfl))), rfl⟩⟩

/-- spec.A2Texts -/
theorem c_A2Texts {G : World → Prop} (xs : List ByteArray) (ys : List ByteArray) (hx : xs.length ≤ 9223372036854775807) : CallsV Tryd.prog G 12 [.sh 1 (xs.map strc), .sh 1 (ys.map strc)] (fun r outs => r = .v (.bool (decide (xs = ys))) ∧ outs = [.junk, .junk]) := by
  refine callsV_enter [] Tryd.func12 rfl rfl rfl ?_
  refine vp_seq ?_
  refine vp_region ?_
  refine vpOps_pure (x := .v (.bool (false))) (pAs rfl rfl rfl) rfl rfl rfl rfl ?_
  refine vpOps_nil ?_
  refine vp_seq ?_
  refine vp_seq ?_
  refine vp_region ?_
  refine vpOps_pure (x := .sh 1 (xs.map strc)) (pMv rfl rfl rfl) rfl rfl rfl rfl ?_
  refine vpOps_pure (x := .v (.int .i64 ((xs.length : Nat) : Int))) (pLen rfl rfl (List.length_map _)) rfl rfl rfl rfl ?_
  refine vpOps_pure (x := .sh 1 (ys.map strc)) (pMv rfl rfl rfl) rfl rfl rfl rfl ?_
  refine vpOps_pure (x := .v (.int .i64 ((ys.length : Nat) : Int))) (pLen rfl rfl (List.length_map _)) rfl rfl rfl rfl ?_
  refine vpOps_pure (x := .v (.bool (!decide (((xs.length : Nat) : Int) = ((ys.length : Nat) : Int))))) (pure_bin rfl rfl rfl rfl) rfl rfl rfl rfl ?_
  refine vpOps_nil ?_
  refine vIfN rfl (fun h1 => ?_) (fun h1 => ?_)
  · skip
    refine vp_seq ?_
    refine vp_region ?_
    refine vpOps_pure (x := .v (.bool (false))) (pAs rfl rfl rfl) rfl rfl rfl rfl ?_
    refine vpOps_nil ?_
    refine vp_ret ?_
    exact ⟨[.v (.bool (false))], [4], (.cons (.tmp rfl rfl) .nil), rfl, ⟨(show (.v (.bool (false)) : PV) = .v (.bool (decide (xs = ys))) from (by first | exact dec_f (fun e => by subst e; omega) | exact dec_f (by rw [he, drop_eq_step hl (by omega)]; exact fun h => absurd h.1 (by assumption)) | exact dec_t (he.2 (drop_eq_end hl (by omega))))), rfl⟩⟩
  · skip
    refine vp_skip ?_
    refine vp_seq ?_
    refine vp_seq ?_
    refine vp_region ?_
    refine vpOps_pure (x := .v (.int .i64 0)) (pAs rfl rfl rfl) rfl rfl rfl rfl ?_
    refine vpOps_nil ?_
    refine vp_block ?_
    refine vLoop (α := Nat) (fun i => xs.length - i) (fun i => (i ≤ xs.length) ∧ (xs = ys ↔ xs.drop i = ys.drop i) ∧ True) (fun i => [(0, .sh 1 (xs.map strc)), (1, .sh 1 (ys.map strc)), (5, .v (.int .i64 ((i : Nat) : Int)))]) (fun _ => rfl) (fun _ => rfl) 0 ⟨(by omega), (by exact Iff.rfl), trivial⟩ ⟨rfl, rfl, rfl, trivial⟩ ?_
    rintro i ⟨hi, he, -⟩
    have hl : xs.length = ys.length := by omega
    refine vp_seq ?_
    refine vp_seq ?_
    refine vp_region ?_
    refine vpOps_pure (x := .v (.int .i64 ((i : Nat) : Int))) (pMv rfl rfl rfl) rfl rfl rfl rfl ?_
    refine vpOps_pure (x := .sh 1 (xs.map strc)) (pMv rfl rfl rfl) rfl rfl rfl rfl ?_
    refine vpOps_pure (x := .v (.int .i64 ((xs.length : Nat) : Int))) (pLen rfl rfl (List.length_map _)) rfl rfl rfl rfl ?_
    refine vpOps_pure (x := .v (.bool (decide (((i : Nat) : Int) < ((xs.length : Nat) : Int))))) (pure_bin rfl rfl rfl rfl) rfl rfl rfl rfl ?_
    refine vpOps_nil ?_
    refine vIf rfl (fun h2 => ?_) (fun h2 => ?_)
    · skip
      refine vp_skip ?_
      refine vp_seq ?_
      refine vp_block ?_
      refine vp_seq ?_
      refine vRegD 9 ((17, .sh 1 (xs.map strc)) :: (18, .v (.int .i64 ((i : Nat) : Int))) :: (19, .rbox [.v (.string (xs.getD i default))]) :: (20, .v (.string (xs.getD i default))) :: (21, .sh 1 (ys.map strc)) :: (22, .v (.int .i64 ((i : Nat) : Int))) :: (23, .rbox [.v (.string (ys.getD i default))]) :: (24, .v (.string (ys.getD i default))) :: (25, .v (.bool (!decide ((xs.getD i default) = (ys.getD i default))))) :: []) (0 :: 0 :: 3 :: 7 :: 0 :: 0 :: 48 :: 112 :: 255 :: []) (by kernel_rfl) rfl (by kernel_rfl) (by kernel_rfl) (by kernel_rfl) (by kernel_rfl) (by kernel_rfl) ⟨
          dPure rfl (pMv rfl rfl rfl),
          dPure rfl (pMv rfl rfl rfl),
          dPure rfl (pIx (m := i) rfl rfl rfl (by first | rfl | omega) (by omega) rfl),
          dPure rfl (pure_load_rbox rfl rfl rfl),
          dPure rfl (pMv rfl rfl rfl),
          dPure rfl (pMv rfl rfl rfl),
          dPure rfl (pIx (m := i) rfl rfl rfl (by first | rfl | omega) (by omega) rfl),
          dPure rfl (pure_load_rbox rfl rfl rfl),
          dPure rfl (pure_str_ne rfl rfl rfl),
          trivial⟩ ?_
      refine vpOps_nil ?_
      refine vIfN rfl (fun h3 => ?_) (fun h3 => ?_)
      · skip
        refine vp_seq ?_
        refine vp_region ?_
        refine vpOps_pure (x := .v (.bool (false))) (pAs rfl rfl rfl) rfl rfl rfl rfl ?_
        refine vpOps_nil ?_
        refine vp_ret ?_
        exact ⟨[.v (.bool (false))], [4], (.cons (.tmp rfl rfl) .nil), rfl, ⟨(show (.v (.bool (false)) : PV) = .v (.bool (decide (xs = ys))) from (by first | exact dec_f (fun e => by subst e; omega) | exact dec_f (by rw [he, drop_eq_step hl (by omega)]; exact fun h => absurd h.1 (by assumption)) | exact dec_t (he.2 (drop_eq_end hl (by omega))))), rfl⟩⟩
      · skip
        refine vp_skip ?_
        refine vp_region ?_
        refine vpOps_pure (x := .v (.int .i64 ((i : Nat) : Int))) (pMv rfl rfl rfl) rfl rfl rfl rfl ?_
        refine vpOps_pure (x := .v (.int .i64 (((i : Nat) : Int) + 1))) (pure_add rfl rfl rfl (in64 (by omega) (by omega))) rfl rfl rfl rfl ?_
        refine vpOps_pure (x := .v (.int .i64 (((i : Nat) : Int) + 1))) (pAs rfl rfl rfl) rfl rfl rfl rfl ?_
        refine vpOps_nil ?_
        exact ⟨i + 1, (by first | omega | (dsimp only; omega)), ⟨(by omega), (by rw [he, drop_eq_step hl (by omega)]; exact ⟨fun h => h.2, fun h => ⟨by assumption, h⟩⟩), trivial⟩, ⟨rfl, rfl, rfl, trivial⟩⟩
    · skip
      refine vp_exit ?_
      refine vp_seq ?_
      refine vp_region ?_
      refine vpOps_pure (x := .v (.bool (true))) (pAs rfl rfl rfl) rfl rfl rfl rfl ?_
      refine vpOps_nil ?_
      refine vp_ret ?_
      exact ⟨[.v (.bool (true))], [4], (.cons (.tmp rfl rfl) .nil), rfl, ⟨(show (.v (.bool (true)) : PV) = .v (.bool (decide (xs = ys))) from (by first | exact dec_f (fun e => by subst e; omega) | exact dec_f (by rw [he, drop_eq_step hl (by omega)]; exact fun h => absurd h.1 (by assumption)) | exact dec_t (he.2 (drop_eq_end hl (by omega))))), rfl⟩⟩

/-- spec.l02Same -/
theorem c_l02Same {G : World → Prop} (xs : List Card) (ys : List Card) (hx : xs.length ≤ 9223372036854775807) : CallsV Tryd.prog G 28 [.sh 3 (xs.map cardc), .sh 3 (ys.map cardc)] (fun r outs => r = .v (.bool (decide (xs = ys))) ∧ outs = [.junk, .junk]) := by
  refine callsV_enter [] Tryd.func28 rfl rfl rfl ?_
  refine vp_seq ?_
  refine vp_region ?_
  refine vpOps_pure (x := .v (.bool (false))) (pAs rfl rfl rfl) rfl rfl rfl rfl ?_
  refine vpOps_nil ?_
  refine vp_seq ?_
  refine vp_seq ?_
  refine vp_region ?_
  refine vpOps_pure (x := .sh 3 (xs.map cardc)) (pMv rfl rfl rfl) rfl rfl rfl rfl ?_
  refine vpOps_pure (x := .v (.int .i64 ((xs.length : Nat) : Int))) (pLen rfl rfl (List.length_map _)) rfl rfl rfl rfl ?_
  refine vpOps_pure (x := .sh 3 (ys.map cardc)) (pMv rfl rfl rfl) rfl rfl rfl rfl ?_
  refine vpOps_pure (x := .v (.int .i64 ((ys.length : Nat) : Int))) (pLen rfl rfl (List.length_map _)) rfl rfl rfl rfl ?_
  refine vpOps_pure (x := .v (.bool (!decide (((xs.length : Nat) : Int) = ((ys.length : Nat) : Int))))) (pure_bin rfl rfl rfl rfl) rfl rfl rfl rfl ?_
  refine vpOps_nil ?_
  refine vIfN rfl (fun h1 => ?_) (fun h1 => ?_)
  · skip
    refine vp_seq ?_
    refine vp_region ?_
    refine vpOps_pure (x := .v (.bool (false))) (pAs rfl rfl rfl) rfl rfl rfl rfl ?_
    refine vpOps_nil ?_
    refine vp_ret ?_
    exact ⟨[.v (.bool (false))], [4], (.cons (.tmp rfl rfl) .nil), rfl, ⟨(show (.v (.bool (false)) : PV) = .v (.bool (decide (xs = ys))) from (by first | exact dec_f (fun e => by subst e; omega) | exact dec_f (by rw [he, drop_eq_step hl (by omega)]; exact fun h => absurd h.1 (by assumption)) | exact dec_t (he.2 (drop_eq_end hl (by omega))))), rfl⟩⟩
  · skip
    refine vp_skip ?_
    refine vp_seq ?_
    refine vp_seq ?_
    refine vp_region ?_
    refine vpOps_pure (x := .v (.int .i64 0)) (pAs rfl rfl rfl) rfl rfl rfl rfl ?_
    refine vpOps_nil ?_
    refine vp_block ?_
    refine vLoop (α := Nat) (fun i => xs.length - i) (fun i => (i ≤ xs.length) ∧ (xs = ys ↔ xs.drop i = ys.drop i) ∧ True) (fun i => [(0, .sh 3 (xs.map cardc)), (1, .sh 3 (ys.map cardc)), (5, .v (.int .i64 ((i : Nat) : Int)))]) (fun _ => rfl) (fun _ => rfl) 0 ⟨(by omega), (by exact Iff.rfl), trivial⟩ ⟨rfl, rfl, rfl, trivial⟩ ?_
    rintro i ⟨hi, he, -⟩
    have hl : xs.length = ys.length := by omega
    refine vp_seq ?_
    refine vp_seq ?_
    refine vp_region ?_
    refine vpOps_pure (x := .v (.int .i64 ((i : Nat) : Int))) (pMv rfl rfl rfl) rfl rfl rfl rfl ?_
    refine vpOps_pure (x := .sh 3 (xs.map cardc)) (pMv rfl rfl rfl) rfl rfl rfl rfl ?_
    refine vpOps_pure (x := .v (.int .i64 ((xs.length : Nat) : Int))) (pLen rfl rfl (List.length_map _)) rfl rfl rfl rfl ?_
    refine vpOps_pure (x := .v (.bool (decide (((i : Nat) : Int) < ((xs.length : Nat) : Int))))) (pure_bin rfl rfl rfl rfl) rfl rfl rfl rfl ?_
    refine vpOps_nil ?_
    refine vIf rfl (fun h2 => ?_) (fun h2 => ?_)
    · skip
      refine vp_skip ?_
      refine vp_seq ?_
      refine vp_block ?_
      refine vp_seq ?_
      refine vRegD 9 ((17, .sh 3 (xs.map cardc)) :: (18, .v (.int .i64 ((i : Nat) : Int))) :: (19, .rbox [.v (.string ((xs.getD i default).name)), .v (.int .u64 (((((xs.getD i default).notches).a : Nat) : Int))), .v (.int .u64 (((((xs.getD i default).notches).b : Nat) : Int)))]) :: (20, .agg [.v (.string ((xs.getD i default).name)), .v (.int .u64 (((((xs.getD i default).notches).a : Nat) : Int))), .v (.int .u64 (((((xs.getD i default).notches).b : Nat) : Int)))]) :: (21, .sh 3 (ys.map cardc)) :: (22, .v (.int .i64 ((i : Nat) : Int))) :: (23, .rbox [.v (.string ((ys.getD i default).name)), .v (.int .u64 (((((ys.getD i default).notches).a : Nat) : Int))), .v (.int .u64 (((((ys.getD i default).notches).b : Nat) : Int)))]) :: (24, .agg [.v (.string ((ys.getD i default).name)), .v (.int .u64 (((((ys.getD i default).notches).a : Nat) : Int))), .v (.int .u64 (((((ys.getD i default).notches).b : Nat) : Int)))]) :: (25, .v (.bool (!decide (xs.getD i default = ys.getD i default)))) :: []) (0 :: 0 :: 3 :: 7 :: 0 :: 0 :: 48 :: 112 :: 255 :: []) (by kernel_rfl) rfl (by kernel_rfl) (by kernel_rfl) (by kernel_rfl) (by kernel_rfl) (by kernel_rfl) ⟨
          dPure rfl (pMv rfl rfl rfl),
          dPure rfl (pMv rfl rfl rfl),
          dPure rfl (pIx (m := i) rfl rfl rfl (by first | rfl | omega) (by omega) rfl),
          dPure rfl (pure_load_rbox_agg rfl rfl rfl rfl rfl),
          dPure rfl (pMv rfl rfl rfl),
          dPure rfl (pMv rfl rfl rfl),
          dPure rfl (pIx (m := i) rfl rfl rfl (by first | rfl | omega) (by omega) rfl),
          dPure rfl (pure_load_rbox_agg rfl rfl rfl rfl rfl),
          dPure rfl (pNeAgg [(.string ((xs.getD i default).name)), (.int .u64 (((((xs.getD i default).notches).a : Nat) : Int))), (.int .u64 (((((xs.getD i default).notches).b : Nat) : Int)))] [(.string ((ys.getD i default).name)), (.int .u64 (((((ys.getD i default).notches).a : Nat) : Int))), (.int .u64 (((((ys.getD i default).notches).b : Nat) : Int)))] (φ := xs.getD i default = ys.getD i default) rfl rfl rfl rfl rfl rfl rfl (card_inj)),
          trivial⟩ ?_
      refine vpOps_nil ?_
      refine vIfN rfl (fun h3 => ?_) (fun h3 => ?_)
      · skip
        refine vp_seq ?_
        refine vp_region ?_
        refine vpOps_pure (x := .v (.bool (false))) (pAs rfl rfl rfl) rfl rfl rfl rfl ?_
        refine vpOps_nil ?_
        refine vp_ret ?_
        exact ⟨[.v (.bool (false))], [4], (.cons (.tmp rfl rfl) .nil), rfl, ⟨(show (.v (.bool (false)) : PV) = .v (.bool (decide (xs = ys))) from (by first | exact dec_f (fun e => by subst e; omega) | exact dec_f (by rw [he, drop_eq_step hl (by omega)]; exact fun h => absurd h.1 (by assumption)) | exact dec_t (he.2 (drop_eq_end hl (by omega))))), rfl⟩⟩
      · skip
        refine vp_skip ?_
        refine vp_region ?_
        refine vpOps_pure (x := .v (.int .i64 ((i : Nat) : Int))) (pMv rfl rfl rfl) rfl rfl rfl rfl ?_
        refine vpOps_pure (x := .v (.int .i64 (((i : Nat) : Int) + 1))) (pure_add rfl rfl rfl (in64 (by omega) (by omega))) rfl rfl rfl rfl ?_
        refine vpOps_pure (x := .v (.int .i64 (((i : Nat) : Int) + 1))) (pAs rfl rfl rfl) rfl rfl rfl rfl ?_
        refine vpOps_nil ?_
        exact ⟨i + 1, (by first | omega | (dsimp only; omega)), ⟨(by omega), (by rw [he, drop_eq_step hl (by omega)]; exact ⟨fun h => h.2, fun h => ⟨by assumption, h⟩⟩), trivial⟩, ⟨rfl, rfl, rfl, trivial⟩⟩
    · skip
      refine vp_exit ?_
      refine vp_seq ?_
      refine vp_region ?_
      refine vpOps_pure (x := .v (.bool (true))) (pAs rfl rfl rfl) rfl rfl rfl rfl ?_
      refine vpOps_nil ?_
      refine vp_ret ?_
      exact ⟨[.v (.bool (true))], [4], (.cons (.tmp rfl rfl) .nil), rfl, ⟨(show (.v (.bool (true)) : PV) = .v (.bool (decide (xs = ys))) from (by first | exact dec_f (fun e => by subst e; omega) | exact dec_f (by rw [he, drop_eq_step hl (by omega)]; exact fun h => absurd h.1 (by assumption)) | exact dec_t (he.2 (drop_eq_end hl (by omega))))), rfl⟩⟩

/-- spec.SameDeck -/
theorem c_SameDeck {G : World → Prop} (xs : List Card) (ys : List Card) (hx : xs.length ≤ 9223372036854775807) : CallsV Tryd.prog G 13 [.sh 3 (xs.map cardc), .sh 3 (ys.map cardc)] (fun r outs => r = .v (.bool (decide (xs = ys))) ∧ outs = [.junk, .junk]) := by
  refine callsV_enter [] Tryd.func13 rfl rfl rfl ?_
  refine vp_seq ?_
  refine vp_region ?_
  refine vpOps_pure (x := .v (.bool (false))) (pAs rfl rfl rfl) rfl rfl rfl rfl ?_
  refine vpOps_nil ?_
  refine vp_seq ?_
  refine vp_region ?_
  refine vpOps_pure (x := .sh 3 (xs.map cardc)) (pMv rfl rfl rfl) rfl rfl rfl rfl ?_
  refine vpOps_pure (x := .sh 3 (ys.map cardc)) (pMv rfl rfl rfl) rfl rfl rfl rfl ?_
  refine vpOps_call (gs := [⟨.tmp 5, .sh 3 (xs.map cardc), none, none⟩, ⟨.tmp 6, .sh 3 (ys.map cardc), none, none⟩]) (c_l02Same xs ys (by first | assumption | omega)) rfl rfl rfl rfl rfl trivial (by kernel_rfl) rfl rfl (gives_cons (gC rfl rfl) (gives_cons (gC rfl rfl) gives_nil)) rfl (fun _ _ _ => .inl rfl) ?_
  rintro _ _ ⟨rfl, rfl⟩
  refine vpOps_pure (x := .v (.bool (decide (xs = ys)))) (pAs rfl rfl rfl) rfl rfl rfl rfl ?_
  refine vpOps_nil ?_
  refine vp_ret ?_
  exact ⟨[.v (.bool (decide (xs = ys)))], [4], (.cons (.tmp rfl rfl) .nil), rfl, ⟨(show (.v (.bool (decide (xs = ys))) : PV) = .v (.bool (decide (xs = ys))) from rfl), rfl⟩⟩

/-- slices.Index[[]impl.Card,impl.Card] -/
theorem c_IxCardV {G : World → Prop} (xs : List Card) (n : Card) (hx : xs.length ≤ 9223372036854775807) : CallsV Tryd.prog G 51 [.sh 3 (xs.map cardc), .agg [.v (.string n.name), .v (.int .u64 ((n.notches.a : Nat) : Int)), .v (.int .u64 ((n.notches.b : Nat) : Int))]] (fun r outs => ∃ (v : Int), r = .v (.int .i64 v) ∧ outs = [.junk, .junk] ∧ (0 ≤ v ↔ n ∈ xs) ∧ (-1 ≤ v ∧ v < xs.length)) := by
  refine callsV_enter [] Tryd.func51 rfl rfl rfl ?_
  refine vp_seq ?_
  refine vp_region ?_
  refine vpOps_pure (x := .box [.v (.string n.name), .v (.int .u64 ((n.notches.a : Nat) : Int)), .v (.int .u64 ((n.notches.b : Nat) : Int))]) (pure_box rfl rfl (mvOk_flat _ rfl) rfl rfl) rfl rfl rfl rfl ?_
  refine vpOps_pure (x := .v (.int .i64 0)) (pAs rfl rfl rfl) rfl rfl rfl rfl ?_
  refine vpOps_nil ?_
  refine vp_seq ?_
  refine vp_seq ?_
  refine vp_region ?_
  refine vpOps_pure (x := .sh 3 (xs.map cardc)) (pMv rfl rfl rfl) rfl rfl rfl rfl ?_
  refine vpOps_pure (x := .v (.int .i64 ((xs.length : Nat) : Int))) (pLen rfl rfl (List.length_map _)) rfl rfl rfl rfl ?_
  refine vpOps_pure (x := .v (.int .i64 0)) (pMv rfl rfl rfl) rfl rfl rfl rfl ?_
  refine vpOps_nil ?_
  refine vp_block ?_
  refine vLoop (α := Nat) (fun i => xs.length - i) (fun i => (i ≤ xs.length) ∧ (n ∈ xs ↔ n ∈ xs.drop i) ∧ True) (fun i => [(0, .sh 3 (xs.map cardc)), (1, .agg [.v (.string n.name), .v (.int .u64 ((n.notches.a : Nat) : Int)), .v (.int .u64 ((n.notches.b : Nat) : Int))]), (3, .box [.v (.string n.name), .v (.int .u64 ((n.notches.a : Nat) : Int)), .v (.int .u64 ((n.notches.b : Nat) : Int))]), (7, .v (.int .i64 ((xs.length : Nat) : Int))), (8, .v (.int .i64 ((i : Nat) : Int)))]) (fun _ => rfl) (fun _ => rfl) 0 ⟨(by omega), (by exact Iff.rfl), trivial⟩ ⟨rfl, rfl, rfl, rfl, rfl, trivial⟩ ?_
  rintro i ⟨hi, he, -⟩
  refine vp_seq ?_
  refine vp_region ?_
  refine vpOps_pure (x := .v (.bool (decide (((i : Nat) : Int) < ((xs.length : Nat) : Int))))) (pure_bin rfl rfl rfl rfl) rfl rfl rfl rfl ?_
  refine vpOps_nil ?_
  refine vp_seq ?_
  refine vIf rfl (fun h1 => ?_) (fun h1 => ?_)
  · skip
    refine vp_skip ?_
    refine vp_seq ?_
    refine vp_block ?_
    refine vp_seq ?_
    refine vp_region ?_
    refine vpOps_pure (x := .v (.int .i64 ((i : Nat) : Int))) (pMv rfl rfl rfl) rfl rfl rfl rfl ?_
    refine vpOps_pure (x := .v (.int .i64 ((i : Nat) : Int))) (pAs rfl rfl rfl) rfl rfl rfl rfl ?_
    refine vpOps_nil ?_
    refine vp_seq ?_
    refine vRegD 6 ((11, .agg [.v (.string n.name), .v (.int .u64 ((n.notches.a : Nat) : Int)), .v (.int .u64 ((n.notches.b : Nat) : Int))]) :: (12, .sh 3 (xs.map cardc)) :: (13, .v (.int .i64 ((i : Nat) : Int))) :: (14, .rbox [.v (.string ((xs.getD i default).name)), .v (.int .u64 (((((xs.getD i default).notches).a : Nat) : Int))), .v (.int .u64 (((((xs.getD i default).notches).b : Nat) : Int)))]) :: (15, .agg [.v (.string ((xs.getD i default).name)), .v (.int .u64 (((((xs.getD i default).notches).a : Nat) : Int))), .v (.int .u64 (((((xs.getD i default).notches).b : Nat) : Int)))]) :: (16, .v (.bool (decide (n = xs.getD i default)))) :: []) (0 :: 0 :: 0 :: 6 :: 14 :: 31 :: []) (by kernel_rfl) rfl (by kernel_rfl) (by kernel_rfl) (by kernel_rfl) (by kernel_rfl) (by kernel_rfl) ⟨
        dPure rfl (pure_load_pl_agg rfl rfl rfl rfl rfl rfl rfl rfl (by simp [PV.flatL, PV.flat])),
        dPure rfl (pMv rfl rfl rfl),
        dPure rfl (pMv rfl rfl rfl),
        dPure rfl (pIx (m := i) rfl rfl rfl (by first | rfl | omega) (by omega) rfl),
        dPure rfl (pure_load_rbox_agg rfl rfl rfl rfl rfl),
        dPure rfl (pEqAgg [(.string n.name), (.int .u64 ((n.notches.a : Nat) : Int)), (.int .u64 ((n.notches.b : Nat) : Int))] [(.string ((xs.getD i default).name)), (.int .u64 (((((xs.getD i default).notches).a : Nat) : Int))), (.int .u64 (((((xs.getD i default).notches).b : Nat) : Int)))] (φ := n = xs.getD i default) rfl rfl rfl rfl rfl rfl rfl (card_inj)),
        trivial⟩ ?_
    refine vpOps_nil ?_
    refine vIf rfl (fun h2 => ?_) (fun h2 => ?_)
    · skip
      refine vp_seq ?_
      refine vp_region ?_
      refine vpOps_pure (x := .v (.int .i64 ((i : Nat) : Int))) (pMv rfl rfl rfl) rfl rfl rfl rfl ?_
      refine vpOps_pure (x := .v (.int .i64 ((i : Nat) : Int))) (pAs rfl rfl rfl) rfl rfl rfl rfl ?_
      refine vpOps_nil ?_
      refine vp_ret ?_
      exact ⟨[.v (.int .i64 ((i : Nat) : Int))], [4], (.cons (.tmp rfl rfl) .nil), rfl, ⟨((i : Nat) : Int), (show (.v (.int .i64 ((i : Nat) : Int)) : PV) = .v (.int .i64 ((i : Nat) : Int)) from rfl), rfl, (by first | exact ⟨fun _ => he.2 ((mem_drop_step (by omega)).2 (.inl (by first | assumption | exact Eq.symm (by assumption)))), fun _ => by omega⟩ | exact ⟨fun h => by omega, fun h => by rw [he, List.drop_of_length_le (by omega)] at h; exact absurd h (by simp)⟩), (by omega)⟩⟩
    · skip
      refine vp_skip ?_
      refine vp_region ?_
      refine vpOps_pure (x := .v (.int .i64 (((i : Nat) : Int) + 1))) (pure_add rfl rfl rfl (in64 (by omega) (by omega))) rfl rfl rfl rfl ?_
      refine vpOps_pure (x := .v (.int .i64 (((i : Nat) : Int) + 1))) (pMv rfl rfl rfl) rfl rfl rfl rfl ?_
      refine vpOps_nil ?_
      exact ⟨i + 1, (by first | omega | (dsimp only; omega)), ⟨(by omega), (by rw [he, mem_drop_step (by omega)]; exact ⟨fun h => h.resolve_left (fun e => by first | exact absurd e (by assumption) | exact absurd e.symm (by assumption)), .inr⟩), trivial⟩, ⟨rfl, rfl, rfl, rfl, rfl, trivial⟩⟩
  · skip
    refine vp_exit ?_
    refine vp_seq ?_
    refine vp_region ?_
    refine vpOps_pure (x := .v (.int .i64 (-1))) (pAs rfl rfl rfl) rfl rfl rfl rfl ?_
    refine vpOps_nil ?_
    refine vp_ret ?_
    exact ⟨[.v (.int .i64 (-1))], [4], (.cons (.tmp rfl rfl) .nil), rfl, ⟨-1, (show (.v (.int .i64 (-1)) : PV) = .v (.int .i64 (-1)) from rfl), rfl, (by first | exact ⟨fun _ => he.2 ((mem_drop_step (by omega)).2 (.inl (by first | assumption | exact Eq.symm (by assumption)))), fun _ => by omega⟩ | exact ⟨fun h => by omega, fun h => by rw [he, List.drop_of_length_le (by omega)] at h; exact absurd h (by simp)⟩), (by omega)⟩⟩

/-- slices.Contains[[]impl.Card,impl.Card] -/
theorem c_CnCardV {G : World → Prop} (xs : List Card) (n : Card) (hx : xs.length ≤ 9223372036854775807) : CallsV Tryd.prog G 31 [.sh 3 (xs.map cardc), .agg [.v (.string n.name), .v (.int .u64 ((n.notches.a : Nat) : Int)), .v (.int .u64 ((n.notches.b : Nat) : Int))]] (fun r outs => r = .v (.bool (decide (n ∈ xs))) ∧ outs = [.junk, .junk]) := by
  refine callsV_enter [] Tryd.func31 rfl rfl rfl ?_
  refine vp_seq ?_
  refine vp_region ?_
  refine vpOps_pure (x := .box [.v (.string n.name), .v (.int .u64 ((n.notches.a : Nat) : Int)), .v (.int .u64 ((n.notches.b : Nat) : Int))]) (pure_box rfl rfl (mvOk_flat _ rfl) rfl rfl) rfl rfl rfl rfl ?_
  refine vpOps_pure (x := .v (.bool (false))) (pAs rfl rfl rfl) rfl rfl rfl rfl ?_
  refine vpOps_nil ?_
  refine vp_seq ?_
  refine vp_region ?_
  refine vpOps_pure (x := .sh 3 (xs.map cardc)) (pMv rfl rfl rfl) rfl rfl rfl rfl ?_
  refine vpOps_pure (x := .agg [.v (.string n.name), .v (.int .u64 ((n.notches.a : Nat) : Int)), .v (.int .u64 ((n.notches.b : Nat) : Int))]) (pure_load_pl_agg rfl rfl rfl rfl rfl rfl rfl rfl (by simp [PV.flatL, PV.flat])) rfl rfl rfl rfl ?_
  refine vpOps_call (gs := [⟨.tmp 5, .sh 3 (xs.map cardc), none, none⟩, ⟨.tmp 6, .agg [.v (.string n.name), .v (.int .u64 ((n.notches.a : Nat) : Int)), .v (.int .u64 ((n.notches.b : Nat) : Int))], none, none⟩]) (c_IxCardV xs n (by first | assumption | omega)) rfl rfl rfl rfl rfl trivial (by kernel_rfl) rfl rfl (gives_cons (gC rfl rfl) (gives_cons (gC rfl rfl) gives_nil)) rfl (fun _ _ _ => .inl rfl) ?_
  rintro _ _ ⟨v_1, rfl, rfl, hv_1, hvl_1⟩
  refine vpOps_pure (x := .v (.bool (decide (0 ≤ v_1)))) (pure_bin rfl rfl rfl rfl) rfl rfl rfl rfl ?_
  refine vpOps_pure (x := .v (.bool (decide (0 ≤ v_1)))) (pAs rfl rfl rfl) rfl rfl rfl rfl ?_
  refine vpOps_nil ?_
  refine vp_ret ?_
  exact ⟨[.v (.bool (decide (0 ≤ v_1)))], [4], (.cons (.tmp rfl rfl) .nil), rfl, ⟨(show (.v (.bool (decide (0 ≤ v_1))) : PV) = .v (.bool (decide (n ∈ xs))) from (by exact dec_i hv_1)), rfl⟩⟩

/-- impl.SameCards$1 -/
theorem c_SameCards1 {G : World → Prop} (c : Card) (y : List Card) (hy : y.length ≤ 9223372036854775807) : CallsV Tryd.prog G 30 [.agg [.v (.string c.name), .v (.int .u64 ((c.notches.a : Nat) : Int)), .v (.int .u64 ((c.notches.b : Nat) : Int))], .rbox [.sh 3 (y.map cardc)]] (fun r outs => r = .v (.bool (decide (¬ c ∈ y))) ∧ outs = [.junk, .junk]) := by
  refine callsV_enter [] Tryd.func30 rfl rfl rfl ?_
  refine vp_seq ?_
  refine vp_region ?_
  refine vpOps_pure (x := .box [.v (.string c.name), .v (.int .u64 ((c.notches.a : Nat) : Int)), .v (.int .u64 ((c.notches.b : Nat) : Int))]) (pure_box rfl rfl (mvOk_flat _ rfl) rfl rfl) rfl rfl rfl rfl ?_
  refine vpOps_pure (x := .v (.bool (false))) (pAs rfl rfl rfl) rfl rfl rfl rfl ?_
  refine vpOps_nil ?_
  refine vp_seq ?_
  refine vp_region ?_
  refine vpOps_pure (x := .sh 3 (y.map cardc)) (pure_load_rbox rfl rfl rfl) rfl rfl rfl rfl ?_
  refine vpOps_pure (x := .agg [.v (.string c.name), .v (.int .u64 ((c.notches.a : Nat) : Int)), .v (.int .u64 ((c.notches.b : Nat) : Int))]) (pure_load_pl_agg rfl rfl rfl rfl rfl rfl rfl rfl (by simp [PV.flatL, PV.flat])) rfl rfl rfl rfl ?_
  refine vpOps_call (gs := [⟨.tmp 4, .sh 3 (y.map cardc), none, none⟩, ⟨.tmp 5, .agg [.v (.string c.name), .v (.int .u64 ((c.notches.a : Nat) : Int)), .v (.int .u64 ((c.notches.b : Nat) : Int))], none, none⟩]) (c_CnCardV y c (by first | assumption | omega)) rfl rfl rfl rfl rfl trivial (by kernel_rfl) rfl rfl (gives_cons (gC rfl rfl) (gives_cons (gC rfl rfl) gives_nil)) rfl (fun _ _ _ => .inl rfl) ?_
  rintro _ _ ⟨rfl, rfl⟩
  refine vpOps_pure (x := .v (.bool (!decide (c ∈ y)))) (pure_not rfl rfl) rfl rfl rfl rfl ?_
  refine vpOps_pure (x := .v (.bool (!decide (c ∈ y)))) (pAs rfl rfl rfl) rfl rfl rfl rfl ?_
  refine vpOps_nil ?_
  refine vp_ret ?_
  exact ⟨[.v (.bool (!decide (c ∈ y)))], [3], (.cons (.tmp rfl rfl) .nil), rfl, ⟨(show (.v (.bool (!decide (c ∈ y))) : PV) = .v (.bool (decide (¬ c ∈ y))) from (by simp)), rfl⟩⟩

/-- slices.IndexFunc[[]impl.Card,impl.Card] -/
theorem c_IxSame {G : World → Prop} (xs : List Card) (y : List Card) (hx : xs.length ≤ 9223372036854775807) (hy : y.length ≤ 9223372036854775807) : CallsV Tryd.prog G 49 [.sh 3 (xs.map cardc), .clo 30 [.rbox [.sh 3 (y.map cardc)]]] (fun r outs => ∃ (v : Int), r = .v (.int .i64 v) ∧ outs = [.junk, .junk] ∧ (0 ≤ v ↔ ¬ ∀ c ∈ xs, c ∈ y)) := by
  refine callsV_enter [] Tryd.func49 rfl rfl rfl ?_
  refine vp_seq ?_
  refine vp_region ?_
  refine vpOps_pure (x := .v (.int .i64 0)) (pAs rfl rfl rfl) rfl rfl rfl rfl ?_
  refine vpOps_nil ?_
  refine vp_seq ?_
  refine vp_seq ?_
  refine vp_region ?_
  refine vpOps_pure (x := .sh 3 (xs.map cardc)) (pMv rfl rfl rfl) rfl rfl rfl rfl ?_
  refine vpOps_pure (x := .v (.int .i64 ((xs.length : Nat) : Int))) (pLen rfl rfl (List.length_map _)) rfl rfl rfl rfl ?_
  refine vpOps_pure (x := .v (.int .i64 0)) (pMv rfl rfl rfl) rfl rfl rfl rfl ?_
  refine vpOps_nil ?_
  refine vp_block ?_
  refine vLoop (α := Nat) (fun i => xs.length - i) (fun i => (i ≤ xs.length) ∧ (∀ j, j < i → xs.getD j default ∈ y) ∧ True) (fun i => [(0, .sh 3 (xs.map cardc)), (1, .clo 30 [.rbox [.sh 3 (y.map cardc)]]), (7, .v (.int .i64 ((xs.length : Nat) : Int))), (8, .v (.int .i64 ((i : Nat) : Int)))]) (fun _ => rfl) (fun _ => rfl) 0 ⟨(by omega), (by intro j hj; omega), trivial⟩ ⟨rfl, rfl, rfl, rfl, trivial⟩ ?_
  rintro i ⟨hi, hA, -⟩
  refine vp_seq ?_
  refine vp_region ?_
  refine vpOps_pure (x := .v (.bool (decide (((i : Nat) : Int) < ((xs.length : Nat) : Int))))) (pure_bin rfl rfl rfl rfl) rfl rfl rfl rfl ?_
  refine vpOps_nil ?_
  refine vp_seq ?_
  refine vIf rfl (fun h1 => ?_) (fun h1 => ?_)
  · skip
    refine vp_skip ?_
    refine vp_seq ?_
    refine vp_block ?_
    refine vp_seq ?_
    refine vp_region ?_
    refine vpOps_pure (x := .v (.int .i64 ((i : Nat) : Int))) (pMv rfl rfl rfl) rfl rfl rfl rfl ?_
    refine vpOps_pure (x := .v (.int .i64 ((i : Nat) : Int))) (pAs rfl rfl rfl) rfl rfl rfl rfl ?_
    refine vpOps_nil ?_
    refine vp_seq ?_
    refine vp_region ?_
    refine vpOps_pure (x := .clo 30 [.rbox [.sh 3 (y.map cardc)]]) (pMv rfl rfl rfl) rfl rfl rfl rfl ?_
    refine vpOps_pure (x := .sh 3 (xs.map cardc)) (pMv rfl rfl rfl) rfl rfl rfl rfl ?_
    refine vpOps_pure (x := .v (.int .i64 ((i : Nat) : Int))) (pMv rfl rfl rfl) rfl rfl rfl rfl ?_
    refine vpOps_pure (x := .rbox [.v (.string ((xs.getD i default).name)), .v (.int .u64 (((((xs.getD i default).notches).a : Nat) : Int))), .v (.int .u64 (((((xs.getD i default).notches).b : Nat) : Int)))]) (pIx (m := i) rfl rfl rfl (by first | rfl | omega) (by omega) rfl) rfl rfl rfl rfl ?_
    refine vpOps_pure (x := .agg [.v (.string ((xs.getD i default).name)), .v (.int .u64 (((((xs.getD i default).notches).a : Nat) : Int))), .v (.int .u64 (((((xs.getD i default).notches).b : Nat) : Int)))]) (pure_load_rbox_agg rfl rfl rfl rfl rfl) rfl rfl rfl rfl ?_
    refine vpOps_call (gs := [⟨.tmp 15, .agg [.v (.string ((xs.getD i default).name)), .v (.int .u64 (((((xs.getD i default).notches).a : Nat) : Int))), .v (.int .u64 (((((xs.getD i default).notches).b : Nat) : Int)))], none, none⟩]) (c_SameCards1 (xs.getD i default) y (by first | assumption | omega)) rfl rfl rfl rfl rfl (mvOkL_flat _ rfl) (by kernel_rfl) rfl rfl (gives_cons (gC rfl rfl) gives_nil) rfl (fun _ _ _ => .inl rfl) ?_
    rintro _ _ ⟨rfl, rfl⟩
    refine vpOps_nil ?_
    refine vIf rfl (fun h2 => ?_) (fun h2 => ?_)
    · skip
      refine vp_seq ?_
      refine vp_region ?_
      refine vpOps_pure (x := .v (.int .i64 ((i : Nat) : Int))) (pMv rfl rfl rfl) rfl rfl rfl rfl ?_
      refine vpOps_pure (x := .v (.int .i64 ((i : Nat) : Int))) (pAs rfl rfl rfl) rfl rfl rfl rfl ?_
      refine vpOps_nil ?_
      refine vp_ret ?_
      exact ⟨[.v (.int .i64 ((i : Nat) : Int))], [4], (.cons (.tmp rfl rfl) .nil), rfl, ⟨((i : Nat) : Int), (show (.v (.int .i64 ((i : Nat) : Int)) : PV) = .v (.int .i64 ((i : Nat) : Int)) from rfl), rfl, (by first | exact ⟨fun _ h => absurd (h (xs.getD i default) (getD_mem (by omega))) (by assumption), fun _ => by omega⟩ | exact ⟨fun h => by omega, fun h => absurd (all_of_getD (fun j hj => hA j (by omega))) h⟩)⟩⟩
    · skip
      refine vp_skip ?_
      refine vp_region ?_
      refine vpOps_pure (x := .v (.int .i64 (((i : Nat) : Int) + 1))) (pure_add rfl rfl rfl (in64 (by omega) (by omega))) rfl rfl rfl rfl ?_
      refine vpOps_pure (x := .v (.int .i64 (((i : Nat) : Int) + 1))) (pMv rfl rfl rfl) rfl rfl rfl rfl ?_
      refine vpOps_nil ?_
      exact ⟨i + 1, (by first | omega | (dsimp only; omega)), ⟨(by omega), (by intro j hj; rcases Nat.lt_or_ge j i with hji | hji; exact hA j hji; rw [show j = i by omega]; first | assumption | exact Decidable.not_not.1 (by assumption)), trivial⟩, ⟨rfl, rfl, rfl, rfl, trivial⟩⟩
  · skip
    refine vp_exit ?_
    refine vp_seq ?_
    refine vp_region ?_
    refine vpOps_pure (x := .v (.int .i64 (-1))) (pAs rfl rfl rfl) rfl rfl rfl rfl ?_
    refine vpOps_nil ?_
    refine vp_ret ?_
    exact ⟨[.v (.int .i64 (-1))], [4], (.cons (.tmp rfl rfl) .nil), rfl, ⟨-1, (show (.v (.int .i64 (-1)) : PV) = .v (.int .i64 (-1)) from rfl), rfl, (by first | exact ⟨fun _ h => absurd (h (xs.getD i default) (getD_mem (by omega))) (by assumption), fun _ => by omega⟩ | exact ⟨fun h => by omega, fun h => absurd (all_of_getD (fun j hj => hA j (by omega))) h⟩)⟩⟩

end Go.Vr
/- Walks of the functions that the law reaches: what each gives, by value. -/
namespace Go.Vr
open Go Go.Proofs
set_option linter.unusedVariables false
set_option linter.unusedSimpArgs false
set_option maxRecDepth 8000

/-- slices.ContainsFunc[[]impl.Card,impl.Card] -/
theorem c_CnSame {G : World → Prop} (xs : List Card) (y : List Card) (hx : xs.length ≤ 9223372036854775807) (hy : y.length ≤ 9223372036854775807) : CallsV Tryd.prog G 29 [.sh 3 (xs.map cardc), .clo 30 [.rbox [.sh 3 (y.map cardc)]]] (fun r outs => r = .v (.bool (decide (¬ ∀ c ∈ xs, c ∈ y))) ∧ outs = [.junk, .junk]) := by
  refine callsV_enter [] Tryd.func29 rfl rfl rfl ?_
  refine vp_seq ?_
  refine vp_region ?_
  refine vpOps_pure (x := .v (.bool (false))) (pAs rfl rfl rfl) rfl rfl rfl rfl ?_
  refine vpOps_nil ?_
  refine vp_seq ?_
  refine vp_region ?_
  refine vpOps_pure (x := .sh 3 (xs.map cardc)) (pMv rfl rfl rfl) rfl rfl rfl rfl ?_
  refine vpOps_pure (x := .clo 30 [.rbox [.sh 3 (y.map cardc)]]) (pMv rfl rfl rfl) rfl rfl rfl rfl ?_
  refine vpOps_call (gs := [⟨.tmp 5, .sh 3 (xs.map cardc), none, none⟩, ⟨.tmp 6, .clo 30 [.rbox [.sh 3 (y.map cardc)]], none, none⟩]) (c_IxSame xs y (by first | assumption | omega) (by first | assumption | omega)) rfl rfl rfl rfl rfl trivial (by kernel_rfl) rfl rfl (gives_cons (gC rfl rfl) (gives_cons (gC rfl rfl) gives_nil)) rfl (fun _ _ _ => .inl rfl) ?_
  rintro _ _ ⟨v_1, rfl, rfl, hv_1⟩
  refine vpOps_pure (x := .v (.bool (decide (0 ≤ v_1)))) (pure_bin rfl rfl rfl rfl) rfl rfl rfl rfl ?_
  refine vpOps_pure (x := .v (.bool (decide (0 ≤ v_1)))) (pAs rfl rfl rfl) rfl rfl rfl rfl ?_
  refine vpOps_nil ?_
  refine vp_ret ?_
  exact ⟨[.v (.bool (decide (0 ≤ v_1)))], [4], (.cons (.tmp rfl rfl) .nil), rfl, ⟨(show (.v (.bool (decide (0 ≤ v_1))) : PV) = .v (.bool (decide (¬ ∀ c ∈ xs, c ∈ y))) from (by exact dec_i hv_1)), rfl⟩⟩

/-- impl.SameCards -/
theorem c_SameCards {G : World → Prop} (x : List Card) (y : List Card) (hw1 : ∀ c ∈ x, c.wf) (hw2 : ∀ c ∈ y, c.wf) (hn1 : x.length ≤ 9223372036854775807) (hn2 : y.length ≤ 9223372036854775807) : CallsV Tryd.prog G 14 [.sh 3 (x.map cardc), .sh 3 (y.map cardc)] (fun r outs => r = .tup [.v (.bool (decide ((deckOk x ∧ deckOk y) ∧ sameC x y))), .v (.int .i64 (if deckOk x ∧ deckOk y then 0 else 1))] ∧ outs = [.junk, .junk]) := by
  refine callsV_enter [] Tryd.func14 rfl rfl rfl ?_
  refine vp_seq ?_
  refine vp_region ?_
  refine vpOps_pure (x := .box [.sh 3 (y.map cardc)]) (pure_box rfl rfl (mvOk_flat _ rfl) rfl rfl) rfl rfl rfl rfl ?_
  refine vpOps_pure (x := .v (.bool (false))) (pAs rfl rfl rfl) rfl rfl rfl rfl ?_
  refine vpOps_pure (x := .v (.int .i64 0)) (pAs rfl rfl rfl) rfl rfl rfl rfl ?_
  refine vpOps_nil ?_
  refine vp_seq ?_
  refine vp_seq ?_
  refine vp_region ?_
  refine vpOps_pure (x := .sh 3 (x.map cardc)) (pMv rfl rfl rfl) rfl rfl rfl rfl ?_
  refine vpOps_call (gs := [⟨.tmp 6, .sh 3 (x.map cardc), none, none⟩]) (c_isDeck x (by first | assumption | omega) (by first | assumption | omega)) rfl rfl rfl rfl rfl trivial (by kernel_rfl) rfl rfl (gives_cons (gC rfl rfl) gives_nil) rfl (fun _ _ _ => .inl rfl) ?_
  rintro _ _ ⟨rfl, rfl⟩
  refine vpOps_pure (x := .v (.bool (!decide (deckOk x)))) (pure_not rfl rfl) rfl rfl rfl rfl ?_
  refine vpOps_pure (x := .v (.bool (!decide (deckOk x)))) (pMv rfl rfl rfl) rfl rfl rfl rfl ?_
  by_cases h1 : deckOk x
  · skip
    refine vRun rfl rfl rfl (not_of_t (decide_eq_true h1)) rfl rfl rfl ?_
    refine vpOps_pure (x := .sh 3 (y.map cardc)) (pure_load_pl rfl rfl rfl rfl rfl rfl rfl trivial rfl) rfl rfl rfl rfl ?_
    refine vRun rfl rfl rfl (not_of_t (decide_eq_true h1)) rfl rfl rfl ?_
    refine vpOps_call (gs := [⟨.tmp 10, .sh 3 (y.map cardc), none, none⟩]) (c_isDeck y (by first | assumption | omega) (by first | assumption | omega)) rfl rfl rfl rfl rfl trivial (by kernel_rfl) rfl rfl (gives_cons (gC rfl rfl) gives_nil) rfl (fun _ _ _ => .inl rfl) ?_
    rintro _ _ ⟨rfl, rfl⟩
    refine vRun rfl rfl rfl (not_of_t (decide_eq_true h1)) rfl rfl rfl ?_
    refine vpOps_pure (x := .v (.bool (!decide (deckOk y)))) (pure_not rfl rfl) rfl rfl rfl rfl ?_
    refine vpOps_pure (x := .v (.bool (!decide (deckOk y)))) (pPf rfl rfl (not_of_t (decide_eq_true h1)) rfl rfl) rfl rfl rfl rfl ?_
    refine vpOps_nil ?_
    refine vIfN rfl (fun h2 => ?_) (fun h2 => ?_)
    · skip
      refine vp_seq ?_
      refine vp_region ?_
      refine vpOps_pure (x := .v (.bool (false))) (pAs rfl rfl rfl) rfl rfl rfl rfl ?_
      refine vpOps_pure (x := .v (.int .i64 1)) (pAs rfl rfl rfl) rfl rfl rfl rfl ?_
      refine vpOps_nil ?_
      refine vp_ret ?_
      exact ⟨[.v (.bool (false)), .v (.int .i64 1)], [4, 5], (.cons (.tmp rfl rfl) (.cons (.tmp rfl rfl) .nil)), rfl, ⟨(show (.tup [.v (.bool (false)), .v (.int .i64 1)] : PV) = .tup [.v (.bool (decide ((deckOk x ∧ deckOk y) ∧ sameC x y))), .v (.int .i64 (if deckOk x ∧ deckOk y then 0 else 1))] from (by first | (rw [if_pos ⟨by assumption, by assumption⟩, ← same_pv_t (by assumption) (by assumption) (by assumption)]; done) | (rw [if_pos ⟨by assumption, by assumption⟩, ← same_pv_f (by assumption)]; done) | (simp_all; done))), rfl⟩⟩
    · skip
      refine vp_skip ?_
      refine vp_seq ?_
      refine vp_region ?_
      refine vpOps_pure (x := .sh 3 (x.map cardc)) (pMv rfl rfl rfl) rfl rfl rfl rfl ?_
      refine vpOps_pure (x := .v (.int .i64 ((x.length : Nat) : Int))) (pLen rfl rfl (List.length_map _)) rfl rfl rfl rfl ?_
      refine vpOps_pure (x := .sh 3 (y.map cardc)) (pure_load_pl rfl rfl rfl rfl rfl rfl rfl trivial rfl) rfl rfl rfl rfl ?_
      refine vpOps_pure (x := .v (.int .i64 ((y.length : Nat) : Int))) (pLen rfl rfl (List.length_map _)) rfl rfl rfl rfl ?_
      refine vpOps_pure (x := .v (.bool (decide (((x.length : Nat) : Int) = ((y.length : Nat) : Int))))) (pure_bin rfl rfl rfl rfl) rfl rfl rfl rfl ?_
      refine vpOps_pure (x := .v (.bool (decide (((x.length : Nat) : Int) = ((y.length : Nat) : Int))))) (pMv rfl rfl rfl) rfl rfl rfl rfl ?_
      by_cases h3 : ((x.length : Nat) : Int) = ((y.length : Nat) : Int)
      · skip
        refine vRun rfl rfl rfl (decide_eq_true h3) rfl rfl rfl ?_
        refine vpOps_pure (x := .sh 3 (x.map cardc)) (pMv rfl rfl rfl) rfl rfl rfl rfl ?_
        refine vRun rfl rfl rfl (decide_eq_true h3) rfl rfl rfl ?_
        refine vpOps_ghost (ghost_freeze (k := 3) rfl rfl rfl) ?_
        refine vpOps_pure (x := .clo 30 [.rbox [.sh 3 (y.map cardc)]]) (pMkF rfl rfl rfl) rfl rfl rfl rfl ?_
        refine vRun rfl rfl rfl (decide_eq_true h3) rfl rfl rfl ?_
        refine vpOps_call (gs := [⟨.tmp 20, .sh 3 (x.map cardc), none, none⟩, ⟨.tmp 21, .clo 30 [.rbox [.sh 3 (y.map cardc)]], none, none⟩]) (c_CnSame x y (by first | assumption | omega) (by first | assumption | omega)) rfl rfl rfl rfl rfl trivial (by kernel_rfl) rfl rfl (gives_cons (gC rfl rfl) (gives_cons (gC rfl rfl) gives_nil)) rfl (fun _ _ _ => .inl rfl) ?_
        rintro _ _ ⟨rfl, rfl⟩
        refine vRun rfl rfl rfl (decide_eq_true h3) rfl rfl rfl ?_
        refine vpOps_pure (x := .v (.bool (!decide (¬ ∀ c ∈ x, c ∈ y)))) (pure_not rfl rfl) rfl rfl rfl rfl ?_
        refine vpOps_pure (x := .v (.bool (!decide (¬ ∀ c ∈ x, c ∈ y)))) (pPt rfl rfl (decide_eq_true h3) rfl rfl) rfl rfl rfl rfl ?_
        refine vpOps_pure (x := .v (.bool (!decide (¬ ∀ c ∈ x, c ∈ y)))) (pAs rfl rfl rfl) rfl rfl rfl rfl ?_
        refine vpOps_pure (x := .v (.int .i64 0)) (pAs rfl rfl rfl) rfl rfl rfl rfl ?_
        refine vpOps_nil ?_
        refine vp_ret ?_
        exact ⟨[.v (.bool (!decide (¬ ∀ c ∈ x, c ∈ y))), .v (.int .i64 0)], [4, 5], (.cons (.tmp rfl rfl) (.cons (.tmp rfl rfl) .nil)), rfl, ⟨(show (.tup [.v (.bool (!decide (¬ ∀ c ∈ x, c ∈ y))), .v (.int .i64 0)] : PV) = .tup [.v (.bool (decide ((deckOk x ∧ deckOk y) ∧ sameC x y))), .v (.int .i64 (if deckOk x ∧ deckOk y then 0 else 1))] from (by first | (rw [if_pos ⟨by assumption, by assumption⟩, ← same_pv_t (by assumption) (by assumption) (by assumption)]; done) | (rw [if_pos ⟨by assumption, by assumption⟩, ← same_pv_f (by assumption)]; done) | (simp_all; done))), rfl⟩⟩
      · skip
        refine vPass rfl rfl rfl (decide_eq_false h3) rfl rfl rfl ?_
        refine vPass rfl rfl rfl (decide_eq_false h3) rfl rfl rfl ?_
        refine vPass rfl rfl rfl (decide_eq_false h3) rfl rfl rfl ?_
        refine vPass rfl rfl rfl (decide_eq_false h3) rfl rfl rfl ?_
        refine vpOps_pure (x := .v (.bool (false))) (pPf rfl rfl (decide_eq_false h3) rfl rfl) rfl rfl rfl rfl ?_
        refine vpOps_pure (x := .v (.bool (false))) (pAs rfl rfl rfl) rfl rfl rfl rfl ?_
        refine vpOps_pure (x := .v (.int .i64 0)) (pAs rfl rfl rfl) rfl rfl rfl rfl ?_
        refine vpOps_nil ?_
        refine vp_ret ?_
        exact ⟨[.v (.bool (false)), .v (.int .i64 0)], [4, 5], (.cons (.tmp rfl rfl) (.cons (.tmp rfl rfl) .nil)), rfl, ⟨(show (.tup [.v (.bool (false)), .v (.int .i64 0)] : PV) = .tup [.v (.bool (decide ((deckOk x ∧ deckOk y) ∧ sameC x y))), .v (.int .i64 (if deckOk x ∧ deckOk y then 0 else 1))] from (by first | (rw [if_pos ⟨by assumption, by assumption⟩, ← same_pv_t (by assumption) (by assumption) (by assumption)]; done) | (rw [if_pos ⟨by assumption, by assumption⟩, ← same_pv_f (by assumption)]; done) | (simp_all; done))), rfl⟩⟩
  · skip
    refine vPass rfl rfl rfl (not_of_f (decide_eq_false h1)) rfl rfl rfl ?_
    refine vPass rfl rfl rfl (not_of_f (decide_eq_false h1)) rfl rfl rfl ?_
    refine vPass rfl rfl rfl (not_of_f (decide_eq_false h1)) rfl rfl rfl ?_
    refine vpOps_pure (x := .v (.bool (true))) (pPt rfl rfl (not_of_f (decide_eq_false h1)) rfl rfl) rfl rfl rfl rfl ?_
    refine vpOps_nil ?_
    refine vIfT rfl rfl ?_
    refine vp_seq ?_
    refine vp_region ?_
    refine vpOps_pure (x := .v (.bool (false))) (pAs rfl rfl rfl) rfl rfl rfl rfl ?_
    refine vpOps_pure (x := .v (.int .i64 1)) (pAs rfl rfl rfl) rfl rfl rfl rfl ?_
    refine vpOps_nil ?_
    refine vp_ret ?_
    exact ⟨[.v (.bool (false)), .v (.int .i64 1)], [4, 5], (.cons (.tmp rfl rfl) (.cons (.tmp rfl rfl) .nil)), rfl, ⟨(show (.tup [.v (.bool (false)), .v (.int .i64 1)] : PV) = .tup [.v (.bool (decide ((deckOk x ∧ deckOk y) ∧ sameC x y))), .v (.int .i64 (if deckOk x ∧ deckOk y then 0 else 1))] from (by first | (rw [if_pos ⟨by assumption, by assumption⟩, ← same_pv_t (by assumption) (by assumption) (by assumption)]; done) | (rw [if_pos ⟨by assumption, by assumption⟩, ← same_pv_f (by assumption)]; done) | (simp_all; done))), rfl⟩⟩

end Go.Vr
