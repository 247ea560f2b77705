/- Walks through functions that the law reaches, and what these compute in plain terms; a part of the proof of the statement in YtdanahjfpilfhaaDoorClose. -/
import Derived.Test.YtdanahjfpilfhaaDoorPart2
/- Walks of the functions that the law reaches: what each gives, by value. -/
namespace Go.Vr
open Go Go.Proofs
set_option linter.unusedVariables false
set_option linter.unusedSimpArgs false
set_option maxRecDepth 8000

/-- spec.l02Drawn -/
theorem c_sDeck {G : World → Prop} (code : List Int) (at_ : Int) (sd : Nat) (list : List Field) (hc : ∀ x ∈ code, 0 ≤ x ∧ x ≤ 255) (hcl : code.length ≤ 1048576) (hat : 0 ≤ at_ ∧ at_ ≤ 1152921504606844976) (hsd : sd < 18446744073709551616) (hl : list.length ≤ 12) (hf : ∀ i, i < list.length → fieldOk (list.getD i default)) : CallsV Tryd.prog G 17 [.box [.sh 1 (code.map u8c), .v (.int .i64 at_), .v (.int .u64 ((sd : Nat) : Int))], .sh 4 (list.map fieldc)] (fun r outs => ∃ (deck : List Card) (at2 : Int) (sd2 : Nat), r = .own 3 (deck.map cardc) ∧ outs = [.box [.sh 1 (code.map u8c), .v (.int .i64 at2), .v (.int .u64 ((sd2 : Nat) : Int))], .junk] ∧ (DeckTo deck) ∧ (deck.length ≤ 8) ∧ (at_ ≤ at2 ∧ at2 ≤ at_ + 1000) ∧ (sd2 < 18446744073709551616)) := by
  refine callsV_enter [0] Tryd.func17 rfl rfl rfl ?_
  refine vp_seq ?_
  refine vp_region ?_
  refine vpOps_pure (x := .v (.slice none 0 0)) (pAs rfl rfl rfl) rfl rfl rfl rfl ?_
  refine vpOps_nil ?_
  refine vp_seq ?_
  refine vp_region ?_
  refine vpOps_pure (x := .own 3 []) (pBs (cs := []) rfl rfl rfl rfl rfl rfl rfl) rfl rfl rfl rfl ?_
  refine vpOps_assign (x := .own 3 []) rfl rfl rfl rfl rfl rfl rfl ?_
  refine vpOps_nil ?_
  refine vp_seq ?_
  refine vp_seq ?_
  refine vp_region ?_
  refine vpOps_pure (x := .lv 0 []) (pure_move_lv rfl) rfl rfl rfl rfl ?_
  refine vpOps_call (gs := [⟨.tmp 10, .box [.sh 1 (code.map u8c), .v (.int .i64 at_), .v (.int .u64 ((sd : Nat) : Int))], some (0, id), none⟩, ⟨.const (.int .i64 9), .v (.int .i64 9), none, none⟩]) (c_pick code at_ sd 9 (by first | assumption | omega | exact Mask.ok.wf (by assumption) | exact hf _ (by omega) | exact (codeM_ok (hf _ (by omega)) (by omega)).wf | exact (bitM_ok (by omega)).wf) (by first | assumption | omega | exact Mask.ok.wf (by assumption) | exact hf _ (by omega) | exact (codeM_ok (hf _ (by omega)) (by omega)).wf | exact (bitM_ok (by omega)).wf) (by first | assumption | omega | exact Mask.ok.wf (by assumption) | exact hf _ (by omega) | exact (codeM_ok (hf _ (by omega)) (by omega)).wf | exact (bitM_ok (by omega)).wf) (by first | assumption | omega | exact Mask.ok.wf (by assumption) | exact hf _ (by omega) | exact (codeM_ok (hf _ (by omega)) (by omega)).wf | exact (bitM_ok (by omega)).wf) (by first | assumption | omega | exact Mask.ok.wf (by assumption) | exact hf _ (by omega) | exact (codeM_ok (hf _ (by omega)) (by omega)).wf | exact (bitM_ok (by omega)).wf)) rfl rfl rfl rfl rfl trivial (by kernel_rfl) rfl rfl (gives_cons (give_lendLv rfl rfl rfl) (gives_cons (gC rfl rfl) gives_nil)) rfl (fun _ _ _ => .inl rfl) ?_
  rintro _ _ ⟨x_1, at2_1, sd2_1, rfl, rfl, hx_1, ha_1, hs_1⟩
  refine vpOps_pure (x := .v (.int .i64 x_1)) (pAs rfl rfl rfl) rfl rfl rfl rfl ?_
  refine vpOps_nil ?_
  refine vp_block ?_
  refine vLoop (α := List Card × Int × Int × Nat) (fun (deck, k, at1, sd1) => k.toNat) (fun (deck, k, at1, sd1) => (DeckTo deck) ∧ (0 ≤ k ∧ deck.length + k ≤ 8) ∧ (at_ ≤ at1 ∧ at1 ≤ at_ + 900 - 100 * k) ∧ (sd1 < 18446744073709551616) ∧ True) (fun (deck, k, at1, sd1) => [(0, .box [.sh 1 (code.map u8c), .v (.int .i64 at1), .v (.int .u64 ((sd1 : Nat) : Int))]), (1, .sh 4 (list.map fieldc)), (4, .v (.slice none 0 0)), (5, .own 3 (deck.map cardc)), (6, .v (.int .i64 k))]) (fun ⟨_, _, _, _⟩ => rfl) (fun ⟨_, _, _, _⟩ => rfl) ([], x_1, at2_1, sd2_1) ⟨(by exact deckTo_nil), (by simp only [List.length_append, List.length_cons, List.length_nil]; omega), (by omega), (by assumption), trivial⟩ ⟨rfl, rfl, rfl, rfl, rfl, trivial⟩ ?_
  rintro ⟨deck, k, at1, sd1⟩ ⟨hD, hk, ha1, hs1, -⟩
  refine vp_seq ?_
  refine vp_seq ?_
  refine vp_region ?_
  refine vpOps_pure (x := .v (.int .i64 k)) (pMv rfl rfl rfl) rfl rfl rfl rfl ?_
  refine vpOps_pure (x := .v (.bool (decide (0 < k)))) (pure_bin rfl rfl rfl rfl) rfl rfl rfl rfl ?_
  refine vpOps_nil ?_
  refine vIf rfl (fun h1 => ?_) (fun h1 => ?_)
  · skip
    refine vp_skip ?_
    refine vp_seq ?_
    refine vp_block ?_
    refine vp_seq ?_
    refine vp_region ?_
    refine vpOps_pure (x := .lv 5 []) (pure_move_lv rfl) rfl rfl rfl rfl ?_
    refine vpOps_pure (x := .v (.int .i64 ((deck.length : Nat) : Int))) (pLenR rfl rfl rfl rfl rfl (List.length_map _)) rfl rfl rfl rfl ?_
    refine vpOps_call (gs := [⟨.tmp 17, .v (.int .i64 ((deck.length : Nat) : Int)), none, none⟩]) (c_sNamed ((deck.length : Nat) : Int) (by first | assumption | omega | exact Mask.ok.wf (by assumption) | exact hf _ (by omega) | exact (codeM_ok (hf _ (by omega)) (by omega)).wf | exact (bitM_ok (by omega)).wf)) rfl rfl rfl rfl rfl trivial (by kernel_rfl) rfl rfl (gives_cons (gC rfl rfl) gives_nil) rfl (fun _ _ _ => .inl rfl) ?_
    rintro _ _ ⟨rfl, rfl⟩
    refine vpOps_pure (x := .agg [.v (.string (namedAt deck.length)), .v (.int .u64 0), .v (.int .u64 0)]) (pure_build_st rfl (flatsB_ok rfl) rfl) rfl rfl rfl rfl ?_
    refine vpOps_pure (x := .box [.v (.string (ByteArray.mk #[])), .v (.int .u64 0), .v (.int .u64 0)]) (pure_alloc rfl) rfl rfl rfl rfl ?_
    refine vStB (x := .agg [.v (.string (namedAt deck.length)), .v (.int .u64 0), .v (.int .u64 0)]) (row' := [.v (.string (namedAt deck.length)), .v (.int .u64 0), .v (.int .u64 0)]) rfl rfl rfl rfl rfl rfl rfl rfl rfl rfl rfl rfl ?_
    refine vpOps_nil ?_
    refine vp_seq ?_
    refine vp_seq ?_
    refine vp_region ?_
    refine vpOps_pure (x := .v (.int .i64 0)) (pAs rfl rfl rfl) rfl rfl rfl rfl ?_
    refine vpOps_nil ?_
    refine vp_block ?_
    refine vLoop (α := Nat × Mask × Int × Nat) (fun (i, m, at3, sd3) => list.length - i) (fun (i, m, at3, sd3) => (i ≤ list.length) ∧ (m.ok) ∧ (at1 ≤ at3 ∧ at3 ≤ at1 + 6 * i) ∧ (sd3 < 18446744073709551616) ∧ True) (fun (i, m, at3, sd3) => [(0, .box [.sh 1 (code.map u8c), .v (.int .i64 at3), .v (.int .u64 ((sd3 : Nat) : Int))]), (1, .sh 4 (list.map fieldc)), (4, .v (.slice none 0 0)), (5, .own 3 (deck.map cardc)), (6, .v (.int .i64 k)), (7, .box [.v (.string (namedAt deck.length)), .v (.int .u64 ((m.a : Nat) : Int)), .v (.int .u64 ((m.b : Nat) : Int))]), (8, .v (.int .i64 ((i : Nat) : Int)))]) (fun ⟨_, _, _, _⟩ => rfl) (fun ⟨_, _, _, _⟩ => rfl) (0, (⟨0, 0⟩ : Mask), at1, sd1) ⟨(by omega), (by exact noM_ok), (by omega), (by assumption), trivial⟩ ⟨rfl, rfl, rfl, rfl, rfl, rfl, rfl, trivial⟩ ?_
    rintro ⟨i, m, at3, sd3⟩ ⟨hi, hm, ha3, hs3, -⟩
    have hmw := hm.wf
    have hmo : i < list.length → 0 ≤ mostF (list.getD i default) ∧ mostF (list.getD i default) ≤ 9999 := fun h => mostF_num (hf i h)
    refine vp_seq ?_
    refine vp_seq ?_
    refine vp_region ?_
    refine vpOps_pure (x := .v (.int .i64 ((i : Nat) : Int))) (pMv rfl rfl rfl) rfl rfl rfl rfl ?_
    refine vpOps_pure (x := .sh 4 (list.map fieldc)) (pMv rfl rfl rfl) rfl rfl rfl rfl ?_
    refine vpOps_pure (x := .v (.int .i64 ((list.length : Nat) : Int))) (pLen rfl rfl (List.length_map _)) rfl rfl rfl rfl ?_
    refine vpOps_pure (x := .v (.bool (decide (((i : Nat) : Int) < ((list.length : Nat) : Int))))) (pure_bin rfl rfl rfl rfl) rfl rfl rfl rfl ?_
    refine vpOps_nil ?_
    refine vIf rfl (fun h2 => ?_) (fun h2 => ?_)
    · skip
      refine vp_skip ?_
      refine vp_seq ?_
      refine vp_block ?_
      refine vp_seq ?_
      refine vp_region ?_
      refine vpOps_pure (x := .lv 0 []) (pure_move_lv rfl) rfl rfl rfl rfl ?_
      refine vpOps_call (gs := [⟨.tmp 26, .box [.sh 1 (code.map u8c), .v (.int .i64 at3), .v (.int .u64 ((sd3 : Nat) : Int))], some (0, id), none⟩, ⟨.const (.int .i64 8), .v (.int .i64 8), none, none⟩]) (c_one code at3 sd3 8 (by first | assumption | omega | exact Mask.ok.wf (by assumption) | exact hf _ (by omega) | exact (codeM_ok (hf _ (by omega)) (by omega)).wf | exact (bitM_ok (by omega)).wf) (by first | assumption | omega | exact Mask.ok.wf (by assumption) | exact hf _ (by omega) | exact (codeM_ok (hf _ (by omega)) (by omega)).wf | exact (bitM_ok (by omega)).wf) (by first | assumption | omega | exact Mask.ok.wf (by assumption) | exact hf _ (by omega) | exact (codeM_ok (hf _ (by omega)) (by omega)).wf | exact (bitM_ok (by omega)).wf) (by first | assumption | omega | exact Mask.ok.wf (by assumption) | exact hf _ (by omega) | exact (codeM_ok (hf _ (by omega)) (by omega)).wf | exact (bitM_ok (by omega)).wf) (by first | assumption | omega | exact Mask.ok.wf (by assumption) | exact hf _ (by omega) | exact (codeM_ok (hf _ (by omega)) (by omega)).wf | exact (bitM_ok (by omega)).wf)) rfl rfl rfl rfl rfl trivial (by kernel_rfl) rfl rfl (gives_cons (give_lendLv rfl rfl rfl) (gives_cons (gC rfl rfl) gives_nil)) rfl (fun _ _ _ => .inl rfl) ?_
      rintro _ _ ⟨b_3, at2_3, sd2_3, rfl, rfl, ha_3, hs_3⟩
      refine vpOps_pure (x := .v (.bool (!b_3))) (pure_not rfl rfl) rfl rfl rfl rfl ?_
      refine vpOps_nil ?_
      refine vIfBN rfl (fun h3 => ?_) (fun h3 => ?_)
      · skip
        refine vRegP 15 ((29, .pl 7 [⟨0, 1, 0⟩]) :: (30, .agg [.v (.int .u64 ((m.a : Nat) : Int)), .v (.int .u64 ((m.b : Nat) : Int))]) :: (31, .sh 4 (list.map fieldc)) :: (32, .v (.int .i64 ((i : Nat) : Int))) :: (33, .rbox [.v (.string ((list.getD i default).name)), .v (.int .i8 ((list.getD i default).kind)), .v (.int .i16 ((list.getD i default).start)), .v (.int .i16 ((list.getD i default).size))]) :: (34, .lv 0 []) :: (35, .sh 4 (list.map fieldc)) :: (36, .v (.int .i64 ((i : Nat) : Int))) :: (37, .rbox [.v (.string ((list.getD i default).name)), .v (.int .i8 ((list.getD i default).kind)), .v (.int .i16 ((list.getD i default).start)), .v (.int .i16 ((list.getD i default).size))]) :: (38, .v (.int .i64 (mostF (list.getD i default)))) :: (39, .v (.int .i64 ((mostF (list.getD i default)) + 1))) :: (40, .junk) :: (41, .junk) :: (42, .junk) :: (43, .junk) :: []) (0 :: 1 :: 0 :: 0 :: 12 :: 0 :: 0 :: 0 :: 192 :: 448 :: 960 :: 2016 :: 4092 :: 8191 :: 16383 :: 32767 :: []) [11] (by kernel_rfl) (by kernel_rfl) ?_
        refine phCall 11 [false, false, false, false, false, false, false, false, false, false, false, true, true, true, true] rfl rfl rfl (by kernel_rfl) (by kernel_rfl) rfl (by kernel_rfl) (by kernel_rfl) ⟨
            dPure rfl (pure_field_ref rfl rfl rfl rfl),
            dPure rfl (pure_load_pl_agg rfl rfl rfl rfl rfl rfl rfl rfl (by simp [PV.flatL, PV.flat])),
            dPure rfl (pMv rfl rfl rfl),
            dPure rfl (pMv rfl rfl rfl),
            dPure rfl (pIx (m := i) rfl rfl rfl (by first | rfl | omega) (by omega) rfl),
            dPure rfl (pure_move_lv rfl),
            dPure rfl (pMv rfl rfl rfl),
            dPure rfl (pMv rfl rfl rfl),
            dPure rfl (pIx (m := i) rfl rfl rfl (by first | rfl | omega) (by omega) rfl),
            dPure rfl (pure_call (gs := [⟨.tmp 37, .rbox [.v (.string ((list.getD i default).name)), .v (.int .i8 ((list.getD i default).kind)), .v (.int .i16 ((list.getD i default).start)), .v (.int .i16 ((list.getD i default).size))], none, none⟩]) (c_sMost (list.getD i default) (by first | assumption | omega | exact Mask.ok.wf (by assumption) | exact hf _ (by omega) | exact (codeM_ok (hf _ (by omega)) (by omega)).wf | exact (bitM_ok (by omega)).wf)) rfl rfl trivial (by kernel_rfl) rfl rfl (gives_cons (gC rfl rfl) gives_nil) rfl (fun _ _ h => h.1) trivial),
            dPure rfl (pure_add rfl rfl rfl (in64 (by omega) (by omega))),
            trivial,
            trivial,
            trivial,
            trivial,
            trivial⟩ (gs := [⟨.tmp 34, .box [.sh 1 (code.map u8c), .v (.int .i64 at2_3), .v (.int .u64 ((sd2_3 : Nat) : Int))], some (0, id), none⟩, ⟨.tmp 39, .v (.int .i64 ((mostF (list.getD i default)) + 1)), none, none⟩]) (c_pick code at2_3 sd2_3 ((mostF (list.getD i default)) + 1) (by first | assumption | omega | exact Mask.ok.wf (by assumption) | exact hf _ (by omega) | exact (codeM_ok (hf _ (by omega)) (by omega)).wf | exact (bitM_ok (by omega)).wf) (by first | assumption | omega | exact Mask.ok.wf (by assumption) | exact hf _ (by omega) | exact (codeM_ok (hf _ (by omega)) (by omega)).wf | exact (bitM_ok (by omega)).wf) (by first | assumption | omega | exact Mask.ok.wf (by assumption) | exact hf _ (by omega) | exact (codeM_ok (hf _ (by omega)) (by omega)).wf | exact (bitM_ok (by omega)).wf) (by first | assumption | omega | exact Mask.ok.wf (by assumption) | exact hf _ (by omega) | exact (codeM_ok (hf _ (by omega)) (by omega)).wf | exact (bitM_ok (by omega)).wf) (by first | assumption | omega | exact Mask.ok.wf (by assumption) | exact hf _ (by omega) | exact (codeM_ok (hf _ (by omega)) (by omega)).wf | exact (bitM_ok (by omega)).wf)) rfl (by kernel_rfl) rfl (gives_cons (give_lendLv rfl rfl rfl) (gives_cons (gC rfl rfl) gives_nil)) ⟨trivial, trivial⟩ rfl (fun _ _ _ => .inl rfl) ?_
        rintro _ _ ⟨x_4, at2_4, sd2_4, rfl, rfl, hx_4, ha_4, hs_4⟩
        refine ⟨(29, .pl 7 [⟨0, 1, 0⟩]) :: (30, .agg [.v (.int .u64 ((m.a : Nat) : Int)), .v (.int .u64 ((m.b : Nat) : Int))]) :: (31, .sh 4 (list.map fieldc)) :: (32, .v (.int .i64 ((i : Nat) : Int))) :: (33, .rbox [.v (.string ((list.getD i default).name)), .v (.int .i8 ((list.getD i default).kind)), .v (.int .i16 ((list.getD i default).start)), .v (.int .i16 ((list.getD i default).size))]) :: (34, .junk) :: (35, .sh 4 (list.map fieldc)) :: (36, .v (.int .i64 ((i : Nat) : Int))) :: (37, .rbox [.v (.string ((list.getD i default).name)), .v (.int .i8 ((list.getD i default).kind)), .v (.int .i16 ((list.getD i default).start)), .v (.int .i16 ((list.getD i default).size))]) :: (38, .v (.int .i64 (mostF (list.getD i default)))) :: (39, .v (.int .i64 ((mostF (list.getD i default)) + 1))) :: (40, .v (.int .i64 x_4)) :: (41, .agg [.v (.int .u64 ((((codeM (list.getD i default) x_4).a : Nat) : Int))), .v (.int .u64 ((((codeM (list.getD i default) x_4).b : Nat) : Int)))]) :: (42, .agg [.v (.int .u64 ((((joinM m (codeM (list.getD i default) x_4)).a : Nat) : Int))), .v (.int .u64 ((((joinM m (codeM (list.getD i default) x_4)).b : Nat) : Int)))]) :: (43, .pl 7 [⟨0, 1, 0⟩]) :: [], [(0, .box [.sh 1 (code.map u8c), .v (.int .i64 at2_4), .v (.int .u64 ((sd2_4 : Nat) : Int))])], rfl, rfl, rfl, rfl, rfl, rfl, rfl, (by kernel_rfl), (by kernel_rfl), ?_⟩
        refine phLast [false, false, false, false, false, true, true, true, true, true, true, true, false, false, false] (by kernel_rfl) rfl (by kernel_rfl) (by kernel_rfl) ⟨
            dPure rfl (pure_field_ref rfl rfl rfl rfl),
            dPure rfl (pure_load_pl_agg rfl rfl rfl rfl rfl rfl rfl rfl (by simp [PV.flatL, PV.flat])),
            dPure rfl (pMv rfl rfl rfl),
            dPure rfl (pMv rfl rfl rfl),
            dPure rfl (pIx (m := i) rfl rfl rfl (by first | rfl | omega) (by omega) rfl),
            trivial,
            trivial,
            trivial,
            trivial,
            trivial,
            trivial,
            trivial,
            dPure rfl (pure_call (gs := [⟨.tmp 33, .rbox [.v (.string ((list.getD i default).name)), .v (.int .i8 ((list.getD i default).kind)), .v (.int .i16 ((list.getD i default).start)), .v (.int .i16 ((list.getD i default).size))], none, none⟩, ⟨.tmp 40, .v (.int .i64 x_4), none, none⟩]) (c_sCode (list.getD i default) x_4 (by first | assumption | omega | exact Mask.ok.wf (by assumption) | exact hf _ (by omega) | exact (codeM_ok (hf _ (by omega)) (by omega)).wf | exact (bitM_ok (by omega)).wf) (by first | assumption | omega | exact Mask.ok.wf (by assumption) | exact hf _ (by omega) | exact (codeM_ok (hf _ (by omega)) (by omega)).wf | exact (bitM_ok (by omega)).wf)) rfl rfl trivial (by kernel_rfl) rfl rfl (gives_cons (gC rfl rfl) (gives_cons (gC rfl rfl) gives_nil)) rfl (fun _ _ h => h.1) ⟨trivial, ⟨trivial, trivial⟩⟩),
            dPure rfl (pure_call (gs := [⟨.tmp 30, .agg [.v (.int .u64 ((m.a : Nat) : Int)), .v (.int .u64 ((m.b : Nat) : Int))], none, none⟩, ⟨.tmp 41, .agg [.v (.int .u64 ((((codeM (list.getD i default) x_4).a : Nat) : Int))), .v (.int .u64 ((((codeM (list.getD i default) x_4).b : Nat) : Int)))], none, none⟩]) (c_sJoin m (codeM (list.getD i default) x_4) (by first | assumption | omega | exact Mask.ok.wf (by assumption) | exact hf _ (by omega) | exact (codeM_ok (hf _ (by omega)) (by omega)).wf | exact (bitM_ok (by omega)).wf) (by first | assumption | omega | exact Mask.ok.wf (by assumption) | exact hf _ (by omega) | exact (codeM_ok (hf _ (by omega)) (by omega)).wf | exact (bitM_ok (by omega)).wf)) rfl rfl trivial (by kernel_rfl) rfl rfl (gives_cons (gC rfl rfl) (gives_cons (gC rfl rfl) gives_nil)) rfl (fun _ _ h => h.1) ⟨trivial, ⟨trivial, trivial⟩⟩),
            dPure rfl (pure_field_ref rfl rfl rfl rfl),
            trivial⟩ ?_
        refine vStB (x := .agg [.v (.int .u64 ((((joinM m (codeM (list.getD i default) x_4)).a : Nat) : Int))), .v (.int .u64 ((((joinM m (codeM (list.getD i default) x_4)).b : Nat) : Int)))]) (row' := [.v (.string (namedAt deck.length)), .v (.int .u64 ((((joinM m (codeM (list.getD i default) x_4)).a : Nat) : Int))), .v (.int .u64 ((((joinM m (codeM (list.getD i default) x_4)).b : Nat) : Int)))]) rfl rfl rfl rfl rfl rfl rfl rfl rfl rfl rfl rfl ?_
        refine vpOps_nil ?_
        refine vp_region ?_
        refine vpOps_pure (x := .v (.int .i64 ((i : Nat) : Int))) (pMv rfl rfl rfl) rfl rfl rfl rfl ?_
        refine vpOps_pure (x := .v (.int .i64 (((i : Nat) : Int) + 1))) (pure_add rfl rfl rfl (in64 (by omega) (by omega))) rfl rfl rfl rfl ?_
        refine vpOps_pure (x := .v (.int .i64 (((i : Nat) : Int) + 1))) (pAs rfl rfl rfl) rfl rfl rfl rfl ?_
        refine vpOps_nil ?_
        exact ⟨(i + 1, joinM m (codeM (list.getD i default) x_4), at2_4, sd2_4), (by first | omega | (dsimp only; omega)), ⟨(by omega), (by first | assumption | exact joinM_ok hm (codeM_ok (hf i (by omega)) (by omega))), (by omega), (by assumption), trivial⟩, ⟨rfl, rfl, rfl, rfl, rfl, rfl, rfl, trivial⟩⟩
      · skip
        refine vp_skip ?_
        refine vp_region ?_
        refine vpOps_pure (x := .v (.int .i64 ((i : Nat) : Int))) (pMv rfl rfl rfl) rfl rfl rfl rfl ?_
        refine vpOps_pure (x := .v (.int .i64 (((i : Nat) : Int) + 1))) (pure_add rfl rfl rfl (in64 (by omega) (by omega))) rfl rfl rfl rfl ?_
        refine vpOps_pure (x := .v (.int .i64 (((i : Nat) : Int) + 1))) (pAs rfl rfl rfl) rfl rfl rfl rfl ?_
        refine vpOps_nil ?_
        exact ⟨(i + 1, m, at2_3, sd2_3), (by first | omega | (dsimp only; omega)), ⟨(by omega), (by first | assumption | exact joinM_ok hm (codeM_ok (hf i (by omega)) (by omega))), (by omega), (by assumption), trivial⟩, ⟨rfl, rfl, rfl, rfl, rfl, rfl, rfl, trivial⟩⟩
    · skip
      refine vp_exit ?_
      refine vp_seq ?_
      refine vp_seq ?_
      refine vp_region ?_
      refine vpOps_pure (x := .lv 0 []) (pure_move_lv rfl) rfl rfl rfl rfl ?_
      refine vpOps_call (gs := [⟨.tmp 44, .box [.sh 1 (code.map u8c), .v (.int .i64 at3), .v (.int .u64 ((sd3 : Nat) : Int))], some (0, id), none⟩, ⟨.const (.int .i64 8), .v (.int .i64 8), none, none⟩]) (c_one code at3 sd3 8 (by first | assumption | omega | exact Mask.ok.wf (by assumption) | exact hf _ (by omega) | exact (codeM_ok (hf _ (by omega)) (by omega)).wf | exact (bitM_ok (by omega)).wf) (by first | assumption | omega | exact Mask.ok.wf (by assumption) | exact hf _ (by omega) | exact (codeM_ok (hf _ (by omega)) (by omega)).wf | exact (bitM_ok (by omega)).wf) (by first | assumption | omega | exact Mask.ok.wf (by assumption) | exact hf _ (by omega) | exact (codeM_ok (hf _ (by omega)) (by omega)).wf | exact (bitM_ok (by omega)).wf) (by first | assumption | omega | exact Mask.ok.wf (by assumption) | exact hf _ (by omega) | exact (codeM_ok (hf _ (by omega)) (by omega)).wf | exact (bitM_ok (by omega)).wf) (by first | assumption | omega | exact Mask.ok.wf (by assumption) | exact hf _ (by omega) | exact (codeM_ok (hf _ (by omega)) (by omega)).wf | exact (bitM_ok (by omega)).wf)) rfl rfl rfl rfl rfl trivial (by kernel_rfl) rfl rfl (gives_cons (give_lendLv rfl rfl rfl) (gives_cons (gC rfl rfl) gives_nil)) rfl (fun _ _ _ => .inl rfl) ?_
      rintro _ _ ⟨b_5, at2_5, sd2_5, rfl, rfl, ha_5, hs_5⟩
      refine vpOps_nil ?_
      refine vIfB rfl (fun h4 => ?_) (fun h4 => ?_)
      · skip
        refine vRegP 7 ((46, .pl 7 [⟨0, 1, 0⟩]) :: (47, .agg [.v (.int .u64 ((m.a : Nat) : Int)), .v (.int .u64 ((m.b : Nat) : Int))]) :: (48, .lv 0 []) :: (49, .junk) :: (50, .junk) :: (51, .junk) :: (52, .junk) :: []) (0 :: 1 :: 0 :: 4 :: 12 :: 31 :: 63 :: 127 :: []) [3] (by kernel_rfl) (by kernel_rfl) ?_
        refine phCall 3 [false, false, false, true, true, true, true] rfl rfl rfl (by kernel_rfl) (by kernel_rfl) rfl (by kernel_rfl) (by kernel_rfl) ⟨
            dPure rfl (pure_field_ref rfl rfl rfl rfl),
            dPure rfl (pure_load_pl_agg rfl rfl rfl rfl rfl rfl rfl rfl (by simp [PV.flatL, PV.flat])),
            dPure rfl (pure_move_lv rfl),
            trivial,
            trivial,
            trivial,
            trivial,
            trivial⟩ (gs := [⟨.tmp 48, .box [.sh 1 (code.map u8c), .v (.int .i64 at2_5), .v (.int .u64 ((sd2_5 : Nat) : Int))], some (0, id), none⟩, ⟨.const (.int .i64 96), .v (.int .i64 96), none, none⟩]) (c_pick code at2_5 sd2_5 96 (by first | assumption | omega | exact Mask.ok.wf (by assumption) | exact hf _ (by omega) | exact (codeM_ok (hf _ (by omega)) (by omega)).wf | exact (bitM_ok (by omega)).wf) (by first | assumption | omega | exact Mask.ok.wf (by assumption) | exact hf _ (by omega) | exact (codeM_ok (hf _ (by omega)) (by omega)).wf | exact (bitM_ok (by omega)).wf) (by first | assumption | omega | exact Mask.ok.wf (by assumption) | exact hf _ (by omega) | exact (codeM_ok (hf _ (by omega)) (by omega)).wf | exact (bitM_ok (by omega)).wf) (by first | assumption | omega | exact Mask.ok.wf (by assumption) | exact hf _ (by omega) | exact (codeM_ok (hf _ (by omega)) (by omega)).wf | exact (bitM_ok (by omega)).wf) (by first | assumption | omega | exact Mask.ok.wf (by assumption) | exact hf _ (by omega) | exact (codeM_ok (hf _ (by omega)) (by omega)).wf | exact (bitM_ok (by omega)).wf)) rfl (by kernel_rfl) rfl (gives_cons (give_lendLv rfl rfl rfl) (gives_cons (gC rfl rfl) gives_nil)) ⟨trivial, trivial⟩ rfl (fun _ _ _ => .inl rfl) ?_
        rintro _ _ ⟨x_6, at2_6, sd2_6, rfl, rfl, hx_6, ha_6, hs_6⟩
        refine ⟨(46, .pl 7 [⟨0, 1, 0⟩]) :: (47, .agg [.v (.int .u64 ((m.a : Nat) : Int)), .v (.int .u64 ((m.b : Nat) : Int))]) :: (48, .junk) :: (49, .v (.int .i64 x_6)) :: (50, .agg [.v (.int .u64 ((((bitM x_6.toNat).a : Nat) : Int))), .v (.int .u64 ((((bitM x_6.toNat).b : Nat) : Int)))]) :: (51, .agg [.v (.int .u64 ((((joinM m (bitM x_6.toNat)).a : Nat) : Int))), .v (.int .u64 ((((joinM m (bitM x_6.toNat)).b : Nat) : Int)))]) :: (52, .pl 7 [⟨0, 1, 0⟩]) :: [], [(0, .box [.sh 1 (code.map u8c), .v (.int .i64 at2_6), .v (.int .u64 ((sd2_6 : Nat) : Int))])], rfl, rfl, rfl, rfl, rfl, rfl, rfl, (by kernel_rfl), (by kernel_rfl), ?_⟩
        refine phLast [false, false, true, true, false, false, false] (by kernel_rfl) rfl (by kernel_rfl) (by kernel_rfl) ⟨
            dPure rfl (pure_field_ref rfl rfl rfl rfl),
            dPure rfl (pure_load_pl_agg rfl rfl rfl rfl rfl rfl rfl rfl (by simp [PV.flatL, PV.flat])),
            trivial,
            trivial,
            dPure rfl (pure_call (gs := [⟨.tmp 49, .v (.int .i64 x_6), none, none⟩]) (c_sBit x_6 (by first | assumption | omega | exact Mask.ok.wf (by assumption) | exact hf _ (by omega) | exact (codeM_ok (hf _ (by omega)) (by omega)).wf | exact (bitM_ok (by omega)).wf)) rfl rfl trivial (by kernel_rfl) rfl rfl (gives_cons (gC rfl rfl) gives_nil) rfl (fun _ _ h => h.1) ⟨trivial, ⟨trivial, trivial⟩⟩),
            dPure rfl (pure_call (gs := [⟨.tmp 47, .agg [.v (.int .u64 ((m.a : Nat) : Int)), .v (.int .u64 ((m.b : Nat) : Int))], none, none⟩, ⟨.tmp 50, .agg [.v (.int .u64 ((((bitM x_6.toNat).a : Nat) : Int))), .v (.int .u64 ((((bitM x_6.toNat).b : Nat) : Int)))], none, none⟩]) (c_sJoin m (bitM x_6.toNat) (by first | assumption | omega | exact Mask.ok.wf (by assumption) | exact hf _ (by omega) | exact (codeM_ok (hf _ (by omega)) (by omega)).wf | exact (bitM_ok (by omega)).wf) (by first | assumption | omega | exact Mask.ok.wf (by assumption) | exact hf _ (by omega) | exact (codeM_ok (hf _ (by omega)) (by omega)).wf | exact (bitM_ok (by omega)).wf)) rfl rfl trivial (by kernel_rfl) rfl rfl (gives_cons (gC rfl rfl) (gives_cons (gC rfl rfl) gives_nil)) rfl (fun _ _ h => h.1) ⟨trivial, ⟨trivial, trivial⟩⟩),
            dPure rfl (pure_field_ref rfl rfl rfl rfl),
            trivial⟩ ?_
        refine vStB (x := .agg [.v (.int .u64 ((((joinM m (bitM x_6.toNat)).a : Nat) : Int))), .v (.int .u64 ((((joinM m (bitM x_6.toNat)).b : Nat) : Int)))]) (row' := [.v (.string (namedAt deck.length)), .v (.int .u64 ((((joinM m (bitM x_6.toNat)).a : Nat) : Int))), .v (.int .u64 ((((joinM m (bitM x_6.toNat)).b : Nat) : Int)))]) rfl rfl rfl rfl rfl rfl rfl rfl rfl rfl rfl rfl ?_
        refine vpOps_nil ?_
        refine vp_region ?_
        refine vpOps_pure (x := .lv 5 []) (pure_move_lv rfl) rfl rfl rfl rfl ?_
        refine vpOps_pure (x := .agg [.v (.string (namedAt deck.length)), .v (.int .u64 ((((joinM m (bitM x_6.toNat)).a : Nat) : Int))), .v (.int .u64 ((((joinM m (bitM x_6.toNat)).b : Nat) : Int)))]) (pure_load_pl_agg rfl rfl rfl rfl rfl rfl rfl rfl (by simp [PV.flatL, PV.flat])) rfl rfl rfl rfl ?_
        refine vpOps_pure (x := .own 3 [[.v (.string (namedAt deck.length)), .v (.int .u64 ((((joinM m (bitM x_6.toNat)).a : Nat) : Int))), .v (.int .u64 ((((joinM m (bitM x_6.toNat)).b : Nat) : Int)))]]) (pBs (cs := [.v (.string (namedAt deck.length)), .v (.int .u64 ((((joinM m (bitM x_6.toNat)).a : Nat) : Int))), .v (.int .u64 ((((joinM m (bitM x_6.toNat)).b : Nat) : Int)))]) rfl rfl rfl rfl rfl rfl rfl) rfl rfl rfl rfl ?_
        refine vpOps_ghost (ghost_own (t := 53) rfl rfl rfl rfl) ?_
        refine vApp (f := cardc) (xs := deck) (ys := [(⟨namedAt deck.length, joinM m (bitM x_6.toNat)⟩ : Card)]) (l := 1) rfl rfl rfl rfl rfl (srcOwn rfl rfl (fun _ => mvOkL_flat _ rfl)) rfl rfl (fun _ => rfl) (.inl ⟨_, rfl⟩) rfl rfl rfl (rfl) (by omega) (by omega) ?_
        refine vpOps_assign (x := .own 3 ((deck ++ [(⟨namedAt deck.length, joinM m (bitM x_6.toNat)⟩ : Card)]).map cardc)) rfl rfl rfl rfl rfl rfl rfl ?_
        refine vpOps_nil ?_
        refine vp_region ?_
        refine vpOps_pure (x := .v (.int .i64 k)) (pMv rfl rfl rfl) rfl rfl rfl rfl ?_
        refine vpOps_pure (x := .v (.int .i64 (k - 1))) (pure_sub rfl rfl rfl (in64 (by omega) (by omega))) rfl rfl rfl rfl ?_
        refine vpOps_pure (x := .v (.int .i64 (k - 1))) (pAs rfl rfl rfl) rfl rfl rfl rfl ?_
        refine vpOps_nil ?_
        exact ⟨(deck ++ [(⟨namedAt deck.length, joinM m (bitM x_6.toNat)⟩ : Card)], k - 1, at2_6, sd2_6), (by first | omega | (dsimp only; omega)), ⟨(by exact hD.push rfl (by first | exact hm | exact joinM_ok hm (bitM_ok (by omega)))), (by simp only [List.length_append, List.length_cons, List.length_nil]; omega), (by omega), (by assumption), trivial⟩, ⟨rfl, rfl, rfl, rfl, rfl, trivial⟩⟩
      · skip
        refine vp_skip ?_
        refine vp_region ?_
        refine vpOps_pure (x := .lv 5 []) (pure_move_lv rfl) rfl rfl rfl rfl ?_
        refine vpOps_pure (x := .agg [.v (.string (namedAt deck.length)), .v (.int .u64 ((m.a : Nat) : Int)), .v (.int .u64 ((m.b : Nat) : Int))]) (pure_load_pl_agg rfl rfl rfl rfl rfl rfl rfl rfl (by simp [PV.flatL, PV.flat])) rfl rfl rfl rfl ?_
        refine vpOps_pure (x := .own 3 [[.v (.string (namedAt deck.length)), .v (.int .u64 ((m.a : Nat) : Int)), .v (.int .u64 ((m.b : Nat) : Int))]]) (pBs (cs := [.v (.string (namedAt deck.length)), .v (.int .u64 ((m.a : Nat) : Int)), .v (.int .u64 ((m.b : Nat) : Int))]) rfl rfl rfl rfl rfl rfl rfl) rfl rfl rfl rfl ?_
        refine vpOps_ghost (ghost_own (t := 53) rfl rfl rfl rfl) ?_
        refine vApp (f := cardc) (xs := deck) (ys := [(⟨namedAt deck.length, m⟩ : Card)]) (l := 1) rfl rfl rfl rfl rfl (srcOwn rfl rfl (fun _ => mvOkL_flat _ rfl)) rfl rfl (fun _ => rfl) (.inl ⟨_, rfl⟩) rfl rfl rfl (rfl) (by omega) (by omega) ?_
        refine vpOps_assign (x := .own 3 ((deck ++ [(⟨namedAt deck.length, m⟩ : Card)]).map cardc)) rfl rfl rfl rfl rfl rfl rfl ?_
        refine vpOps_nil ?_
        refine vp_region ?_
        refine vpOps_pure (x := .v (.int .i64 k)) (pMv rfl rfl rfl) rfl rfl rfl rfl ?_
        refine vpOps_pure (x := .v (.int .i64 (k - 1))) (pure_sub rfl rfl rfl (in64 (by omega) (by omega))) rfl rfl rfl rfl ?_
        refine vpOps_pure (x := .v (.int .i64 (k - 1))) (pAs rfl rfl rfl) rfl rfl rfl rfl ?_
        refine vpOps_nil ?_
        exact ⟨(deck ++ [(⟨namedAt deck.length, m⟩ : Card)], k - 1, at2_5, sd2_5), (by first | omega | (dsimp only; omega)), ⟨(by exact hD.push rfl (by first | exact hm | exact joinM_ok hm (bitM_ok (by omega)))), (by simp only [List.length_append, List.length_cons, List.length_nil]; omega), (by omega), (by assumption), trivial⟩, ⟨rfl, rfl, rfl, rfl, rfl, trivial⟩⟩
  · skip
    refine vp_exit ?_
    refine vp_seq ?_
    refine vp_region ?_
    refine vpOps_pure (x := .lv 5 []) (pure_move_lv rfl) rfl rfl rfl rfl ?_
    refine vpOps_ghost (ghost_own (t := 57) rfl rfl rfl rfl) ?_
    refine vpOps_assign (x := .own 3 (deck.map cardc)) rfl rfl rfl rfl rfl rfl rfl ?_
    refine vpOps_nil ?_
    refine vp_ret ?_
    exact ⟨[.own 3 (deck.map cardc)], [4], (.cons (.tmp rfl rfl) .nil), rfl, ⟨deck, at1, sd1, (show (.own 3 (deck.map cardc) : PV) = .own 3 (deck.map cardc) from rfl), rfl, (by assumption), (by omega), (by omega), (by first | assumption | omega)⟩⟩

/-- spec.A2Deck -/
theorem c_A2Deck {G : World → Prop} (code : List Int) (list : List Field) (hc : ∀ x ∈ code, 0 ≤ x ∧ x ≤ 255) (hcl : code.length ≤ 1048576) (hl : list.length ≤ 12) (hf : ∀ i, i < list.length → fieldOk (list.getD i default)) : CallsV Tryd.prog G 6 [.sh 1 (code.map u8c), .sh 4 (list.map fieldc)] (fun r outs => ∃ (deck : List Card), r = .own 3 (deck.map cardc) ∧ outs = [.junk, .junk] ∧ (DeckTo deck) ∧ (deck.length ≤ 8)) := by
  refine callsV_enter [] Tryd.func6 rfl rfl rfl ?_
  refine vp_seq ?_
  refine vp_region ?_
  refine vpOps_pure (x := .v (.slice none 0 0)) (pAs rfl rfl rfl) rfl rfl rfl rfl ?_
  refine vpOps_nil ?_
  refine vp_seq ?_
  refine vp_region ?_
  refine vpOps_pure (x := .sh 1 (code.map u8c)) (pMv rfl rfl rfl) rfl rfl rfl rfl ?_
  refine vpOps_call (gs := [⟨.tmp 5, .sh 1 (code.map u8c), none, none⟩]) (c_l00From code ) rfl rfl rfl rfl rfl trivial (by kernel_rfl) rfl rfl (gives_cons (gC rfl rfl) gives_nil) rfl (fun _ _ _ => .inl rfl) ?_
  rintro _ _ ⟨rfl, rfl⟩
  refine vpOps_pure (x := .sh 4 (list.map fieldc)) (pMv rfl rfl rfl) rfl rfl rfl rfl ?_
  refine vpOps_call (gs := [⟨.tmp 6, .box [.sh 1 (code.map u8c), .v (.int .i64 0), .v (.int .u64 ((0 : Nat) : Int))], some (6, id), none⟩, ⟨.tmp 7, .sh 4 (list.map fieldc), none, none⟩]) (c_sDeck code 0 0 list (by first | assumption | omega) (by first | assumption | omega) (by first | assumption | omega) (by first | assumption | omega) (by first | assumption | omega) (by first | assumption | omega)) rfl rfl rfl rfl rfl trivial (by kernel_rfl) rfl rfl (gives_cons (give_lend rfl rfl) (gives_cons (gC rfl rfl) gives_nil)) rfl (fun _ _ _ => .inl rfl) ?_
  rintro _ _ ⟨deck_2, at2_2, sd2_2, rfl, rfl, hD_2, hdl_2, ha_2, hs_2⟩
  refine vpOps_assign (x := .own 3 (deck_2.map cardc)) rfl rfl rfl rfl rfl rfl rfl ?_
  refine vpOps_nil ?_
  refine vp_ret ?_
  exact ⟨[.own 3 (deck_2.map cardc)], [4], (.cons (.tmp rfl rfl) .nil), rfl, ⟨deck_2, (show (.own 3 (deck_2.map cardc) : PV) = .own 3 (deck_2.map cardc) from rfl), rfl, (by assumption), (by assumption)⟩⟩

/-- spec.l01Less -/
theorem c_sLess {G : World → Prop} (m : Mask) (n : Mask) (hm : m.wf) (hn : n.wf) : CallsV Tryd.prog G 42 [.agg [.v (.int .u64 ((m.a : Nat) : Int)), .v (.int .u64 ((m.b : Nat) : Int))], .agg [.v (.int .u64 ((n.a : Nat) : Int)), .v (.int .u64 ((n.b : Nat) : Int))]] (fun r outs => r = .agg [.v (.int .u64 ((((lessM m n).a : Nat) : Int))), .v (.int .u64 ((((lessM m n).b : Nat) : Int)))] ∧ outs = [.junk, .junk]) := by
  refine callsV_enter [] Tryd.func42 rfl rfl rfl ?_
  have hma := hm.a
  have hmb := hm.b
  have hna := hn.a
  have hnb := hn.b
  refine vp_seq ?_
  refine vp_region ?_
  refine vpOps_pure (x := .box [.v (.int .u64 ((m.a : Nat) : Int)), .v (.int .u64 ((m.b : Nat) : Int))]) (pure_box rfl rfl (mvOk_flat _ rfl) rfl rfl) rfl rfl rfl rfl ?_
  refine vpOps_pure (x := .box [.v (.int .u64 ((n.a : Nat) : Int)), .v (.int .u64 ((n.b : Nat) : Int))]) (pure_box rfl rfl (mvOk_flat _ rfl) rfl rfl) rfl rfl rfl rfl ?_
  refine vpOps_pure (x := .box [.v (.int .u64 0), .v (.int .u64 0)]) (pure_alloc rfl) rfl rfl rfl rfl ?_
  refine vpOps_nil ?_
  refine vp_seq ?_
  refine vp_region ?_
  refine vpOps_pure (x := .pl 2 [⟨0, 0, 0⟩]) (pIxAR (l := 0) rfl rfl rfl rfl rfl rfl rfl) rfl rfl rfl rfl ?_
  refine vpOps_pure (x := .v (.int .u64 ((m.a : Nat) : Int))) (pure_load_pl rfl rfl rfl rfl rfl rfl rfl trivial rfl) rfl rfl rfl rfl ?_
  refine vpOps_pure (x := .pl 3 [⟨0, 0, 0⟩]) (pIxAR (l := 0) rfl rfl rfl rfl rfl rfl rfl) rfl rfl rfl rfl ?_
  refine vpOps_pure (x := .v (.int .u64 ((n.a : Nat) : Int))) (pure_load_pl rfl rfl rfl rfl rfl rfl rfl trivial rfl) rfl rfl rfl rfl ?_
  refine vpOps_pure (x := .v (.int .u64 ((((natLess m.a n.a) : Nat) : Int)))) (pLess64 (p := m.a) (q := n.a) rfl rfl rfl (by omega) (by omega)) rfl rfl rfl rfl ?_
  refine vpOps_pure (x := .pl 2 [⟨0, 1, 0⟩]) (pIxAR (l := 1) rfl rfl rfl rfl rfl rfl rfl) rfl rfl rfl rfl ?_
  refine vpOps_pure (x := .v (.int .u64 ((m.b : Nat) : Int))) (pure_load_pl rfl rfl rfl rfl rfl rfl rfl trivial rfl) rfl rfl rfl rfl ?_
  refine vpOps_pure (x := .pl 3 [⟨0, 1, 0⟩]) (pIxAR (l := 1) rfl rfl rfl rfl rfl rfl rfl) rfl rfl rfl rfl ?_
  refine vpOps_pure (x := .v (.int .u64 ((n.b : Nat) : Int))) (pure_load_pl rfl rfl rfl rfl rfl rfl rfl trivial rfl) rfl rfl rfl rfl ?_
  refine vpOps_pure (x := .v (.int .u64 ((((natLess m.b n.b) : Nat) : Int)))) (pLess64 (p := m.b) (q := n.b) rfl rfl rfl (by omega) (by omega)) rfl rfl rfl rfl ?_
  refine vpOps_pure (x := .agg [.v (.int .u64 ((((natLess m.a n.a) : Nat) : Int))), .v (.int .u64 ((((natLess m.b n.b) : Nat) : Int)))]) (pure_build_arr rfl (flatsB_ok rfl) rfl) rfl rfl rfl rfl ?_
  refine vStB (x := .agg [.v (.int .u64 ((((natLess m.a n.a) : Nat) : Int))), .v (.int .u64 ((((natLess m.b n.b) : Nat) : Int)))]) (row' := [.v (.int .u64 ((((natLess m.a n.a) : Nat) : Int))), .v (.int .u64 ((((natLess m.b n.b) : Nat) : Int)))]) rfl rfl rfl rfl rfl rfl rfl rfl rfl rfl rfl rfl ?_
  refine vpOps_nil ?_
  refine vp_ret ?_
  exact ⟨[.agg [.v (.int .u64 ((((natLess m.a n.a) : Nat) : Int))), .v (.int .u64 ((((natLess m.b n.b) : Nat) : Int)))]], [4], (.cons (.cellAgg rfl rfl rfl) .nil), rfl, ⟨(show (.agg [.v (.int .u64 ((((natLess m.a n.a) : Nat) : Int))), .v (.int .u64 ((((natLess m.b n.b) : Nat) : Int)))] : PV) = .agg [.v (.int .u64 ((((lessM m n).a : Nat) : Int))), .v (.int .u64 ((((lessM m n).b : Nat) : Int)))] from (by rfl)), rfl⟩⟩

/-- (*spec.l00Src).text -/
theorem c_text {G : World → Prop} (code : List Int) (at_ : Int) (sd : Nat) (list : List ByteArray) (hc : ∀ x ∈ code, 0 ≤ x ∧ x ≤ 255) (hcl : code.length ≤ 1048576) (hat : 0 ≤ at_ ∧ at_ ≤ 1152921504606846968) (hsd : sd < 18446744073709551616) (hl : 1 ≤ list.length ∧ list.length ≤ 1000) : CallsV Tryd.prog G 43 [.box [.sh 1 (code.map u8c), .v (.int .i64 at_), .v (.int .u64 ((sd : Nat) : Int))], .sh 1 (list.map strc)] (fun r outs => ∃ (w : ByteArray) (at2 : Int) (sd2 : Nat), r = .v (.string w) ∧ outs = [.box [.sh 1 (code.map u8c), .v (.int .i64 at2), .v (.int .u64 ((sd2 : Nat) : Int))], .junk] ∧ (∃ x : Int, (0 ≤ x ∧ (x < list.length ∨ x = 0)) ∧ w = list.getD x.toNat default) ∧ (at_ ≤ at2 ∧ at2 ≤ at_ + 2) ∧ (sd2 < 18446744073709551616)) := by
  refine callsV_enter [0] Tryd.func43 rfl rfl rfl ?_
  refine vp_seq ?_
  refine vp_region ?_
  refine vpOps_pure (x := .v (.string (ByteArray.mk #[]))) (pAs rfl rfl rfl) rfl rfl rfl rfl ?_
  refine vpOps_nil ?_
  refine vp_seq ?_
  refine vp_region ?_
  refine vpOps_pure (x := .sh 1 (list.map strc)) (pMv rfl rfl rfl) rfl rfl rfl rfl ?_
  refine vpOps_pure (x := .lv 0 []) (pure_move_lv rfl) rfl rfl rfl rfl ?_
  refine vpOps_pure (x := .sh 1 (list.map strc)) (pMv rfl rfl rfl) rfl rfl rfl rfl ?_
  refine vpOps_pure (x := .v (.int .i64 ((list.length : Nat) : Int))) (pLen rfl rfl (List.length_map _)) rfl rfl rfl rfl ?_
  refine vpOps_call (gs := [⟨.tmp 6, .box [.sh 1 (code.map u8c), .v (.int .i64 at_), .v (.int .u64 ((sd : Nat) : Int))], some (0, id), none⟩, ⟨.tmp 8, .v (.int .i64 ((list.length : Nat) : Int)), none, none⟩]) (c_pick code at_ sd ((list.length : Nat) : Int) (by first | assumption | omega) (by first | assumption | omega) (by first | assumption | omega) (by first | assumption | omega) (by first | assumption | omega)) rfl rfl rfl rfl rfl trivial (by kernel_rfl) rfl rfl (gives_cons (give_lendLv rfl rfl rfl) (gives_cons (gC rfl rfl) gives_nil)) rfl (fun _ _ _ => .inl rfl) ?_
  rintro _ _ ⟨x_1, at2_1, sd2_1, rfl, rfl, hx_1, ha_1, hs_1⟩
  refine vpOps_pure (x := .rbox [.v (.string (list.getD x_1.toNat default))]) (pIx (m := x_1.toNat) rfl rfl rfl (by first | rfl | omega) (by omega) rfl) rfl rfl rfl rfl ?_
  refine vpOps_pure (x := .v (.string (list.getD x_1.toNat default))) (pure_load_rbox rfl rfl rfl) rfl rfl rfl rfl ?_
  refine vpOps_pure (x := .v (.string (list.getD x_1.toNat default))) (pAs rfl rfl rfl) rfl rfl rfl rfl ?_
  refine vpOps_nil ?_
  refine vp_ret ?_
  exact ⟨[.v (.string (list.getD x_1.toNat default))], [4], (.cons (.tmp rfl rfl) .nil), rfl, ⟨list.getD x_1.toNat default, at2_1, sd2_1, (show (.v (.string (list.getD x_1.toNat default)) : PV) = .v (.string (list.getD x_1.toNat default)) from rfl), rfl, (by exact ⟨x_1, by omega, rfl⟩), (by omega), (by first | assumption | omega)⟩⟩

/-- spec.l02Find -/
theorem c_sFind {G : World → Prop} (d : List Card) (n : ByteArray) (hn : d.length ≤ 9223372036854775807) : CallsV Tryd.prog G 44 [.sh 3 (d.map cardc), .v (.string n)] (fun r outs => r = .v (.int .i64 (placeC d n)) ∧ outs = [.junk, .junk]) := by
  refine callsV_enter [] Tryd.func44 rfl rfl rfl ?_
  refine vp_seq ?_
  refine vp_region ?_
  refine vpOps_pure (x := .v (.int .i64 0)) (pAs rfl rfl rfl) rfl rfl rfl rfl ?_
  refine vpOps_nil ?_
  refine vp_seq ?_
  refine vp_seq ?_
  refine vp_region ?_
  refine vpOps_pure (x := .v (.int .i64 0)) (pAs rfl rfl rfl) rfl rfl rfl rfl ?_
  refine vpOps_nil ?_
  refine vp_block ?_
  refine vLoop (α := Nat) (fun i => d.length - i) (fun i => (i ≤ d.length) ∧ (∀ j, j < i → (d.getD j default).name ≠ n) ∧ True) (fun i => [(0, .sh 3 (d.map cardc)), (1, .v (.string n)), (5, .v (.int .i64 ((i : Nat) : Int)))]) (fun _ => rfl) (fun _ => rfl) 0 ⟨(by omega), (by intro j hj; omega), trivial⟩ ⟨rfl, rfl, rfl, trivial⟩ ?_
  rintro i ⟨hi, hA, -⟩
  refine vp_seq ?_
  refine vp_seq ?_
  refine vp_region ?_
  refine vpOps_pure (x := .v (.int .i64 ((i : Nat) : Int))) (pMv rfl rfl rfl) rfl rfl rfl rfl ?_
  refine vpOps_pure (x := .sh 3 (d.map cardc)) (pMv rfl rfl rfl) rfl rfl rfl rfl ?_
  refine vpOps_pure (x := .v (.int .i64 ((d.length : Nat) : Int))) (pLen rfl rfl (List.length_map _)) rfl rfl rfl rfl ?_
  refine vpOps_pure (x := .v (.bool (decide (((i : Nat) : Int) < ((d.length : Nat) : Int))))) (pure_bin rfl rfl rfl rfl) rfl rfl rfl rfl ?_
  refine vpOps_nil ?_
  refine vIf rfl (fun h1 => ?_) (fun h1 => ?_)
  · skip
    refine vp_skip ?_
    refine vp_seq ?_
    refine vp_block ?_
    refine vp_seq ?_
    refine vp_region ?_
    refine vpOps_pure (x := .sh 3 (d.map cardc)) (pMv rfl rfl rfl) rfl rfl rfl rfl ?_
    refine vpOps_pure (x := .v (.int .i64 ((i : Nat) : Int))) (pMv rfl rfl rfl) rfl rfl rfl rfl ?_
    refine vpOps_pure (x := .rbox [.v (.string ((d.getD i default).name)), .v (.int .u64 (((((d.getD i default).notches).a : Nat) : Int))), .v (.int .u64 (((((d.getD i default).notches).b : Nat) : Int)))]) (pIx (m := i) rfl rfl rfl (by first | rfl | omega) (by omega) rfl) rfl rfl rfl rfl ?_
    refine vpOps_pure (x := .rbox [.v (.string ((d.getD i default).name)), .v (.int .u64 (((((d.getD i default).notches).a : Nat) : Int))), .v (.int .u64 (((((d.getD i default).notches).b : Nat) : Int)))]) (pure_field_rbox rfl rfl rfl rfl) rfl rfl rfl rfl ?_
    refine vpOps_pure (x := .v (.string ((d.getD i default).name))) (pure_load_rbox rfl rfl rfl) rfl rfl rfl rfl ?_
    refine vpOps_pure (x := .v (.string n)) (pMv rfl rfl rfl) rfl rfl rfl rfl ?_
    refine vpOps_pure (x := .v (.bool (decide (((d.getD i default).name) = n)))) (pure_str_eq rfl rfl rfl) rfl rfl rfl rfl ?_
    refine vpOps_nil ?_
    refine vIf rfl (fun h2 => ?_) (fun h2 => ?_)
    · skip
      refine vp_seq ?_
      refine vp_region ?_
      refine vpOps_pure (x := .v (.int .i64 ((i : Nat) : Int))) (pMv rfl rfl rfl) rfl rfl rfl rfl ?_
      refine vpOps_pure (x := .v (.int .i64 ((i : Nat) : Int))) (pAs rfl rfl rfl) rfl rfl rfl rfl ?_
      refine vpOps_nil ?_
      refine vp_ret ?_
      exact ⟨[.v (.int .i64 ((i : Nat) : Int))], [4], (.cons (.tmp rfl rfl) .nil), rfl, ⟨(show (.v (.int .i64 ((i : Nat) : Int)) : PV) = .v (.int .i64 (placeC d n)) from (by first | (rw [placeC_at (i := i) (by omega) (by assumption) hA]; done) | (rw [placeC_none (i := i) (by omega) hA]; done))), rfl⟩⟩
    · skip
      refine vp_skip ?_
      refine vp_region ?_
      refine vpOps_pure (x := .v (.int .i64 ((i : Nat) : Int))) (pMv rfl rfl rfl) rfl rfl rfl rfl ?_
      refine vpOps_pure (x := .v (.int .i64 (((i : Nat) : Int) + 1))) (pure_add rfl rfl rfl (in64 (by omega) (by omega))) rfl rfl rfl rfl ?_
      refine vpOps_pure (x := .v (.int .i64 (((i : Nat) : Int) + 1))) (pAs rfl rfl rfl) rfl rfl rfl rfl ?_
      refine vpOps_nil ?_
      exact ⟨i + 1, (by first | omega | (dsimp only; omega)), ⟨(by omega), (by intro j hj; rcases Nat.lt_or_ge j i with hji | hji; exact hA j hji; rw [show j = i by omega]; assumption), trivial⟩, ⟨rfl, rfl, rfl, trivial⟩⟩
  · skip
    refine vp_exit ?_
    refine vp_seq ?_
    refine vp_region ?_
    refine vpOps_pure (x := .v (.int .i64 (-1))) (pAs rfl rfl rfl) rfl rfl rfl rfl ?_
    refine vpOps_nil ?_
    refine vp_ret ?_
    exact ⟨[.v (.int .i64 (-1))], [4], (.cons (.tmp rfl rfl) .nil), rfl, ⟨(show (.v (.int .i64 (-1)) : PV) = .v (.int .i64 (placeC d n)) from (by first | (rw [placeC_at (i := i) (by omega) (by assumption) hA]; done) | (rw [placeC_none (i := i) (by omega) hA]; done))), rfl⟩⟩

end Go.Vr
/- Walks of the functions that the law reaches: what each gives, by value. -/
namespace Go.Vr
open Go Go.Proofs
set_option linter.unusedVariables false
set_option linter.unusedSimpArgs false
set_option maxRecDepth 8000

/-- spec.l07Changed -/
theorem c_sChanged {G : World → Prop} (code : List Int) (at_ : Int) (sd : Nat) (deck : List Card) (hc : ∀ x ∈ code, 0 ≤ x ∧ x ≤ 255) (hcl : code.length ≤ 1048576) (hat : 0 ≤ at_ ∧ at_ ≤ 1152921504606844976) (hsd : sd < 18446744073709551616) (hd : deckOk deck) (hw : ∀ c ∈ deck, c.wf) (hdl : deck.length ≤ 60) : CallsV Tryd.prog G 18 [.box [.sh 1 (code.map u8c), .v (.int .i64 at_), .v (.int .u64 ((sd : Nat) : Int))], .sh 3 (deck.map cardc)] (fun r outs => ∃ (out : List Card) (at2 : Int) (sd2 : Nat), r = .own 3 (out.map cardc) ∧ outs = [.box [.sh 1 (code.map u8c), .v (.int .i64 at2), .v (.int .u64 ((sd2 : Nat) : Int))], .junk] ∧ (deckOk out ∧ (∀ c ∈ out, c.wf) ∧ out.length ≤ deck.length + 1) ∧ (at_ ≤ at2 ∧ at2 ≤ at_ + 1000) ∧ (sd2 < 18446744073709551616)) := by
  refine callsV_enter [0] Tryd.func18 rfl rfl rfl ?_
  refine vp_seq ?_
  refine vp_region ?_
  refine vpOps_pure (x := .v (.slice none 0 0)) (pAs rfl rfl rfl) rfl rfl rfl rfl ?_
  refine vpOps_nil ?_
  refine vp_seq ?_
  refine vp_region ?_
  refine vpOps_pure (x := .own 3 []) (pBs (cs := []) rfl rfl rfl rfl rfl rfl rfl) rfl rfl rfl rfl ?_
  refine vpOps_assign (x := .own 3 []) rfl rfl rfl rfl rfl rfl rfl ?_
  refine vpOps_nil ?_
  refine vp_seq ?_
  refine vp_seq ?_
  refine vp_region ?_
  refine vpOps_pure (x := .v (.int .i64 0)) (pAs rfl rfl rfl) rfl rfl rfl rfl ?_
  refine vpOps_nil ?_
  refine vp_block ?_
  refine vLoop (α := Nat × List Card × Int × Nat) (fun (i, out, at1, sd1) => deck.length - i) (fun (i, out, at1, sd1) => (i ≤ deck.length) ∧ (ChgTo deck i out) ∧ (at_ ≤ at1 ∧ at1 ≤ at_ + 10 * i) ∧ (sd1 < 18446744073709551616) ∧ True) (fun (i, out, at1, sd1) => [(0, .box [.sh 1 (code.map u8c), .v (.int .i64 at1), .v (.int .u64 ((sd1 : Nat) : Int))]), (1, .sh 3 (deck.map cardc)), (4, .v (.slice none 0 0)), (5, .own 3 (out.map cardc)), (6, .v (.int .i64 ((i : Nat) : Int)))]) (fun ⟨_, _, _, _⟩ => rfl) (fun ⟨_, _, _, _⟩ => rfl) (0, [], at_, sd) ⟨(by omega), (by exact chg_nil), (by omega), (by assumption), trivial⟩ ⟨rfl, rfl, rfl, rfl, rfl, trivial⟩ ?_
  rintro ⟨i, out, at1, sd1⟩ ⟨hi, hC, ha1, hs1, -⟩
  have hln := hC.ln
  have hcm := fun h : i < deck.length => maskOk_ok (card_wf_getD hw i).m (hd.2 i h).1.2
  have hnm := fun h : i < deck.length => (card_wf_getD hw i).n
  refine vp_seq ?_
  refine vp_seq ?_
  refine vp_region ?_
  refine vpOps_pure (x := .v (.int .i64 ((i : Nat) : Int))) (pMv rfl rfl rfl) rfl rfl rfl rfl ?_
  refine vpOps_pure (x := .sh 3 (deck.map cardc)) (pMv rfl rfl rfl) rfl rfl rfl rfl ?_
  refine vpOps_pure (x := .v (.int .i64 ((deck.length : Nat) : Int))) (pLen rfl rfl (List.length_map _)) rfl rfl rfl rfl ?_
  refine vpOps_pure (x := .v (.bool (decide (((i : Nat) : Int) < ((deck.length : Nat) : Int))))) (pure_bin rfl rfl rfl rfl) rfl rfl rfl rfl ?_
  refine vpOps_nil ?_
  refine vIf rfl (fun h1 => ?_) (fun h1 => ?_)
  · skip
    refine vp_skip ?_
    refine vp_seq ?_
    refine vp_block ?_
    refine vp_seq ?_
    refine vp_region ?_
    refine vpOps_pure (x := .sh 3 (deck.map cardc)) (pMv rfl rfl rfl) rfl rfl rfl rfl ?_
    refine vpOps_pure (x := .v (.int .i64 ((i : Nat) : Int))) (pMv rfl rfl rfl) rfl rfl rfl rfl ?_
    refine vpOps_pure (x := .rbox [.v (.string ((deck.getD i default).name)), .v (.int .u64 (((((deck.getD i default).notches).a : Nat) : Int))), .v (.int .u64 (((((deck.getD i default).notches).b : Nat) : Int)))]) (pIx (m := i) rfl rfl rfl (by first | rfl | omega) (by omega) rfl) rfl rfl rfl rfl ?_
    refine vpOps_pure (x := .agg [.v (.string ((deck.getD i default).name)), .v (.int .u64 (((((deck.getD i default).notches).a : Nat) : Int))), .v (.int .u64 (((((deck.getD i default).notches).b : Nat) : Int)))]) (pure_load_rbox_agg rfl rfl rfl rfl rfl) rfl rfl rfl rfl ?_
    refine vpOps_pure (x := .box [.v (.string (ByteArray.mk #[])), .v (.int .u64 0), .v (.int .u64 0)]) (pure_alloc rfl) rfl rfl rfl rfl ?_
    refine vStB (x := .agg [.v (.string ((deck.getD i default).name)), .v (.int .u64 (((((deck.getD i default).notches).a : Nat) : Int))), .v (.int .u64 (((((deck.getD i default).notches).b : Nat) : Int)))]) (row' := [.v (.string ((deck.getD i default).name)), .v (.int .u64 (((((deck.getD i default).notches).a : Nat) : Int))), .v (.int .u64 (((((deck.getD i default).notches).b : Nat) : Int)))]) rfl rfl rfl rfl rfl rfl rfl rfl rfl rfl rfl rfl ?_
    refine vpOps_nil ?_
    refine vp_seq ?_
    refine vp_seq ?_
    refine vp_region ?_
    refine vpOps_pure (x := .lv 0 []) (pure_move_lv rfl) rfl rfl rfl rfl ?_
    refine vpOps_call (gs := [⟨.tmp 20, .box [.sh 1 (code.map u8c), .v (.int .i64 at1), .v (.int .u64 ((sd1 : Nat) : Int))], some (0, id), none⟩, ⟨.const (.int .i64 6), .v (.int .i64 6), none, none⟩]) (c_pick code at1 sd1 6 (by first | assumption | omega | exact (hcm (by omega)).wf | exact (bitM_ok (by omega)).wf | (simp; done)) (by first | assumption | omega | exact (hcm (by omega)).wf | exact (bitM_ok (by omega)).wf | (simp; done)) (by first | assumption | omega | exact (hcm (by omega)).wf | exact (bitM_ok (by omega)).wf | (simp; done)) (by first | assumption | omega | exact (hcm (by omega)).wf | exact (bitM_ok (by omega)).wf | (simp; done)) (by first | assumption | omega | exact (hcm (by omega)).wf | exact (bitM_ok (by omega)).wf | (simp; done))) rfl rfl rfl rfl rfl trivial (by kernel_rfl) rfl rfl (gives_cons (give_lendLv rfl rfl rfl) (gives_cons (gC rfl rfl) gives_nil)) rfl (fun _ _ _ => .inl rfl) ?_
    rintro _ _ ⟨x_1, at2_1, sd2_1, rfl, rfl, hx_1, ha_1, hs_1⟩
    refine vpOps_nil ?_
    refine vp_block ?_
    refine vp_seq ?_
    refine vp_region ?_
    refine vpOps_pure (x := .v (.bool (decide (x_1 = 0)))) (pure_bin rfl rfl rfl rfl) rfl rfl rfl rfl ?_
    refine vpOps_pure (x := .v (.bool (decide (x_1 = 0)))) (pAs rfl rfl rfl) rfl rfl rfl rfl ?_
    refine vpOps_nil ?_
    refine vIf rfl (fun h2 => ?_) (fun h2 => ?_)
    · skip
      refine vp_exit ?_
      refine vp_region ?_
      refine vpOps_pure (x := .v (.int .i64 ((i : Nat) : Int))) (pMv rfl rfl rfl) rfl rfl rfl rfl ?_
      refine vpOps_pure (x := .v (.int .i64 (((i : Nat) : Int) + 1))) (pure_add rfl rfl rfl (in64 (by omega) (by omega))) rfl rfl rfl rfl ?_
      refine vpOps_pure (x := .v (.int .i64 (((i : Nat) : Int) + 1))) (pAs rfl rfl rfl) rfl rfl rfl rfl ?_
      refine vpOps_nil ?_
      exact ⟨(i + 1, out, at2_1, sd2_1), (by first | omega | (dsimp only; omega)), ⟨(by omega), (by first | exact hC.skip | exact hC.push hd (by omega) rfl (hcm (by omega)) | exact hC.push hd (by omega) rfl (joinM_ok (hcm (by omega)) (bitM_ok (by omega))) | exact hC.push hd (by omega) rfl (lessM_ok (hcm (by omega)))), (by omega), (by assumption), trivial⟩, ⟨rfl, rfl, rfl, rfl, rfl, trivial⟩⟩
    · skip
      refine vp_seq ?_
      refine vp_region ?_
      refine vpOps_pure (x := .v (.bool (decide (x_1 = 1)))) (pure_bin rfl rfl rfl rfl) rfl rfl rfl rfl ?_
      refine vpOps_pure (x := .v (.bool (decide (x_1 = 1)))) (pAs rfl rfl rfl) rfl rfl rfl rfl ?_
      refine vpOps_nil ?_
      refine vIf rfl (fun h3 => ?_) (fun h3 => ?_)
      · skip
        refine vRegP 7 ((26, .pl 7 [⟨0, 1, 0⟩]) :: (27, .agg [.v (.int .u64 (((((deck.getD i default).notches).a : Nat) : Int))), .v (.int .u64 (((((deck.getD i default).notches).b : Nat) : Int)))]) :: (28, .lv 0 []) :: (29, .junk) :: (30, .junk) :: (31, .junk) :: (32, .junk) :: []) (0 :: 1 :: 0 :: 4 :: 12 :: 31 :: 63 :: 127 :: []) [3] (by kernel_rfl) (by kernel_rfl) ?_
        refine phCall 3 [false, false, false, true, true, true, true] rfl rfl rfl (by kernel_rfl) (by kernel_rfl) rfl (by kernel_rfl) (by kernel_rfl) ⟨
            dPure rfl (pure_field_ref rfl rfl rfl rfl),
            dPure rfl (pure_load_pl_agg rfl rfl rfl rfl rfl rfl rfl rfl (by simp [PV.flatL, PV.flat])),
            dPure rfl (pure_move_lv rfl),
            trivial,
            trivial,
            trivial,
            trivial,
            trivial⟩ (gs := [⟨.tmp 28, .box [.sh 1 (code.map u8c), .v (.int .i64 at2_1), .v (.int .u64 ((sd2_1 : Nat) : Int))], some (0, id), none⟩, ⟨.const (.int .i64 12), .v (.int .i64 12), none, none⟩]) (c_pick code at2_1 sd2_1 12 (by first | assumption | omega | exact (hcm (by omega)).wf | exact (bitM_ok (by omega)).wf | (simp; done)) (by first | assumption | omega | exact (hcm (by omega)).wf | exact (bitM_ok (by omega)).wf | (simp; done)) (by first | assumption | omega | exact (hcm (by omega)).wf | exact (bitM_ok (by omega)).wf | (simp; done)) (by first | assumption | omega | exact (hcm (by omega)).wf | exact (bitM_ok (by omega)).wf | (simp; done)) (by first | assumption | omega | exact (hcm (by omega)).wf | exact (bitM_ok (by omega)).wf | (simp; done))) rfl (by kernel_rfl) rfl (gives_cons (give_lendLv rfl rfl rfl) (gives_cons (gC rfl rfl) gives_nil)) ⟨trivial, trivial⟩ rfl (fun _ _ _ => .inl rfl) ?_
        rintro _ _ ⟨x_2, at2_2, sd2_2, rfl, rfl, hx_2, ha_2, hs_2⟩
        refine ⟨(26, .pl 7 [⟨0, 1, 0⟩]) :: (27, .agg [.v (.int .u64 (((((deck.getD i default).notches).a : Nat) : Int))), .v (.int .u64 (((((deck.getD i default).notches).b : Nat) : Int)))]) :: (28, .junk) :: (29, .v (.int .i64 x_2)) :: (30, .agg [.v (.int .u64 ((((bitM x_2.toNat).a : Nat) : Int))), .v (.int .u64 ((((bitM x_2.toNat).b : Nat) : Int)))]) :: (31, .agg [.v (.int .u64 ((((joinM ((deck.getD i default).notches) (bitM x_2.toNat)).a : Nat) : Int))), .v (.int .u64 ((((joinM ((deck.getD i default).notches) (bitM x_2.toNat)).b : Nat) : Int)))]) :: (32, .pl 7 [⟨0, 1, 0⟩]) :: [], [(0, .box [.sh 1 (code.map u8c), .v (.int .i64 at2_2), .v (.int .u64 ((sd2_2 : Nat) : Int))])], rfl, rfl, rfl, rfl, rfl, rfl, rfl, (by kernel_rfl), (by kernel_rfl), ?_⟩
        refine phLast [false, false, true, true, false, false, false] (by kernel_rfl) rfl (by kernel_rfl) (by kernel_rfl) ⟨
            dPure rfl (pure_field_ref rfl rfl rfl rfl),
            dPure rfl (pure_load_pl_agg rfl rfl rfl rfl rfl rfl rfl rfl (by simp [PV.flatL, PV.flat])),
            trivial,
            trivial,
            dPure rfl (pure_call (gs := [⟨.tmp 29, .v (.int .i64 x_2), none, none⟩]) (c_sBit x_2 (by first | assumption | omega | exact (hcm (by omega)).wf | exact (bitM_ok (by omega)).wf | (simp; done))) rfl rfl trivial (by kernel_rfl) rfl rfl (gives_cons (gC rfl rfl) gives_nil) rfl (fun _ _ h => h.1) ⟨trivial, ⟨trivial, trivial⟩⟩),
            dPure rfl (pure_call (gs := [⟨.tmp 27, .agg [.v (.int .u64 (((((deck.getD i default).notches).a : Nat) : Int))), .v (.int .u64 (((((deck.getD i default).notches).b : Nat) : Int)))], none, none⟩, ⟨.tmp 30, .agg [.v (.int .u64 ((((bitM x_2.toNat).a : Nat) : Int))), .v (.int .u64 ((((bitM x_2.toNat).b : Nat) : Int)))], none, none⟩]) (c_sJoin ((deck.getD i default).notches) (bitM x_2.toNat) (by first | assumption | omega | exact (hcm (by omega)).wf | exact (bitM_ok (by omega)).wf | (simp; done)) (by first | assumption | omega | exact (hcm (by omega)).wf | exact (bitM_ok (by omega)).wf | (simp; done))) rfl rfl trivial (by kernel_rfl) rfl rfl (gives_cons (gC rfl rfl) (gives_cons (gC rfl rfl) gives_nil)) rfl (fun _ _ h => h.1) ⟨trivial, ⟨trivial, trivial⟩⟩),
            dPure rfl (pure_field_ref rfl rfl rfl rfl),
            trivial⟩ ?_
        refine vStB (x := .agg [.v (.int .u64 ((((joinM ((deck.getD i default).notches) (bitM x_2.toNat)).a : Nat) : Int))), .v (.int .u64 ((((joinM ((deck.getD i default).notches) (bitM x_2.toNat)).b : Nat) : Int)))]) (row' := [.v (.string ((deck.getD i default).name)), .v (.int .u64 ((((joinM ((deck.getD i default).notches) (bitM x_2.toNat)).a : Nat) : Int))), .v (.int .u64 ((((joinM ((deck.getD i default).notches) (bitM x_2.toNat)).b : Nat) : Int)))]) rfl rfl rfl rfl rfl rfl rfl rfl rfl rfl rfl rfl ?_
        refine vpOps_nil ?_
        refine vp_region ?_
        refine vpOps_pure (x := .lv 5 []) (pure_move_lv rfl) rfl rfl rfl rfl ?_
        refine vpOps_pure (x := .agg [.v (.string ((deck.getD i default).name)), .v (.int .u64 ((((joinM ((deck.getD i default).notches) (bitM x_2.toNat)).a : Nat) : Int))), .v (.int .u64 ((((joinM ((deck.getD i default).notches) (bitM x_2.toNat)).b : Nat) : Int)))]) (pure_load_pl_agg rfl rfl rfl rfl rfl rfl rfl rfl (by simp [PV.flatL, PV.flat])) rfl rfl rfl rfl ?_
        refine vpOps_pure (x := .own 3 [[.v (.string ((deck.getD i default).name)), .v (.int .u64 ((((joinM ((deck.getD i default).notches) (bitM x_2.toNat)).a : Nat) : Int))), .v (.int .u64 ((((joinM ((deck.getD i default).notches) (bitM x_2.toNat)).b : Nat) : Int)))]]) (pBs (cs := [.v (.string ((deck.getD i default).name)), .v (.int .u64 ((((joinM ((deck.getD i default).notches) (bitM x_2.toNat)).a : Nat) : Int))), .v (.int .u64 ((((joinM ((deck.getD i default).notches) (bitM x_2.toNat)).b : Nat) : Int)))]) rfl rfl rfl rfl rfl rfl rfl) rfl rfl rfl rfl ?_
        refine vpOps_ghost (ghost_own (t := 42) rfl rfl rfl rfl) ?_
        refine vApp (f := cardc) (xs := out) (ys := [(⟨(deck.getD i default).name, joinM ((deck.getD i default).notches) (bitM x_2.toNat)⟩ : Card)]) (l := 1) rfl rfl rfl rfl rfl (srcOwn rfl rfl (fun _ => mvOkL_flat _ rfl)) rfl rfl (fun _ => rfl) (.inl ⟨_, rfl⟩) rfl rfl rfl (rfl) (by omega) (by omega) ?_
        refine vpOps_assign (x := .own 3 ((out ++ [(⟨(deck.getD i default).name, joinM ((deck.getD i default).notches) (bitM x_2.toNat)⟩ : Card)]).map cardc)) rfl rfl rfl rfl rfl rfl rfl ?_
        refine vpOps_nil ?_
        refine vp_region ?_
        refine vpOps_pure (x := .v (.int .i64 ((i : Nat) : Int))) (pMv rfl rfl rfl) rfl rfl rfl rfl ?_
        refine vpOps_pure (x := .v (.int .i64 (((i : Nat) : Int) + 1))) (pure_add rfl rfl rfl (in64 (by omega) (by omega))) rfl rfl rfl rfl ?_
        refine vpOps_pure (x := .v (.int .i64 (((i : Nat) : Int) + 1))) (pAs rfl rfl rfl) rfl rfl rfl rfl ?_
        refine vpOps_nil ?_
        exact ⟨(i + 1, out ++ [(⟨(deck.getD i default).name, joinM ((deck.getD i default).notches) (bitM x_2.toNat)⟩ : Card)], at2_2, sd2_2), (by first | omega | (dsimp only; omega)), ⟨(by omega), (by first | exact hC.skip | exact hC.push hd (by omega) rfl (hcm (by omega)) | exact hC.push hd (by omega) rfl (joinM_ok (hcm (by omega)) (bitM_ok (by omega))) | exact hC.push hd (by omega) rfl (lessM_ok (hcm (by omega)))), (by omega), (by assumption), trivial⟩, ⟨rfl, rfl, rfl, rfl, rfl, trivial⟩⟩
      · skip
        refine vp_seq ?_
        refine vp_region ?_
        refine vpOps_pure (x := .v (.bool (decide (x_1 = 2)))) (pure_bin rfl rfl rfl rfl) rfl rfl rfl rfl ?_
        refine vpOps_pure (x := .v (.bool (decide (x_1 = 2)))) (pAs rfl rfl rfl) rfl rfl rfl rfl ?_
        refine vpOps_nil ?_
        refine vIf rfl (fun h4 => ?_) (fun h4 => ?_)
        · skip
          refine vRegP 7 ((35, .pl 7 [⟨0, 1, 0⟩]) :: (36, .agg [.v (.int .u64 (((((deck.getD i default).notches).a : Nat) : Int))), .v (.int .u64 (((((deck.getD i default).notches).b : Nat) : Int)))]) :: (37, .lv 0 []) :: (38, .junk) :: (39, .junk) :: (40, .junk) :: (41, .junk) :: []) (0 :: 1 :: 0 :: 4 :: 12 :: 31 :: 63 :: 127 :: []) [3] (by kernel_rfl) (by kernel_rfl) ?_
          refine phCall 3 [false, false, false, true, true, true, true] rfl rfl rfl (by kernel_rfl) (by kernel_rfl) rfl (by kernel_rfl) (by kernel_rfl) ⟨
              dPure rfl (pure_field_ref rfl rfl rfl rfl),
              dPure rfl (pure_load_pl_agg rfl rfl rfl rfl rfl rfl rfl rfl (by simp [PV.flatL, PV.flat])),
              dPure rfl (pure_move_lv rfl),
              trivial,
              trivial,
              trivial,
              trivial,
              trivial⟩ (gs := [⟨.tmp 37, .box [.sh 1 (code.map u8c), .v (.int .i64 at2_1), .v (.int .u64 ((sd2_1 : Nat) : Int))], some (0, id), none⟩, ⟨.const (.int .i64 12), .v (.int .i64 12), none, none⟩]) (c_pick code at2_1 sd2_1 12 (by first | assumption | omega | exact (hcm (by omega)).wf | exact (bitM_ok (by omega)).wf | (simp; done)) (by first | assumption | omega | exact (hcm (by omega)).wf | exact (bitM_ok (by omega)).wf | (simp; done)) (by first | assumption | omega | exact (hcm (by omega)).wf | exact (bitM_ok (by omega)).wf | (simp; done)) (by first | assumption | omega | exact (hcm (by omega)).wf | exact (bitM_ok (by omega)).wf | (simp; done)) (by first | assumption | omega | exact (hcm (by omega)).wf | exact (bitM_ok (by omega)).wf | (simp; done))) rfl (by kernel_rfl) rfl (gives_cons (give_lendLv rfl rfl rfl) (gives_cons (gC rfl rfl) gives_nil)) ⟨trivial, trivial⟩ rfl (fun _ _ _ => .inl rfl) ?_
          rintro _ _ ⟨x_3, at2_3, sd2_3, rfl, rfl, hx_3, ha_3, hs_3⟩
          refine ⟨(35, .pl 7 [⟨0, 1, 0⟩]) :: (36, .agg [.v (.int .u64 (((((deck.getD i default).notches).a : Nat) : Int))), .v (.int .u64 (((((deck.getD i default).notches).b : Nat) : Int)))]) :: (37, .junk) :: (38, .v (.int .i64 x_3)) :: (39, .agg [.v (.int .u64 ((((bitM x_3.toNat).a : Nat) : Int))), .v (.int .u64 ((((bitM x_3.toNat).b : Nat) : Int)))]) :: (40, .agg [.v (.int .u64 ((((lessM ((deck.getD i default).notches) (bitM x_3.toNat)).a : Nat) : Int))), .v (.int .u64 ((((lessM ((deck.getD i default).notches) (bitM x_3.toNat)).b : Nat) : Int)))]) :: (41, .pl 7 [⟨0, 1, 0⟩]) :: [], [(0, .box [.sh 1 (code.map u8c), .v (.int .i64 at2_3), .v (.int .u64 ((sd2_3 : Nat) : Int))])], rfl, rfl, rfl, rfl, rfl, rfl, rfl, (by kernel_rfl), (by kernel_rfl), ?_⟩
          refine phLast [false, false, true, true, false, false, false] (by kernel_rfl) rfl (by kernel_rfl) (by kernel_rfl) ⟨
              dPure rfl (pure_field_ref rfl rfl rfl rfl),
              dPure rfl (pure_load_pl_agg rfl rfl rfl rfl rfl rfl rfl rfl (by simp [PV.flatL, PV.flat])),
              trivial,
              trivial,
              dPure rfl (pure_call (gs := [⟨.tmp 38, .v (.int .i64 x_3), none, none⟩]) (c_sBit x_3 (by first | assumption | omega | exact (hcm (by omega)).wf | exact (bitM_ok (by omega)).wf | (simp; done))) rfl rfl trivial (by kernel_rfl) rfl rfl (gives_cons (gC rfl rfl) gives_nil) rfl (fun _ _ h => h.1) ⟨trivial, ⟨trivial, trivial⟩⟩),
              dPure rfl (pure_call (gs := [⟨.tmp 36, .agg [.v (.int .u64 (((((deck.getD i default).notches).a : Nat) : Int))), .v (.int .u64 (((((deck.getD i default).notches).b : Nat) : Int)))], none, none⟩, ⟨.tmp 39, .agg [.v (.int .u64 ((((bitM x_3.toNat).a : Nat) : Int))), .v (.int .u64 ((((bitM x_3.toNat).b : Nat) : Int)))], none, none⟩]) (c_sLess ((deck.getD i default).notches) (bitM x_3.toNat) (by first | assumption | omega | exact (hcm (by omega)).wf | exact (bitM_ok (by omega)).wf | (simp; done)) (by first | assumption | omega | exact (hcm (by omega)).wf | exact (bitM_ok (by omega)).wf | (simp; done))) rfl rfl trivial (by kernel_rfl) rfl rfl (gives_cons (gC rfl rfl) (gives_cons (gC rfl rfl) gives_nil)) rfl (fun _ _ h => h.1) ⟨trivial, ⟨trivial, trivial⟩⟩),
              dPure rfl (pure_field_ref rfl rfl rfl rfl),
              trivial⟩ ?_
          refine vStB (x := .agg [.v (.int .u64 ((((lessM ((deck.getD i default).notches) (bitM x_3.toNat)).a : Nat) : Int))), .v (.int .u64 ((((lessM ((deck.getD i default).notches) (bitM x_3.toNat)).b : Nat) : Int)))]) (row' := [.v (.string ((deck.getD i default).name)), .v (.int .u64 ((((lessM ((deck.getD i default).notches) (bitM x_3.toNat)).a : Nat) : Int))), .v (.int .u64 ((((lessM ((deck.getD i default).notches) (bitM x_3.toNat)).b : Nat) : Int)))]) rfl rfl rfl rfl rfl rfl rfl rfl rfl rfl rfl rfl ?_
          refine vpOps_nil ?_
          refine vp_region ?_
          refine vpOps_pure (x := .lv 5 []) (pure_move_lv rfl) rfl rfl rfl rfl ?_
          refine vpOps_pure (x := .agg [.v (.string ((deck.getD i default).name)), .v (.int .u64 ((((lessM ((deck.getD i default).notches) (bitM x_3.toNat)).a : Nat) : Int))), .v (.int .u64 ((((lessM ((deck.getD i default).notches) (bitM x_3.toNat)).b : Nat) : Int)))]) (pure_load_pl_agg rfl rfl rfl rfl rfl rfl rfl rfl (by simp [PV.flatL, PV.flat])) rfl rfl rfl rfl ?_
          refine vpOps_pure (x := .own 3 [[.v (.string ((deck.getD i default).name)), .v (.int .u64 ((((lessM ((deck.getD i default).notches) (bitM x_3.toNat)).a : Nat) : Int))), .v (.int .u64 ((((lessM ((deck.getD i default).notches) (bitM x_3.toNat)).b : Nat) : Int)))]]) (pBs (cs := [.v (.string ((deck.getD i default).name)), .v (.int .u64 ((((lessM ((deck.getD i default).notches) (bitM x_3.toNat)).a : Nat) : Int))), .v (.int .u64 ((((lessM ((deck.getD i default).notches) (bitM x_3.toNat)).b : Nat) : Int)))]) rfl rfl rfl rfl rfl rfl rfl) rfl rfl rfl rfl ?_
          refine vpOps_ghost (ghost_own (t := 42) rfl rfl rfl rfl) ?_
          refine vApp (f := cardc) (xs := out) (ys := [(⟨(deck.getD i default).name, lessM ((deck.getD i default).notches) (bitM x_3.toNat)⟩ : Card)]) (l := 1) rfl rfl rfl rfl rfl (srcOwn rfl rfl (fun _ => mvOkL_flat _ rfl)) rfl rfl (fun _ => rfl) (.inl ⟨_, rfl⟩) rfl rfl rfl (rfl) (by omega) (by omega) ?_
          refine vpOps_assign (x := .own 3 ((out ++ [(⟨(deck.getD i default).name, lessM ((deck.getD i default).notches) (bitM x_3.toNat)⟩ : Card)]).map cardc)) rfl rfl rfl rfl rfl rfl rfl ?_
          refine vpOps_nil ?_
          refine vp_region ?_
          refine vpOps_pure (x := .v (.int .i64 ((i : Nat) : Int))) (pMv rfl rfl rfl) rfl rfl rfl rfl ?_
          refine vpOps_pure (x := .v (.int .i64 (((i : Nat) : Int) + 1))) (pure_add rfl rfl rfl (in64 (by omega) (by omega))) rfl rfl rfl rfl ?_
          refine vpOps_pure (x := .v (.int .i64 (((i : Nat) : Int) + 1))) (pAs rfl rfl rfl) rfl rfl rfl rfl ?_
          refine vpOps_nil ?_
          exact ⟨(i + 1, out ++ [(⟨(deck.getD i default).name, lessM ((deck.getD i default).notches) (bitM x_3.toNat)⟩ : Card)], at2_3, sd2_3), (by first | omega | (dsimp only; omega)), ⟨(by omega), (by first | exact hC.skip | exact hC.push hd (by omega) rfl (hcm (by omega)) | exact hC.push hd (by omega) rfl (joinM_ok (hcm (by omega)) (bitM_ok (by omega))) | exact hC.push hd (by omega) rfl (lessM_ok (hcm (by omega)))), (by omega), (by assumption), trivial⟩, ⟨rfl, rfl, rfl, rfl, rfl, trivial⟩⟩
        · skip
          refine vp_skip ?_
          refine vp_region ?_
          refine vpOps_pure (x := .lv 5 []) (pure_move_lv rfl) rfl rfl rfl rfl ?_
          refine vpOps_pure (x := .agg [.v (.string ((deck.getD i default).name)), .v (.int .u64 (((((deck.getD i default).notches).a : Nat) : Int))), .v (.int .u64 (((((deck.getD i default).notches).b : Nat) : Int)))]) (pure_load_pl_agg rfl rfl rfl rfl rfl rfl rfl rfl (by simp [PV.flatL, PV.flat])) rfl rfl rfl rfl ?_
          refine vpOps_pure (x := .own 3 [[.v (.string ((deck.getD i default).name)), .v (.int .u64 (((((deck.getD i default).notches).a : Nat) : Int))), .v (.int .u64 (((((deck.getD i default).notches).b : Nat) : Int)))]]) (pBs (cs := [.v (.string ((deck.getD i default).name)), .v (.int .u64 (((((deck.getD i default).notches).a : Nat) : Int))), .v (.int .u64 (((((deck.getD i default).notches).b : Nat) : Int)))]) rfl rfl rfl rfl rfl rfl rfl) rfl rfl rfl rfl ?_
          refine vpOps_ghost (ghost_own (t := 42) rfl rfl rfl rfl) ?_
          refine vApp (f := cardc) (xs := out) (ys := [deck.getD i default]) (l := 1) rfl rfl rfl rfl rfl (srcOwn rfl rfl (fun _ => mvOkL_flat _ rfl)) rfl rfl (fun _ => rfl) (.inl ⟨_, rfl⟩) rfl rfl rfl (rfl) (by omega) (by omega) ?_
          refine vpOps_assign (x := .own 3 ((out ++ [deck.getD i default]).map cardc)) rfl rfl rfl rfl rfl rfl rfl ?_
          refine vpOps_nil ?_
          refine vp_region ?_
          refine vpOps_pure (x := .v (.int .i64 ((i : Nat) : Int))) (pMv rfl rfl rfl) rfl rfl rfl rfl ?_
          refine vpOps_pure (x := .v (.int .i64 (((i : Nat) : Int) + 1))) (pure_add rfl rfl rfl (in64 (by omega) (by omega))) rfl rfl rfl rfl ?_
          refine vpOps_pure (x := .v (.int .i64 (((i : Nat) : Int) + 1))) (pAs rfl rfl rfl) rfl rfl rfl rfl ?_
          refine vpOps_nil ?_
          exact ⟨(i + 1, out ++ [deck.getD i default], at2_1, sd2_1), (by first | omega | (dsimp only; omega)), ⟨(by omega), (by first | exact hC.skip | exact hC.push hd (by omega) rfl (hcm (by omega)) | exact hC.push hd (by omega) rfl (joinM_ok (hcm (by omega)) (bitM_ok (by omega))) | exact hC.push hd (by omega) rfl (lessM_ok (hcm (by omega)))), (by omega), (by assumption), trivial⟩, ⟨rfl, rfl, rfl, rfl, rfl, trivial⟩⟩
  · skip
    refine vp_exit ?_
    refine vp_seq ?_
    refine vp_seq ?_
    refine vp_region ?_
    refine vpOps_pure (x := .lv 0 []) (pure_move_lv rfl) rfl rfl rfl rfl ?_
    refine vpOps_call (gs := [⟨.tmp 46, .box [.sh 1 (code.map u8c), .v (.int .i64 at1), .v (.int .u64 ((sd1 : Nat) : Int))], some (0, id), none⟩, ⟨.const (.int .i64 2), .v (.int .i64 2), none, none⟩]) (c_one code at1 sd1 2 (by first | assumption | omega | exact (hcm (by omega)).wf | exact (bitM_ok (by omega)).wf | (simp; done)) (by first | assumption | omega | exact (hcm (by omega)).wf | exact (bitM_ok (by omega)).wf | (simp; done)) (by first | assumption | omega | exact (hcm (by omega)).wf | exact (bitM_ok (by omega)).wf | (simp; done)) (by first | assumption | omega | exact (hcm (by omega)).wf | exact (bitM_ok (by omega)).wf | (simp; done)) (by first | assumption | omega | exact (hcm (by omega)).wf | exact (bitM_ok (by omega)).wf | (simp; done))) rfl rfl rfl rfl rfl trivial (by kernel_rfl) rfl rfl (gives_cons (give_lendLv rfl rfl rfl) (gives_cons (gC rfl rfl) gives_nil)) rfl (fun _ _ _ => .inl rfl) ?_
    rintro _ _ ⟨b_4, at2_4, sd2_4, rfl, rfl, ha_4, hs_4⟩
    refine vpOps_nil ?_
    refine vIfB rfl (fun h5 => ?_) (fun h5 => ?_)
    · skip
      refine vp_seq ?_
      refine vp_region ?_
      refine vpOps_pure (x := .lv 0 []) (pure_move_lv rfl) rfl rfl rfl rfl ?_
      refine vpOps_pure (x := .own 1 [[.v (.string (ByteArray.mk #[110, 101, 119, 116]))], [.v (.string (ByteArray.mk #[111, 119, 108]))], [.v (.string (ByteArray.mk #[112, 105, 103]))]]) (pBs (cs := [.v (.string (ByteArray.mk #[110, 101, 119, 116])), .v (.string (ByteArray.mk #[111, 119, 108])), .v (.string (ByteArray.mk #[112, 105, 103]))]) rfl rfl rfl rfl rfl rfl rfl) rfl rfl rfl rfl ?_
      refine vpOps_ghost (ghost_freeze (k := 49) rfl rfl rfl) ?_
      refine vpOps_call (gs := [⟨.tmp 48, .box [.sh 1 (code.map u8c), .v (.int .i64 at2_4), .v (.int .u64 ((sd2_4 : Nat) : Int))], some (0, id), none⟩, ⟨.tmp 49, .sh 1 [[.v (.string (ByteArray.mk #[110, 101, 119, 116]))], [.v (.string (ByteArray.mk #[111, 119, 108]))], [.v (.string (ByteArray.mk #[112, 105, 103]))]], none, none⟩]) (c_text code at2_4 sd2_4 ([(ByteArray.mk #[110, 101, 119, 116]), (ByteArray.mk #[111, 119, 108]), (ByteArray.mk #[112, 105, 103])]) (by first | assumption | omega | exact (hcm (by omega)).wf | exact (bitM_ok (by omega)).wf | (simp; done)) (by first | assumption | omega | exact (hcm (by omega)).wf | exact (bitM_ok (by omega)).wf | (simp; done)) (by first | assumption | omega | exact (hcm (by omega)).wf | exact (bitM_ok (by omega)).wf | (simp; done)) (by first | assumption | omega | exact (hcm (by omega)).wf | exact (bitM_ok (by omega)).wf | (simp; done)) (by first | assumption | omega | exact (hcm (by omega)).wf | exact (bitM_ok (by omega)).wf | (simp; done))) rfl rfl rfl rfl rfl trivial (by kernel_rfl) rfl rfl (gives_cons (give_lendLv rfl rfl rfl) (gives_cons (gC rfl rfl) gives_nil)) rfl (fun _ _ _ => .inl rfl) ?_
      rintro _ _ ⟨w_5, at2_5, sd2_5, rfl, rfl, hw_5, ha_5, hs_5⟩
      refine vpOps_pure (x := .agg [.v (.string w_5), .v (.int .u64 0), .v (.int .u64 0)]) (pure_build_st rfl (flatsB_ok rfl) rfl) rfl rfl rfl rfl ?_
      refine vpOps_pure (x := .box [.v (.string (ByteArray.mk #[])), .v (.int .u64 0), .v (.int .u64 0)]) (pure_alloc rfl) rfl rfl rfl rfl ?_
      refine vStB (x := .agg [.v (.string w_5), .v (.int .u64 0), .v (.int .u64 0)]) (row' := [.v (.string w_5), .v (.int .u64 0), .v (.int .u64 0)]) rfl rfl rfl rfl rfl rfl rfl rfl rfl rfl rfl rfl ?_
      refine vpOps_nil ?_
      refine vp_seq ?_
      refine vp_region ?_
      refine vpOps_pure (x := .lv 0 []) (pure_move_lv rfl) rfl rfl rfl rfl ?_
      refine vpOps_call (gs := [⟨.tmp 52, .box [.sh 1 (code.map u8c), .v (.int .i64 at2_5), .v (.int .u64 ((sd2_5 : Nat) : Int))], some (0, id), none⟩, ⟨.const (.int .i64 12), .v (.int .i64 12), none, none⟩]) (c_pick code at2_5 sd2_5 12 (by first | assumption | omega | exact (hcm (by omega)).wf | exact (bitM_ok (by omega)).wf | (simp; done)) (by first | assumption | omega | exact (hcm (by omega)).wf | exact (bitM_ok (by omega)).wf | (simp; done)) (by first | assumption | omega | exact (hcm (by omega)).wf | exact (bitM_ok (by omega)).wf | (simp; done)) (by first | assumption | omega | exact (hcm (by omega)).wf | exact (bitM_ok (by omega)).wf | (simp; done)) (by first | assumption | omega | exact (hcm (by omega)).wf | exact (bitM_ok (by omega)).wf | (simp; done))) rfl rfl rfl rfl rfl trivial (by kernel_rfl) rfl rfl (gives_cons (give_lendLv rfl rfl rfl) (gives_cons (gC rfl rfl) gives_nil)) rfl (fun _ _ _ => .inl rfl) ?_
      rintro _ _ ⟨x_6, at2_6, sd2_6, rfl, rfl, hx_6, ha_6, hs_6⟩
      refine vpOps_call (gs := [⟨.tmp 53, .v (.int .i64 x_6), none, none⟩]) (c_sBit x_6 (by first | assumption | omega | exact (hcm (by omega)).wf | exact (bitM_ok (by omega)).wf | (simp; done))) rfl rfl rfl rfl rfl trivial (by kernel_rfl) rfl rfl (gives_cons (gC rfl rfl) gives_nil) rfl (fun _ _ _ => .inl rfl) ?_
      rintro _ _ ⟨rfl, rfl⟩
      refine vpOps_pure (x := .pl 8 [⟨0, 1, 0⟩]) (pure_field_ref rfl rfl rfl rfl) rfl rfl rfl rfl ?_
      refine vStB (x := .agg [.v (.int .u64 ((((bitM x_6.toNat).a : Nat) : Int))), .v (.int .u64 ((((bitM x_6.toNat).b : Nat) : Int)))]) (row' := [.v (.string w_5), .v (.int .u64 ((((bitM x_6.toNat).a : Nat) : Int))), .v (.int .u64 ((((bitM x_6.toNat).b : Nat) : Int)))]) rfl rfl rfl rfl rfl rfl rfl rfl rfl rfl rfl rfl ?_
      refine vpOps_nil ?_
      refine vp_seq ?_
      refine vp_region ?_
      refine vpOps_pure (x := .lv 5 []) (pure_move_lv rfl) rfl rfl rfl rfl ?_
      refine vpOps_pure (x := .pl 8 [⟨0, 0, 0⟩]) (pure_field_ref rfl rfl rfl rfl) rfl rfl rfl rfl ?_
      refine vpOps_pure (x := .v (.string w_5)) (pure_load_pl rfl rfl rfl rfl rfl rfl rfl trivial rfl) rfl rfl rfl rfl ?_
      refine vpOps_call (gs := [⟨.tmp 56, .sh 3 (out.map cardc), none, some 5⟩, ⟨.tmp 58, .v (.string w_5), none, none⟩]) (c_sFind out w_5 (by first | assumption | omega | exact (hcm (by omega)).wf | exact (bitM_ok (by omega)).wf | (simp; done))) rfl rfl rfl rfl rfl trivial (by kernel_rfl) rfl rfl (gives_cons (give_view (c := .own 3 (out.map cardc)) rfl rfl rfl rfl (view_map (fun _ => rfl))) (gives_cons (gC rfl rfl) gives_nil)) rfl (fun _ _ h => .inr (by obtain ⟨h1, h2⟩ := h; subst h1; subst h2; exact ⟨by simp [PV.closed, PV.closedL, closedE_map], by simp [PV.closedL, PV.closed]⟩)) ?_
      rintro _ _ ⟨rfl, rfl⟩
      refine vpOps_pure (x := .v (.bool (decide ((placeC out w_5) < 0)))) (pure_bin rfl rfl rfl rfl) rfl rfl rfl rfl ?_
      refine vpOps_nil ?_
      refine vIf rfl (fun h6 => ?_) (fun h6 => ?_)
      · skip
        refine vp_region ?_
        refine vpOps_pure (x := .lv 5 []) (pure_move_lv rfl) rfl rfl rfl rfl ?_
        refine vpOps_pure (x := .agg [.v (.string w_5), .v (.int .u64 ((((bitM x_6.toNat).a : Nat) : Int))), .v (.int .u64 ((((bitM x_6.toNat).b : Nat) : Int)))]) (pure_load_pl_agg rfl rfl rfl rfl rfl rfl rfl rfl (by simp [PV.flatL, PV.flat])) rfl rfl rfl rfl ?_
        refine vpOps_pure (x := .own 3 [[.v (.string w_5), .v (.int .u64 ((((bitM x_6.toNat).a : Nat) : Int))), .v (.int .u64 ((((bitM x_6.toNat).b : Nat) : Int)))]]) (pBs (cs := [.v (.string w_5), .v (.int .u64 ((((bitM x_6.toNat).a : Nat) : Int))), .v (.int .u64 ((((bitM x_6.toNat).b : Nat) : Int)))]) rfl rfl rfl rfl rfl rfl rfl) rfl rfl rfl rfl ?_
        refine vpOps_ghost (ghost_own (t := 61) rfl rfl rfl rfl) ?_
        refine vApp (f := cardc) (xs := out) (ys := [(⟨w_5, bitM x_6.toNat⟩ : Card)]) (l := 1) rfl rfl rfl rfl rfl (srcOwn rfl rfl (fun _ => mvOkL_flat _ rfl)) rfl rfl (fun _ => rfl) (.inl ⟨_, rfl⟩) rfl rfl rfl (rfl) (by omega) (by omega) ?_
        refine vpOps_assign (x := .own 3 ((out ++ [(⟨w_5, bitM x_6.toNat⟩ : Card)]).map cardc)) rfl rfl rfl rfl rfl rfl rfl ?_
        refine vpOps_nil ?_
        refine vp_seq ?_
        refine vp_region ?_
        refine vpOps_pure (x := .lv 5 []) (pure_move_lv rfl) rfl rfl rfl rfl ?_
        refine vpOps_ghost (ghost_own (t := 65) rfl rfl rfl rfl) ?_
        refine vpOps_assign (x := .own 3 ((out ++ [(⟨w_5, bitM x_6.toNat⟩ : Card)]).map cardc)) rfl rfl rfl rfl rfl rfl rfl ?_
        refine vpOps_nil ?_
        refine vp_ret ?_
        exact ⟨[.own 3 ((out ++ [(⟨w_5, bitM x_6.toNat⟩ : Card)]).map cardc)], [4], (.cons (.tmp rfl rfl) .nil), rfl, ⟨out ++ [(⟨w_5, bitM x_6.toNat⟩ : Card)], at2_6, sd2_6, (show (.own 3 ((out ++ [(⟨w_5, bitM x_6.toNat⟩ : Card)]).map cardc) : PV) = .own 3 ((out ++ [(⟨w_5, bitM x_6.toNat⟩ : Card)]).map cardc) from rfl), rfl, (by rw [show deck.length = i by omega]; first | exact hC.done (by omega) | exact hC.more (by omega) (three_name (by assumption)) (bitM_ok (by omega)) (by assumption)), (by omega), (by first | assumption | omega)⟩⟩
      · skip
        refine vp_skip ?_
        refine vp_seq ?_
        refine vp_region ?_
        refine vpOps_pure (x := .lv 5 []) (pure_move_lv rfl) rfl rfl rfl rfl ?_
        refine vpOps_ghost (ghost_own (t := 65) rfl rfl rfl rfl) ?_
        refine vpOps_assign (x := .own 3 (out.map cardc)) rfl rfl rfl rfl rfl rfl rfl ?_
        refine vpOps_nil ?_
        refine vp_ret ?_
        exact ⟨[.own 3 (out.map cardc)], [4], (.cons (.tmp rfl rfl) .nil), rfl, ⟨out, at2_6, sd2_6, (show (.own 3 (out.map cardc) : PV) = .own 3 (out.map cardc) from rfl), rfl, (by rw [show deck.length = i by omega]; first | exact hC.done (by omega) | exact hC.more (by omega) (three_name (by assumption)) (bitM_ok (by omega)) (by assumption)), (by omega), (by first | assumption | omega)⟩⟩
    · skip
      refine vp_skip ?_
      refine vp_seq ?_
      refine vp_region ?_
      refine vpOps_pure (x := .lv 5 []) (pure_move_lv rfl) rfl rfl rfl rfl ?_
      refine vpOps_ghost (ghost_own (t := 65) rfl rfl rfl rfl) ?_
      refine vpOps_assign (x := .own 3 (out.map cardc)) rfl rfl rfl rfl rfl rfl rfl ?_
      refine vpOps_nil ?_
      refine vp_ret ?_
      exact ⟨[.own 3 (out.map cardc)], [4], (.cons (.tmp rfl rfl) .nil), rfl, ⟨out, at2_4, sd2_4, (show (.own 3 (out.map cardc) : PV) = .own 3 (out.map cardc) from rfl), rfl, (by rw [show deck.length = i by omega]; first | exact hC.done (by omega) | exact hC.more (by omega) (three_name (by assumption)) (bitM_ok (by omega)) (by assumption)), (by omega), (by first | assumption | omega)⟩⟩

/-- spec.A2Changed -/
theorem c_A2Changed {G : World → Prop} (code : List Int) (deck : List Card) (hc : ∀ x ∈ code, 0 ≤ x ∧ x ≤ 255) (hcl : code.length ≤ 1048576) (hd : deckOk deck) (hw : ∀ c ∈ deck, c.wf) (hdl : deck.length ≤ 60) : CallsV Tryd.prog G 7 [.sh 1 (code.map u8c), .sh 3 (deck.map cardc)] (fun r outs => ∃ (out : List Card), r = .own 3 (out.map cardc) ∧ outs = [.junk, .junk] ∧ (deckOk out ∧ (∀ c ∈ out, c.wf) ∧ out.length ≤ deck.length + 1)) := by
  refine callsV_enter [] Tryd.func7 rfl rfl rfl ?_
  refine vp_seq ?_
  refine vp_region ?_
  refine vpOps_pure (x := .v (.slice none 0 0)) (pAs rfl rfl rfl) rfl rfl rfl rfl ?_
  refine vpOps_nil ?_
  refine vp_seq ?_
  refine vp_region ?_
  refine vpOps_pure (x := .sh 1 (code.map u8c)) (pMv rfl rfl rfl) rfl rfl rfl rfl ?_
  refine vpOps_call (gs := [⟨.tmp 5, .sh 1 (code.map u8c), none, none⟩]) (c_l00From code ) rfl rfl rfl rfl rfl trivial (by kernel_rfl) rfl rfl (gives_cons (gC rfl rfl) gives_nil) rfl (fun _ _ _ => .inl rfl) ?_
  rintro _ _ ⟨rfl, rfl⟩
  refine vpOps_pure (x := .sh 3 (deck.map cardc)) (pMv rfl rfl rfl) rfl rfl rfl rfl ?_
  refine vpOps_call (gs := [⟨.tmp 6, .box [.sh 1 (code.map u8c), .v (.int .i64 0), .v (.int .u64 ((0 : Nat) : Int))], some (6, id), none⟩, ⟨.tmp 7, .sh 3 (deck.map cardc), none, none⟩]) (c_sChanged code 0 0 deck (by first | assumption | omega) (by first | assumption | omega) (by first | assumption | omega) (by first | assumption | omega) (by first | assumption | omega) (by first | assumption | omega) (by first | assumption | omega)) rfl rfl rfl rfl rfl trivial (by kernel_rfl) rfl rfl (gives_cons (give_lend rfl rfl) (gives_cons (gC rfl rfl) gives_nil)) rfl (fun _ _ _ => .inl rfl) ?_
  rintro _ _ ⟨out_2, at2_2, sd2_2, rfl, rfl, hO_2, ha_2, hs_2⟩
  refine vpOps_assign (x := .own 3 (out_2.map cardc)) rfl rfl rfl rfl rfl rfl rfl ?_
  refine vpOps_nil ?_
  refine vp_ret ?_
  exact ⟨[.own 3 (out_2.map cardc)], [4], (.cons (.tmp rfl rfl) .nil), rfl, ⟨out_2, (show (.own 3 (out_2.map cardc) : PV) = .own 3 (out_2.map cardc) from rfl), rfl, (by assumption)⟩⟩

/-- strings.makeASCIISet -/
theorem c_mkASCII {G : World → Prop} (s : ByteArray) (hs : s.size ≤ 9223372036854775807) (hb : ∀ j, j < s.size → sb s j < 128) : CallsV Tryd.prog G 67 [.v (.string s)] (fun r outs => r = .tup [.agg ((setTo s s.size).map boolv), .v (.bool (true))] ∧ outs = [.junk]) := by
  refine callsV_enter [] Tryd.func67 rfl rfl rfl ?_
  refine vp_seq ?_
  refine vp_region ?_
  refine vpOps_pure (x := .box (List.replicate 256 (.v (.bool false)))) (pure_alloc rfl) rfl rfl rfl rfl ?_
  refine vpOps_pure (x := .v (.bool (false))) (pAs rfl rfl rfl) rfl rfl rfl rfl ?_
  refine vpOps_nil ?_
  refine vp_seq ?_
  refine vp_seq ?_
  refine vp_region ?_
  refine vpOps_pure (x := .v (.int .i64 0)) (pAs rfl rfl rfl) rfl rfl rfl rfl ?_
  refine vpOps_nil ?_
  refine vp_block ?_
  refine vLoop (α := Nat) (fun i => s.size - i) (fun i => (i ≤ s.size) ∧ True) (fun i => [(0, .v (.string s)), (2, .box ((setTo s i).map boolv)), (4, .v (.int .i64 ((i : Nat) : Int)))]) (fun _ => rfl) (fun _ => rfl) 0 ⟨(by omega), trivial⟩ ⟨rfl, (show (.box (List.replicate 256 (.v (.bool false))) : PV) = .box ((setTo s 0).map boolv) from by rw [← set0]), rfl, trivial⟩ ?_
  rintro i ⟨hi, -⟩
  refine vp_seq ?_
  refine vp_seq ?_
  refine vp_region ?_
  refine vpOps_pure (x := .v (.int .i64 ((i : Nat) : Int))) (pMv rfl rfl rfl) rfl rfl rfl rfl ?_
  refine vpOps_pure (x := .v (.string s)) (pMv rfl rfl rfl) rfl rfl rfl rfl ?_
  refine vpOps_pure (x := .v (.int .i64 ((s.size : Nat) : Int))) (pure_len_str rfl rfl) rfl rfl rfl rfl ?_
  refine vpOps_pure (x := .v (.bool (decide (((i : Nat) : Int) < ((s.size : Nat) : Int))))) (pure_bin rfl rfl rfl rfl) rfl rfl rfl rfl ?_
  refine vpOps_nil ?_
  refine vIf rfl (fun h1 => ?_) (fun h1 => ?_)
  · skip
    refine vp_skip ?_
    refine vp_seq ?_
    refine vp_block ?_
    refine vp_seq ?_
    refine vp_region ?_
    refine vpOps_pure (x := .v (.string s)) (pMv rfl rfl rfl) rfl rfl rfl rfl ?_
    refine vpOps_pure (x := .v (.int .i64 ((i : Nat) : Int))) (pMv rfl rfl rfl) rfl rfl rfl rfl ?_
    refine vpOps_pure (x := .v (.int .u8 ((((sb s i) : Nat) : Int)))) (pIxStr (m := i) rfl rfl rfl (by first | rfl | omega) (by omega)) rfl rfl rfl rfl ?_
    refine vpOps_pure (x := .v (.int .u8 ((((sb s i) : Nat) : Int)))) (pAs rfl rfl rfl) rfl rfl rfl rfl ?_
    refine vpOps_nil ?_
    refine vp_seq ?_
    refine vp_seq ?_
    refine vp_region ?_
    refine vpOps_pure (x := .v (.int .u8 ((((sb s i) : Nat) : Int)))) (pMv rfl rfl rfl) rfl rfl rfl rfl ?_
    refine vpOps_pure (x := .v (.bool (decide (128 ≤ ((((sb s i) : Nat) : Int)))))) (pure_bin rfl rfl rfl rfl) rfl rfl rfl rfl ?_
    refine vpOps_nil ?_
    refine vIf rfl (fun h2 => ?_) (fun h2 => ?_)
    · exact False.elim (by have := hb i (by omega); omega)
    · skip
      refine vp_skip ?_
      refine vp_region ?_
      refine vpOps_pure (x := .v (.int .u8 ((((sb s i) : Nat) : Int)))) (pMv rfl rfl rfl) rfl rfl rfl rfl ?_
      refine vpOps_pure (x := .pl 2 [⟨0, sb s i, 0⟩]) (pIxBoolB (i := ((sb s i : Nat) : Int)) rfl rfl rfl rfl (by have := hb i (by omega); omega)) rfl rfl rfl rfl ?_
      refine vStBool rfl rfl rfl rfl rfl rfl (by rw [setTo_len]; exact Nat.lt_of_lt_of_le (hb i (by omega)) (by decide)) ?_
      refine vpOps_nil ?_
      refine vp_region ?_
      refine vpOps_pure (x := .v (.int .i64 ((i : Nat) : Int))) (pMv rfl rfl rfl) rfl rfl rfl rfl ?_
      refine vpOps_pure (x := .v (.int .i64 (((i : Nat) : Int) + 1))) (pure_add rfl rfl rfl (in64 (by omega) (by omega))) rfl rfl rfl rfl ?_
      refine vpOps_pure (x := .v (.int .i64 (((i : Nat) : Int) + 1))) (pAs rfl rfl rfl) rfl rfl rfl rfl ?_
      refine vpOps_nil ?_
      exact ⟨i + 1, (by first | omega | (dsimp only; omega)), ⟨(by omega), trivial⟩, ⟨rfl, (show (.box (((setTo s i).set (sb s i) true).map boolv) : PV) = .box ((setTo s (i + 1)).map boolv) from by rfl), rfl, trivial⟩⟩
  · skip
    refine vp_exit ?_
    refine vp_seq ?_
    refine vp_region ?_
    refine vpOps_pure (x := .agg ((setTo s i).map boolv)) (pLdBools rfl rfl rfl rfl (setTo_len s i)) rfl rfl rfl rfl ?_
    refine vStBools rfl rfl rfl rfl rfl rfl (setTo_len s i) (by rw [List.length_map, setTo_len]) ?_
    refine vpOps_pure (x := .v (.bool (true))) (pAs rfl rfl rfl) rfl rfl rfl rfl ?_
    refine vpOps_nil ?_
    refine vp_ret ?_
    exact ⟨[.agg ((setTo s i).map boolv), .v (.bool (true))], [2, 3], (.cons (.cellAgg rfl rfl (by simp [setTo_len])) (.cons (.tmp rfl rfl) .nil)), rfl, ⟨(show (.tup [.agg ((setTo s i).map boolv), .v (.bool (true))] : PV) = .tup [.agg ((setTo s s.size).map boolv), .v (.bool (true))] from (by rw [show i = s.size by omega])), rfl⟩⟩

/-- (*strings.asciiSet).contains -/
theorem c_ascContains {G : World → Prop} (bs : List Bool) (c : Int) (hl : bs.length = 256) (hc : 0 ≤ c ∧ c < 256) : CallsV Tryd.prog G 72 [.rbox (bs.map boolv), .v (.int .u8 c)] (fun r outs => r = .v (.bool (bs.getD c.toNat false)) ∧ outs = [.junk, .junk]) := by
  refine callsV_enter [] Tryd.func72 rfl rfl rfl ?_
  refine vp_seq ?_
  refine vp_region ?_
  refine vpOps_pure (x := .v (.bool (false))) (pAs rfl rfl rfl) rfl rfl rfl rfl ?_
  refine vpOps_nil ?_
  refine vp_seq ?_
  refine vp_region ?_
  refine vpOps_pure (x := .rbox (bs.map boolv)) (pMv rfl rfl rfl) rfl rfl rfl rfl ?_
  refine vpOps_pure (x := .v (.int .u8 c)) (pMv rfl rfl rfl) rfl rfl rfl rfl ?_
  refine vpOps_pure (x := .rbox (bs.map boolv)) (pure_nil_flat rfl rfl) rfl rfl rfl rfl ?_
  refine vpOps_pure (x := .rbox (boolv (bs.getD c.toNat false) :: (bs.map boolv).drop (c.toNat + 1))) (pIxBool rfl rfl rfl hl hc) rfl rfl rfl rfl ?_
  refine vpOps_pure (x := .v (.bool (bs.getD c.toNat false))) (pure_load_rbox rfl rfl rfl) rfl rfl rfl rfl ?_
  refine vpOps_pure (x := .v (.bool (bs.getD c.toNat false))) (pAs rfl rfl rfl) rfl rfl rfl rfl ?_
  refine vpOps_nil ?_
  refine vp_ret ?_
  exact ⟨[.v (.bool (bs.getD c.toNat false))], [4], (.cons (.tmp rfl rfl) .nil), rfl, ⟨(show (.v (.bool (bs.getD c.toNat false)) : PV) = .v (.bool (bs.getD c.toNat false)) from rfl), rfl⟩⟩

/-- strings.trimRightASCII -/
theorem c_trimR {G : World → Prop} (s : ByteArray) (bs : List Bool) (hs : s.size ≤ 9223372036854775807) (hl : bs.length = 256) : CallsV Tryd.prog G 69 [.v (.string s), .rbox (bs.map boolv)] (fun r outs => ∃ (k : Nat), r = .v (.string (s.extract 0 k)) ∧ outs = [.junk, .junk] ∧ (k ≤ s.size) ∧ (∀ j, k ≤ j → j < s.size → bs.getD (sb s j) false = true) ∧ (k = 0 ∨ bs.getD (sb s (k - 1)) false = false)) := by
  refine callsV_enter [] Tryd.func69 rfl rfl rfl ?_
  refine vp_seq ?_
  refine vp_region ?_
  refine vpOps_pure (x := .v (.string (ByteArray.mk #[]))) (pAs rfl rfl rfl) rfl rfl rfl rfl ?_
  refine vpOps_nil ?_
  refine vp_seq ?_
  refine vp_block ?_
  refine vLoop (α := Nat) (fun k => k) (fun k => (k ≤ s.size) ∧ (∀ j, k ≤ j → j < s.size → bs.getD (sb s j) false = true) ∧ True) (fun k => [(0, .v (.string (s.extract 0 k))), (1, .rbox (bs.map boolv)), (4, .v (.string (ByteArray.mk #[])))]) (fun _ => rfl) (fun _ => rfl) s.size ⟨(by omega), (by intro j h1 h2; omega), trivial⟩ ⟨(show (.v (.string s) : PV) = .v (.string (s.extract 0 s.size)) from by rw [ext_all]), rfl, rfl, trivial⟩ ?_
  rintro k ⟨hk, ha, -⟩
  have hxz : (s.extract 0 k).size = k := by rw [ext_size (by omega) hk]; omega
  refine vp_seq ?_
  refine vp_seq ?_
  refine vp_region ?_
  refine vpOps_pure (x := .v (.string (s.extract 0 k))) (pMv rfl rfl rfl) rfl rfl rfl rfl ?_
  refine vpOps_pure (x := .v (.int .i64 ((((s.extract 0 k).size : Nat) : Int)))) (pure_len_str rfl rfl) rfl rfl rfl rfl ?_
  refine vpOps_pure (x := .v (.bool (decide (0 < ((((s.extract 0 k).size : Nat) : Int)))))) (pure_bin rfl rfl rfl rfl) rfl rfl rfl rfl ?_
  refine vpOps_nil ?_
  refine vIf rfl (fun h1 => ?_) (fun h1 => ?_)
  · skip
    refine vp_skip ?_
    refine vp_block ?_
    refine vp_seq ?_
    refine vp_seq ?_
    refine vp_region ?_
    refine vpOps_pure (x := .rbox (bs.map boolv)) (pMv rfl rfl rfl) rfl rfl rfl rfl ?_
    refine vpOps_pure (x := .v (.string (s.extract 0 k))) (pMv rfl rfl rfl) rfl rfl rfl rfl ?_
    refine vpOps_pure (x := .v (.string (s.extract 0 k))) (pMv rfl rfl rfl) rfl rfl rfl rfl ?_
    refine vpOps_pure (x := .v (.int .i64 ((((s.extract 0 k).size : Nat) : Int)))) (pure_len_str rfl rfl) rfl rfl rfl rfl ?_
    refine vpOps_pure (x := .v (.int .i64 ((((k - 1) : Nat) : Int)))) (pEqI (pure_sub rfl rfl rfl (in64 (by omega) (by omega))) (by rw [ext_size (by omega) hk]; omega)) rfl rfl rfl rfl ?_
    refine vpOps_pure (x := .v (.int .u8 ((((sb (s.extract 0 k) (k - 1)) : Nat) : Int)))) (pIxStr (m := (k - 1)) rfl rfl rfl (by first | rfl | omega) (by omega)) rfl rfl rfl rfl ?_
    refine vpOps_call (gs := [⟨.tmp 8, .rbox (bs.map boolv), none, none⟩, ⟨.tmp 13, .v (.int .u8 ((((sb (s.extract 0 k) (k - 1)) : Nat) : Int))), none, none⟩]) (c_ascContains bs ((((sb (s.extract 0 k) (k - 1)) : Nat) : Int)) (by first | assumption | omega | exact sbr _ _) (by first | assumption | omega | exact sbr _ _)) rfl rfl rfl rfl rfl trivial (by kernel_rfl) rfl rfl (gives_cons (gC rfl rfl) (gives_cons (gC rfl rfl) gives_nil)) rfl (fun _ _ _ => .inl rfl) ?_
    rintro _ _ ⟨rfl, rfl⟩
    refine vpOps_pure (x := .v (.bool (!(bs.getD (sb (s.extract 0 k) (k - 1)) false)))) (pure_not rfl rfl) rfl rfl rfl rfl ?_
    refine vpOps_nil ?_
    refine vIfBN rfl (fun h2 => ?_) (fun h2 => ?_)
    · skip
      refine vp_exit ?_
      refine vp_seq ?_
      refine vp_region ?_
      refine vpOps_pure (x := .v (.string (s.extract 0 k))) (pMv rfl rfl rfl) rfl rfl rfl rfl ?_
      refine vpOps_pure (x := .v (.string (s.extract 0 k))) (pAs rfl rfl rfl) rfl rfl rfl rfl ?_
      refine vpOps_nil ?_
      refine vp_ret ?_
      exact ⟨[.v (.string (s.extract 0 k))], [4], (.cons (.tmp rfl rfl) .nil), rfl, ⟨k, (show (.v (.string (s.extract 0 k)) : PV) = .v (.string (s.extract 0 k)) from rfl), rfl, (by omega), (by assumption), (by first | (left; omega) | (right; rw [← sb_ext0 (by omega) hk]; assumption))⟩⟩
    · skip
      refine vp_skip ?_
      refine vp_region ?_
      refine vpOps_pure (x := .v (.string (s.extract 0 k))) (pMv rfl rfl rfl) rfl rfl rfl rfl ?_
      refine vpOps_pure (x := .v (.string (s.extract 0 k))) (pMv rfl rfl rfl) rfl rfl rfl rfl ?_
      refine vpOps_pure (x := .v (.int .i64 ((((s.extract 0 k).size : Nat) : Int)))) (pure_len_str rfl rfl) rfl rfl rfl rfl ?_
      refine vpOps_pure (x := .v (.int .i64 ((((k - 1) : Nat) : Int)))) (pEqI (pure_sub rfl rfl rfl (in64 (by omega) (by omega))) (by rw [ext_size (by omega) hk]; omega)) rfl rfl rfl rfl ?_
      refine vpOps_pure (x := .v (.string ((s.extract 0 k).extract 0 (k - 1)))) (pSlStr (l := 0) (h := (k - 1)) rfl rfl rfl rfl (by first | rfl | omega) (by first | rfl | omega) (by first | rfl | omega) (by first | rfl | omega)) rfl rfl rfl rfl ?_
      refine vpOps_pure (x := .v (.string ((s.extract 0 k).extract 0 (k - 1)))) (pAs rfl rfl rfl) rfl rfl rfl rfl ?_
      refine vpOps_nil ?_
      exact ⟨k - 1, (by omega), ⟨(by omega), (by intro j h1 h2; rcases Nat.lt_or_ge j k with h | h; rw [show j = k - 1 by omega, ← sb_ext0 (by omega) hk]; assumption; exact ha j h h2), trivial⟩, ⟨(show (.v (.string ((s.extract 0 k).extract 0 (k - 1))) : PV) = .v (.string (s.extract 0 (k - 1))) from by rw [ext_ext (by omega), Nat.zero_add, Nat.zero_add]), rfl, rfl, trivial⟩⟩
  · skip
    refine vp_exit ?_
    refine vp_seq ?_
    refine vp_region ?_
    refine vpOps_pure (x := .v (.string (s.extract 0 k))) (pMv rfl rfl rfl) rfl rfl rfl rfl ?_
    refine vpOps_pure (x := .v (.string (s.extract 0 k))) (pAs rfl rfl rfl) rfl rfl rfl rfl ?_
    refine vpOps_nil ?_
    refine vp_ret ?_
    exact ⟨[.v (.string (s.extract 0 k))], [4], (.cons (.tmp rfl rfl) .nil), rfl, ⟨k, (show (.v (.string (s.extract 0 k)) : PV) = .v (.string (s.extract 0 k)) from rfl), rfl, (by omega), (by assumption), (by first | (left; omega) | (right; rw [← sb_ext0 (by omega) hk]; assumption))⟩⟩

/-- strings.trimLeftASCII -/
theorem c_trimL {G : World → Prop} (s : ByteArray) (bs : List Bool) (hs : s.size ≤ 9223372036854775807) (hl : bs.length = 256) : CallsV Tryd.prog G 68 [.v (.string s), .rbox (bs.map boolv)] (fun r outs => ∃ (k : Nat), r = .v (.string (s.extract k s.size)) ∧ outs = [.junk, .junk] ∧ (k ≤ s.size) ∧ (∀ j, j < k → bs.getD (sb s j) false = true)) := by
  refine callsV_enter [] Tryd.func68 rfl rfl rfl ?_
  refine vp_seq ?_
  refine vp_region ?_
  refine vpOps_pure (x := .v (.string (ByteArray.mk #[]))) (pAs rfl rfl rfl) rfl rfl rfl rfl ?_
  refine vpOps_nil ?_
  refine vp_seq ?_
  refine vp_block ?_
  refine vLoop (α := Nat) (fun k => s.size - k) (fun k => (k ≤ s.size) ∧ (∀ j, j < k → bs.getD (sb s j) false = true) ∧ True) (fun k => [(0, .v (.string (s.extract k s.size))), (1, .rbox (bs.map boolv)), (4, .v (.string (ByteArray.mk #[])))]) (fun _ => rfl) (fun _ => rfl) 0 ⟨(by omega), (by intro j h1; omega), trivial⟩ ⟨(show (.v (.string s) : PV) = .v (.string (s.extract 0 s.size)) from by rw [ext_all]), rfl, rfl, trivial⟩ ?_
  rintro k ⟨hk, ha, -⟩
  have hxz : (s.extract k s.size).size = s.size - k := by rw [ext_size hk (by omega)]
  refine vp_seq ?_
  refine vp_seq ?_
  refine vp_region ?_
  refine vpOps_pure (x := .v (.string (s.extract k s.size))) (pMv rfl rfl rfl) rfl rfl rfl rfl ?_
  refine vpOps_pure (x := .v (.int .i64 ((((s.extract k s.size).size : Nat) : Int)))) (pure_len_str rfl rfl) rfl rfl rfl rfl ?_
  refine vpOps_pure (x := .v (.bool (decide (0 < ((((s.extract k s.size).size : Nat) : Int)))))) (pure_bin rfl rfl rfl rfl) rfl rfl rfl rfl ?_
  refine vpOps_nil ?_
  refine vIf rfl (fun h1 => ?_) (fun h1 => ?_)
  · skip
    refine vp_skip ?_
    refine vp_block ?_
    refine vp_seq ?_
    refine vp_seq ?_
    refine vp_region ?_
    refine vpOps_pure (x := .rbox (bs.map boolv)) (pMv rfl rfl rfl) rfl rfl rfl rfl ?_
    refine vpOps_pure (x := .v (.string (s.extract k s.size))) (pMv rfl rfl rfl) rfl rfl rfl rfl ?_
    refine vpOps_pure (x := .v (.int .u8 ((((sb (s.extract k s.size) 0) : Nat) : Int)))) (pIxStr (m := 0) rfl rfl rfl (by first | rfl | omega) (by omega)) rfl rfl rfl rfl ?_
    refine vpOps_call (gs := [⟨.tmp 8, .rbox (bs.map boolv), none, none⟩, ⟨.tmp 10, .v (.int .u8 ((((sb (s.extract k s.size) 0) : Nat) : Int))), none, none⟩]) (c_ascContains bs ((((sb (s.extract k s.size) 0) : Nat) : Int)) (by first | assumption | omega | exact sbr _ _) (by first | assumption | omega | exact sbr _ _)) rfl rfl rfl rfl rfl trivial (by kernel_rfl) rfl rfl (gives_cons (gC rfl rfl) (gives_cons (gC rfl rfl) gives_nil)) rfl (fun _ _ _ => .inl rfl) ?_
    rintro _ _ ⟨rfl, rfl⟩
    refine vpOps_pure (x := .v (.bool (!(bs.getD (sb (s.extract k s.size) 0) false)))) (pure_not rfl rfl) rfl rfl rfl rfl ?_
    refine vpOps_nil ?_
    refine vIfBN rfl (fun h2 => ?_) (fun h2 => ?_)
    · skip
      refine vp_exit ?_
      refine vp_seq ?_
      refine vp_region ?_
      refine vpOps_pure (x := .v (.string (s.extract k s.size))) (pMv rfl rfl rfl) rfl rfl rfl rfl ?_
      refine vpOps_pure (x := .v (.string (s.extract k s.size))) (pAs rfl rfl rfl) rfl rfl rfl rfl ?_
      refine vpOps_nil ?_
      refine vp_ret ?_
      exact ⟨[.v (.string (s.extract k s.size))], [4], (.cons (.tmp rfl rfl) .nil), rfl, ⟨k, (show (.v (.string (s.extract k s.size)) : PV) = .v (.string (s.extract k s.size)) from rfl), rfl, (by omega), (by assumption)⟩⟩
    · skip
      refine vp_skip ?_
      refine vp_region ?_
      refine vpOps_pure (x := .v (.string (s.extract k s.size))) (pMv rfl rfl rfl) rfl rfl rfl rfl ?_
      refine vpOps_pure (x := .v (.string ((s.extract k s.size).extract 1 ((s.extract k s.size).size)))) (pSlStr (l := 1) (h := (s.extract k s.size).size) rfl rfl rfl rfl (by first | rfl | omega) (by first | rfl | omega) (by omega) (by omega)) rfl rfl rfl rfl ?_
      refine vpOps_pure (x := .v (.string ((s.extract k s.size).extract 1 ((s.extract k s.size).size)))) (pAs rfl rfl rfl) rfl rfl rfl rfl ?_
      refine vpOps_nil ?_
      exact ⟨k + 1, (by omega), ⟨(by omega), (by intro j h1; rcases Nat.lt_or_ge j k with h | h; exact ha j h; rw [show j = k by omega, ← sb_extk (by omega)]; assumption), trivial⟩, ⟨(show (.v (.string ((s.extract k s.size).extract 1 ((s.extract k s.size).size))) : PV) = .v (.string (s.extract (k + 1) s.size)) from by rw [hxz, ext_ext (by omega), show k + (s.size - k) = s.size by omega]), rfl, rfl, trivial⟩⟩
  · skip
    refine vp_exit ?_
    refine vp_seq ?_
    refine vp_region ?_
    refine vpOps_pure (x := .v (.string (s.extract k s.size))) (pMv rfl rfl rfl) rfl rfl rfl rfl ?_
    refine vpOps_pure (x := .v (.string (s.extract k s.size))) (pAs rfl rfl rfl) rfl rfl rfl rfl ?_
    refine vpOps_nil ?_
    refine vp_ret ?_
    exact ⟨[.v (.string (s.extract k s.size))], [4], (.cons (.tmp rfl rfl) .nil), rfl, ⟨k, (show (.v (.string (s.extract k s.size)) : PV) = .v (.string (s.extract k s.size)) from rfl), rfl, (by omega), (by assumption)⟩⟩

/-- strings.Trim -/
theorem c_TrimAbc {G : World → Prop} (s : ByteArray) (hs : s.size ≤ 9223372036854775807) : CallsV Tryd.prog G 63 [.v (.string s), .v (.string abcB)] (fun r outs => ∃ (tr : ByteArray), r = .v (.string tr) ∧ outs = [.junk, .junk] ∧ (tr = ByteArray.mk #[] ↔ s.data.toList.all letterB = true)) := by
  refine callsV_enter [] Tryd.func63 rfl rfl rfl ?_
  refine vp_seq ?_
  refine vp_region ?_
  refine vpOps_pure (x := .v (.string (ByteArray.mk #[]))) (pAs rfl rfl rfl) rfl rfl rfl rfl ?_
  refine vpOps_nil ?_
  refine vp_seq ?_
  refine vp_seq ?_
  refine vp_region ?_
  refine vpOps_pure (x := .v (.string s)) (pMv rfl rfl rfl) rfl rfl rfl rfl ?_
  refine vpOps_pure (x := .v (.bool (decide (s = (ByteArray.mk #[]))))) (pure_str_eq rfl rfl rfl) rfl rfl rfl rfl ?_
  refine vpOps_pure (x := .v (.bool (decide (s = (ByteArray.mk #[]))))) (pMv rfl rfl rfl) rfl rfl rfl rfl ?_
  by_cases h1 : s = (ByteArray.mk #[])
  · skip
    refine vPass rfl rfl rfl (decide_eq_true h1) rfl rfl rfl ?_
    refine vPass rfl rfl rfl (decide_eq_true h1) rfl rfl rfl ?_
    refine vpOps_pure (x := .v (.bool (true))) (pPt rfl rfl (decide_eq_true h1) rfl rfl) rfl rfl rfl rfl ?_
    refine vpOps_nil ?_
    refine vIfT rfl rfl ?_
    refine vp_seq ?_
    refine vp_region ?_
    refine vpOps_pure (x := .v (.string s)) (pMv rfl rfl rfl) rfl rfl rfl rfl ?_
    refine vpOps_pure (x := .v (.string s)) (pAs rfl rfl rfl) rfl rfl rfl rfl ?_
    refine vpOps_nil ?_
    refine vp_ret ?_
    exact ⟨[.v (.string s)], [4], (.cons (.tmp rfl rfl) .nil), rfl, ⟨s, (show (.v (.string s) : PV) = .v (.string s) from rfl), rfl, (by first | (have e : s = ByteArray.mk #[] := (by assumption); subst e; decide) | exact absurd (show abcB = ByteArray.mk #[] by assumption) (by decide) | exact trim_none hk_2 ha_2 hz_2 (by have : (s.extract 0 k_2).size = k_2 := (by rw [ext_size (by omega) hk_2]; omega); omega) ha_3 (by rw [ext_size (by omega) hk_2, Nat.sub_zero]))⟩⟩
  · skip
    refine vRun rfl rfl rfl (decide_eq_false h1) rfl rfl rfl ?_
    refine vpOps_pure (x := .v (.string abcB)) (pMv rfl rfl rfl) rfl rfl rfl rfl ?_
    refine vRun rfl rfl rfl (decide_eq_false h1) rfl rfl rfl ?_
    refine vpOps_pure (x := .v (.bool (decide (abcB = (ByteArray.mk #[]))))) (pure_str_eq rfl rfl rfl) rfl rfl rfl rfl ?_
    refine vpOps_pure (x := .v (.bool (decide (abcB = (ByteArray.mk #[]))))) (pPf rfl rfl (decide_eq_false h1) rfl rfl) rfl rfl rfl rfl ?_
    refine vpOps_nil ?_
    refine vIf rfl (fun h2 => ?_) (fun h2 => ?_)
    · skip
      refine vp_seq ?_
      refine vp_region ?_
      refine vpOps_pure (x := .v (.string s)) (pMv rfl rfl rfl) rfl rfl rfl rfl ?_
      refine vpOps_pure (x := .v (.string s)) (pAs rfl rfl rfl) rfl rfl rfl rfl ?_
      refine vpOps_nil ?_
      refine vp_ret ?_
      exact ⟨[.v (.string s)], [4], (.cons (.tmp rfl rfl) .nil), rfl, ⟨s, (show (.v (.string s) : PV) = .v (.string s) from rfl), rfl, (by first | (have e : s = ByteArray.mk #[] := (by assumption); subst e; decide) | exact absurd (show abcB = ByteArray.mk #[] by assumption) (by decide) | exact trim_none hk_2 ha_2 hz_2 (by have : (s.extract 0 k_2).size = k_2 := (by rw [ext_size (by omega) hk_2]; omega); omega) ha_3 (by rw [ext_size (by omega) hk_2, Nat.sub_zero]))⟩⟩
    · skip
      refine vp_skip ?_
      refine vp_seq ?_
      refine vp_seq ?_
      refine vp_region ?_
      refine vpOps_pure (x := .v (.string abcB)) (pMv rfl rfl rfl) rfl rfl rfl rfl ?_
      refine vpOps_pure (x := .v (.int .i64 26)) (pEqI (pure_len_str rfl rfl) (rfl)) rfl rfl rfl rfl ?_
      refine vpOps_pure (x := .v (.bool (decide (26 = 1)))) (pure_bin rfl rfl rfl rfl) rfl rfl rfl rfl ?_
      refine vpOps_pure (x := .v (.bool (decide (26 = 1)))) (pMv rfl rfl rfl) rfl rfl rfl rfl ?_
      refine vPass rfl rfl rfl (decide_eq_false (by decide)) rfl rfl rfl ?_
      refine vPass rfl rfl rfl (decide_eq_false (by decide)) rfl rfl rfl ?_
      refine vPass rfl rfl rfl (decide_eq_false (by decide)) rfl rfl rfl ?_
      refine vpOps_pure (x := .v (.bool (false))) (pPf rfl rfl (decide_eq_false (by decide)) rfl rfl) rfl rfl rfl rfl ?_
      refine vpOps_nil ?_
      refine vIfF rfl rfl ?_
      refine vp_skip ?_
      refine vp_seq ?_
      refine vp_seq ?_
      refine vp_region ?_
      refine vpOps_pure (x := .v (.string abcB)) (pMv rfl rfl rfl) rfl rfl rfl rfl ?_
      refine vpOps_call (gs := [⟨.tmp 30, .v (.string abcB), none, none⟩]) (c_mkASCII abcB (by first | assumption | omega | exact setTo_len _ _ | exact abc_lt | (rw [ext_size (by omega) (by assumption)]; omega) | decide) (by first | assumption | omega | exact setTo_len _ _ | exact abc_lt | (rw [ext_size (by omega) (by assumption)]; omega) | decide)) rfl rfl rfl rfl rfl trivial (by kernel_rfl) rfl rfl (gives_cons (gC rfl rfl) gives_nil) rfl (fun _ _ _ => .inl rfl) ?_
      rintro _ _ ⟨rfl, rfl⟩
      refine vpOps_pure (x := .tup [.agg (abcT.map boolv), .v (.bool (true))]) (pure_move rfl rfl (by simp) ⟨mvOkL_flat _ (mvB _), trivial, trivial⟩ rfl) rfl rfl rfl rfl ?_
      refine vpOps_pure (x := .agg (abcT.map boolv)) (pure_extract rfl rfl rfl ⟨mvOkL_flat _ (mvB _), trivial, trivial⟩) rfl rfl rfl rfl ?_
      refine vpOps_pure (x := .v (.bool (true))) (pure_extract rfl rfl rfl ⟨mvOkL_flat _ (mvB _), trivial, trivial⟩) rfl rfl rfl rfl ?_
      refine vpOps_pure (x := .box (List.replicate 256 (.v (.bool false)))) (pure_alloc rfl) rfl rfl rfl rfl ?_
      refine vStBools rfl rfl rfl rfl rfl rfl (setTo_len _ _) (by simp) ?_
      refine vpOps_pure (x := .v (.bool (true))) (pAs rfl rfl rfl) rfl rfl rfl rfl ?_
      refine vpOps_nil ?_
      refine vp_seq ?_
      refine vp_region ?_
      refine vpOps_pure (x := .v (.bool (true))) (pMv rfl rfl rfl) rfl rfl rfl rfl ?_
      refine vpOps_nil ?_
      refine vIfT rfl rfl ?_
      refine vp_seq ?_
      refine vp_region ?_
      refine vpOps_ghost (ghost_freeze (k := 5) (y := .rbox (abcT.map boolv)) rfl rfl (by show PV.rbox (PV.viewL _) = _; rw [viewB])) ?_
      refine vpOps_pure (x := .v (.string s)) (pMv rfl rfl rfl) rfl rfl rfl rfl ?_
      refine vpOps_call (gs := [⟨.tmp 35, .v (.string s), none, none⟩, ⟨.tmp 5, .rbox (abcT.map boolv), none, none⟩]) (c_trimR s abcT (by first | assumption | omega | exact setTo_len _ _ | exact abc_lt | (rw [ext_size (by omega) (by assumption)]; omega) | decide) (by first | assumption | omega | exact setTo_len _ _ | exact abc_lt | (rw [ext_size (by omega) (by assumption)]; omega) | decide)) rfl rfl rfl rfl rfl trivial (by kernel_rfl) rfl rfl (gives_cons (gC rfl rfl) (gives_cons (gC rfl rfl) gives_nil)) rfl (fun _ _ _ => .inl rfl) ?_
      rintro _ _ ⟨k_2, rfl, rfl, hk_2, ha_2, hz_2⟩
      refine vpOps_call (gs := [⟨.tmp 36, .v (.string (s.extract 0 k_2)), none, none⟩, ⟨.tmp 5, .rbox (abcT.map boolv), none, none⟩]) (c_trimL (s.extract 0 k_2) abcT (by first | assumption | omega | exact setTo_len _ _ | exact abc_lt | (rw [ext_size (by omega) (by assumption)]; omega) | decide) (by first | assumption | omega | exact setTo_len _ _ | exact abc_lt | (rw [ext_size (by omega) (by assumption)]; omega) | decide)) rfl rfl rfl rfl rfl trivial (by kernel_rfl) rfl rfl (gives_cons (gC rfl rfl) (gives_cons (gC rfl rfl) gives_nil)) rfl (fun _ _ _ => .inl rfl) ?_
      rintro _ _ ⟨k_3, rfl, rfl, hk_3, ha_3⟩
      refine vpOps_pure (x := .v (.string ((s.extract 0 k_2).extract k_3 (s.extract 0 k_2).size))) (pAs rfl rfl rfl) rfl rfl rfl rfl ?_
      refine vpOps_nil ?_
      refine vp_ret ?_
      exact ⟨[.v (.string ((s.extract 0 k_2).extract k_3 (s.extract 0 k_2).size))], [4], (.cons (.tmp rfl rfl) .nil), rfl, ⟨(s.extract 0 k_2).extract k_3 (s.extract 0 k_2).size, (show (.v (.string ((s.extract 0 k_2).extract k_3 (s.extract 0 k_2).size)) : PV) = .v (.string ((s.extract 0 k_2).extract k_3 (s.extract 0 k_2).size)) from rfl), rfl, (by first | (have e : s = ByteArray.mk #[] := (by assumption); subst e; decide) | exact absurd (show abcB = ByteArray.mk #[] by assumption) (by decide) | exact trim_none hk_2 ha_2 hz_2 (by have : (s.extract 0 k_2).size = k_2 := (by rw [ext_size (by omega) hk_2]; omega); omega) ha_3 (by rw [ext_size (by omega) hk_2, Nat.sub_zero]))⟩⟩

/-- impl.isName -/
theorem c_isName {G : World → Prop} (s : ByteArray) (hs : s.size ≤ 9223372036854775807) : CallsV Tryd.prog G 58 [.v (.string s)] (fun r outs => r = .v (.bool (decide (nameOk s))) ∧ outs = [.junk]) := by
  refine callsV_enter [] Tryd.func58 rfl rfl rfl ?_
  refine vp_seq ?_
  refine vp_region ?_
  refine vpOps_pure (x := .v (.bool (false))) (pAs rfl rfl rfl) rfl rfl rfl rfl ?_
  refine vpOps_nil ?_
  refine vp_seq ?_
  refine vp_region ?_
  refine vpOps_pure (x := .v (.string s)) (pMv rfl rfl rfl) rfl rfl rfl rfl ?_
  refine vpOps_pure (x := .v (.int .i64 ((s.size : Nat) : Int))) (pure_len_str rfl rfl) rfl rfl rfl rfl ?_
  refine vpOps_pure (x := .v (.bool (decide (1 ≤ ((s.size : Nat) : Int))))) (pure_bin rfl rfl rfl rfl) rfl rfl rfl rfl ?_
  refine vpOps_pure (x := .v (.bool (decide (1 ≤ ((s.size : Nat) : Int))))) (pMv rfl rfl rfl) rfl rfl rfl rfl ?_
  by_cases h1 : 1 ≤ ((s.size : Nat) : Int)
  · skip
    refine vRun rfl rfl rfl (decide_eq_true h1) rfl rfl rfl ?_
    refine vpOps_pure (x := .v (.string s)) (pMv rfl rfl rfl) rfl rfl rfl rfl ?_
    refine vRun rfl rfl rfl (decide_eq_true h1) rfl rfl rfl ?_
    refine vpOps_pure (x := .v (.int .i64 ((s.size : Nat) : Int))) (pure_len_str rfl rfl) rfl rfl rfl rfl ?_
    refine vRun rfl rfl rfl (decide_eq_true h1) rfl rfl rfl ?_
    refine vpOps_pure (x := .v (.bool (decide (((s.size : Nat) : Int) ≤ 16)))) (pure_bin rfl rfl rfl rfl) rfl rfl rfl rfl ?_
    refine vpOps_pure (x := .v (.bool (decide (((s.size : Nat) : Int) ≤ 16)))) (pPt rfl rfl (decide_eq_true h1) rfl rfl) rfl rfl rfl rfl ?_
    refine vpOps_pure (x := .v (.bool (decide (((s.size : Nat) : Int) ≤ 16)))) (pMv rfl rfl rfl) rfl rfl rfl rfl ?_
    by_cases h2 : ((s.size : Nat) : Int) ≤ 16
    · skip
      refine vRun rfl rfl rfl (decide_eq_true h2) rfl rfl rfl ?_
      refine vpOps_pure (x := .v (.string s)) (pMv rfl rfl rfl) rfl rfl rfl rfl ?_
      refine vRun rfl rfl rfl (decide_eq_true h2) rfl rfl rfl ?_
      refine vpOps_call (gs := [⟨.tmp 12, .v (.string s), none, none⟩, ⟨.const (.string (ByteArray.mk #[97, 98, 99, 100, 101, 102, 103, 104, 105, 106, 107, 108, 109, 110, 111, 112, 113, 114, 115, 116, 117, 118, 119, 120, 121, 122])), .v (.string (ByteArray.mk #[97, 98, 99, 100, 101, 102, 103, 104, 105, 106, 107, 108, 109, 110, 111, 112, 113, 114, 115, 116, 117, 118, 119, 120, 121, 122])), none, none⟩]) (c_TrimAbc s (by first | assumption | omega)) rfl rfl rfl rfl rfl trivial (by kernel_rfl) rfl rfl (gives_cons (gC rfl rfl) (gives_cons (gC rfl rfl) gives_nil)) rfl (fun _ _ _ => .inl rfl) ?_
      rintro _ _ ⟨tr_1, rfl, rfl, hE_1⟩
      refine vRun rfl rfl rfl (decide_eq_true h2) rfl rfl rfl ?_
      refine vpOps_pure (x := .v (.bool (decide (tr_1 = (ByteArray.mk #[]))))) (pure_str_eq rfl rfl rfl) rfl rfl rfl rfl ?_
      refine vpOps_pure (x := .v (.bool (decide (tr_1 = (ByteArray.mk #[]))))) (pPt rfl rfl (decide_eq_true h2) rfl rfl) rfl rfl rfl rfl ?_
      refine vpOps_pure (x := .v (.bool (decide (tr_1 = (ByteArray.mk #[]))))) (pAs rfl rfl rfl) rfl rfl rfl rfl ?_
      refine vpOps_nil ?_
      refine vp_ret ?_
      exact ⟨[.v (.bool (decide (tr_1 = (ByteArray.mk #[]))))], [2], (.cons (.tmp rfl rfl) .nil), rfl, ⟨(show (.v (.bool (decide (tr_1 = (ByteArray.mk #[])))) : PV) = .v (.bool (decide (nameOk s))) from (by first | exact dec_f (fun h => by have := h.2; omega) | exact dec_i ⟨fun h => ⟨hE_1.1 h, by omega, by omega⟩, fun h => hE_1.2 h.1⟩)), rfl⟩⟩
    · skip
      refine vPass rfl rfl rfl (decide_eq_false h2) rfl rfl rfl ?_
      refine vPass rfl rfl rfl (decide_eq_false h2) rfl rfl rfl ?_
      refine vPass rfl rfl rfl (decide_eq_false h2) rfl rfl rfl ?_
      refine vpOps_pure (x := .v (.bool (false))) (pPf rfl rfl (decide_eq_false h2) rfl rfl) rfl rfl rfl rfl ?_
      refine vpOps_pure (x := .v (.bool (false))) (pAs rfl rfl rfl) rfl rfl rfl rfl ?_
      refine vpOps_nil ?_
      refine vp_ret ?_
      exact ⟨[.v (.bool (false))], [2], (.cons (.tmp rfl rfl) .nil), rfl, ⟨(show (.v (.bool (false)) : PV) = .v (.bool (decide (nameOk s))) from (by first | exact dec_f (fun h => by have := h.2; omega) | exact dec_i ⟨fun h => ⟨hE_1.1 h, by omega, by omega⟩, fun h => hE_1.2 h.1⟩)), rfl⟩⟩
  · skip
    refine vPass rfl rfl rfl (decide_eq_false h1) rfl rfl rfl ?_
    refine vPass rfl rfl rfl (decide_eq_false h1) rfl rfl rfl ?_
    refine vPass rfl rfl rfl (decide_eq_false h1) rfl rfl rfl ?_
    refine vpOps_pure (x := .v (.bool (false))) (pPf rfl rfl (decide_eq_false h1) rfl rfl) rfl rfl rfl rfl ?_
    refine vpOps_pure (x := .v (.bool (false))) (pMv rfl rfl rfl) rfl rfl rfl rfl ?_
    refine vPass rfl rfl rfl rfl rfl rfl rfl ?_
    refine vPass rfl rfl rfl rfl rfl rfl rfl ?_
    refine vPass rfl rfl rfl rfl rfl rfl rfl ?_
    refine vpOps_pure (x := .v (.bool (false))) (pPf rfl rfl rfl rfl rfl) rfl rfl rfl rfl ?_
    refine vpOps_pure (x := .v (.bool (false))) (pAs rfl rfl rfl) rfl rfl rfl rfl ?_
    refine vpOps_nil ?_
    refine vp_ret ?_
    exact ⟨[.v (.bool (false))], [2], (.cons (.tmp rfl rfl) .nil), rfl, ⟨(show (.v (.bool (false)) : PV) = .v (.bool (decide (nameOk s))) from (by first | exact dec_f (fun h => by have := h.2; omega) | exact dec_i ⟨fun h => ⟨hE_1.1 h, by omega, by omega⟩, fun h => hE_1.2 h.1⟩)), rfl⟩⟩

/-- impl.isMask -/
theorem c_isMask {G : World → Prop} (m : Mask) (hm : m.wf) : CallsV Tryd.prog G 59 [.agg [.v (.int .u64 ((m.a : Nat) : Int)), .v (.int .u64 ((m.b : Nat) : Int))]] (fun r outs => r = .v (.bool (decide (maskOk m))) ∧ outs = [.junk]) := by
  refine callsV_enter [] Tryd.func59 rfl rfl rfl ?_
  have hma := hm.a
  have hmb := hm.b
  refine vp_seq ?_
  refine vp_region ?_
  refine vpOps_pure (x := .box [.v (.int .u64 ((m.a : Nat) : Int)), .v (.int .u64 ((m.b : Nat) : Int))]) (pure_box rfl rfl (mvOk_flat _ rfl) rfl rfl) rfl rfl rfl rfl ?_
  refine vpOps_pure (x := .v (.bool (false))) (pAs rfl rfl rfl) rfl rfl rfl rfl ?_
  refine vpOps_nil ?_
  refine vp_seq ?_
  refine vp_region ?_
  refine vpOps_pure (x := .pl 1 [⟨0, 1, 0⟩]) (pIxAR (l := 1) rfl rfl rfl rfl rfl rfl rfl) rfl rfl rfl rfl ?_
  refine vpOps_pure (x := .v (.int .u64 ((m.b : Nat) : Int))) (pure_load_pl rfl rfl rfl rfl rfl rfl rfl trivial rfl) rfl rfl rfl rfl ?_
  refine vpOps_pure (x := .v (.int .u64 ((((m.b / 2 ^ 32) : Nat) : Int)))) (pShr64 (p := m.b) (s := 32) rfl rfl rfl (by first | rfl | omega) (by omega)) rfl rfl rfl rfl ?_
  refine vpOps_pure (x := .v (.bool (decide (((((m.b / 2 ^ 32) : Nat) : Int)) = 0)))) (pure_bin rfl rfl rfl rfl) rfl rfl rfl rfl ?_
  refine vpOps_pure (x := .v (.bool (decide (((((m.b / 2 ^ 32) : Nat) : Int)) = 0)))) (pAs rfl rfl rfl) rfl rfl rfl rfl ?_
  refine vpOps_nil ?_
  refine vp_ret ?_
  exact ⟨[.v (.bool (decide (((((m.b / 2 ^ 32) : Nat) : Int)) = 0)))], [2], (.cons (.tmp rfl rfl) .nil), rfl, ⟨(show (.v (.bool (decide (((((m.b / 2 ^ 32) : Nat) : Int)) = 0))) : PV) = .v (.bool (decide (maskOk m))) from (by exact dec_i (by unfold maskOk; omega))), rfl⟩⟩

end Go.Vr
/- Walks of the functions that the law reaches: what each gives, by value. -/
namespace Go.Vr
open Go Go.Proofs
set_option linter.unusedVariables false
set_option linter.unusedSimpArgs false
set_option maxRecDepth 8000

/-- impl.isCard -/
theorem c_isCard {G : World → Prop} (c : Card) (hc : c.wf) : CallsV Tryd.prog G 45 [.agg [.v (.string c.name), .v (.int .u64 ((c.notches.a : Nat) : Int)), .v (.int .u64 ((c.notches.b : Nat) : Int))]] (fun r outs => r = .v (.bool (decide (cardOk c))) ∧ outs = [.junk]) := by
  refine callsV_enter [] Tryd.func45 rfl rfl rfl ?_
  refine vp_seq ?_
  refine vp_region ?_
  refine vpOps_pure (x := .box [.v (.string c.name), .v (.int .u64 ((c.notches.a : Nat) : Int)), .v (.int .u64 ((c.notches.b : Nat) : Int))]) (pure_box rfl rfl (mvOk_flat _ rfl) rfl rfl) rfl rfl rfl rfl ?_
  refine vpOps_pure (x := .v (.bool (false))) (pAs rfl rfl rfl) rfl rfl rfl rfl ?_
  refine vpOps_nil ?_
  refine vp_seq ?_
  refine vp_region ?_
  refine vpOps_pure (x := .pl 1 [⟨0, 0, 0⟩]) (pure_field_ref rfl rfl rfl rfl) rfl rfl rfl rfl ?_
  refine vpOps_pure (x := .v (.string c.name)) (pure_load_pl rfl rfl rfl rfl rfl rfl rfl trivial rfl) rfl rfl rfl rfl ?_
  refine vpOps_call (gs := [⟨.tmp 4, .v (.string c.name), none, none⟩]) (c_isName c.name (by first | assumption | exact hc.n | exact hc.m | omega)) rfl rfl rfl rfl rfl trivial (by kernel_rfl) rfl rfl (gives_cons (gC rfl rfl) gives_nil) rfl (fun _ _ _ => .inl rfl) ?_
  rintro _ _ ⟨rfl, rfl⟩
  refine vpOps_pure (x := .v (.bool (decide (nameOk c.name)))) (pMv rfl rfl rfl) rfl rfl rfl rfl ?_
  by_cases h1 : nameOk c.name
  · skip
    refine vRun rfl rfl rfl (decide_eq_true h1) rfl rfl rfl ?_
    refine vpOps_pure (x := .pl 1 [⟨0, 1, 0⟩]) (pure_field_ref rfl rfl rfl rfl) rfl rfl rfl rfl ?_
    refine vRun rfl rfl rfl (decide_eq_true h1) rfl rfl rfl ?_
    refine vpOps_pure (x := .agg [.v (.int .u64 ((c.notches.a : Nat) : Int)), .v (.int .u64 ((c.notches.b : Nat) : Int))]) (pure_load_pl_agg rfl rfl rfl rfl rfl rfl rfl rfl (by simp [PV.flatL, PV.flat])) rfl rfl rfl rfl ?_
    refine vRun rfl rfl rfl (decide_eq_true h1) rfl rfl rfl ?_
    refine vpOps_call (gs := [⟨.tmp 8, .agg [.v (.int .u64 ((c.notches.a : Nat) : Int)), .v (.int .u64 ((c.notches.b : Nat) : Int))], none, none⟩]) (c_isMask c.notches (by first | assumption | exact hc.n | exact hc.m | omega)) rfl rfl rfl rfl rfl trivial (by kernel_rfl) rfl rfl (gives_cons (gC rfl rfl) gives_nil) rfl (fun _ _ _ => .inl rfl) ?_
    rintro _ _ ⟨rfl, rfl⟩
    refine vpOps_pure (x := .v (.bool (decide (maskOk c.notches)))) (pPt rfl rfl (decide_eq_true h1) rfl rfl) rfl rfl rfl rfl ?_
    refine vpOps_pure (x := .v (.bool (decide (maskOk c.notches)))) (pAs rfl rfl rfl) rfl rfl rfl rfl ?_
    refine vpOps_nil ?_
    refine vp_ret ?_
    exact ⟨[.v (.bool (decide (maskOk c.notches)))], [2], (.cons (.tmp rfl rfl) .nil), rfl, ⟨(show (.v (.bool (decide (maskOk c.notches))) : PV) = .v (.bool (decide (cardOk c))) from (by first | exact dec_f (fun h => absurd h.1 (by assumption)) | exact dec_i ⟨fun h => ⟨by assumption, h⟩, fun h => h.2⟩)), rfl⟩⟩
  · skip
    refine vPass rfl rfl rfl (decide_eq_false h1) rfl rfl rfl ?_
    refine vPass rfl rfl rfl (decide_eq_false h1) rfl rfl rfl ?_
    refine vPass rfl rfl rfl (decide_eq_false h1) rfl rfl rfl ?_
    refine vpOps_pure (x := .v (.bool (false))) (pPf rfl rfl (decide_eq_false h1) rfl rfl) rfl rfl rfl rfl ?_
    refine vpOps_pure (x := .v (.bool (false))) (pAs rfl rfl rfl) rfl rfl rfl rfl ?_
    refine vpOps_nil ?_
    refine vp_ret ?_
    exact ⟨[.v (.bool (false))], [2], (.cons (.tmp rfl rfl) .nil), rfl, ⟨(show (.v (.bool (false)) : PV) = .v (.bool (decide (cardOk c))) from (by first | exact dec_f (fun h => absurd h.1 (by assumption)) | exact dec_i ⟨fun h => ⟨by assumption, h⟩, fun h => h.2⟩)), rfl⟩⟩

/-- impl.isDeck$1 -/
theorem c_isDeck1 {G : World → Prop} (x : Card) (c : Card)  : CallsV Tryd.prog G 46 [.agg [.v (.string x.name), .v (.int .u64 ((x.notches.a : Nat) : Int)), .v (.int .u64 ((x.notches.b : Nat) : Int))], .rbox [.v (.string c.name), .v (.int .u64 ((c.notches.a : Nat) : Int)), .v (.int .u64 ((c.notches.b : Nat) : Int))]] (fun r outs => r = .v (.bool (decide (x.name = c.name))) ∧ outs = [.junk, .junk]) := by
  refine callsV_enter [] Tryd.func46 rfl rfl rfl ?_
  refine vp_seq ?_
  refine vp_region ?_
  refine vpOps_pure (x := .box [.v (.string x.name), .v (.int .u64 ((x.notches.a : Nat) : Int)), .v (.int .u64 ((x.notches.b : Nat) : Int))]) (pure_box rfl rfl (mvOk_flat _ rfl) rfl rfl) rfl rfl rfl rfl ?_
  refine vpOps_pure (x := .v (.bool (false))) (pAs rfl rfl rfl) rfl rfl rfl rfl ?_
  refine vpOps_nil ?_
  refine vp_seq ?_
  refine vp_region ?_
  refine vpOps_pure (x := .pl 2 [⟨0, 0, 0⟩]) (pure_field_ref rfl rfl rfl rfl) rfl rfl rfl rfl ?_
  refine vpOps_pure (x := .v (.string x.name)) (pure_load_pl rfl rfl rfl rfl rfl rfl rfl trivial rfl) rfl rfl rfl rfl ?_
  refine vpOps_pure (x := .rbox [.v (.string c.name), .v (.int .u64 ((c.notches.a : Nat) : Int)), .v (.int .u64 ((c.notches.b : Nat) : Int))]) (pure_field_rbox rfl rfl rfl rfl) rfl rfl rfl rfl ?_
  refine vpOps_pure (x := .v (.string c.name)) (pure_load_rbox rfl rfl rfl) rfl rfl rfl rfl ?_
  refine vpOps_pure (x := .v (.bool (decide (x.name = c.name)))) (pure_str_eq rfl rfl rfl) rfl rfl rfl rfl ?_
  refine vpOps_pure (x := .v (.bool (decide (x.name = c.name)))) (pAs rfl rfl rfl) rfl rfl rfl rfl ?_
  refine vpOps_nil ?_
  refine vp_ret ?_
  exact ⟨[.v (.bool (decide (x.name = c.name)))], [3], (.cons (.tmp rfl rfl) .nil), rfl, ⟨(show (.v (.bool (decide (x.name = c.name))) : PV) = .v (.bool (decide (x.name = c.name))) from rfl), rfl⟩⟩

/-- slices.IndexFunc[[]impl.Card,impl.Card] -/
theorem c_IxCard {G : World → Prop} (xs : List Card) (c : Card) (hx : xs.length ≤ 9223372036854775807) : CallsV Tryd.prog G 49 [.sh 3 (xs.map cardc), .clo 46 [.rbox [.v (.string c.name), .v (.int .u64 ((c.notches.a : Nat) : Int)), .v (.int .u64 ((c.notches.b : Nat) : Int))]]] (fun r outs => ∃ (v : Int), r = .v (.int .i64 v) ∧ outs = [.junk, .junk] ∧ (0 ≤ v ↔ hasName xs c.name)) := by
  refine callsV_enter [] Tryd.func49 rfl rfl rfl ?_
  refine vp_seq ?_
  refine vp_region ?_
  refine vpOps_pure (x := .v (.int .i64 0)) (pAs rfl rfl rfl) rfl rfl rfl rfl ?_
  refine vpOps_nil ?_
  refine vp_seq ?_
  refine vp_seq ?_
  refine vp_region ?_
  refine vpOps_pure (x := .sh 3 (xs.map cardc)) (pMv rfl rfl rfl) rfl rfl rfl rfl ?_
  refine vpOps_pure (x := .v (.int .i64 ((xs.length : Nat) : Int))) (pLen rfl rfl (List.length_map _)) rfl rfl rfl rfl ?_
  refine vpOps_pure (x := .v (.int .i64 0)) (pMv rfl rfl rfl) rfl rfl rfl rfl ?_
  refine vpOps_nil ?_
  refine vp_block ?_
  refine vLoop (α := Nat) (fun i => xs.length - i) (fun i => (i ≤ xs.length) ∧ (∀ j, j < i → (xs.getD j default).name ≠ c.name) ∧ True) (fun i => [(0, .sh 3 (xs.map cardc)), (1, .clo 46 [.rbox [.v (.string c.name), .v (.int .u64 ((c.notches.a : Nat) : Int)), .v (.int .u64 ((c.notches.b : Nat) : Int))]]), (7, .v (.int .i64 ((xs.length : Nat) : Int))), (8, .v (.int .i64 ((i : Nat) : Int)))]) (fun _ => rfl) (fun _ => rfl) 0 ⟨(by omega), (by intro j hj; omega), trivial⟩ ⟨rfl, rfl, rfl, rfl, trivial⟩ ?_
  rintro i ⟨hi, hA, -⟩
  refine vp_seq ?_
  refine vp_region ?_
  refine vpOps_pure (x := .v (.bool (decide (((i : Nat) : Int) < ((xs.length : Nat) : Int))))) (pure_bin rfl rfl rfl rfl) rfl rfl rfl rfl ?_
  refine vpOps_nil ?_
  refine vp_seq ?_
  refine vIf rfl (fun h1 => ?_) (fun h1 => ?_)
  · skip
    refine vp_skip ?_
    refine vp_seq ?_
    refine vp_block ?_
    refine vp_seq ?_
    refine vp_region ?_
    refine vpOps_pure (x := .v (.int .i64 ((i : Nat) : Int))) (pMv rfl rfl rfl) rfl rfl rfl rfl ?_
    refine vpOps_pure (x := .v (.int .i64 ((i : Nat) : Int))) (pAs rfl rfl rfl) rfl rfl rfl rfl ?_
    refine vpOps_nil ?_
    refine vp_seq ?_
    refine vp_region ?_
    refine vpOps_pure (x := .clo 46 [.rbox [.v (.string c.name), .v (.int .u64 ((c.notches.a : Nat) : Int)), .v (.int .u64 ((c.notches.b : Nat) : Int))]]) (pMv rfl rfl rfl) rfl rfl rfl rfl ?_
    refine vpOps_pure (x := .sh 3 (xs.map cardc)) (pMv rfl rfl rfl) rfl rfl rfl rfl ?_
    refine vpOps_pure (x := .v (.int .i64 ((i : Nat) : Int))) (pMv rfl rfl rfl) rfl rfl rfl rfl ?_
    refine vpOps_pure (x := .rbox [.v (.string ((xs.getD i default).name)), .v (.int .u64 (((((xs.getD i default).notches).a : Nat) : Int))), .v (.int .u64 (((((xs.getD i default).notches).b : Nat) : Int)))]) (pIx (m := i) rfl rfl rfl (by first | rfl | omega) (by omega) rfl) rfl rfl rfl rfl ?_
    refine vpOps_pure (x := .agg [.v (.string ((xs.getD i default).name)), .v (.int .u64 (((((xs.getD i default).notches).a : Nat) : Int))), .v (.int .u64 (((((xs.getD i default).notches).b : Nat) : Int)))]) (pure_load_rbox_agg rfl rfl rfl rfl rfl) rfl rfl rfl rfl ?_
    refine vpOps_call (gs := [⟨.tmp 15, .agg [.v (.string ((xs.getD i default).name)), .v (.int .u64 (((((xs.getD i default).notches).a : Nat) : Int))), .v (.int .u64 (((((xs.getD i default).notches).b : Nat) : Int)))], none, none⟩]) (c_isDeck1 (xs.getD i default) c ) rfl rfl rfl rfl rfl (mvOkL_flat _ rfl) (by kernel_rfl) rfl rfl (gives_cons (gC rfl rfl) gives_nil) rfl (fun _ _ _ => .inl rfl) ?_
    rintro _ _ ⟨rfl, rfl⟩
    refine vpOps_nil ?_
    refine vIf rfl (fun h2 => ?_) (fun h2 => ?_)
    · skip
      refine vp_seq ?_
      refine vp_region ?_
      refine vpOps_pure (x := .v (.int .i64 ((i : Nat) : Int))) (pMv rfl rfl rfl) rfl rfl rfl rfl ?_
      refine vpOps_pure (x := .v (.int .i64 ((i : Nat) : Int))) (pAs rfl rfl rfl) rfl rfl rfl rfl ?_
      refine vpOps_nil ?_
      refine vp_ret ?_
      exact ⟨[.v (.int .i64 ((i : Nat) : Int))], [4], (.cons (.tmp rfl rfl) .nil), rfl, ⟨((i : Nat) : Int), (show (.v (.int .i64 ((i : Nat) : Int)) : PV) = .v (.int .i64 ((i : Nat) : Int)) from rfl), rfl, (by first | exact ⟨fun _ => ⟨i, by omega, by assumption⟩, fun _ => by omega⟩ | exact ⟨fun h => by omega, fun h => by obtain ⟨j, h1, h2⟩ := h; exact absurd h2 (hA j (by omega))⟩)⟩⟩
    · skip
      refine vp_skip ?_
      refine vp_region ?_
      refine vpOps_pure (x := .v (.int .i64 (((i : Nat) : Int) + 1))) (pure_add rfl rfl rfl (in64 (by omega) (by omega))) rfl rfl rfl rfl ?_
      refine vpOps_pure (x := .v (.int .i64 (((i : Nat) : Int) + 1))) (pMv rfl rfl rfl) rfl rfl rfl rfl ?_
      refine vpOps_nil ?_
      exact ⟨i + 1, (by first | omega | (dsimp only; omega)), ⟨(by omega), (by intro j hj; rcases Nat.lt_or_ge j i with hji | hji; exact hA j hji; rw [show j = i by omega]; assumption), trivial⟩, ⟨rfl, rfl, rfl, rfl, trivial⟩⟩
  · skip
    refine vp_exit ?_
    refine vp_seq ?_
    refine vp_region ?_
    refine vpOps_pure (x := .v (.int .i64 (-1))) (pAs rfl rfl rfl) rfl rfl rfl rfl ?_
    refine vpOps_nil ?_
    refine vp_ret ?_
    exact ⟨[.v (.int .i64 (-1))], [4], (.cons (.tmp rfl rfl) .nil), rfl, ⟨-1, (show (.v (.int .i64 (-1)) : PV) = .v (.int .i64 (-1)) from rfl), rfl, (by first | exact ⟨fun _ => ⟨i, by omega, by assumption⟩, fun _ => by omega⟩ | exact ⟨fun h => by omega, fun h => by obtain ⟨j, h1, h2⟩ := h; exact absurd h2 (hA j (by omega))⟩)⟩⟩

/-- slices.ContainsFunc[[]impl.Card,impl.Card] -/
theorem c_CnCard {G : World → Prop} (xs : List Card) (c : Card) (hx : xs.length ≤ 9223372036854775807) : CallsV Tryd.prog G 29 [.sh 3 (xs.map cardc), .clo 46 [.rbox [.v (.string c.name), .v (.int .u64 ((c.notches.a : Nat) : Int)), .v (.int .u64 ((c.notches.b : Nat) : Int))]]] (fun r outs => r = .v (.bool (decide (hasName xs c.name))) ∧ outs = [.junk, .junk]) := by
  refine callsV_enter [] Tryd.func29 rfl rfl rfl ?_
  refine vp_seq ?_
  refine vp_region ?_
  refine vpOps_pure (x := .v (.bool (false))) (pAs rfl rfl rfl) rfl rfl rfl rfl ?_
  refine vpOps_nil ?_
  refine vp_seq ?_
  refine vp_region ?_
  refine vpOps_pure (x := .sh 3 (xs.map cardc)) (pMv rfl rfl rfl) rfl rfl rfl rfl ?_
  refine vpOps_pure (x := .clo 46 [.rbox [.v (.string c.name), .v (.int .u64 ((c.notches.a : Nat) : Int)), .v (.int .u64 ((c.notches.b : Nat) : Int))]]) (pMv rfl rfl rfl) rfl rfl rfl rfl ?_
  refine vpOps_call (gs := [⟨.tmp 5, .sh 3 (xs.map cardc), none, none⟩, ⟨.tmp 6, .clo 46 [.rbox [.v (.string c.name), .v (.int .u64 ((c.notches.a : Nat) : Int)), .v (.int .u64 ((c.notches.b : Nat) : Int))]], none, none⟩]) (c_IxCard xs c (by first | assumption | omega)) rfl rfl rfl rfl rfl trivial (by kernel_rfl) rfl rfl (gives_cons (gC rfl rfl) (gives_cons (gC rfl rfl) gives_nil)) rfl (fun _ _ _ => .inl rfl) ?_
  rintro _ _ ⟨v_1, rfl, rfl, hv_1⟩
  refine vpOps_pure (x := .v (.bool (decide (0 ≤ v_1)))) (pure_bin rfl rfl rfl rfl) rfl rfl rfl rfl ?_
  refine vpOps_pure (x := .v (.bool (decide (0 ≤ v_1)))) (pAs rfl rfl rfl) rfl rfl rfl rfl ?_
  refine vpOps_nil ?_
  refine vp_ret ?_
  exact ⟨[.v (.bool (decide (0 ≤ v_1)))], [4], (.cons (.tmp rfl rfl) .nil), rfl, ⟨(show (.v (.bool (decide (0 ≤ v_1))) : PV) = .v (.bool (decide (hasName xs c.name))) from (by exact dec_i hv_1)), rfl⟩⟩

/-- impl.isDeck -/
theorem c_isDeck {G : World → Prop} (d : List Card) (hw : ∀ c ∈ d, c.wf) (hn : d.length ≤ 9223372036854775807) : CallsV Tryd.prog G 19 [.sh 3 (d.map cardc)] (fun r outs => r = .v (.bool (decide (deckOk d))) ∧ outs = [.junk]) := by
  refine callsV_enter [] Tryd.func19 rfl rfl rfl ?_
  refine vp_seq ?_
  refine vp_region ?_
  refine vpOps_pure (x := .v (.bool (false))) (pAs rfl rfl rfl) rfl rfl rfl rfl ?_
  refine vpOps_nil ?_
  refine vp_seq ?_
  refine vp_seq ?_
  refine vp_region ?_
  refine vpOps_pure (x := .sh 3 (d.map cardc)) (pMv rfl rfl rfl) rfl rfl rfl rfl ?_
  refine vpOps_pure (x := .v (.int .i64 ((d.length : Nat) : Int))) (pLen rfl rfl (List.length_map _)) rfl rfl rfl rfl ?_
  refine vpOps_pure (x := .v (.bool (decide (80 < ((d.length : Nat) : Int))))) (pure_bin rfl rfl rfl rfl) rfl rfl rfl rfl ?_
  refine vpOps_nil ?_
  refine vIf rfl (fun h1 => ?_) (fun h1 => ?_)
  · skip
    refine vp_seq ?_
    refine vp_region ?_
    refine vpOps_pure (x := .v (.bool (false))) (pAs rfl rfl rfl) rfl rfl rfl rfl ?_
    refine vpOps_nil ?_
    refine vp_ret ?_
    exact ⟨[.v (.bool (false))], [2], (.cons (.tmp rfl rfl) .nil), rfl, ⟨(show (.v (.bool (false)) : PV) = .v (.bool (decide (deckOk d))) from (by first | exact dec_f (fun h => by have := h.1; omega) | exact dec_f (fun h => absurd (h.2 i (by omega)).1 (by assumption)) | exact dec_f (fun h => by obtain ⟨k, h1, h2⟩ := (hht _).1 (by assumption); exact (h.2 i (by omega)).2 k h1 h2) | exact dec_t ⟨hd, fun j hj => hA j (by omega)⟩)), rfl⟩⟩
  · skip
    refine vp_skip ?_
    refine vp_seq ?_
    refine vp_seq ?_
    refine vp_region ?_
    refine vpOps_pure (x := .sh 3 (d.map cardc)) (pMv rfl rfl rfl) rfl rfl rfl rfl ?_
    refine vpOps_pure (x := .v (.int .i64 ((d.length : Nat) : Int))) (pLen rfl rfl (List.length_map _)) rfl rfl rfl rfl ?_
    refine vpOps_pure (x := .v (.int .i64 0)) (pMv rfl rfl rfl) rfl rfl rfl rfl ?_
    refine vpOps_nil ?_
    refine vp_block ?_
    refine vLoop (α := Nat) (fun i => d.length - i) (fun i => (i ≤ d.length) ∧ (d.length ≤ 80) ∧ (∀ j, j < i → cardOk (d.getD j default) ∧ ∀ k, k < j → (d.getD k default).name ≠ (d.getD j default).name) ∧ True) (fun i => [(0, .sh 3 (d.map cardc)), (8, .sh 3 (d.map cardc)), (9, .v (.int .i64 ((d.length : Nat) : Int))), (10, .v (.int .i64 ((i : Nat) : Int)))]) (fun _ => rfl) (fun _ => rfl) 0 ⟨(by omega), (by omega), (by intro j hj; omega), trivial⟩ ⟨rfl, rfl, rfl, rfl, trivial⟩ ?_
    rintro i ⟨hi, hd, hA, -⟩
    have hht := fun n => hasName_take (n := n) hi
    refine vp_seq ?_
    refine vp_region ?_
    refine vpOps_pure (x := .v (.bool (decide (((i : Nat) : Int) < ((d.length : Nat) : Int))))) (pure_bin rfl rfl rfl rfl) rfl rfl rfl rfl ?_
    refine vpOps_nil ?_
    refine vp_seq ?_
    refine vIf rfl (fun h2 => ?_) (fun h2 => ?_)
    · skip
      refine vp_skip ?_
      refine vp_seq ?_
      refine vp_block ?_
      refine vp_seq ?_
      refine vp_region ?_
      refine vpOps_pure (x := .v (.int .i64 ((i : Nat) : Int))) (pMv rfl rfl rfl) rfl rfl rfl rfl ?_
      refine vpOps_pure (x := .rbox [.v (.string ((d.getD i default).name)), .v (.int .u64 (((((d.getD i default).notches).a : Nat) : Int))), .v (.int .u64 (((((d.getD i default).notches).b : Nat) : Int)))]) (pIx (m := i) rfl rfl rfl (by first | rfl | omega) (by omega) rfl) rfl rfl rfl rfl ?_
      refine vpOps_pure (x := .agg [.v (.string ((d.getD i default).name)), .v (.int .u64 (((((d.getD i default).notches).a : Nat) : Int))), .v (.int .u64 (((((d.getD i default).notches).b : Nat) : Int)))]) (pure_load_rbox_agg rfl rfl rfl rfl rfl) rfl rfl rfl rfl ?_
      refine vpOps_pure (x := .box [.v (.string (ByteArray.mk #[])), .v (.int .u64 0), .v (.int .u64 0)]) (pure_alloc rfl) rfl rfl rfl rfl ?_
      refine vpOps_pure (x := .v (.int .i64 ((i : Nat) : Int))) (pAs rfl rfl rfl) rfl rfl rfl rfl ?_
      refine vStB (x := .agg [.v (.string ((d.getD i default).name)), .v (.int .u64 (((((d.getD i default).notches).a : Nat) : Int))), .v (.int .u64 (((((d.getD i default).notches).b : Nat) : Int)))]) (row' := [.v (.string ((d.getD i default).name)), .v (.int .u64 (((((d.getD i default).notches).a : Nat) : Int))), .v (.int .u64 (((((d.getD i default).notches).b : Nat) : Int)))]) rfl rfl rfl rfl rfl rfl rfl rfl rfl rfl rfl rfl ?_
      refine vpOps_nil ?_
      refine vp_seq ?_
      refine vp_region ?_
      refine vpOps_pure (x := .agg [.v (.string ((d.getD i default).name)), .v (.int .u64 (((((d.getD i default).notches).a : Nat) : Int))), .v (.int .u64 (((((d.getD i default).notches).b : Nat) : Int)))]) (pure_load_pl_agg rfl rfl rfl rfl rfl rfl rfl rfl (by simp [PV.flatL, PV.flat])) rfl rfl rfl rfl ?_
      refine vpOps_call (gs := [⟨.tmp 15, .agg [.v (.string ((d.getD i default).name)), .v (.int .u64 (((((d.getD i default).notches).a : Nat) : Int))), .v (.int .u64 (((((d.getD i default).notches).b : Nat) : Int)))], none, none⟩]) (c_isCard (d.getD i default) (by first | assumption | omega | exact card_wf_getD hw _ | (rw [List.length_take]; omega))) rfl rfl rfl rfl rfl trivial (by kernel_rfl) rfl rfl (gives_cons (gC rfl rfl) gives_nil) rfl (fun _ _ _ => .inl rfl) ?_
      rintro _ _ ⟨rfl, rfl⟩
      refine vpOps_pure (x := .v (.bool (!decide (cardOk (d.getD i default))))) (pure_not rfl rfl) rfl rfl rfl rfl ?_
      refine vpOps_pure (x := .v (.bool (!decide (cardOk (d.getD i default))))) (pMv rfl rfl rfl) rfl rfl rfl rfl ?_
      by_cases h3 : cardOk (d.getD i default)
      · skip
        refine vRun rfl rfl rfl (not_of_t (decide_eq_true h3)) rfl rfl rfl ?_
        refine vpOps_pure (x := .sh 3 (d.map cardc)) (pMv rfl rfl rfl) rfl rfl rfl rfl ?_
        refine vRun rfl rfl rfl (not_of_t (decide_eq_true h3)) rfl rfl rfl ?_
        refine vpOps_pure (x := .v (.int .i64 ((i : Nat) : Int))) (pMv rfl rfl rfl) rfl rfl rfl rfl ?_
        refine vRun rfl rfl rfl (not_of_t (decide_eq_true h3)) rfl rfl rfl ?_
        refine vpOps_pure (x := .sh 3 (((d.drop 0).take (i - 0)).map cardc)) (pSlSh (l := 0) (h := i) rfl rfl rfl rfl (by first | rfl | omega) (by first | rfl | omega) (by omega) (by omega)) rfl rfl rfl rfl ?_
        refine vRun rfl rfl rfl (not_of_t (decide_eq_true h3)) rfl rfl rfl ?_
        refine vpOps_ghost (ghost_freeze (k := 4) rfl rfl rfl) ?_
        refine vpOps_pure (x := .clo 46 [.rbox [.v (.string ((d.getD i default).name)), .v (.int .u64 (((((d.getD i default).notches).a : Nat) : Int))), .v (.int .u64 (((((d.getD i default).notches).b : Nat) : Int)))]]) (pMkF rfl rfl rfl) rfl rfl rfl rfl ?_
        refine vRun rfl rfl rfl (not_of_t (decide_eq_true h3)) rfl rfl rfl ?_
        refine vpOps_call (gs := [⟨.tmp 21, .sh 3 (((d.drop 0).take (i - 0)).map cardc), none, none⟩, ⟨.tmp 22, .clo 46 [.rbox [.v (.string ((d.getD i default).name)), .v (.int .u64 (((((d.getD i default).notches).a : Nat) : Int))), .v (.int .u64 (((((d.getD i default).notches).b : Nat) : Int)))]], none, none⟩]) (c_CnCard ((d.drop 0).take (i - 0)) (d.getD i default) (by first | assumption | omega | exact card_wf_getD hw _ | (rw [List.length_take]; omega))) rfl rfl rfl rfl rfl trivial (by kernel_rfl) rfl rfl (gives_cons (gC rfl rfl) (gives_cons (gC rfl rfl) gives_nil)) rfl (fun _ _ _ => .inl rfl) ?_
        rintro _ _ ⟨rfl, rfl⟩
        refine vpOps_pure (x := .v (.bool (decide (hasName ((d.drop 0).take (i - 0)) (d.getD i default).name)))) (pPf rfl rfl (not_of_t (decide_eq_true h3)) rfl rfl) rfl rfl rfl rfl ?_
        refine vpOps_nil ?_
        refine vIf rfl (fun h4 => ?_) (fun h4 => ?_)
        · skip
          refine vp_seq ?_
          refine vp_region ?_
          refine vpOps_pure (x := .v (.bool (false))) (pAs rfl rfl rfl) rfl rfl rfl rfl ?_
          refine vpOps_nil ?_
          refine vp_ret ?_
          exact ⟨[.v (.bool (false))], [2], (.cons (.tmp rfl rfl) .nil), rfl, ⟨(show (.v (.bool (false)) : PV) = .v (.bool (decide (deckOk d))) from (by first | exact dec_f (fun h => by have := h.1; omega) | exact dec_f (fun h => absurd (h.2 i (by omega)).1 (by assumption)) | exact dec_f (fun h => by obtain ⟨k, h1, h2⟩ := (hht _).1 (by assumption); exact (h.2 i (by omega)).2 k h1 h2) | exact dec_t ⟨hd, fun j hj => hA j (by omega)⟩)), rfl⟩⟩
        · skip
          refine vp_skip ?_
          refine vp_region ?_
          refine vpOps_pure (x := .v (.int .i64 (((i : Nat) : Int) + 1))) (pure_add rfl rfl rfl (in64 (by omega) (by omega))) rfl rfl rfl rfl ?_
          refine vpOps_pure (x := .v (.int .i64 (((i : Nat) : Int) + 1))) (pMv rfl rfl rfl) rfl rfl rfl rfl ?_
          refine vpOps_nil ?_
          exact ⟨i + 1, (by first | omega | (dsimp only; omega)), ⟨(by omega), (by omega), (by intro j hj; rcases Nat.lt_or_ge j i with hji | hji; exact hA j hji; rw [show j = i by omega]; exact ⟨by assumption, fun k hk e => absurd ((hht _).2 ⟨k, hk, e⟩) (by assumption)⟩), trivial⟩, ⟨rfl, rfl, rfl, rfl, trivial⟩⟩
      · skip
        refine vPass rfl rfl rfl (not_of_f (decide_eq_false h3)) rfl rfl rfl ?_
        refine vPass rfl rfl rfl (not_of_f (decide_eq_false h3)) rfl rfl rfl ?_
        refine vPass rfl rfl rfl (not_of_f (decide_eq_false h3)) rfl rfl rfl ?_
        refine vPass rfl rfl rfl (not_of_f (decide_eq_false h3)) rfl rfl rfl ?_
        refine vPass rfl rfl rfl (not_of_f (decide_eq_false h3)) rfl rfl rfl ?_
        refine vpOps_pure (x := .v (.bool (true))) (pPt rfl rfl (not_of_f (decide_eq_false h3)) rfl rfl) rfl rfl rfl rfl ?_
        refine vpOps_nil ?_
        refine vIfT rfl rfl ?_
        refine vp_seq ?_
        refine vp_region ?_
        refine vpOps_pure (x := .v (.bool (false))) (pAs rfl rfl rfl) rfl rfl rfl rfl ?_
        refine vpOps_nil ?_
        refine vp_ret ?_
        exact ⟨[.v (.bool (false))], [2], (.cons (.tmp rfl rfl) .nil), rfl, ⟨(show (.v (.bool (false)) : PV) = .v (.bool (decide (deckOk d))) from (by first | exact dec_f (fun h => by have := h.1; omega) | exact dec_f (fun h => absurd (h.2 i (by omega)).1 (by assumption)) | exact dec_f (fun h => by obtain ⟨k, h1, h2⟩ := (hht _).1 (by assumption); exact (h.2 i (by omega)).2 k h1 h2) | exact dec_t ⟨hd, fun j hj => hA j (by omega)⟩)), rfl⟩⟩
    · skip
      refine vp_exit ?_
      refine vp_seq ?_
      refine vp_region ?_
      refine vpOps_pure (x := .v (.bool (true))) (pAs rfl rfl rfl) rfl rfl rfl rfl ?_
      refine vpOps_nil ?_
      refine vp_ret ?_
      exact ⟨[.v (.bool (true))], [2], (.cons (.tmp rfl rfl) .nil), rfl, ⟨(show (.v (.bool (true)) : PV) = .v (.bool (decide (deckOk d))) from (by first | exact dec_f (fun h => by have := h.1; omega) | exact dec_f (fun h => absurd (h.2 i (by omega)).1 (by assumption)) | exact dec_f (fun h => by obtain ⟨k, h1, h2⟩ := (hht _).1 (by assumption); exact (h.2 i (by omega)).2 k h1 h2) | exact dec_t ⟨hd, fun j hj => hA j (by omega)⟩)), rfl⟩⟩

/-- slices.Index[[]string,string] -/
theorem c_IxStr {G : World → Prop} (xs : List ByteArray) (n : ByteArray) (hx : xs.length ≤ 9223372036854775807) : CallsV Tryd.prog G 62 [.sh 1 (xs.map strc), .v (.string n)] (fun r outs => ∃ (v : Int), r = .v (.int .i64 v) ∧ outs = [.junk, .junk] ∧ (0 ≤ v ↔ n ∈ xs) ∧ (-1 ≤ v ∧ v < xs.length)) := by
  refine callsV_enter [] Tryd.func62 rfl rfl rfl ?_
  refine vp_seq ?_
  refine vp_region ?_
  refine vpOps_pure (x := .v (.int .i64 0)) (pAs rfl rfl rfl) rfl rfl rfl rfl ?_
  refine vpOps_nil ?_
  refine vp_seq ?_
  refine vp_seq ?_
  refine vp_region ?_
  refine vpOps_pure (x := .sh 1 (xs.map strc)) (pMv rfl rfl rfl) rfl rfl rfl rfl ?_
  refine vpOps_pure (x := .v (.int .i64 ((xs.length : Nat) : Int))) (pLen rfl rfl (List.length_map _)) rfl rfl rfl rfl ?_
  refine vpOps_pure (x := .v (.int .i64 0)) (pMv rfl rfl rfl) rfl rfl rfl rfl ?_
  refine vpOps_nil ?_
  refine vp_block ?_
  refine vLoop (α := Nat) (fun i => xs.length - i) (fun i => (i ≤ xs.length) ∧ (n ∈ xs ↔ n ∈ xs.drop i) ∧ True) (fun i => [(0, .sh 1 (xs.map strc)), (1, .v (.string n)), (7, .v (.int .i64 ((xs.length : Nat) : Int))), (8, .v (.int .i64 ((i : Nat) : Int)))]) (fun _ => rfl) (fun _ => rfl) 0 ⟨(by omega), (by exact Iff.rfl), trivial⟩ ⟨rfl, rfl, rfl, rfl, trivial⟩ ?_
  rintro i ⟨hi, he, -⟩
  refine vp_seq ?_
  refine vp_region ?_
  refine vpOps_pure (x := .v (.bool (decide (((i : Nat) : Int) < ((xs.length : Nat) : Int))))) (pure_bin rfl rfl rfl rfl) rfl rfl rfl rfl ?_
  refine vpOps_nil ?_
  refine vp_seq ?_
  refine vIf rfl (fun h1 => ?_) (fun h1 => ?_)
  · skip
    refine vp_skip ?_
    refine vp_seq ?_
    refine vp_block ?_
    refine vp_seq ?_
    refine vp_region ?_
    refine vpOps_pure (x := .v (.int .i64 ((i : Nat) : Int))) (pMv rfl rfl rfl) rfl rfl rfl rfl ?_
    refine vpOps_pure (x := .v (.int .i64 ((i : Nat) : Int))) (pAs rfl rfl rfl) rfl rfl rfl rfl ?_
    refine vpOps_nil ?_
    refine vp_seq ?_
    refine vp_region ?_
    refine vpOps_pure (x := .v (.string n)) (pMv rfl rfl rfl) rfl rfl rfl rfl ?_
    refine vpOps_pure (x := .sh 1 (xs.map strc)) (pMv rfl rfl rfl) rfl rfl rfl rfl ?_
    refine vpOps_pure (x := .v (.int .i64 ((i : Nat) : Int))) (pMv rfl rfl rfl) rfl rfl rfl rfl ?_
    refine vpOps_pure (x := .rbox [.v (.string (xs.getD i default))]) (pIx (m := i) rfl rfl rfl (by first | rfl | omega) (by omega) rfl) rfl rfl rfl rfl ?_
    refine vpOps_pure (x := .v (.string (xs.getD i default))) (pure_load_rbox rfl rfl rfl) rfl rfl rfl rfl ?_
    refine vpOps_pure (x := .v (.bool (decide (n = (xs.getD i default))))) (pure_str_eq rfl rfl rfl) rfl rfl rfl rfl ?_
    refine vpOps_nil ?_
    refine vIf rfl (fun h2 => ?_) (fun h2 => ?_)
    · skip
      refine vp_seq ?_
      refine vp_region ?_
      refine vpOps_pure (x := .v (.int .i64 ((i : Nat) : Int))) (pMv rfl rfl rfl) rfl rfl rfl rfl ?_
      refine vpOps_pure (x := .v (.int .i64 ((i : Nat) : Int))) (pAs rfl rfl rfl) rfl rfl rfl rfl ?_
      refine vpOps_nil ?_
      refine vp_ret ?_
      exact ⟨[.v (.int .i64 ((i : Nat) : Int))], [4], (.cons (.tmp rfl rfl) .nil), rfl, ⟨((i : Nat) : Int), (show (.v (.int .i64 ((i : Nat) : Int)) : PV) = .v (.int .i64 ((i : Nat) : Int)) from rfl), rfl, (by first | exact ⟨fun _ => he.2 ((mem_drop_step (by omega)).2 (.inl (by first | assumption | exact Eq.symm (by assumption)))), fun _ => by omega⟩ | exact ⟨fun h => by omega, fun h => by rw [he, List.drop_of_length_le (by omega)] at h; exact absurd h (by simp)⟩), (by omega)⟩⟩
    · skip
      refine vp_skip ?_
      refine vp_region ?_
      refine vpOps_pure (x := .v (.int .i64 (((i : Nat) : Int) + 1))) (pure_add rfl rfl rfl (in64 (by omega) (by omega))) rfl rfl rfl rfl ?_
      refine vpOps_pure (x := .v (.int .i64 (((i : Nat) : Int) + 1))) (pMv rfl rfl rfl) rfl rfl rfl rfl ?_
      refine vpOps_nil ?_
      exact ⟨i + 1, (by first | omega | (dsimp only; omega)), ⟨(by omega), (by rw [he, mem_drop_step (by omega)]; exact ⟨fun h => h.resolve_left (fun e => by first | exact absurd e (by assumption) | exact absurd e.symm (by assumption)), .inr⟩), trivial⟩, ⟨rfl, rfl, rfl, rfl, trivial⟩⟩
  · skip
    refine vp_exit ?_
    refine vp_seq ?_
    refine vp_region ?_
    refine vpOps_pure (x := .v (.int .i64 (-1))) (pAs rfl rfl rfl) rfl rfl rfl rfl ?_
    refine vpOps_nil ?_
    refine vp_ret ?_
    exact ⟨[.v (.int .i64 (-1))], [4], (.cons (.tmp rfl rfl) .nil), rfl, ⟨-1, (show (.v (.int .i64 (-1)) : PV) = .v (.int .i64 (-1)) from rfl), rfl, (by first | exact ⟨fun _ => he.2 ((mem_drop_step (by omega)).2 (.inl (by first | assumption | exact Eq.symm (by assumption)))), fun _ => by omega⟩ | exact ⟨fun h => by omega, fun h => by rw [he, List.drop_of_length_le (by omega)] at h; exact absurd h (by simp)⟩), (by omega)⟩⟩

/-- slices.Contains[[]string,string] -/
theorem c_CnStr {G : World → Prop} (xs : List ByteArray) (n : ByteArray) (hx : xs.length ≤ 9223372036854775807) : CallsV Tryd.prog G 48 [.sh 1 (xs.map strc), .v (.string n)] (fun r outs => r = .v (.bool (decide (n ∈ xs))) ∧ outs = [.junk, .junk]) := by
  refine callsV_enter [] Tryd.func48 rfl rfl rfl ?_
  refine vp_seq ?_
  refine vp_region ?_
  refine vpOps_pure (x := .v (.bool (false))) (pAs rfl rfl rfl) rfl rfl rfl rfl ?_
  refine vpOps_nil ?_
  refine vp_seq ?_
  refine vp_region ?_
  refine vpOps_pure (x := .sh 1 (xs.map strc)) (pMv rfl rfl rfl) rfl rfl rfl rfl ?_
  refine vpOps_pure (x := .v (.string n)) (pMv rfl rfl rfl) rfl rfl rfl rfl ?_
  refine vpOps_call (gs := [⟨.tmp 5, .sh 1 (xs.map strc), none, none⟩, ⟨.tmp 6, .v (.string n), none, none⟩]) (c_IxStr xs n (by first | assumption | omega)) rfl rfl rfl rfl rfl trivial (by kernel_rfl) rfl rfl (gives_cons (gC rfl rfl) (gives_cons (gC rfl rfl) gives_nil)) rfl (fun _ _ _ => .inl rfl) ?_
  rintro _ _ ⟨v_1, rfl, rfl, hv_1, hvl_1⟩
  refine vpOps_pure (x := .v (.bool (decide (0 ≤ v_1)))) (pure_bin rfl rfl rfl rfl) rfl rfl rfl rfl ?_
  refine vpOps_pure (x := .v (.bool (decide (0 ≤ v_1)))) (pAs rfl rfl rfl) rfl rfl rfl rfl ?_
  refine vpOps_nil ?_
  refine vp_ret ?_
  exact ⟨[.v (.bool (decide (0 ≤ v_1)))], [4], (.cons (.tmp rfl rfl) .nil), rfl, ⟨(show (.v (.bool (decide (0 ≤ v_1))) : PV) = .v (.bool (decide (n ∈ xs))) from (by exact dec_i hv_1)), rfl⟩⟩

/-- impl.namesOf -/
theorem c_namesOf {G : World → Prop} (ds : List (List Card)) (hds : ∀ x ∈ ds, x.length ≤ 80) (hdl : ds.length ≤ 3) : CallsV Tryd.prog G 23 [.sh 1 (ds.map cardsS)] (fun r outs => r = .own 1 ((namesA ds).map strc) ∧ outs = [.junk]) := by
  refine callsV_enter [] Tryd.func23 rfl rfl rfl ?_
  refine vp_seq ?_
  refine vp_region ?_
  refine vpOps_pure (x := .v (.slice none 0 0)) (pAs rfl rfl rfl) rfl rfl rfl rfl ?_
  refine vpOps_nil ?_
  refine vp_seq ?_
  refine vp_region ?_
  refine vpOps_pure (x := .own 1 []) (pBs (cs := []) rfl rfl rfl rfl rfl rfl rfl) rfl rfl rfl rfl ?_
  refine vpOps_assign (x := .own 1 []) rfl rfl rfl rfl rfl rfl rfl ?_
  refine vpOps_nil ?_
  refine vp_seq ?_
  refine vp_seq ?_
  refine vp_region ?_
  refine vpOps_pure (x := .sh 1 (ds.map cardsS)) (pMv rfl rfl rfl) rfl rfl rfl rfl ?_
  refine vpOps_pure (x := .v (.int .i64 ((ds.length : Nat) : Int))) (pLen rfl rfl (List.length_map _)) rfl rfl rfl rfl ?_
  refine vpOps_pure (x := .v (.int .i64 0)) (pMv rfl rfl rfl) rfl rfl rfl rfl ?_
  refine vpOps_nil ?_
  refine vp_block ?_
  refine vLoop (α := Nat × List ByteArray) (fun (i, out) => ds.length - i) (fun (i, out) => (i ≤ ds.length) ∧ (out = nmA ds i) ∧ True) (fun (i, out) => [(0, .sh 1 (ds.map cardsS)), (2, .v (.slice none 0 0)), (3, .own 1 (out.map strc)), (9, .sh 1 (ds.map cardsS)), (10, .v (.int .i64 ((ds.length : Nat) : Int))), (11, .v (.int .i64 ((i : Nat) : Int)))]) (fun ⟨_, _⟩ => rfl) (fun ⟨_, _⟩ => rfl) (0, []) ⟨(by omega), (by rfl), trivial⟩ ⟨rfl, rfl, rfl, rfl, rfl, rfl, trivial⟩ ?_
  rintro ⟨i, out⟩ ⟨hi, ho, -⟩
  have hlx := getD_of (p := fun x : List Card => x.length ≤ 80) hds (Nat.zero_le _) i
  have hna := nmA_len hds i
  refine vp_seq ?_
  refine vp_region ?_
  refine vpOps_pure (x := .v (.bool (decide (((i : Nat) : Int) < ((ds.length : Nat) : Int))))) (pure_bin rfl rfl rfl rfl) rfl rfl rfl rfl ?_
  refine vpOps_nil ?_
  refine vp_seq ?_
  refine vIf rfl (fun h1 => ?_) (fun h1 => ?_)
  · skip
    refine vp_skip ?_
    refine vp_seq ?_
    refine vp_block ?_
    refine vp_seq ?_
    refine vp_region ?_
    refine vpOps_pure (x := .rbox [.sh 3 ((ds.getD i default).map cardc)]) (pIx (m := i) rfl rfl rfl (by first | rfl | omega) (by omega) rfl) rfl rfl rfl rfl ?_
    refine vpOps_pure (x := .sh 3 ((ds.getD i default).map cardc)) (pure_load_rbox rfl rfl rfl) rfl rfl rfl rfl ?_
    refine vpOps_pure (x := .sh 3 ((ds.getD i default).map cardc)) (pAs rfl rfl rfl) rfl rfl rfl rfl ?_
    refine vpOps_nil ?_
    refine vp_seq ?_
    refine vp_region ?_
    refine vpOps_pure (x := .sh 3 ((ds.getD i default).map cardc)) (pMv rfl rfl rfl) rfl rfl rfl rfl ?_
    refine vpOps_pure (x := .v (.int .i64 (((((ds.getD i default).length) : Nat) : Int)))) (pLen rfl rfl (List.length_map _)) rfl rfl rfl rfl ?_
    refine vpOps_pure (x := .v (.int .i64 0)) (pMv rfl rfl rfl) rfl rfl rfl rfl ?_
    refine vpOps_nil ?_
    refine vp_block ?_
    refine vLoop (α := Nat × List ByteArray) (fun (k, out2) => (ds.getD i default).length - k) (fun (k, out2) => (k ≤ (ds.getD i default).length) ∧ (out2 = nmD (ds.getD i default) out k) ∧ True) (fun (k, out2) => [(0, .sh 1 (ds.map cardsS)), (2, .v (.slice none 0 0)), (3, .own 1 (out2.map strc)), (5, .sh 3 ((ds.getD i default).map cardc)), (9, .sh 1 (ds.map cardsS)), (10, .v (.int .i64 ((ds.length : Nat) : Int))), (11, .v (.int .i64 ((i : Nat) : Int))), (15, .sh 3 ((ds.getD i default).map cardc)), (16, .v (.int .i64 (((((ds.getD i default).length) : Nat) : Int)))), (17, .v (.int .i64 ((k : Nat) : Int)))]) (fun ⟨_, _⟩ => rfl) (fun ⟨_, _⟩ => rfl) (0, out) ⟨(by omega), (by rfl), trivial⟩ ⟨rfl, rfl, rfl, rfl, rfl, rfl, rfl, rfl, rfl, rfl, trivial⟩ ?_
    rintro ⟨k, out2⟩ ⟨hk, ho2, -⟩
    have hnb := nmD_len (ds.getD i default) out k
    rw [← ho2] at hnb
    rw [← ho] at hna
    refine vp_seq ?_
    refine vp_region ?_
    refine vpOps_pure (x := .v (.bool (decide (((k : Nat) : Int) < (((((ds.getD i default).length) : Nat) : Int)))))) (pure_bin rfl rfl rfl rfl) rfl rfl rfl rfl ?_
    refine vpOps_nil ?_
    refine vp_seq ?_
    refine vIf rfl (fun h2 => ?_) (fun h2 => ?_)
    · skip
      refine vp_skip ?_
      refine vp_seq ?_
      refine vp_block ?_
      refine vp_seq ?_
      refine vp_region ?_
      refine vpOps_pure (x := .rbox [.v (.string (((ds.getD i default).getD k default).name)), .v (.int .u64 ((((((ds.getD i default).getD k default).notches).a : Nat) : Int))), .v (.int .u64 ((((((ds.getD i default).getD k default).notches).b : Nat) : Int)))]) (pIx (m := k) rfl rfl rfl (by first | rfl | omega) (by omega) rfl) rfl rfl rfl rfl ?_
      refine vpOps_pure (x := .agg [.v (.string (((ds.getD i default).getD k default).name)), .v (.int .u64 ((((((ds.getD i default).getD k default).notches).a : Nat) : Int))), .v (.int .u64 ((((((ds.getD i default).getD k default).notches).b : Nat) : Int)))]) (pure_load_rbox_agg rfl rfl rfl rfl rfl) rfl rfl rfl rfl ?_
      refine vpOps_pure (x := .box [.v (.string (ByteArray.mk #[])), .v (.int .u64 0), .v (.int .u64 0)]) (pure_alloc rfl) rfl rfl rfl rfl ?_
      refine vStB (x := .agg [.v (.string (((ds.getD i default).getD k default).name)), .v (.int .u64 ((((((ds.getD i default).getD k default).notches).a : Nat) : Int))), .v (.int .u64 ((((((ds.getD i default).getD k default).notches).b : Nat) : Int)))]) (row' := [.v (.string (((ds.getD i default).getD k default).name)), .v (.int .u64 ((((((ds.getD i default).getD k default).notches).a : Nat) : Int))), .v (.int .u64 ((((((ds.getD i default).getD k default).notches).b : Nat) : Int)))]) rfl rfl rfl rfl rfl rfl rfl rfl rfl rfl rfl rfl ?_
      refine vpOps_nil ?_
      refine vp_seq ?_
      refine vp_region ?_
      refine vpOps_pure (x := .lv 3 []) (pure_move_lv rfl) rfl rfl rfl rfl ?_
      refine vpOps_pure (x := .pl 7 [⟨0, 0, 0⟩]) (pure_field_ref rfl rfl rfl rfl) rfl rfl rfl rfl ?_
      refine vpOps_pure (x := .v (.string (((ds.getD i default).getD k default).name))) (pure_load_pl rfl rfl rfl rfl rfl rfl rfl trivial rfl) rfl rfl rfl rfl ?_
      refine vpOps_call (gs := [⟨.tmp 21, .sh 1 (out2.map strc), none, some 3⟩, ⟨.tmp 23, .v (.string (((ds.getD i default).getD k default).name)), none, none⟩]) (c_CnStr out2 (((ds.getD i default).getD k default).name) (by first | assumption | omega)) rfl rfl rfl rfl rfl trivial (by kernel_rfl) rfl rfl (gives_cons (give_view (c := .own 1 (out2.map strc)) rfl rfl rfl rfl (view_map (fun _ => rfl))) (gives_cons (gC rfl rfl) gives_nil)) rfl (fun _ _ h => .inr (by obtain ⟨h1, h2⟩ := h; subst h1; subst h2; exact ⟨by simp [PV.closed, PV.closedL, closedE_map], by simp [PV.closedL, PV.closed]⟩)) ?_
      rintro _ _ ⟨rfl, rfl⟩
      refine vpOps_pure (x := .v (.bool (!decide ((((ds.getD i default).getD k default).name) ∈ out2)))) (pure_not rfl rfl) rfl rfl rfl rfl ?_
      refine vpOps_nil ?_
      refine vIfN rfl (fun h3 => ?_) (fun h3 => ?_)
      · skip
        refine vp_region ?_
        refine vpOps_pure (x := .lv 3 []) (pure_move_lv rfl) rfl rfl rfl rfl ?_
        refine vpOps_pure (x := .pl 7 [⟨0, 0, 0⟩]) (pure_field_ref rfl rfl rfl rfl) rfl rfl rfl rfl ?_
        refine vpOps_pure (x := .v (.string (((ds.getD i default).getD k default).name))) (pure_load_pl rfl rfl rfl rfl rfl rfl rfl trivial rfl) rfl rfl rfl rfl ?_
        refine vpOps_pure (x := .own 1 [[.v (.string (((ds.getD i default).getD k default).name))]]) (pBs (cs := [.v (.string (((ds.getD i default).getD k default).name))]) rfl rfl rfl rfl rfl rfl rfl) rfl rfl rfl rfl ?_
        refine vpOps_ghost (ghost_own (t := 26) rfl rfl rfl rfl) ?_
        refine vApp (f := strc) (xs := out2) (ys := [((ds.getD i default).getD k default).name]) (l := 1) rfl rfl rfl rfl rfl (srcOwn rfl rfl (fun _ => mvOkL_flat _ rfl)) rfl rfl (fun _ => rfl) (.inl ⟨_, rfl⟩) rfl rfl rfl (rfl) (by omega) (by omega) ?_
        refine vpOps_assign (x := .own 1 ((out2 ++ [((ds.getD i default).getD k default).name]).map strc)) rfl rfl rfl rfl rfl rfl rfl ?_
        refine vpOps_nil ?_
        refine vp_region ?_
        refine vpOps_pure (x := .v (.int .i64 (((k : Nat) : Int) + 1))) (pure_add rfl rfl rfl (in64 (by omega) (by omega))) rfl rfl rfl rfl ?_
        refine vpOps_pure (x := .v (.int .i64 (((k : Nat) : Int) + 1))) (pMv rfl rfl rfl) rfl rfl rfl rfl ?_
        refine vpOps_nil ?_
        exact ⟨(k + 1, out2 ++ [((ds.getD i default).getD k default).name]), (by first | omega | (dsimp only; omega)), ⟨(by omega), (by rw [nmD, ← ho2]; unfold addN; first | (rw [if_pos (by assumption)]; done) | (rw [if_neg (by assumption)]; done)), trivial⟩, ⟨rfl, rfl, rfl, rfl, rfl, rfl, rfl, rfl, rfl, rfl, trivial⟩⟩
      · skip
        refine vp_skip ?_
        refine vp_region ?_
        refine vpOps_pure (x := .v (.int .i64 (((k : Nat) : Int) + 1))) (pure_add rfl rfl rfl (in64 (by omega) (by omega))) rfl rfl rfl rfl ?_
        refine vpOps_pure (x := .v (.int .i64 (((k : Nat) : Int) + 1))) (pMv rfl rfl rfl) rfl rfl rfl rfl ?_
        refine vpOps_nil ?_
        exact ⟨(k + 1, out2), (by first | omega | (dsimp only; omega)), ⟨(by omega), (by rw [nmD, ← ho2]; unfold addN; first | (rw [if_pos (by assumption)]; done) | (rw [if_neg (by assumption)]; done)), trivial⟩, ⟨rfl, rfl, rfl, rfl, rfl, rfl, rfl, rfl, rfl, rfl, trivial⟩⟩
    · skip
      refine vp_exit ?_
      refine vp_region ?_
      refine vpOps_pure (x := .v (.int .i64 (((i : Nat) : Int) + 1))) (pure_add rfl rfl rfl (in64 (by omega) (by omega))) rfl rfl rfl rfl ?_
      refine vpOps_pure (x := .v (.int .i64 (((i : Nat) : Int) + 1))) (pMv rfl rfl rfl) rfl rfl rfl rfl ?_
      refine vpOps_nil ?_
      exact ⟨(i + 1, out2), (by first | omega | (dsimp only; omega)), ⟨(by omega), (by rw [nmA, ← ho, ho2, show k = (ds.getD i default).length by omega]), trivial⟩, ⟨rfl, rfl, rfl, rfl, rfl, rfl, trivial⟩⟩
  · skip
    refine vp_exit ?_
    refine vp_seq ?_
    refine vp_region ?_
    refine vpOps_pure (x := .lv 3 []) (pure_move_lv rfl) rfl rfl rfl rfl ?_
    refine vpOps_ghost (ghost_own (t := 33) rfl rfl rfl rfl) ?_
    refine vpOps_assign (x := .own 1 (out.map strc)) rfl rfl rfl rfl rfl rfl rfl ?_
    refine vpOps_nil ?_
    refine vp_ret ?_
    exact ⟨[.own 1 (out.map strc)], [2], (.cons (.tmp rfl rfl) .nil), rfl, ⟨(show (.own 1 (out.map strc) : PV) = .own 1 ((namesA ds).map strc) from (by rw [ho, show i = ds.length by omega]; rfl)), rfl⟩⟩

/-- impl.placeOf$1 -/
theorem c_placeOf1 {G : World → Prop} (x : Card) (n : ByteArray)  : CallsV Tryd.prog G 50 [.agg [.v (.string x.name), .v (.int .u64 ((x.notches.a : Nat) : Int)), .v (.int .u64 ((x.notches.b : Nat) : Int))], .rbox [.v (.string n)]] (fun r outs => r = .v (.bool (decide (x.name = n))) ∧ outs = [.junk, .junk]) := by
  refine callsV_enter [] Tryd.func50 rfl rfl rfl ?_
  refine vp_seq ?_
  refine vp_region ?_
  refine vpOps_pure (x := .box [.v (.string x.name), .v (.int .u64 ((x.notches.a : Nat) : Int)), .v (.int .u64 ((x.notches.b : Nat) : Int))]) (pure_box rfl rfl (mvOk_flat _ rfl) rfl rfl) rfl rfl rfl rfl ?_
  refine vpOps_pure (x := .v (.bool (false))) (pAs rfl rfl rfl) rfl rfl rfl rfl ?_
  refine vpOps_nil ?_
  refine vp_seq ?_
  refine vp_region ?_
  refine vpOps_pure (x := .pl 2 [⟨0, 0, 0⟩]) (pure_field_ref rfl rfl rfl rfl) rfl rfl rfl rfl ?_
  refine vpOps_pure (x := .v (.string x.name)) (pure_load_pl rfl rfl rfl rfl rfl rfl rfl trivial rfl) rfl rfl rfl rfl ?_
  refine vpOps_pure (x := .v (.string n)) (pure_load_rbox rfl rfl rfl) rfl rfl rfl rfl ?_
  refine vpOps_pure (x := .v (.bool (decide (x.name = n)))) (pure_str_eq rfl rfl rfl) rfl rfl rfl rfl ?_
  refine vpOps_pure (x := .v (.bool (decide (x.name = n)))) (pAs rfl rfl rfl) rfl rfl rfl rfl ?_
  refine vpOps_nil ?_
  refine vp_ret ?_
  exact ⟨[.v (.bool (decide (x.name = n)))], [3], (.cons (.tmp rfl rfl) .nil), rfl, ⟨(show (.v (.bool (decide (x.name = n))) : PV) = .v (.bool (decide (x.name = n))) from rfl), rfl⟩⟩

/-- slices.IndexFunc[[]impl.Card,impl.Card] -/
theorem c_IxPlace {G : World → Prop} (d : List Card) (n : ByteArray) (hn : d.length ≤ 9223372036854775807) : CallsV Tryd.prog G 49 [.sh 3 (d.map cardc), .clo 50 [.rbox [.v (.string n)]]] (fun r outs => r = .v (.int .i64 (placeC d n)) ∧ outs = [.junk, .junk]) := by
  refine callsV_enter [] Tryd.func49 rfl rfl rfl ?_
  refine vp_seq ?_
  refine vp_region ?_
  refine vpOps_pure (x := .v (.int .i64 0)) (pAs rfl rfl rfl) rfl rfl rfl rfl ?_
  refine vpOps_nil ?_
  refine vp_seq ?_
  refine vp_seq ?_
  refine vp_region ?_
  refine vpOps_pure (x := .sh 3 (d.map cardc)) (pMv rfl rfl rfl) rfl rfl rfl rfl ?_
  refine vpOps_pure (x := .v (.int .i64 ((d.length : Nat) : Int))) (pLen rfl rfl (List.length_map _)) rfl rfl rfl rfl ?_
  refine vpOps_pure (x := .v (.int .i64 0)) (pMv rfl rfl rfl) rfl rfl rfl rfl ?_
  refine vpOps_nil ?_
  refine vp_block ?_
  refine vLoop (α := Nat) (fun i => d.length - i) (fun i => (i ≤ d.length) ∧ (∀ j, j < i → (d.getD j default).name ≠ n) ∧ True) (fun i => [(0, .sh 3 (d.map cardc)), (1, .clo 50 [.rbox [.v (.string n)]]), (7, .v (.int .i64 ((d.length : Nat) : Int))), (8, .v (.int .i64 ((i : Nat) : Int)))]) (fun _ => rfl) (fun _ => rfl) 0 ⟨(by omega), (by intro j hj; omega), trivial⟩ ⟨rfl, rfl, rfl, rfl, trivial⟩ ?_
  rintro i ⟨hi, hA, -⟩
  refine vp_seq ?_
  refine vp_region ?_
  refine vpOps_pure (x := .v (.bool (decide (((i : Nat) : Int) < ((d.length : Nat) : Int))))) (pure_bin rfl rfl rfl rfl) rfl rfl rfl rfl ?_
  refine vpOps_nil ?_
  refine vp_seq ?_
  refine vIf rfl (fun h1 => ?_) (fun h1 => ?_)
  · skip
    refine vp_skip ?_
    refine vp_seq ?_
    refine vp_block ?_
    refine vp_seq ?_
    refine vp_region ?_
    refine vpOps_pure (x := .v (.int .i64 ((i : Nat) : Int))) (pMv rfl rfl rfl) rfl rfl rfl rfl ?_
    refine vpOps_pure (x := .v (.int .i64 ((i : Nat) : Int))) (pAs rfl rfl rfl) rfl rfl rfl rfl ?_
    refine vpOps_nil ?_
    refine vp_seq ?_
    refine vp_region ?_
    refine vpOps_pure (x := .clo 50 [.rbox [.v (.string n)]]) (pMv rfl rfl rfl) rfl rfl rfl rfl ?_
    refine vpOps_pure (x := .sh 3 (d.map cardc)) (pMv rfl rfl rfl) rfl rfl rfl rfl ?_
    refine vpOps_pure (x := .v (.int .i64 ((i : Nat) : Int))) (pMv rfl rfl rfl) rfl rfl rfl rfl ?_
    refine vpOps_pure (x := .rbox [.v (.string ((d.getD i default).name)), .v (.int .u64 (((((d.getD i default).notches).a : Nat) : Int))), .v (.int .u64 (((((d.getD i default).notches).b : Nat) : Int)))]) (pIx (m := i) rfl rfl rfl (by first | rfl | omega) (by omega) rfl) rfl rfl rfl rfl ?_
    refine vpOps_pure (x := .agg [.v (.string ((d.getD i default).name)), .v (.int .u64 (((((d.getD i default).notches).a : Nat) : Int))), .v (.int .u64 (((((d.getD i default).notches).b : Nat) : Int)))]) (pure_load_rbox_agg rfl rfl rfl rfl rfl) rfl rfl rfl rfl ?_
    refine vpOps_call (gs := [⟨.tmp 15, .agg [.v (.string ((d.getD i default).name)), .v (.int .u64 (((((d.getD i default).notches).a : Nat) : Int))), .v (.int .u64 (((((d.getD i default).notches).b : Nat) : Int)))], none, none⟩]) (c_placeOf1 (d.getD i default) n ) rfl rfl rfl rfl rfl (mvOkL_flat _ rfl) (by kernel_rfl) rfl rfl (gives_cons (gC rfl rfl) gives_nil) rfl (fun _ _ _ => .inl rfl) ?_
    rintro _ _ ⟨rfl, rfl⟩
    refine vpOps_nil ?_
    refine vIf rfl (fun h2 => ?_) (fun h2 => ?_)
    · skip
      refine vp_seq ?_
      refine vp_region ?_
      refine vpOps_pure (x := .v (.int .i64 ((i : Nat) : Int))) (pMv rfl rfl rfl) rfl rfl rfl rfl ?_
      refine vpOps_pure (x := .v (.int .i64 ((i : Nat) : Int))) (pAs rfl rfl rfl) rfl rfl rfl rfl ?_
      refine vpOps_nil ?_
      refine vp_ret ?_
      exact ⟨[.v (.int .i64 ((i : Nat) : Int))], [4], (.cons (.tmp rfl rfl) .nil), rfl, ⟨(show (.v (.int .i64 ((i : Nat) : Int)) : PV) = .v (.int .i64 (placeC d n)) from (by first | (rw [placeC_at (i := i) (by omega) (by assumption) hA]; done) | (rw [placeC_none (i := i) (by omega) hA]; done))), rfl⟩⟩
    · skip
      refine vp_skip ?_
      refine vp_region ?_
      refine vpOps_pure (x := .v (.int .i64 (((i : Nat) : Int) + 1))) (pure_add rfl rfl rfl (in64 (by omega) (by omega))) rfl rfl rfl rfl ?_
      refine vpOps_pure (x := .v (.int .i64 (((i : Nat) : Int) + 1))) (pMv rfl rfl rfl) rfl rfl rfl rfl ?_
      refine vpOps_nil ?_
      exact ⟨i + 1, (by first | omega | (dsimp only; omega)), ⟨(by omega), (by intro j hj; rcases Nat.lt_or_ge j i with hji | hji; exact hA j hji; rw [show j = i by omega]; assumption), trivial⟩, ⟨rfl, rfl, rfl, rfl, trivial⟩⟩
  · skip
    refine vp_exit ?_
    refine vp_seq ?_
    refine vp_region ?_
    refine vpOps_pure (x := .v (.int .i64 (-1))) (pAs rfl rfl rfl) rfl rfl rfl rfl ?_
    refine vpOps_nil ?_
    refine vp_ret ?_
    exact ⟨[.v (.int .i64 (-1))], [4], (.cons (.tmp rfl rfl) .nil), rfl, ⟨(show (.v (.int .i64 (-1)) : PV) = .v (.int .i64 (placeC d n)) from (by first | (rw [placeC_at (i := i) (by omega) (by assumption) hA]; done) | (rw [placeC_none (i := i) (by omega) hA]; done))), rfl⟩⟩

/-- impl.placeOf -/
theorem c_placeOf {G : World → Prop} (d : List Card) (n : ByteArray) (hn : d.length ≤ 9223372036854775807) : CallsV Tryd.prog G 25 [.sh 3 (d.map cardc), .v (.string n)] (fun r outs => r = .v (.int .i64 (placeC d n)) ∧ outs = [.junk, .junk]) := by
  refine callsV_enter [] Tryd.func25 rfl rfl rfl ?_
  refine vp_seq ?_
  refine vp_region ?_
  refine vpOps_pure (x := .box [.v (.string n)]) (pure_box rfl rfl (mvOk_flat _ rfl) rfl rfl) rfl rfl rfl rfl ?_
  refine vpOps_pure (x := .v (.int .i64 0)) (pAs rfl rfl rfl) rfl rfl rfl rfl ?_
  refine vpOps_nil ?_
  refine vp_seq ?_
  refine vp_region ?_
  refine vpOps_pure (x := .sh 3 (d.map cardc)) (pMv rfl rfl rfl) rfl rfl rfl rfl ?_
  refine vpOps_ghost (ghost_freeze (k := 3) rfl rfl rfl) ?_
  refine vpOps_pure (x := .clo 50 [.rbox [.v (.string n)]]) (pMkF rfl rfl rfl) rfl rfl rfl rfl ?_
  refine vpOps_call (gs := [⟨.tmp 5, .sh 3 (d.map cardc), none, none⟩, ⟨.tmp 6, .clo 50 [.rbox [.v (.string n)]], none, none⟩]) (c_IxPlace d n (by first | assumption | omega)) rfl rfl rfl rfl rfl trivial (by kernel_rfl) rfl rfl (gives_cons (gC rfl rfl) (gives_cons (gC rfl rfl) gives_nil)) rfl (fun _ _ _ => .inl rfl) ?_
  rintro _ _ ⟨rfl, rfl⟩
  refine vpOps_pure (x := .v (.int .i64 (placeC d n))) (pAs rfl rfl rfl) rfl rfl rfl rfl ?_
  refine vpOps_nil ?_
  refine vp_ret ?_
  exact ⟨[.v (.int .i64 (placeC d n))], [4], (.cons (.tmp rfl rfl) .nil), rfl, ⟨(show (.v (.int .i64 (placeC d n)) : PV) = .v (.int .i64 (placeC d n)) from rfl), rfl⟩⟩

/-- impl.stateOf -/
theorem c_stateOf {G : World → Prop} (d : List Card) (n : ByteArray) (hn : d.length ≤ 9223372036854775807) : CallsV Tryd.prog G 24 [.sh 3 (d.map cardc), .v (.string n)] (fun r outs => r = .agg [.v (.bool ((stC d n).there)), .v (.int .u64 (((((stC d n).notches).a : Nat) : Int))), .v (.int .u64 (((((stC d n).notches).b : Nat) : Int)))] ∧ outs = [.junk, .junk]) := by
  refine callsV_enter [] Tryd.func24 rfl rfl rfl ?_
  have hpn := placeC_num d n
  refine vp_seq ?_
  refine vp_region ?_
  refine vpOps_pure (x := .box [.v (.bool (false)), .v (.int .u64 0), .v (.int .u64 0)]) (pure_alloc rfl) rfl rfl rfl rfl ?_
  refine vpOps_nil ?_
  refine vp_seq ?_
  refine vp_region ?_
  refine vpOps_pure (x := .sh 3 (d.map cardc)) (pMv rfl rfl rfl) rfl rfl rfl rfl ?_
  refine vpOps_pure (x := .v (.string n)) (pMv rfl rfl rfl) rfl rfl rfl rfl ?_
  refine vpOps_call (gs := [⟨.tmp 6, .sh 3 (d.map cardc), none, none⟩, ⟨.tmp 7, .v (.string n), none, none⟩]) (c_placeOf d n (by first | assumption | omega)) rfl rfl rfl rfl rfl trivial (by kernel_rfl) rfl rfl (gives_cons (gC rfl rfl) (gives_cons (gC rfl rfl) gives_nil)) rfl (fun _ _ _ => .inl rfl) ?_
  rintro _ _ ⟨rfl, rfl⟩
  refine vpOps_pure (x := .v (.int .i64 (placeC d n))) (pAs rfl rfl rfl) rfl rfl rfl rfl ?_
  refine vpOps_nil ?_
  refine vp_seq ?_
  refine vp_seq ?_
  refine vp_region ?_
  refine vpOps_pure (x := .v (.int .i64 (placeC d n))) (pMv rfl rfl rfl) rfl rfl rfl rfl ?_
  refine vpOps_pure (x := .v (.bool (decide ((placeC d n) < 0)))) (pure_bin rfl rfl rfl rfl) rfl rfl rfl rfl ?_
  refine vpOps_nil ?_
  refine vIf rfl (fun h1 => ?_) (fun h1 => ?_)
  · skip
    refine vp_seq ?_
    refine vp_region ?_
    refine vpOps_pure (x := .agg [.v (.bool (false)), .v (.int .u64 0), .v (.int .u64 0)]) (pure_build_st rfl (flatsB_ok rfl) rfl) rfl rfl rfl rfl ?_
    refine vStB (x := .agg [.v (.bool (false)), .v (.int .u64 0), .v (.int .u64 0)]) (row' := [.v (.bool (false)), .v (.int .u64 0), .v (.int .u64 0)]) rfl rfl rfl rfl rfl rfl rfl rfl rfl rfl rfl rfl ?_
    refine vpOps_nil ?_
    refine vp_ret ?_
    exact ⟨[.agg [.v (.bool (false)), .v (.int .u64 0), .v (.int .u64 0)]], [4], (.cons (.cellAgg rfl rfl rfl) .nil), rfl, ⟨(show (.agg [.v (.bool (false)), .v (.int .u64 0), .v (.int .u64 0)] : PV) = .agg [.v (.bool ((stC d n).there)), .v (.int .u64 (((((stC d n).notches).a : Nat) : Int))), .v (.int .u64 (((((stC d n).notches).b : Nat) : Int)))] from (by unfold stC; first | (rw [if_pos (by assumption)]; rfl) | (rw [if_neg (by assumption)]))), rfl⟩⟩
  · skip
    refine vp_skip ?_
    refine vp_seq ?_
    refine vp_region ?_
    refine vpOps_pure (x := .sh 3 (d.map cardc)) (pMv rfl rfl rfl) rfl rfl rfl rfl ?_
    refine vpOps_pure (x := .v (.int .i64 (placeC d n))) (pMv rfl rfl rfl) rfl rfl rfl rfl ?_
    refine vpOps_pure (x := .rbox [.v (.string ((d.getD ((placeC d n).toNat) default).name)), .v (.int .u64 (((((d.getD ((placeC d n).toNat) default).notches).a : Nat) : Int))), .v (.int .u64 (((((d.getD ((placeC d n).toNat) default).notches).b : Nat) : Int)))]) (pIx (m := (placeC d n).toNat) rfl rfl rfl (by first | rfl | omega) (by omega) rfl) rfl rfl rfl rfl ?_
    refine vpOps_pure (x := .rbox [.v (.int .u64 (((((d.getD ((placeC d n).toNat) default).notches).a : Nat) : Int))), .v (.int .u64 (((((d.getD ((placeC d n).toNat) default).notches).b : Nat) : Int)))]) (pure_field_rbox rfl rfl rfl rfl) rfl rfl rfl rfl ?_
    refine vpOps_pure (x := .agg [.v (.int .u64 (((((d.getD ((placeC d n).toNat) default).notches).a : Nat) : Int))), .v (.int .u64 (((((d.getD ((placeC d n).toNat) default).notches).b : Nat) : Int)))]) (pure_load_rbox_agg rfl rfl rfl rfl rfl) rfl rfl rfl rfl ?_
    refine vpOps_pure (x := .agg [.v (.bool (true)), .v (.int .u64 (((((d.getD ((placeC d n).toNat) default).notches).a : Nat) : Int))), .v (.int .u64 (((((d.getD ((placeC d n).toNat) default).notches).b : Nat) : Int)))]) (pure_build_st rfl (flatsB_ok rfl) rfl) rfl rfl rfl rfl ?_
    refine vStB (x := .agg [.v (.bool (true)), .v (.int .u64 (((((d.getD ((placeC d n).toNat) default).notches).a : Nat) : Int))), .v (.int .u64 (((((d.getD ((placeC d n).toNat) default).notches).b : Nat) : Int)))]) (row' := [.v (.bool (true)), .v (.int .u64 (((((d.getD ((placeC d n).toNat) default).notches).a : Nat) : Int))), .v (.int .u64 (((((d.getD ((placeC d n).toNat) default).notches).b : Nat) : Int)))]) rfl rfl rfl rfl rfl rfl rfl rfl rfl rfl rfl rfl ?_
    refine vpOps_nil ?_
    refine vp_ret ?_
    exact ⟨[.agg [.v (.bool (true)), .v (.int .u64 (((((d.getD ((placeC d n).toNat) default).notches).a : Nat) : Int))), .v (.int .u64 (((((d.getD ((placeC d n).toNat) default).notches).b : Nat) : Int)))]], [4], (.cons (.cellAgg rfl rfl rfl) .nil), rfl, ⟨(show (.agg [.v (.bool (true)), .v (.int .u64 (((((d.getD ((placeC d n).toNat) default).notches).a : Nat) : Int))), .v (.int .u64 (((((d.getD ((placeC d n).toNat) default).notches).b : Nat) : Int)))] : PV) = .agg [.v (.bool ((stC d n).there)), .v (.int .u64 (((((stC d n).notches).a : Nat) : Int))), .v (.int .u64 (((((stC d n).notches).b : Nat) : Int)))] from (by unfold stC; first | (rw [if_pos (by assumption)]; rfl) | (rw [if_neg (by assumption)]))), rfl⟩⟩

end Go.Vr
/- Walks of the functions that the law reaches: what each gives, by value. -/
namespace Go.Vr
open Go Go.Proofs
set_option linter.unusedVariables false
set_option linter.unusedSimpArgs false
set_option maxRecDepth 8000

/-- impl.conflicts -/
theorem c_conflicts {G : World → Prop} (base : List Card) (a : List Card) (b : List Card) (hok : ok3 base a b) : CallsV Tryd.prog G 20 [.sh 3 (base.map cardc), .sh 3 (a.map cardc), .sh 3 (b.map cardc)] (fun r outs => r = .own 1 ((confL base a b).map strc) ∧ outs = [.junk, .junk, .junk]) := by
  refine callsV_enter [] Tryd.func20 rfl rfl rfl ?_
  have hn2 := names2_len hok.1 hok.2.1
  refine vp_seq ?_
  refine vp_region ?_
  refine vpOps_pure (x := .v (.slice none 0 0)) (pAs rfl rfl rfl) rfl rfl rfl rfl ?_
  refine vpOps_nil ?_
  refine vp_seq ?_
  refine vp_region ?_
  refine vpOps_pure (x := .own 1 []) (pBs (cs := []) rfl rfl rfl rfl rfl rfl rfl) rfl rfl rfl rfl ?_
  refine vpOps_assign (x := .own 1 []) rfl rfl rfl rfl rfl rfl rfl ?_
  refine vpOps_nil ?_
  refine vp_seq ?_
  refine vp_seq ?_
  refine vp_region ?_
  refine vpOps_pure (x := .sh 3 (base.map cardc)) (pMv rfl rfl rfl) rfl rfl rfl rfl ?_
  refine vpOps_pure (x := .sh 3 (a.map cardc)) (pMv rfl rfl rfl) rfl rfl rfl rfl ?_
  refine vpOps_pure (x := .own 1 [[.sh 3 (base.map cardc)], [.sh 3 (a.map cardc)]]) (pBs (cs := [.sh 3 (base.map cardc), .sh 3 (a.map cardc)]) rfl rfl rfl rfl rfl rfl rfl) rfl rfl rfl rfl ?_
  refine vpOps_call (gs := [⟨.tmp 16, .sh 1 [[.sh 3 (base.map cardc)], [.sh 3 (a.map cardc)]], none, some 16⟩]) (c_namesOf ([base, a]) (by first | assumption | omega | exact dl80 hok.1 | exact dl80 hok.2.1 | exact dl80 hok.2.2 | exact short2 hok.1 hok.2.1 | exact short3 hok.1 hok.2.1 hok.2.2 | exact Nat.le_of_lt_succ (by simp) | (simp; done)) (by first | assumption | omega | exact dl80 hok.1 | exact dl80 hok.2.1 | exact dl80 hok.2.2 | exact short2 hok.1 hok.2.1 | exact short3 hok.1 hok.2.1 hok.2.2 | exact Nat.le_of_lt_succ (by simp) | (simp; done))) rfl rfl rfl rfl rfl trivial (by kernel_rfl) rfl rfl (gives_cons (give_view (c := .own 1 [[.sh 3 (base.map cardc)], [.sh 3 (a.map cardc)]]) rfl rfl rfl rfl rfl) gives_nil) rfl (fun _ _ h => .inr (by obtain ⟨h1, h2⟩ := h; subst h1; subst h2; exact ⟨by simp [PV.closed, PV.closedL, closedE_map], by simp [PV.closedL, PV.closed]⟩)) ?_
  rintro _ _ ⟨rfl, rfl⟩
  refine vpOps_pure (x := .v (.int .i64 (((((namesA ([base, a])).length) : Nat) : Int)))) (pLenR rfl rfl rfl rfl rfl (List.length_map _)) rfl rfl rfl rfl ?_
  refine vpOps_pure (x := .v (.int .i64 0)) (pMv rfl rfl rfl) rfl rfl rfl rfl ?_
  refine vpOps_nil ?_
  refine vp_block ?_
  refine vLoop (α := Nat × List ByteArray) (fun (i, out) => (namesA [base, a]).length - i) (fun (i, out) => (i ≤ (namesA [base, a]).length) ∧ (out = confTo base a b (namesA [base, a]) i) ∧ (out.length ≤ i) ∧ True) (fun (i, out) => [(0, .sh 3 (base.map cardc)), (1, .sh 3 (a.map cardc)), (2, .sh 3 (b.map cardc)), (6, .v (.slice none 0 0)), (7, .own 1 (out.map strc)), (17, .own 1 ((namesA ([base, a])).map strc)), (18, .v (.int .i64 (((((namesA ([base, a])).length) : Nat) : Int)))), (19, .v (.int .i64 ((i : Nat) : Int)))]) (fun ⟨_, _⟩ => rfl) (fun ⟨_, _⟩ => rfl) (0, []) ⟨(by omega), (by rfl), (by exact Nat.zero_le _), trivial⟩ ⟨rfl, rfl, rfl, rfl, rfl, rfl, rfl, rfl, trivial⟩ ?_
  rintro ⟨i, out⟩ ⟨hi, ho, hol, -⟩
  refine vp_seq ?_
  refine vp_region ?_
  refine vpOps_pure (x := .v (.bool (decide (((i : Nat) : Int) < (((((namesA ([base, a])).length) : Nat) : Int)))))) (pure_bin rfl rfl rfl rfl) rfl rfl rfl rfl ?_
  refine vpOps_nil ?_
  refine vp_seq ?_
  refine vIf rfl (fun h1 => ?_) (fun h1 => ?_)
  · skip
    refine vp_skip ?_
    refine vp_seq ?_
    refine vp_block ?_
    refine vp_seq ?_
    refine vp_region ?_
    refine vpOps_pure (x := .pl 17 [⟨i, 0, 1⟩]) (pIxR (m := i) rfl rfl rfl rfl rfl rfl (by first | rfl | omega) (by rw [List.length_map]; omega) rfl) rfl rfl rfl rfl ?_
    refine vpOps_pure (x := .v (.string ((namesA ([base, a])).getD i default))) (pure_load_pl rfl rfl rfl rfl rfl (row_map (by omega)) rfl trivial rfl) rfl rfl rfl rfl ?_
    refine vpOps_pure (x := .v (.string ((namesA ([base, a])).getD i default))) (pAs rfl rfl rfl) rfl rfl rfl rfl ?_
    refine vpOps_nil ?_
    refine vp_seq ?_
    refine vp_region ?_
    refine vpOps_pure (x := .sh 3 (base.map cardc)) (pMv rfl rfl rfl) rfl rfl rfl rfl ?_
    refine vpOps_pure (x := .v (.string ((namesA ([base, a])).getD i default))) (pMv rfl rfl rfl) rfl rfl rfl rfl ?_
    refine vpOps_call (gs := [⟨.tmp 23, .sh 3 (base.map cardc), none, none⟩, ⟨.tmp 24, .v (.string ((namesA ([base, a])).getD i default)), none, none⟩]) (c_stateOf base ((namesA ([base, a])).getD i default) (by first | assumption | omega | exact dl80 hok.1 | exact dl80 hok.2.1 | exact dl80 hok.2.2 | exact short2 hok.1 hok.2.1 | exact short3 hok.1 hok.2.1 hok.2.2 | exact Nat.le_of_lt_succ (by simp) | (simp; done))) rfl rfl rfl rfl rfl trivial (by kernel_rfl) rfl rfl (gives_cons (gC rfl rfl) (gives_cons (gC rfl rfl) gives_nil)) rfl (fun _ _ _ => .inl rfl) ?_
    rintro _ _ ⟨rfl, rfl⟩
    refine vpOps_pure (x := .sh 3 (a.map cardc)) (pMv rfl rfl rfl) rfl rfl rfl rfl ?_
    refine vpOps_pure (x := .v (.string ((namesA ([base, a])).getD i default))) (pMv rfl rfl rfl) rfl rfl rfl rfl ?_
    refine vpOps_call (gs := [⟨.tmp 26, .sh 3 (a.map cardc), none, none⟩, ⟨.tmp 27, .v (.string ((namesA ([base, a])).getD i default)), none, none⟩]) (c_stateOf a ((namesA ([base, a])).getD i default) (by first | assumption | omega | exact dl80 hok.1 | exact dl80 hok.2.1 | exact dl80 hok.2.2 | exact short2 hok.1 hok.2.1 | exact short3 hok.1 hok.2.1 hok.2.2 | exact Nat.le_of_lt_succ (by simp) | (simp; done))) rfl rfl rfl rfl rfl trivial (by kernel_rfl) rfl rfl (gives_cons (gC rfl rfl) (gives_cons (gC rfl rfl) gives_nil)) rfl (fun _ _ _ => .inl rfl) ?_
    rintro _ _ ⟨rfl, rfl⟩
    refine vpOps_pure (x := .sh 3 (b.map cardc)) (pMv rfl rfl rfl) rfl rfl rfl rfl ?_
    refine vpOps_pure (x := .v (.string ((namesA ([base, a])).getD i default))) (pMv rfl rfl rfl) rfl rfl rfl rfl ?_
    refine vpOps_call (gs := [⟨.tmp 29, .sh 3 (b.map cardc), none, none⟩, ⟨.tmp 30, .v (.string ((namesA ([base, a])).getD i default)), none, none⟩]) (c_stateOf b ((namesA ([base, a])).getD i default) (by first | assumption | omega | exact dl80 hok.1 | exact dl80 hok.2.1 | exact dl80 hok.2.2 | exact short2 hok.1 hok.2.1 | exact short3 hok.1 hok.2.1 hok.2.2 | exact Nat.le_of_lt_succ (by simp) | (simp; done))) rfl rfl rfl rfl rfl trivial (by kernel_rfl) rfl rfl (gives_cons (gC rfl rfl) (gives_cons (gC rfl rfl) gives_nil)) rfl (fun _ _ _ => .inl rfl) ?_
    rintro _ _ ⟨rfl, rfl⟩
    refine vpOps_pure (x := .box [.v (.bool (false)), .v (.int .u64 0), .v (.int .u64 0)]) (pure_alloc rfl) rfl rfl rfl rfl ?_
    refine vpOps_pure (x := .box [.v (.bool (false)), .v (.int .u64 0), .v (.int .u64 0)]) (pure_alloc rfl) rfl rfl rfl rfl ?_
    refine vpOps_pure (x := .box [.v (.bool (false)), .v (.int .u64 0), .v (.int .u64 0)]) (pure_alloc rfl) rfl rfl rfl rfl ?_
    refine vStB (x := .agg [.v (.bool ((stC base ((namesA ([base, a])).getD i default)).there)), .v (.int .u64 (((((stC base ((namesA ([base, a])).getD i default)).notches).a : Nat) : Int))), .v (.int .u64 (((((stC base ((namesA ([base, a])).getD i default)).notches).b : Nat) : Int)))]) (row' := [.v (.bool ((stC base ((namesA ([base, a])).getD i default)).there)), .v (.int .u64 (((((stC base ((namesA ([base, a])).getD i default)).notches).a : Nat) : Int))), .v (.int .u64 (((((stC base ((namesA ([base, a])).getD i default)).notches).b : Nat) : Int)))]) rfl rfl rfl rfl rfl rfl rfl rfl rfl rfl rfl rfl ?_
    refine vStB (x := .agg [.v (.bool ((stC a ((namesA ([base, a])).getD i default)).there)), .v (.int .u64 (((((stC a ((namesA ([base, a])).getD i default)).notches).a : Nat) : Int))), .v (.int .u64 (((((stC a ((namesA ([base, a])).getD i default)).notches).b : Nat) : Int)))]) (row' := [.v (.bool ((stC a ((namesA ([base, a])).getD i default)).there)), .v (.int .u64 (((((stC a ((namesA ([base, a])).getD i default)).notches).a : Nat) : Int))), .v (.int .u64 (((((stC a ((namesA ([base, a])).getD i default)).notches).b : Nat) : Int)))]) rfl rfl rfl rfl rfl rfl rfl rfl rfl rfl rfl rfl ?_
    refine vStB (x := .agg [.v (.bool ((stC b ((namesA ([base, a])).getD i default)).there)), .v (.int .u64 (((((stC b ((namesA ([base, a])).getD i default)).notches).a : Nat) : Int))), .v (.int .u64 (((((stC b ((namesA ([base, a])).getD i default)).notches).b : Nat) : Int)))]) (row' := [.v (.bool ((stC b ((namesA ([base, a])).getD i default)).there)), .v (.int .u64 (((((stC b ((namesA ([base, a])).getD i default)).notches).a : Nat) : Int))), .v (.int .u64 (((((stC b ((namesA ([base, a])).getD i default)).notches).b : Nat) : Int)))]) rfl rfl rfl rfl rfl rfl rfl rfl rfl rfl rfl rfl ?_
    refine vpOps_nil ?_
    refine vp_seq ?_
    refine vp_region ?_
    refine vpOps_pure (x := .agg [.v (.bool ((stC base ((namesA ([base, a])).getD i default)).there)), .v (.int .u64 (((((stC base ((namesA ([base, a])).getD i default)).notches).a : Nat) : Int))), .v (.int .u64 (((((stC base ((namesA ([base, a])).getD i default)).notches).b : Nat) : Int)))]) (pure_load_pl_agg rfl rfl rfl rfl rfl rfl rfl rfl (by simp [PV.flatL, PV.flat])) rfl rfl rfl rfl ?_
    refine vpOps_pure (x := .agg [.v (.bool ((stC a ((namesA ([base, a])).getD i default)).there)), .v (.int .u64 (((((stC a ((namesA ([base, a])).getD i default)).notches).a : Nat) : Int))), .v (.int .u64 (((((stC a ((namesA ([base, a])).getD i default)).notches).b : Nat) : Int)))]) (pure_load_pl_agg rfl rfl rfl rfl rfl rfl rfl rfl (by simp [PV.flatL, PV.flat])) rfl rfl rfl rfl ?_
    refine vpOps_pure (x := .v (.bool (!decide (stC base ((namesA ([base, a])).getD i default) = stC a ((namesA ([base, a])).getD i default))))) (pNeAgg [(.bool ((stC base ((namesA ([base, a])).getD i default)).there)), (.int .u64 (((((stC base ((namesA ([base, a])).getD i default)).notches).a : Nat) : Int))), (.int .u64 (((((stC base ((namesA ([base, a])).getD i default)).notches).b : Nat) : Int)))] [(.bool ((stC a ((namesA ([base, a])).getD i default)).there)), (.int .u64 (((((stC a ((namesA ([base, a])).getD i default)).notches).a : Nat) : Int))), (.int .u64 (((((stC a ((namesA ([base, a])).getD i default)).notches).b : Nat) : Int)))] (φ := stC base ((namesA ([base, a])).getD i default) = stC a ((namesA ([base, a])).getD i default)) rfl rfl rfl rfl rfl rfl rfl (st_inj)) rfl rfl rfl rfl ?_
    refine vpOps_pure (x := .v (.bool (!decide (stC base ((namesA ([base, a])).getD i default) = stC a ((namesA ([base, a])).getD i default))))) (pMv rfl rfl rfl) rfl rfl rfl rfl ?_
    by_cases h2 : stC base ((namesA ([base, a])).getD i default) = stC a ((namesA ([base, a])).getD i default)
    · skip
      refine vPass rfl rfl rfl (not_of_t (decide_eq_true h2)) rfl rfl rfl ?_
      refine vPass rfl rfl rfl (not_of_t (decide_eq_true h2)) rfl rfl rfl ?_
      refine vPass rfl rfl rfl (not_of_t (decide_eq_true h2)) rfl rfl rfl ?_
      refine vpOps_pure (x := .v (.bool (false))) (pPf rfl rfl (not_of_t (decide_eq_true h2)) rfl rfl) rfl rfl rfl rfl ?_
      refine vpOps_pure (x := .v (.bool (false))) (pMv rfl rfl rfl) rfl rfl rfl rfl ?_
      refine vPass rfl rfl rfl rfl rfl rfl rfl ?_
      refine vPass rfl rfl rfl rfl rfl rfl rfl ?_
      refine vPass rfl rfl rfl rfl rfl rfl rfl ?_
      refine vpOps_pure (x := .v (.bool (false))) (pPf rfl rfl rfl rfl rfl) rfl rfl rfl rfl ?_
      refine vpOps_nil ?_
      refine vIfF rfl rfl ?_
      refine vp_skip ?_
      refine vp_region ?_
      refine vpOps_pure (x := .v (.int .i64 (((i : Nat) : Int) + 1))) (pure_add rfl rfl rfl (in64 (by omega) (by omega))) rfl rfl rfl rfl ?_
      refine vpOps_pure (x := .v (.int .i64 (((i : Nat) : Int) + 1))) (pMv rfl rfl rfl) rfl rfl rfl rfl ?_
      refine vpOps_nil ?_
      exact ⟨(i + 1, out), (by first | omega | (dsimp only; omega)), ⟨(by omega), (by rw [confTo, ← ho]; first | (rw [if_pos ⟨by assumption, by assumption, by assumption⟩]; done) | (rw [if_neg (fun h => by have h1 := h.1; have h2 := h.2.1; have hh3 := h.2.2; first | exact absurd (by assumption) h1 | exact absurd (by assumption) h2 | exact absurd (by assumption) hh3)]; done)), (by first | omega | (simp only [List.length_append, List.length_cons, List.length_nil]; omega)), trivial⟩, ⟨rfl, rfl, rfl, rfl, rfl, rfl, rfl, rfl, trivial⟩⟩
    · skip
      refine vRun rfl rfl rfl (not_of_f (decide_eq_false h2)) rfl rfl rfl ?_
      refine vpOps_pure (x := .agg [.v (.bool ((stC base ((namesA ([base, a])).getD i default)).there)), .v (.int .u64 (((((stC base ((namesA ([base, a])).getD i default)).notches).a : Nat) : Int))), .v (.int .u64 (((((stC base ((namesA ([base, a])).getD i default)).notches).b : Nat) : Int)))]) (pure_load_pl_agg rfl rfl rfl rfl rfl rfl rfl rfl (by simp [PV.flatL, PV.flat])) rfl rfl rfl rfl ?_
      refine vRun rfl rfl rfl (not_of_f (decide_eq_false h2)) rfl rfl rfl ?_
      refine vpOps_pure (x := .agg [.v (.bool ((stC b ((namesA ([base, a])).getD i default)).there)), .v (.int .u64 (((((stC b ((namesA ([base, a])).getD i default)).notches).a : Nat) : Int))), .v (.int .u64 (((((stC b ((namesA ([base, a])).getD i default)).notches).b : Nat) : Int)))]) (pure_load_pl_agg rfl rfl rfl rfl rfl rfl rfl rfl (by simp [PV.flatL, PV.flat])) rfl rfl rfl rfl ?_
      refine vRun rfl rfl rfl (not_of_f (decide_eq_false h2)) rfl rfl rfl ?_
      refine vpOps_pure (x := .v (.bool (!decide (stC base ((namesA ([base, a])).getD i default) = stC b ((namesA ([base, a])).getD i default))))) (pNeAgg [(.bool ((stC base ((namesA ([base, a])).getD i default)).there)), (.int .u64 (((((stC base ((namesA ([base, a])).getD i default)).notches).a : Nat) : Int))), (.int .u64 (((((stC base ((namesA ([base, a])).getD i default)).notches).b : Nat) : Int)))] [(.bool ((stC b ((namesA ([base, a])).getD i default)).there)), (.int .u64 (((((stC b ((namesA ([base, a])).getD i default)).notches).a : Nat) : Int))), (.int .u64 (((((stC b ((namesA ([base, a])).getD i default)).notches).b : Nat) : Int)))] (φ := stC base ((namesA ([base, a])).getD i default) = stC b ((namesA ([base, a])).getD i default)) rfl rfl rfl rfl rfl rfl rfl (st_inj)) rfl rfl rfl rfl ?_
      refine vpOps_pure (x := .v (.bool (!decide (stC base ((namesA ([base, a])).getD i default) = stC b ((namesA ([base, a])).getD i default))))) (pPt rfl rfl (not_of_f (decide_eq_false h2)) rfl rfl) rfl rfl rfl rfl ?_
      refine vpOps_pure (x := .v (.bool (!decide (stC base ((namesA ([base, a])).getD i default) = stC b ((namesA ([base, a])).getD i default))))) (pMv rfl rfl rfl) rfl rfl rfl rfl ?_
      by_cases h3 : stC base ((namesA ([base, a])).getD i default) = stC b ((namesA ([base, a])).getD i default)
      · skip
        refine vPass rfl rfl rfl (not_of_t (decide_eq_true h3)) rfl rfl rfl ?_
        refine vPass rfl rfl rfl (not_of_t (decide_eq_true h3)) rfl rfl rfl ?_
        refine vPass rfl rfl rfl (not_of_t (decide_eq_true h3)) rfl rfl rfl ?_
        refine vpOps_pure (x := .v (.bool (false))) (pPf rfl rfl (not_of_t (decide_eq_true h3)) rfl rfl) rfl rfl rfl rfl ?_
        refine vpOps_nil ?_
        refine vIfF rfl rfl ?_
        refine vp_skip ?_
        refine vp_region ?_
        refine vpOps_pure (x := .v (.int .i64 (((i : Nat) : Int) + 1))) (pure_add rfl rfl rfl (in64 (by omega) (by omega))) rfl rfl rfl rfl ?_
        refine vpOps_pure (x := .v (.int .i64 (((i : Nat) : Int) + 1))) (pMv rfl rfl rfl) rfl rfl rfl rfl ?_
        refine vpOps_nil ?_
        exact ⟨(i + 1, out), (by first | omega | (dsimp only; omega)), ⟨(by omega), (by rw [confTo, ← ho]; first | (rw [if_pos ⟨by assumption, by assumption, by assumption⟩]; done) | (rw [if_neg (fun h => by have h1 := h.1; have h2 := h.2.1; have hh3 := h.2.2; first | exact absurd (by assumption) h1 | exact absurd (by assumption) h2 | exact absurd (by assumption) hh3)]; done)), (by first | omega | (simp only [List.length_append, List.length_cons, List.length_nil]; omega)), trivial⟩, ⟨rfl, rfl, rfl, rfl, rfl, rfl, rfl, rfl, trivial⟩⟩
      · skip
        refine vRun rfl rfl rfl (not_of_f (decide_eq_false h3)) rfl rfl rfl ?_
        refine vpOps_pure (x := .agg [.v (.bool ((stC a ((namesA ([base, a])).getD i default)).there)), .v (.int .u64 (((((stC a ((namesA ([base, a])).getD i default)).notches).a : Nat) : Int))), .v (.int .u64 (((((stC a ((namesA ([base, a])).getD i default)).notches).b : Nat) : Int)))]) (pure_load_pl_agg rfl rfl rfl rfl rfl rfl rfl rfl (by simp [PV.flatL, PV.flat])) rfl rfl rfl rfl ?_
        refine vRun rfl rfl rfl (not_of_f (decide_eq_false h3)) rfl rfl rfl ?_
        refine vpOps_pure (x := .agg [.v (.bool ((stC b ((namesA ([base, a])).getD i default)).there)), .v (.int .u64 (((((stC b ((namesA ([base, a])).getD i default)).notches).a : Nat) : Int))), .v (.int .u64 (((((stC b ((namesA ([base, a])).getD i default)).notches).b : Nat) : Int)))]) (pure_load_pl_agg rfl rfl rfl rfl rfl rfl rfl rfl (by simp [PV.flatL, PV.flat])) rfl rfl rfl rfl ?_
        refine vRun rfl rfl rfl (not_of_f (decide_eq_false h3)) rfl rfl rfl ?_
        refine vpOps_pure (x := .v (.bool (!decide (stC a ((namesA ([base, a])).getD i default) = stC b ((namesA ([base, a])).getD i default))))) (pNeAgg [(.bool ((stC a ((namesA ([base, a])).getD i default)).there)), (.int .u64 (((((stC a ((namesA ([base, a])).getD i default)).notches).a : Nat) : Int))), (.int .u64 (((((stC a ((namesA ([base, a])).getD i default)).notches).b : Nat) : Int)))] [(.bool ((stC b ((namesA ([base, a])).getD i default)).there)), (.int .u64 (((((stC b ((namesA ([base, a])).getD i default)).notches).a : Nat) : Int))), (.int .u64 (((((stC b ((namesA ([base, a])).getD i default)).notches).b : Nat) : Int)))] (φ := stC a ((namesA ([base, a])).getD i default) = stC b ((namesA ([base, a])).getD i default)) rfl rfl rfl rfl rfl rfl rfl (st_inj)) rfl rfl rfl rfl ?_
        refine vpOps_pure (x := .v (.bool (!decide (stC a ((namesA ([base, a])).getD i default) = stC b ((namesA ([base, a])).getD i default))))) (pPt rfl rfl (not_of_f (decide_eq_false h3)) rfl rfl) rfl rfl rfl rfl ?_
        refine vpOps_nil ?_
        refine vIfN rfl (fun h4 => ?_) (fun h4 => ?_)
        · skip
          refine vp_region ?_
          refine vpOps_pure (x := .lv 7 []) (pure_move_lv rfl) rfl rfl rfl rfl ?_
          refine vpOps_pure (x := .v (.string ((namesA ([base, a])).getD i default))) (pMv rfl rfl rfl) rfl rfl rfl rfl ?_
          refine vpOps_pure (x := .own 1 [[.v (.string ((namesA ([base, a])).getD i default))]]) (pBs (cs := [.v (.string ((namesA ([base, a])).getD i default))]) rfl rfl rfl rfl rfl rfl rfl) rfl rfl rfl rfl ?_
          refine vpOps_ghost (ghost_own (t := 45) rfl rfl rfl rfl) ?_
          refine vApp (f := strc) (xs := out) (ys := [((namesA ([base, a])).getD i default)]) (l := 1) rfl rfl rfl rfl rfl (srcOwn rfl rfl (fun _ => mvOkL_flat _ rfl)) rfl rfl (fun _ => rfl) (.inl ⟨_, rfl⟩) rfl rfl rfl (rfl) (by omega) (by omega) ?_
          refine vpOps_assign (x := .own 1 ((out ++ [((namesA ([base, a])).getD i default)]).map strc)) rfl rfl rfl rfl rfl rfl rfl ?_
          refine vpOps_nil ?_
          refine vp_region ?_
          refine vpOps_pure (x := .v (.int .i64 (((i : Nat) : Int) + 1))) (pure_add rfl rfl rfl (in64 (by omega) (by omega))) rfl rfl rfl rfl ?_
          refine vpOps_pure (x := .v (.int .i64 (((i : Nat) : Int) + 1))) (pMv rfl rfl rfl) rfl rfl rfl rfl ?_
          refine vpOps_nil ?_
          exact ⟨(i + 1, out ++ [((namesA ([base, a])).getD i default)]), (by first | omega | (dsimp only; omega)), ⟨(by omega), (by rw [confTo, ← ho]; first | (rw [if_pos ⟨by assumption, by assumption, by assumption⟩]; done) | (rw [if_neg (fun h => by have h1 := h.1; have h2 := h.2.1; have hh3 := h.2.2; first | exact absurd (by assumption) h1 | exact absurd (by assumption) h2 | exact absurd (by assumption) hh3)]; done)), (by first | omega | (simp only [List.length_append, List.length_cons, List.length_nil]; omega)), trivial⟩, ⟨rfl, rfl, rfl, rfl, rfl, rfl, rfl, rfl, trivial⟩⟩
        · skip
          refine vp_skip ?_
          refine vp_region ?_
          refine vpOps_pure (x := .v (.int .i64 (((i : Nat) : Int) + 1))) (pure_add rfl rfl rfl (in64 (by omega) (by omega))) rfl rfl rfl rfl ?_
          refine vpOps_pure (x := .v (.int .i64 (((i : Nat) : Int) + 1))) (pMv rfl rfl rfl) rfl rfl rfl rfl ?_
          refine vpOps_nil ?_
          exact ⟨(i + 1, out), (by first | omega | (dsimp only; omega)), ⟨(by omega), (by rw [confTo, ← ho]; first | (rw [if_pos ⟨by assumption, by assumption, by assumption⟩]; done) | (rw [if_neg (fun h => by have h1 := h.1; have h2 := h.2.1; have hh3 := h.2.2; first | exact absurd (by assumption) h1 | exact absurd (by assumption) h2 | exact absurd (by assumption) hh3)]; done)), (by first | omega | (simp only [List.length_append, List.length_cons, List.length_nil]; omega)), trivial⟩, ⟨rfl, rfl, rfl, rfl, rfl, rfl, rfl, rfl, trivial⟩⟩
  · skip
    refine vp_exit ?_
    refine vp_seq ?_
    refine vp_region ?_
    refine vpOps_pure (x := .lv 7 []) (pure_move_lv rfl) rfl rfl rfl rfl ?_
    refine vpOps_ghost (ghost_own (t := 50) rfl rfl rfl rfl) ?_
    refine vpOps_assign (x := .own 1 (out.map strc)) rfl rfl rfl rfl rfl rfl rfl ?_
    refine vpOps_nil ?_
    refine vp_ret ?_
    exact ⟨[.own 1 (out.map strc)], [6], (.cons (.tmp rfl rfl) .nil), rfl, ⟨(show (.own 1 (out.map strc) : PV) = .own 1 ((confL base a b).map strc) from (by rw [ho, show i = (namesA [base, a]).length by omega]; rfl)), rfl⟩⟩

/-- impl.ConflictsOf -/
theorem c_ConflictsOf {G : World → Prop} (base : List Card) (a : List Card) (b : List Card) (hw1 : ∀ c ∈ base, c.wf) (hw2 : ∀ c ∈ a, c.wf) (hw3 : ∀ c ∈ b, c.wf) (hn1 : base.length ≤ 9223372036854775807) (hn2 : a.length ≤ 9223372036854775807) (hn3 : b.length ≤ 9223372036854775807) : CallsV Tryd.prog G 8 [.sh 3 (base.map cardc), .sh 3 (a.map cardc), .sh 3 (b.map cardc)] (fun r outs => r = .tup [.own 1 ((conL base a b).map strc), .v (.int .i64 (conC base a b))] ∧ outs = [.junk, .junk, .junk]) := by
  refine callsV_enter [] Tryd.func8 rfl rfl rfl ?_
  refine vp_seq ?_
  refine vp_region ?_
  refine vpOps_pure (x := .v (.slice none 0 0)) (pAs rfl rfl rfl) rfl rfl rfl rfl ?_
  refine vpOps_pure (x := .v (.int .i64 0)) (pAs rfl rfl rfl) rfl rfl rfl rfl ?_
  refine vpOps_nil ?_
  refine vp_seq ?_
  refine vp_seq ?_
  refine vp_region ?_
  refine vpOps_pure (x := .sh 3 (base.map cardc)) (pMv rfl rfl rfl) rfl rfl rfl rfl ?_
  refine vpOps_call (gs := [⟨.tmp 8, .sh 3 (base.map cardc), none, none⟩]) (c_isDeck base (by first | assumption | omega | exact ⟨by assumption, by assumption, by assumption⟩) (by first | assumption | omega | exact ⟨by assumption, by assumption, by assumption⟩)) rfl rfl rfl rfl rfl trivial (by kernel_rfl) rfl rfl (gives_cons (gC rfl rfl) gives_nil) rfl (fun _ _ _ => .inl rfl) ?_
  rintro _ _ ⟨rfl, rfl⟩
  refine vpOps_pure (x := .v (.bool (!decide (deckOk base)))) (pure_not rfl rfl) rfl rfl rfl rfl ?_
  refine vpOps_pure (x := .v (.bool (!decide (deckOk base)))) (pMv rfl rfl rfl) rfl rfl rfl rfl ?_
  by_cases h1 : deckOk base
  · skip
    refine vRun rfl rfl rfl (not_of_t (decide_eq_true h1)) rfl rfl rfl ?_
    refine vpOps_pure (x := .sh 3 (a.map cardc)) (pMv rfl rfl rfl) rfl rfl rfl rfl ?_
    refine vRun rfl rfl rfl (not_of_t (decide_eq_true h1)) rfl rfl rfl ?_
    refine vpOps_call (gs := [⟨.tmp 12, .sh 3 (a.map cardc), none, none⟩]) (c_isDeck a (by first | assumption | omega | exact ⟨by assumption, by assumption, by assumption⟩) (by first | assumption | omega | exact ⟨by assumption, by assumption, by assumption⟩)) rfl rfl rfl rfl rfl trivial (by kernel_rfl) rfl rfl (gives_cons (gC rfl rfl) gives_nil) rfl (fun _ _ _ => .inl rfl) ?_
    rintro _ _ ⟨rfl, rfl⟩
    refine vRun rfl rfl rfl (not_of_t (decide_eq_true h1)) rfl rfl rfl ?_
    refine vpOps_pure (x := .v (.bool (!decide (deckOk a)))) (pure_not rfl rfl) rfl rfl rfl rfl ?_
    refine vpOps_pure (x := .v (.bool (!decide (deckOk a)))) (pPf rfl rfl (not_of_t (decide_eq_true h1)) rfl rfl) rfl rfl rfl rfl ?_
    refine vpOps_pure (x := .v (.bool (!decide (deckOk a)))) (pMv rfl rfl rfl) rfl rfl rfl rfl ?_
    by_cases h2 : deckOk a
    · skip
      refine vRun rfl rfl rfl (not_of_t (decide_eq_true h2)) rfl rfl rfl ?_
      refine vpOps_pure (x := .sh 3 (b.map cardc)) (pMv rfl rfl rfl) rfl rfl rfl rfl ?_
      refine vRun rfl rfl rfl (not_of_t (decide_eq_true h2)) rfl rfl rfl ?_
      refine vpOps_call (gs := [⟨.tmp 17, .sh 3 (b.map cardc), none, none⟩]) (c_isDeck b (by first | assumption | omega | exact ⟨by assumption, by assumption, by assumption⟩) (by first | assumption | omega | exact ⟨by assumption, by assumption, by assumption⟩)) rfl rfl rfl rfl rfl trivial (by kernel_rfl) rfl rfl (gives_cons (gC rfl rfl) gives_nil) rfl (fun _ _ _ => .inl rfl) ?_
      rintro _ _ ⟨rfl, rfl⟩
      refine vRun rfl rfl rfl (not_of_t (decide_eq_true h2)) rfl rfl rfl ?_
      refine vpOps_pure (x := .v (.bool (!decide (deckOk b)))) (pure_not rfl rfl) rfl rfl rfl rfl ?_
      refine vpOps_pure (x := .v (.bool (!decide (deckOk b)))) (pPf rfl rfl (not_of_t (decide_eq_true h2)) rfl rfl) rfl rfl rfl rfl ?_
      refine vpOps_nil ?_
      refine vIfN rfl (fun h3 => ?_) (fun h3 => ?_)
      · skip
        refine vp_seq ?_
        refine vp_region ?_
        refine vpOps_pure (x := .v (.slice none 0 0)) (pAs rfl rfl rfl) rfl rfl rfl rfl ?_
        refine vpOps_pure (x := .v (.int .i64 1)) (pAs rfl rfl rfl) rfl rfl rfl rfl ?_
        refine vpOps_nil ?_
        refine vp_ghost (ghost_nil (k := 6) (n := 1) rfl) ?_
        refine vp_ret ?_
        exact ⟨[.own 1 (([]).map strc), .v (.int .i64 1)], [6, 7], (.cons (.tmp rfl rfl) (.cons (.tmp rfl rfl) .nil)), rfl, ⟨(show (.tup [.own 1 (([]).map strc), .v (.int .i64 1)] : PV) = .tup [.own 1 ((conL base a b).map strc), .v (.int .i64 (conC base a b))] from (by rcases con_cases base a b with ⟨hz, e1, e2⟩ | ⟨hz, e1, e2⟩ <;> rw [e1, e2] <;> first | rfl | (exfalso; first | exact hz ⟨by assumption, by assumption, by assumption⟩ | exact absurd hz.1 (by assumption) | exact absurd hz.2.1 (by assumption) | exact absurd hz.2.2 (by assumption)))), rfl⟩⟩
      · skip
        refine vp_skip ?_
        refine vp_seq ?_
        refine vp_region ?_
        refine vpOps_pure (x := .sh 3 (base.map cardc)) (pMv rfl rfl rfl) rfl rfl rfl rfl ?_
        refine vpOps_pure (x := .sh 3 (a.map cardc)) (pMv rfl rfl rfl) rfl rfl rfl rfl ?_
        refine vpOps_pure (x := .sh 3 (b.map cardc)) (pMv rfl rfl rfl) rfl rfl rfl rfl ?_
        refine vpOps_call (gs := [⟨.tmp 21, .sh 3 (base.map cardc), none, none⟩, ⟨.tmp 22, .sh 3 (a.map cardc), none, none⟩, ⟨.tmp 23, .sh 3 (b.map cardc), none, none⟩]) (c_conflicts base a b (by first | assumption | omega | exact ⟨by assumption, by assumption, by assumption⟩)) rfl rfl rfl rfl rfl trivial (by kernel_rfl) rfl rfl (gives_cons (gC rfl rfl) (gives_cons (gC rfl rfl) (gives_cons (gC rfl rfl) gives_nil))) rfl (fun _ _ _ => .inl rfl) ?_
        rintro _ _ ⟨rfl, rfl⟩
        refine vpOps_assign (x := .own 1 ((confL base a b).map strc)) rfl rfl rfl rfl rfl rfl rfl ?_
        refine vpOps_pure (x := .v (.int .i64 0)) (pAs rfl rfl rfl) rfl rfl rfl rfl ?_
        refine vpOps_nil ?_
        refine vp_ret ?_
        exact ⟨[.own 1 ((confL base a b).map strc), .v (.int .i64 0)], [6, 7], (.cons (.tmp rfl rfl) (.cons (.tmp rfl rfl) .nil)), rfl, ⟨(show (.tup [.own 1 ((confL base a b).map strc), .v (.int .i64 0)] : PV) = .tup [.own 1 ((conL base a b).map strc), .v (.int .i64 (conC base a b))] from (by rcases con_cases base a b with ⟨hz, e1, e2⟩ | ⟨hz, e1, e2⟩ <;> rw [e1, e2] <;> first | rfl | (exfalso; first | exact hz ⟨by assumption, by assumption, by assumption⟩ | exact absurd hz.1 (by assumption) | exact absurd hz.2.1 (by assumption) | exact absurd hz.2.2 (by assumption)))), rfl⟩⟩
    · skip
      refine vPass rfl rfl rfl (not_of_f (decide_eq_false h2)) rfl rfl rfl ?_
      refine vPass rfl rfl rfl (not_of_f (decide_eq_false h2)) rfl rfl rfl ?_
      refine vPass rfl rfl rfl (not_of_f (decide_eq_false h2)) rfl rfl rfl ?_
      refine vpOps_pure (x := .v (.bool (true))) (pPt rfl rfl (not_of_f (decide_eq_false h2)) rfl rfl) rfl rfl rfl rfl ?_
      refine vpOps_nil ?_
      refine vIfT rfl rfl ?_
      refine vp_seq ?_
      refine vp_region ?_
      refine vpOps_pure (x := .v (.slice none 0 0)) (pAs rfl rfl rfl) rfl rfl rfl rfl ?_
      refine vpOps_pure (x := .v (.int .i64 1)) (pAs rfl rfl rfl) rfl rfl rfl rfl ?_
      refine vpOps_nil ?_
      refine vp_ghost (ghost_nil (k := 6) (n := 1) rfl) ?_
      refine vp_ret ?_
      exact ⟨[.own 1 (([]).map strc), .v (.int .i64 1)], [6, 7], (.cons (.tmp rfl rfl) (.cons (.tmp rfl rfl) .nil)), rfl, ⟨(show (.tup [.own 1 (([]).map strc), .v (.int .i64 1)] : PV) = .tup [.own 1 ((conL base a b).map strc), .v (.int .i64 (conC base a b))] from (by rcases con_cases base a b with ⟨hz, e1, e2⟩ | ⟨hz, e1, e2⟩ <;> rw [e1, e2] <;> first | rfl | (exfalso; first | exact hz ⟨by assumption, by assumption, by assumption⟩ | exact absurd hz.1 (by assumption) | exact absurd hz.2.1 (by assumption) | exact absurd hz.2.2 (by assumption)))), rfl⟩⟩
  · skip
    refine vPass rfl rfl rfl (not_of_f (decide_eq_false h1)) rfl rfl rfl ?_
    refine vPass rfl rfl rfl (not_of_f (decide_eq_false h1)) rfl rfl rfl ?_
    refine vPass rfl rfl rfl (not_of_f (decide_eq_false h1)) rfl rfl rfl ?_
    refine vpOps_pure (x := .v (.bool (true))) (pPt rfl rfl (not_of_f (decide_eq_false h1)) rfl rfl) rfl rfl rfl rfl ?_
    refine vpOps_pure (x := .v (.bool (true))) (pMv rfl rfl rfl) rfl rfl rfl rfl ?_
    refine vPass rfl rfl rfl rfl rfl rfl rfl ?_
    refine vPass rfl rfl rfl rfl rfl rfl rfl ?_
    refine vPass rfl rfl rfl rfl rfl rfl rfl ?_
    refine vpOps_pure (x := .v (.bool (true))) (pPt rfl rfl rfl rfl rfl) rfl rfl rfl rfl ?_
    refine vpOps_nil ?_
    refine vIfT rfl rfl ?_
    refine vp_seq ?_
    refine vp_region ?_
    refine vpOps_pure (x := .v (.slice none 0 0)) (pAs rfl rfl rfl) rfl rfl rfl rfl ?_
    refine vpOps_pure (x := .v (.int .i64 1)) (pAs rfl rfl rfl) rfl rfl rfl rfl ?_
    refine vpOps_nil ?_
    refine vp_ghost (ghost_nil (k := 6) (n := 1) rfl) ?_
    refine vp_ret ?_
    exact ⟨[.own 1 (([]).map strc), .v (.int .i64 1)], [6, 7], (.cons (.tmp rfl rfl) (.cons (.tmp rfl rfl) .nil)), rfl, ⟨(show (.tup [.own 1 (([]).map strc), .v (.int .i64 1)] : PV) = .tup [.own 1 ((conL base a b).map strc), .v (.int .i64 (conC base a b))] from (by rcases con_cases base a b with ⟨hz, e1, e2⟩ | ⟨hz, e1, e2⟩ <;> rw [e1, e2] <;> first | rfl | (exfalso; first | exact hz ⟨by assumption, by assumption, by assumption⟩ | exact absurd hz.1 (by assumption) | exact absurd hz.2.1 (by assumption) | exact absurd hz.2.2 (by assumption)))), rfl⟩⟩

/-- spec.l00In -/
theorem c_l00In {G : World → Prop} (v : Int) (lo : Int) (hi : Int)  : CallsV Tryd.prog G 64 [.v (.int .i64 v), .v (.int .i64 lo), .v (.int .i64 hi)] (fun r outs => r = .v (.bool (decide (lo ≤ v ∧ v ≤ hi))) ∧ outs = [.junk, .junk, .junk]) := by
  refine callsV_enter [] Tryd.func64 rfl rfl rfl ?_
  refine vp_seq ?_
  refine vp_region ?_
  refine vpOps_pure (x := .v (.bool (false))) (pAs rfl rfl rfl) rfl rfl rfl rfl ?_
  refine vpOps_nil ?_
  refine vp_seq ?_
  refine vp_region ?_
  refine vpOps_pure (x := .v (.int .i64 v)) (pMv rfl rfl rfl) rfl rfl rfl rfl ?_
  refine vpOps_pure (x := .v (.int .i64 lo)) (pMv rfl rfl rfl) rfl rfl rfl rfl ?_
  refine vpOps_pure (x := .v (.bool (decide (lo ≤ v)))) (pure_bin rfl rfl rfl rfl) rfl rfl rfl rfl ?_
  refine vpOps_pure (x := .v (.bool (decide (lo ≤ v)))) (pMv rfl rfl rfl) rfl rfl rfl rfl ?_
  by_cases h1 : lo ≤ v
  · skip
    refine vRun rfl rfl rfl (decide_eq_true h1) rfl rfl rfl ?_
    refine vpOps_pure (x := .v (.int .i64 v)) (pMv rfl rfl rfl) rfl rfl rfl rfl ?_
    refine vRun rfl rfl rfl (decide_eq_true h1) rfl rfl rfl ?_
    refine vpOps_pure (x := .v (.int .i64 hi)) (pMv rfl rfl rfl) rfl rfl rfl rfl ?_
    refine vRun rfl rfl rfl (decide_eq_true h1) rfl rfl rfl ?_
    refine vpOps_pure (x := .v (.bool (decide (v ≤ hi)))) (pure_bin rfl rfl rfl rfl) rfl rfl rfl rfl ?_
    refine vpOps_pure (x := .v (.bool (decide (v ≤ hi)))) (pPt rfl rfl (decide_eq_true h1) rfl rfl) rfl rfl rfl rfl ?_
    refine vpOps_pure (x := .v (.bool (decide (v ≤ hi)))) (pAs rfl rfl rfl) rfl rfl rfl rfl ?_
    refine vpOps_nil ?_
    refine vp_ret ?_
    exact ⟨[.v (.bool (decide (v ≤ hi)))], [6], (.cons (.tmp rfl rfl) .nil), rfl, ⟨(show (.v (.bool (decide (v ≤ hi))) : PV) = .v (.bool (decide (lo ≤ v ∧ v ≤ hi))) from (by simp [*])), rfl⟩⟩
  · skip
    refine vPass rfl rfl rfl (decide_eq_false h1) rfl rfl rfl ?_
    refine vPass rfl rfl rfl (decide_eq_false h1) rfl rfl rfl ?_
    refine vPass rfl rfl rfl (decide_eq_false h1) rfl rfl rfl ?_
    refine vpOps_pure (x := .v (.bool (false))) (pPf rfl rfl (decide_eq_false h1) rfl rfl) rfl rfl rfl rfl ?_
    refine vpOps_pure (x := .v (.bool (false))) (pAs rfl rfl rfl) rfl rfl rfl rfl ?_
    refine vpOps_nil ?_
    refine vp_ret ?_
    exact ⟨[.v (.bool (false))], [6], (.cons (.tmp rfl rfl) .nil), rfl, ⟨(show (.v (.bool (false)) : PV) = .v (.bool (decide (lo ≤ v ∧ v ≤ hi))) from (by simp [*])), rfl⟩⟩

/-- spec.l01Name -/
theorem c_sName {G : World → Prop} (s : ByteArray) (hs : s.size ≤ 9223372036854775807) : CallsV Tryd.prog G 60 [.v (.string s)] (fun r outs => r = .v (.bool (decide (nameOk s))) ∧ outs = [.junk]) := by
  refine callsV_enter [] Tryd.func60 rfl rfl rfl ?_
  refine vp_seq ?_
  refine vp_region ?_
  refine vpOps_pure (x := .v (.bool (false))) (pAs rfl rfl rfl) rfl rfl rfl rfl ?_
  refine vpOps_nil ?_
  refine vp_seq ?_
  refine vp_seq ?_
  refine vp_region ?_
  refine vpOps_pure (x := .v (.int .i64 0)) (pAs rfl rfl rfl) rfl rfl rfl rfl ?_
  refine vpOps_nil ?_
  refine vp_block ?_
  refine vLoop (α := Nat) (fun i => s.size - i) (fun i => (i ≤ s.size) ∧ (s.data.toList.all letterB = true ↔ (s.data.toList.drop i).all letterB = true) ∧ True) (fun i => [(0, .v (.string s)), (3, .v (.int .i64 ((i : Nat) : Int)))]) (fun _ => rfl) (fun _ => rfl) 0 ⟨(by omega), (by rw [List.drop_zero]), trivial⟩ ⟨rfl, rfl, trivial⟩ ?_
  rintro i ⟨hi, he, -⟩
  refine vp_seq ?_
  refine vp_seq ?_
  refine vp_region ?_
  refine vpOps_pure (x := .v (.int .i64 ((i : Nat) : Int))) (pMv rfl rfl rfl) rfl rfl rfl rfl ?_
  refine vpOps_pure (x := .v (.string s)) (pMv rfl rfl rfl) rfl rfl rfl rfl ?_
  refine vpOps_pure (x := .v (.int .i64 ((s.size : Nat) : Int))) (pure_len_str rfl rfl) rfl rfl rfl rfl ?_
  refine vpOps_pure (x := .v (.bool (decide (((i : Nat) : Int) < ((s.size : Nat) : Int))))) (pure_bin rfl rfl rfl rfl) rfl rfl rfl rfl ?_
  refine vpOps_nil ?_
  refine vIf rfl (fun h1 => ?_) (fun h1 => ?_)
  · skip
    refine vp_skip ?_
    refine vp_seq ?_
    refine vp_block ?_
    refine vp_seq ?_
    refine vp_region ?_
    refine vpOps_pure (x := .v (.string s)) (pMv rfl rfl rfl) rfl rfl rfl rfl ?_
    refine vpOps_pure (x := .v (.int .i64 ((i : Nat) : Int))) (pMv rfl rfl rfl) rfl rfl rfl rfl ?_
    refine vpOps_pure (x := .v (.int .u8 ((((sb s i) : Nat) : Int)))) (pIxStr (m := i) rfl rfl rfl (by first | rfl | omega) (by omega)) rfl rfl rfl rfl ?_
    refine vpOps_pure (x := .v (.bool (decide (((((sb s i) : Nat) : Int)) < 97)))) (pure_bin rfl rfl rfl rfl) rfl rfl rfl rfl ?_
    refine vpOps_pure (x := .v (.bool (decide (((((sb s i) : Nat) : Int)) < 97)))) (pMv rfl rfl rfl) rfl rfl rfl rfl ?_
    by_cases h2 : ((((sb s i) : Nat) : Int)) < 97
    · skip
      refine vPass rfl rfl rfl (decide_eq_true h2) rfl rfl rfl ?_
      refine vPass rfl rfl rfl (decide_eq_true h2) rfl rfl rfl ?_
      refine vPass rfl rfl rfl (decide_eq_true h2) rfl rfl rfl ?_
      refine vPass rfl rfl rfl (decide_eq_true h2) rfl rfl rfl ?_
      refine vpOps_pure (x := .v (.bool (true))) (pPt rfl rfl (decide_eq_true h2) rfl rfl) rfl rfl rfl rfl ?_
      refine vpOps_nil ?_
      refine vIfT rfl rfl ?_
      refine vp_seq ?_
      refine vp_region ?_
      refine vpOps_pure (x := .v (.bool (false))) (pAs rfl rfl rfl) rfl rfl rfl rfl ?_
      refine vpOps_nil ?_
      refine vp_ret ?_
      exact ⟨[.v (.bool (false))], [2], (.cons (.tmp rfl rfl) .nil), rfl, ⟨(show (.v (.bool (false)) : PV) = .v (.bool (decide (nameOk s))) from (by first | exact dec_f (fun h => by have := he.1 h.1; rw [all_step (by omega)] at this; omega) | exact dec_i ⟨fun h => ⟨he.2 ((all_end (by omega)).2 trivial), by omega, by omega⟩, fun h => by have := h.2; omega⟩)), rfl⟩⟩
    · skip
      refine vRun rfl rfl rfl (decide_eq_false h2) rfl rfl rfl ?_
      refine vpOps_pure (x := .v (.string s)) (pMv rfl rfl rfl) rfl rfl rfl rfl ?_
      refine vRun rfl rfl rfl (decide_eq_false h2) rfl rfl rfl ?_
      refine vpOps_pure (x := .v (.int .i64 ((i : Nat) : Int))) (pMv rfl rfl rfl) rfl rfl rfl rfl ?_
      refine vRun rfl rfl rfl (decide_eq_false h2) rfl rfl rfl ?_
      refine vpOps_pure (x := .v (.int .u8 ((((sb s i) : Nat) : Int)))) (pIxStr (m := i) rfl rfl rfl (by first | rfl | omega) (by omega)) rfl rfl rfl rfl ?_
      refine vRun rfl rfl rfl (decide_eq_false h2) rfl rfl rfl ?_
      refine vpOps_pure (x := .v (.bool (decide (122 < ((((sb s i) : Nat) : Int)))))) (pure_bin rfl rfl rfl rfl) rfl rfl rfl rfl ?_
      refine vpOps_pure (x := .v (.bool (decide (122 < ((((sb s i) : Nat) : Int)))))) (pPf rfl rfl (decide_eq_false h2) rfl rfl) rfl rfl rfl rfl ?_
      refine vpOps_nil ?_
      refine vIf rfl (fun h3 => ?_) (fun h3 => ?_)
      · skip
        refine vp_seq ?_
        refine vp_region ?_
        refine vpOps_pure (x := .v (.bool (false))) (pAs rfl rfl rfl) rfl rfl rfl rfl ?_
        refine vpOps_nil ?_
        refine vp_ret ?_
        exact ⟨[.v (.bool (false))], [2], (.cons (.tmp rfl rfl) .nil), rfl, ⟨(show (.v (.bool (false)) : PV) = .v (.bool (decide (nameOk s))) from (by first | exact dec_f (fun h => by have := he.1 h.1; rw [all_step (by omega)] at this; omega) | exact dec_i ⟨fun h => ⟨he.2 ((all_end (by omega)).2 trivial), by omega, by omega⟩, fun h => by have := h.2; omega⟩)), rfl⟩⟩
      · skip
        refine vp_skip ?_
        refine vp_region ?_
        refine vpOps_pure (x := .v (.int .i64 ((i : Nat) : Int))) (pMv rfl rfl rfl) rfl rfl rfl rfl ?_
        refine vpOps_pure (x := .v (.int .i64 (((i : Nat) : Int) + 1))) (pure_add rfl rfl rfl (in64 (by omega) (by omega))) rfl rfl rfl rfl ?_
        refine vpOps_pure (x := .v (.int .i64 (((i : Nat) : Int) + 1))) (pAs rfl rfl rfl) rfl rfl rfl rfl ?_
        refine vpOps_nil ?_
        exact ⟨i + 1, (by first | omega | (dsimp only; omega)), ⟨(by omega), (by rw [he, all_step (by omega)]; exact ⟨fun h => h.2, fun h => ⟨by omega, h⟩⟩), trivial⟩, ⟨rfl, rfl, trivial⟩⟩
  · skip
    refine vp_exit ?_
    refine vp_seq ?_
    refine vp_region ?_
    refine vpOps_pure (x := .v (.string s)) (pMv rfl rfl rfl) rfl rfl rfl rfl ?_
    refine vpOps_pure (x := .v (.int .i64 ((s.size : Nat) : Int))) (pure_len_str rfl rfl) rfl rfl rfl rfl ?_
    refine vpOps_call (gs := [⟨.tmp 21, .v (.int .i64 ((s.size : Nat) : Int)), none, none⟩, ⟨.const (.int .i64 1), .v (.int .i64 1), none, none⟩, ⟨.const (.int .i64 16), .v (.int .i64 16), none, none⟩]) (c_l00In ((s.size : Nat) : Int) 1 16 ) rfl rfl rfl rfl rfl trivial (by kernel_rfl) rfl rfl (gives_cons (gC rfl rfl) (gives_cons (gC rfl rfl) (gives_cons (gC rfl rfl) gives_nil))) rfl (fun _ _ _ => .inl rfl) ?_
    rintro _ _ ⟨rfl, rfl⟩
    refine vpOps_pure (x := .v (.bool (decide (1 ≤ ((s.size : Nat) : Int) ∧ ((s.size : Nat) : Int) ≤ 16)))) (pAs rfl rfl rfl) rfl rfl rfl rfl ?_
    refine vpOps_nil ?_
    refine vp_ret ?_
    exact ⟨[.v (.bool (decide (1 ≤ ((s.size : Nat) : Int) ∧ ((s.size : Nat) : Int) ≤ 16)))], [2], (.cons (.tmp rfl rfl) .nil), rfl, ⟨(show (.v (.bool (decide (1 ≤ ((s.size : Nat) : Int) ∧ ((s.size : Nat) : Int) ≤ 16))) : PV) = .v (.bool (decide (nameOk s))) from (by first | exact dec_f (fun h => by have := he.1 h.1; rw [all_step (by omega)] at this; omega) | exact dec_i ⟨fun h => ⟨he.2 ((all_end (by omega)).2 trivial), by omega, by omega⟩, fun h => by have := h.2; omega⟩)), rfl⟩⟩

/-- spec.l01Mask -/
theorem c_sMask {G : World → Prop} (m : Mask) (hm : m.wf) : CallsV Tryd.prog G 61 [.agg [.v (.int .u64 ((m.a : Nat) : Int)), .v (.int .u64 ((m.b : Nat) : Int))]] (fun r outs => r = .v (.bool (decide (maskOk m))) ∧ outs = [.junk]) := by
  refine callsV_enter [] Tryd.func61 rfl rfl rfl ?_
  have hma := hm.a
  have hmb := hm.b
  refine vp_seq ?_
  refine vp_region ?_
  refine vpOps_pure (x := .box [.v (.int .u64 ((m.a : Nat) : Int)), .v (.int .u64 ((m.b : Nat) : Int))]) (pure_box rfl rfl (mvOk_flat _ rfl) rfl rfl) rfl rfl rfl rfl ?_
  refine vpOps_pure (x := .v (.bool (false))) (pAs rfl rfl rfl) rfl rfl rfl rfl ?_
  refine vpOps_nil ?_
  refine vp_seq ?_
  refine vp_region ?_
  refine vpOps_pure (x := .pl 1 [⟨0, 1, 0⟩]) (pIxAR (l := 1) rfl rfl rfl rfl rfl rfl rfl) rfl rfl rfl rfl ?_
  refine vpOps_pure (x := .v (.int .u64 ((m.b : Nat) : Int))) (pure_load_pl rfl rfl rfl rfl rfl rfl rfl trivial rfl) rfl rfl rfl rfl ?_
  refine vpOps_pure (x := .v (.int .u64 ((((m.b / 2 ^ 32) : Nat) : Int)))) (pShr64 (p := m.b) (s := 32) rfl rfl rfl (by first | rfl | omega) (by omega)) rfl rfl rfl rfl ?_
  refine vpOps_pure (x := .v (.bool (decide (((((m.b / 2 ^ 32) : Nat) : Int)) = 0)))) (pure_bin rfl rfl rfl rfl) rfl rfl rfl rfl ?_
  refine vpOps_pure (x := .v (.bool (decide (((((m.b / 2 ^ 32) : Nat) : Int)) = 0)))) (pAs rfl rfl rfl) rfl rfl rfl rfl ?_
  refine vpOps_nil ?_
  refine vp_ret ?_
  exact ⟨[.v (.bool (decide (((((m.b / 2 ^ 32) : Nat) : Int)) = 0)))], [2], (.cons (.tmp rfl rfl) .nil), rfl, ⟨(show (.v (.bool (decide (((((m.b / 2 ^ 32) : Nat) : Int)) = 0))) : PV) = .v (.bool (decide (maskOk m))) from (by exact dec_i (by unfold maskOk; omega))), rfl⟩⟩

/-- spec.l01Ok -/
theorem c_sCardOk {G : World → Prop} (c : Card) (hc : c.wf) : CallsV Tryd.prog G 47 [.rbox [.v (.string c.name), .v (.int .u64 ((c.notches.a : Nat) : Int)), .v (.int .u64 ((c.notches.b : Nat) : Int))]] (fun r outs => r = .v (.bool (decide (cardOk c))) ∧ outs = [.junk]) := by
  refine callsV_enter [] Tryd.func47 rfl rfl rfl ?_
  refine vp_seq ?_
  refine vp_region ?_
  refine vpOps_pure (x := .v (.bool (false))) (pAs rfl rfl rfl) rfl rfl rfl rfl ?_
  refine vpOps_nil ?_
  refine vp_seq ?_
  refine vp_region ?_
  refine vpOps_pure (x := .rbox [.v (.string c.name), .v (.int .u64 ((c.notches.a : Nat) : Int)), .v (.int .u64 ((c.notches.b : Nat) : Int))]) (pMv rfl rfl rfl) rfl rfl rfl rfl ?_
  refine vpOps_pure (x := .rbox [.v (.string c.name), .v (.int .u64 ((c.notches.a : Nat) : Int)), .v (.int .u64 ((c.notches.b : Nat) : Int))]) (pure_nil_flat rfl rfl) rfl rfl rfl rfl ?_
  refine vpOps_pure (x := .rbox [.v (.string c.name), .v (.int .u64 ((c.notches.a : Nat) : Int)), .v (.int .u64 ((c.notches.b : Nat) : Int))]) (pure_field_rbox rfl rfl rfl rfl) rfl rfl rfl rfl ?_
  refine vpOps_pure (x := .v (.string c.name)) (pure_load_rbox rfl rfl rfl) rfl rfl rfl rfl ?_
  refine vpOps_call (gs := [⟨.tmp 6, .v (.string c.name), none, none⟩]) (c_sName c.name (by first | assumption | exact hc.n | exact hc.m | omega)) rfl rfl rfl rfl rfl trivial (by kernel_rfl) rfl rfl (gives_cons (gC rfl rfl) gives_nil) rfl (fun _ _ _ => .inl rfl) ?_
  rintro _ _ ⟨rfl, rfl⟩
  refine vpOps_pure (x := .v (.bool (decide (nameOk c.name)))) (pMv rfl rfl rfl) rfl rfl rfl rfl ?_
  by_cases h1 : nameOk c.name
  · skip
    refine vRun rfl rfl rfl (decide_eq_true h1) rfl rfl rfl ?_
    refine vpOps_pure (x := .rbox [.v (.string c.name), .v (.int .u64 ((c.notches.a : Nat) : Int)), .v (.int .u64 ((c.notches.b : Nat) : Int))]) (pMv rfl rfl rfl) rfl rfl rfl rfl ?_
    refine vRun rfl rfl rfl (decide_eq_true h1) rfl rfl rfl ?_
    refine vpOps_pure (x := .rbox [.v (.string c.name), .v (.int .u64 ((c.notches.a : Nat) : Int)), .v (.int .u64 ((c.notches.b : Nat) : Int))]) (pure_nil_flat rfl rfl) rfl rfl rfl rfl ?_
    refine vRun rfl rfl rfl (decide_eq_true h1) rfl rfl rfl ?_
    refine vpOps_pure (x := .rbox [.v (.int .u64 ((c.notches.a : Nat) : Int)), .v (.int .u64 ((c.notches.b : Nat) : Int))]) (pure_field_rbox rfl rfl rfl rfl) rfl rfl rfl rfl ?_
    refine vRun rfl rfl rfl (decide_eq_true h1) rfl rfl rfl ?_
    refine vpOps_pure (x := .agg [.v (.int .u64 ((c.notches.a : Nat) : Int)), .v (.int .u64 ((c.notches.b : Nat) : Int))]) (pure_load_rbox_agg rfl rfl rfl rfl rfl) rfl rfl rfl rfl ?_
    refine vRun rfl rfl rfl (decide_eq_true h1) rfl rfl rfl ?_
    refine vpOps_call (gs := [⟨.tmp 12, .agg [.v (.int .u64 ((c.notches.a : Nat) : Int)), .v (.int .u64 ((c.notches.b : Nat) : Int))], none, none⟩]) (c_sMask c.notches (by first | assumption | exact hc.n | exact hc.m | omega)) rfl rfl rfl rfl rfl trivial (by kernel_rfl) rfl rfl (gives_cons (gC rfl rfl) gives_nil) rfl (fun _ _ _ => .inl rfl) ?_
    rintro _ _ ⟨rfl, rfl⟩
    refine vpOps_pure (x := .v (.bool (decide (maskOk c.notches)))) (pPt rfl rfl (decide_eq_true h1) rfl rfl) rfl rfl rfl rfl ?_
    refine vpOps_pure (x := .v (.bool (decide (maskOk c.notches)))) (pAs rfl rfl rfl) rfl rfl rfl rfl ?_
    refine vpOps_nil ?_
    refine vp_ret ?_
    exact ⟨[.v (.bool (decide (maskOk c.notches)))], [2], (.cons (.tmp rfl rfl) .nil), rfl, ⟨(show (.v (.bool (decide (maskOk c.notches))) : PV) = .v (.bool (decide (cardOk c))) from (by first | exact dec_f (fun h => absurd h.1 (by assumption)) | exact dec_i ⟨fun h => ⟨by assumption, h⟩, fun h => h.2⟩)), rfl⟩⟩
  · skip
    refine vPass rfl rfl rfl (decide_eq_false h1) rfl rfl rfl ?_
    refine vPass rfl rfl rfl (decide_eq_false h1) rfl rfl rfl ?_
    refine vPass rfl rfl rfl (decide_eq_false h1) rfl rfl rfl ?_
    refine vPass rfl rfl rfl (decide_eq_false h1) rfl rfl rfl ?_
    refine vPass rfl rfl rfl (decide_eq_false h1) rfl rfl rfl ?_
    refine vpOps_pure (x := .v (.bool (false))) (pPf rfl rfl (decide_eq_false h1) rfl rfl) rfl rfl rfl rfl ?_
    refine vpOps_pure (x := .v (.bool (false))) (pAs rfl rfl rfl) rfl rfl rfl rfl ?_
    refine vpOps_nil ?_
    refine vp_ret ?_
    exact ⟨[.v (.bool (false))], [2], (.cons (.tmp rfl rfl) .nil), rfl, ⟨(show (.v (.bool (false)) : PV) = .v (.bool (decide (cardOk c))) from (by first | exact dec_f (fun h => absurd h.1 (by assumption)) | exact dec_i ⟨fun h => ⟨by assumption, h⟩, fun h => h.2⟩)), rfl⟩⟩

/-- spec.l02Ok -/
theorem c_sDeckOk {G : World → Prop} (d : List Card) (hw : ∀ c ∈ d, c.wf) (hn : d.length ≤ 9223372036854775807) : CallsV Tryd.prog G 21 [.sh 3 (d.map cardc)] (fun r outs => r = .v (.bool (decide (deckOk d))) ∧ outs = [.junk]) := by
  refine callsV_enter [] Tryd.func21 rfl rfl rfl ?_
  refine vp_seq ?_
  refine vp_region ?_
  refine vpOps_pure (x := .v (.bool (false))) (pAs rfl rfl rfl) rfl rfl rfl rfl ?_
  refine vpOps_nil ?_
  refine vp_seq ?_
  refine vp_seq ?_
  refine vp_region ?_
  refine vpOps_pure (x := .sh 3 (d.map cardc)) (pMv rfl rfl rfl) rfl rfl rfl rfl ?_
  refine vpOps_pure (x := .v (.int .i64 ((d.length : Nat) : Int))) (pLen rfl rfl (List.length_map _)) rfl rfl rfl rfl ?_
  refine vpOps_pure (x := .v (.bool (decide (80 < ((d.length : Nat) : Int))))) (pure_bin rfl rfl rfl rfl) rfl rfl rfl rfl ?_
  refine vpOps_nil ?_
  refine vIf rfl (fun h1 => ?_) (fun h1 => ?_)
  · skip
    refine vp_seq ?_
    refine vp_region ?_
    refine vpOps_pure (x := .v (.bool (false))) (pAs rfl rfl rfl) rfl rfl rfl rfl ?_
    refine vpOps_nil ?_
    refine vp_ret ?_
    exact ⟨[.v (.bool (false))], [2], (.cons (.tmp rfl rfl) .nil), rfl, ⟨(show (.v (.bool (false)) : PV) = .v (.bool (decide (deckOk d))) from (by first | exact dec_f (fun h => by have := h.1; omega) | exact dec_f (fun h => absurd (h.2 i (by omega)).1 (by assumption)) | exact dec_f (fun h => absurd (by assumption) ((h.2 i (by omega)).2 k (by omega))) | exact dec_t ⟨hd, fun j hj => hA j (by omega)⟩)), rfl⟩⟩
  · skip
    refine vp_skip ?_
    refine vp_seq ?_
    refine vp_seq ?_
    refine vp_region ?_
    refine vpOps_pure (x := .v (.int .i64 0)) (pAs rfl rfl rfl) rfl rfl rfl rfl ?_
    refine vpOps_nil ?_
    refine vp_block ?_
    refine vLoop (α := Nat) (fun i => d.length - i) (fun i => (i ≤ d.length) ∧ (d.length ≤ 80) ∧ (∀ j, j < i → cardOk (d.getD j default) ∧ ∀ k, k < j → (d.getD k default).name ≠ (d.getD j default).name) ∧ True) (fun i => [(0, .sh 3 (d.map cardc)), (3, .v (.int .i64 ((i : Nat) : Int)))]) (fun _ => rfl) (fun _ => rfl) 0 ⟨(by omega), (by omega), (by intro j hj; omega), trivial⟩ ⟨rfl, rfl, trivial⟩ ?_
    rintro i ⟨hi, hd, hA, -⟩
    refine vp_seq ?_
    refine vp_seq ?_
    refine vp_region ?_
    refine vpOps_pure (x := .v (.int .i64 ((i : Nat) : Int))) (pMv rfl rfl rfl) rfl rfl rfl rfl ?_
    refine vpOps_pure (x := .sh 3 (d.map cardc)) (pMv rfl rfl rfl) rfl rfl rfl rfl ?_
    refine vpOps_pure (x := .v (.int .i64 ((d.length : Nat) : Int))) (pLen rfl rfl (List.length_map _)) rfl rfl rfl rfl ?_
    refine vpOps_pure (x := .v (.bool (decide (((i : Nat) : Int) < ((d.length : Nat) : Int))))) (pure_bin rfl rfl rfl rfl) rfl rfl rfl rfl ?_
    refine vpOps_nil ?_
    refine vIf rfl (fun h2 => ?_) (fun h2 => ?_)
    · skip
      refine vp_skip ?_
      refine vp_seq ?_
      refine vp_block ?_
      refine vp_seq ?_
      refine vp_seq ?_
      refine vp_region ?_
      refine vpOps_pure (x := .sh 3 (d.map cardc)) (pMv rfl rfl rfl) rfl rfl rfl rfl ?_
      refine vpOps_pure (x := .v (.int .i64 ((i : Nat) : Int))) (pMv rfl rfl rfl) rfl rfl rfl rfl ?_
      refine vpOps_pure (x := .rbox [.v (.string ((d.getD i default).name)), .v (.int .u64 (((((d.getD i default).notches).a : Nat) : Int))), .v (.int .u64 (((((d.getD i default).notches).b : Nat) : Int)))]) (pIx (m := i) rfl rfl rfl (by first | rfl | omega) (by omega) rfl) rfl rfl rfl rfl ?_
      refine vpOps_call (gs := [⟨.tmp 16, .rbox [.v (.string ((d.getD i default).name)), .v (.int .u64 (((((d.getD i default).notches).a : Nat) : Int))), .v (.int .u64 (((((d.getD i default).notches).b : Nat) : Int)))], none, none⟩]) (c_sCardOk (d.getD i default) (by first | assumption | omega | exact card_wf_getD hw _)) rfl rfl rfl rfl rfl trivial (by kernel_rfl) rfl rfl (gives_cons (gC rfl rfl) gives_nil) rfl (fun _ _ _ => .inl rfl) ?_
      rintro _ _ ⟨rfl, rfl⟩
      refine vpOps_pure (x := .v (.bool (!decide (cardOk (d.getD i default))))) (pure_not rfl rfl) rfl rfl rfl rfl ?_
      refine vpOps_nil ?_
      refine vIfN rfl (fun h3 => ?_) (fun h3 => ?_)
      · skip
        refine vp_seq ?_
        refine vp_region ?_
        refine vpOps_pure (x := .v (.bool (false))) (pAs rfl rfl rfl) rfl rfl rfl rfl ?_
        refine vpOps_nil ?_
        refine vp_ret ?_
        exact ⟨[.v (.bool (false))], [2], (.cons (.tmp rfl rfl) .nil), rfl, ⟨(show (.v (.bool (false)) : PV) = .v (.bool (decide (deckOk d))) from (by first | exact dec_f (fun h => by have := h.1; omega) | exact dec_f (fun h => absurd (h.2 i (by omega)).1 (by assumption)) | exact dec_f (fun h => absurd (by assumption) ((h.2 i (by omega)).2 k (by omega))) | exact dec_t ⟨hd, fun j hj => hA j (by omega)⟩)), rfl⟩⟩
      · skip
        refine vp_skip ?_
        refine vp_seq ?_
        refine vp_region ?_
        refine vpOps_pure (x := .v (.int .i64 0)) (pAs rfl rfl rfl) rfl rfl rfl rfl ?_
        refine vpOps_nil ?_
        refine vp_block ?_
        refine vLoop (α := Nat) (fun k => i - k) (fun k => (k ≤ i) ∧ (∀ m, m < k → (d.getD m default).name ≠ (d.getD i default).name) ∧ True) (fun k => [(0, .sh 3 (d.map cardc)), (3, .v (.int .i64 ((i : Nat) : Int))), (4, .v (.int .i64 ((k : Nat) : Int)))]) (fun _ => rfl) (fun _ => rfl) 0 ⟨(by omega), (by intro m hm; omega), trivial⟩ ⟨rfl, rfl, rfl, trivial⟩ ?_
        rintro k ⟨hk, hB, -⟩
        refine vp_seq ?_
        refine vp_seq ?_
        refine vp_region ?_
        refine vpOps_pure (x := .v (.int .i64 ((k : Nat) : Int))) (pMv rfl rfl rfl) rfl rfl rfl rfl ?_
        refine vpOps_pure (x := .v (.int .i64 ((i : Nat) : Int))) (pMv rfl rfl rfl) rfl rfl rfl rfl ?_
        refine vpOps_pure (x := .v (.bool (decide (((k : Nat) : Int) < ((i : Nat) : Int))))) (pure_bin rfl rfl rfl rfl) rfl rfl rfl rfl ?_
        refine vpOps_nil ?_
        refine vIf rfl (fun h4 => ?_) (fun h4 => ?_)
        · skip
          refine vp_skip ?_
          refine vp_seq ?_
          refine vp_block ?_
          refine vp_seq ?_
          refine vRegD 11 ((24, .sh 3 (d.map cardc)) :: (25, .v (.int .i64 ((k : Nat) : Int))) :: (26, .rbox [.v (.string ((d.getD k default).name)), .v (.int .u64 (((((d.getD k default).notches).a : Nat) : Int))), .v (.int .u64 (((((d.getD k default).notches).b : Nat) : Int)))]) :: (27, .rbox [.v (.string ((d.getD k default).name)), .v (.int .u64 (((((d.getD k default).notches).a : Nat) : Int))), .v (.int .u64 (((((d.getD k default).notches).b : Nat) : Int)))]) :: (28, .v (.string ((d.getD k default).name))) :: (29, .sh 3 (d.map cardc)) :: (30, .v (.int .i64 ((i : Nat) : Int))) :: (31, .rbox [.v (.string ((d.getD i default).name)), .v (.int .u64 (((((d.getD i default).notches).a : Nat) : Int))), .v (.int .u64 (((((d.getD i default).notches).b : Nat) : Int)))]) :: (32, .rbox [.v (.string ((d.getD i default).name)), .v (.int .u64 (((((d.getD i default).notches).a : Nat) : Int))), .v (.int .u64 (((((d.getD i default).notches).b : Nat) : Int)))]) :: (33, .v (.string ((d.getD i default).name))) :: (34, .v (.bool (decide (((d.getD k default).name) = ((d.getD i default).name))))) :: []) (0 :: 0 :: 3 :: 7 :: 15 :: 0 :: 0 :: 96 :: 224 :: 480 :: 1023 :: []) (by kernel_rfl) rfl (by kernel_rfl) (by kernel_rfl) (by kernel_rfl) (by kernel_rfl) (by kernel_rfl) ⟨
              dPure rfl (pMv rfl rfl rfl),
              dPure rfl (pMv rfl rfl rfl),
              dPure rfl (pIx (m := k) rfl rfl rfl (by first | rfl | omega) (by omega) rfl),
              dPure rfl (pure_field_rbox rfl rfl rfl rfl),
              dPure rfl (pure_load_rbox rfl rfl rfl),
              dPure rfl (pMv rfl rfl rfl),
              dPure rfl (pMv rfl rfl rfl),
              dPure rfl (pIx (m := i) rfl rfl rfl (by first | rfl | omega) (by omega) rfl),
              dPure rfl (pure_field_rbox rfl rfl rfl rfl),
              dPure rfl (pure_load_rbox rfl rfl rfl),
              dPure rfl (pure_str_eq rfl rfl rfl),
              trivial⟩ ?_
          refine vpOps_nil ?_
          refine vIf rfl (fun h5 => ?_) (fun h5 => ?_)
          · skip
            refine vp_seq ?_
            refine vp_region ?_
            refine vpOps_pure (x := .v (.bool (false))) (pAs rfl rfl rfl) rfl rfl rfl rfl ?_
            refine vpOps_nil ?_
            refine vp_ret ?_
            exact ⟨[.v (.bool (false))], [2], (.cons (.tmp rfl rfl) .nil), rfl, ⟨(show (.v (.bool (false)) : PV) = .v (.bool (decide (deckOk d))) from (by first | exact dec_f (fun h => by have := h.1; omega) | exact dec_f (fun h => absurd (h.2 i (by omega)).1 (by assumption)) | exact dec_f (fun h => absurd (by assumption) ((h.2 i (by omega)).2 k (by omega))) | exact dec_t ⟨hd, fun j hj => hA j (by omega)⟩)), rfl⟩⟩
          · skip
            refine vp_skip ?_
            refine vp_region ?_
            refine vpOps_pure (x := .v (.int .i64 ((k : Nat) : Int))) (pMv rfl rfl rfl) rfl rfl rfl rfl ?_
            refine vpOps_pure (x := .v (.int .i64 (((k : Nat) : Int) + 1))) (pure_add rfl rfl rfl (in64 (by omega) (by omega))) rfl rfl rfl rfl ?_
            refine vpOps_pure (x := .v (.int .i64 (((k : Nat) : Int) + 1))) (pAs rfl rfl rfl) rfl rfl rfl rfl ?_
            refine vpOps_nil ?_
            exact ⟨k + 1, (by first | omega | (dsimp only; omega)), ⟨(by omega), (by intro m hm; rcases Nat.lt_or_ge m k with h | h; exact hB m h; rw [show m = k by omega]; assumption), trivial⟩, ⟨rfl, rfl, rfl, trivial⟩⟩
        · skip
          refine vp_exit ?_
          refine vp_region ?_
          refine vpOps_pure (x := .v (.int .i64 ((i : Nat) : Int))) (pMv rfl rfl rfl) rfl rfl rfl rfl ?_
          refine vpOps_pure (x := .v (.int .i64 (((i : Nat) : Int) + 1))) (pure_add rfl rfl rfl (in64 (by omega) (by omega))) rfl rfl rfl rfl ?_
          refine vpOps_pure (x := .v (.int .i64 (((i : Nat) : Int) + 1))) (pAs rfl rfl rfl) rfl rfl rfl rfl ?_
          refine vpOps_nil ?_
          exact ⟨i + 1, (by first | omega | (dsimp only; omega)), ⟨(by omega), (by omega), (by intro j hj; rcases Nat.lt_or_ge j i with hji | hji; exact hA j hji; rw [show j = i by omega]; exact ⟨by assumption, fun k hk => hB k (by omega)⟩), trivial⟩, ⟨rfl, rfl, trivial⟩⟩
    · skip
      refine vp_exit ?_
      refine vp_seq ?_
      refine vp_region ?_
      refine vpOps_pure (x := .v (.bool (true))) (pAs rfl rfl rfl) rfl rfl rfl rfl ?_
      refine vpOps_nil ?_
      refine vp_ret ?_
      exact ⟨[.v (.bool (true))], [2], (.cons (.tmp rfl rfl) .nil), rfl, ⟨(show (.v (.bool (true)) : PV) = .v (.bool (decide (deckOk d))) from (by first | exact dec_f (fun h => by have := h.1; omega) | exact dec_f (fun h => absurd (h.2 i (by omega)).1 (by assumption)) | exact dec_f (fun h => absurd (by assumption) ((h.2 i (by omega)).2 k (by omega))) | exact dec_t ⟨hd, fun j hj => hA j (by omega)⟩)), rfl⟩⟩

end Go.Vr
