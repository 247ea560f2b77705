/- Walks through functions that the law reaches, and what these compute in plain terms; a part of the proof of the statement in YtdanahjfpilfhaaDoorClose. -/
import Derived.Test.YtdanahjfpilfhaaDoorPart4
/- Walks of the functions that the law reaches: what each gives, by value. -/
namespace Go.Vr
open Go Go.Proofs
set_option linter.unusedVariables false
set_option linter.unusedSimpArgs false
set_option maxRecDepth 8000

/-- laws.FnThree -/
theorem c_law {G : World → Prop} (code : List Int) (more : List Int) (hc : ∀ x ∈ code, 0 ≤ x ∧ x ≤ 255) (hcl : code.length ≤ 9223372036854775807) (hm_ : ∀ x ∈ more, 0 ≤ x ∧ x ≤ 255) (hml : more.length ≤ 9223372036854775807) : CallsV Tryd.prog G 3 [.sh 1 (code.map u8c), .sh 1 (more.map u8c)] (fun r outs => r = .v (.bool (true)) ∧ outs = [.junk, .junk]) := by
  refine callsV_enter [] Tryd.func3 rfl rfl rfl ?_
  refine vp_seq ?_
  refine vp_region ?_
  refine vpOps_pure (x := .v (.bool (false))) (pAs rfl rfl rfl) rfl rfl rfl rfl ?_
  refine vpOps_nil ?_
  refine vp_seq ?_
  refine vp_seq ?_
  refine vp_region ?_
  refine vpOps_pure (x := .sh 1 (code.map u8c)) (pMv rfl rfl rfl) rfl rfl rfl rfl ?_
  refine vpOps_pure (x := .sh 1 (more.map u8c)) (pMv rfl rfl rfl) rfl rfl rfl rfl ?_
  refine vpOps_call (gs := [⟨.tmp 35, .sh 1 (code.map u8c), none, none⟩, ⟨.tmp 36, .sh 1 (more.map u8c), none, none⟩]) (c_a2Long code more ) rfl rfl rfl rfl rfl trivial (by kernel_rfl) rfl rfl (gives_cons (gC rfl rfl) (gives_cons (gC rfl rfl) gives_nil)) rfl (fun _ _ _ => .inl rfl) ?_
  rintro _ _ ⟨rfl, rfl⟩
  refine vpOps_nil ?_
  refine vIf rfl (fun h1 => ?_) (fun h1 => ?_)
  · skip
    refine vp_seq ?_
    refine vp_region ?_
    refine vpOps_pure (x := .v (.bool (true))) (pAs rfl rfl rfl) rfl rfl rfl rfl ?_
    refine vpOps_nil ?_
    refine vp_ret ?_
    exact ⟨[.v (.bool (true))], [4], (.cons (.tmp rfl rfl) .nil), rfl, ⟨(show (.v (.bool (true)) : PV) = .v (.bool (true)) from rfl), rfl⟩⟩
  · skip
    refine vp_skip ?_
    refine vp_seq ?_
    refine vp_region ?_
    refine vpOps_pure (x := .sh 1 (code.map u8c)) (pMv rfl rfl rfl) rfl rfl rfl rfl ?_
    refine vpOps_call (gs := [⟨.tmp 38, .sh 1 (code.map u8c), none, none⟩]) (c_A2Scheme code (by first | assumption | omega | exact hS_2.f | exact hm1.2.1 | exact hm2.2.1 | exact hm3.2.1 | exact hm1.2.2.2.2 | exact hm2.2.2.2.2 | exact hm3.2.2.2.2 | exact hm4.2.1 | exact hm4.2.2.2.2) (by first | assumption | omega | exact hS_2.f | exact hm1.2.1 | exact hm2.2.1 | exact hm3.2.1 | exact hm1.2.2.2.2 | exact hm2.2.2.2.2 | exact hm3.2.2.2.2 | exact hm4.2.1 | exact hm4.2.2.2.2)) rfl rfl rfl rfl rfl trivial (by kernel_rfl) rfl rfl (gives_cons (gC rfl rfl) gives_nil) rfl (fun _ _ _ => .inl rfl) ?_
    rintro _ _ ⟨list_2, rfl, rfl, hS_2, hl_2⟩
    refine vpOps_assign (x := .own 4 (list_2.map fieldc)) rfl rfl rfl rfl rfl rfl rfl ?_
    refine vpOps_nil ?_
    refine vp_seq ?_
    refine vp_region ?_
    refine vpOps_pure (x := .sh 1 (more.map u8c)) (pMv rfl rfl rfl) rfl rfl rfl rfl ?_
    refine vpOps_pure (x := .lv 5 []) (pure_move_lv rfl) rfl rfl rfl rfl ?_
    refine vpOps_call (gs := [⟨.tmp 40, .sh 1 (more.map u8c), none, none⟩, ⟨.tmp 41, .sh 4 (list_2.map fieldc), none, some 5⟩]) (c_A2Deck more list_2 (by first | assumption | omega | exact hS_2.f | exact hm1.2.1 | exact hm2.2.1 | exact hm3.2.1 | exact hm1.2.2.2.2 | exact hm2.2.2.2.2 | exact hm3.2.2.2.2 | exact hm4.2.1 | exact hm4.2.2.2.2) (by first | assumption | omega | exact hS_2.f | exact hm1.2.1 | exact hm2.2.1 | exact hm3.2.1 | exact hm1.2.2.2.2 | exact hm2.2.2.2.2 | exact hm3.2.2.2.2 | exact hm4.2.1 | exact hm4.2.2.2.2) (by first | assumption | omega | exact hS_2.f | exact hm1.2.1 | exact hm2.2.1 | exact hm3.2.1 | exact hm1.2.2.2.2 | exact hm2.2.2.2.2 | exact hm3.2.2.2.2 | exact hm4.2.1 | exact hm4.2.2.2.2) (by first | assumption | omega | exact hS_2.f | exact hm1.2.1 | exact hm2.2.1 | exact hm3.2.1 | exact hm1.2.2.2.2 | exact hm2.2.2.2.2 | exact hm3.2.2.2.2 | exact hm4.2.1 | exact hm4.2.2.2.2)) rfl rfl rfl rfl rfl trivial (by kernel_rfl) rfl rfl (gives_cons (gC rfl rfl) (gives_cons (give_view (c := .own 4 (list_2.map fieldc)) rfl rfl rfl rfl (view_map (fun _ => rfl))) gives_nil)) rfl (fun _ _ h => .inr (by obtain ⟨_, h1, h2, _, _⟩ := h; subst h1; subst h2; exact ⟨by simp [PV.closed, PV.closedL, closedE_map], by simp [PV.closedL, PV.closed]⟩)) ?_
    rintro _ _ ⟨deck_3, rfl, rfl, hD_3, hdl_3⟩
    refine vpOps_assign (x := .own 3 (deck_3.map cardc)) rfl rfl rfl rfl rfl rfl rfl ?_
    refine vpOps_nil ?_
    refine vp_seq ?_
    refine vp_region ?_
    refine vpOps_pure (x := .sh 1 (code.map u8c)) (pMv rfl rfl rfl) rfl rfl rfl rfl ?_
    refine vpOps_pure (x := .lv 6 []) (pure_move_lv rfl) rfl rfl rfl rfl ?_
    have hdd : deckOk deck_3 := hD_3.ok (by omega)
    have hwd := hD_3.wf (by omega)
    refine vpOps_call (gs := [⟨.tmp 43, .sh 1 (code.map u8c), none, none⟩, ⟨.tmp 44, .sh 3 (deck_3.map cardc), none, some 6⟩]) (c_A2Changed code deck_3 (by first | assumption | omega | exact hS_2.f | exact hm1.2.1 | exact hm2.2.1 | exact hm3.2.1 | exact hm1.2.2.2.2 | exact hm2.2.2.2.2 | exact hm3.2.2.2.2 | exact hm4.2.1 | exact hm4.2.2.2.2) (by first | assumption | omega | exact hS_2.f | exact hm1.2.1 | exact hm2.2.1 | exact hm3.2.1 | exact hm1.2.2.2.2 | exact hm2.2.2.2.2 | exact hm3.2.2.2.2 | exact hm4.2.1 | exact hm4.2.2.2.2) (by first | assumption | omega | exact hS_2.f | exact hm1.2.1 | exact hm2.2.1 | exact hm3.2.1 | exact hm1.2.2.2.2 | exact hm2.2.2.2.2 | exact hm3.2.2.2.2 | exact hm4.2.1 | exact hm4.2.2.2.2) (by first | assumption | omega | exact hS_2.f | exact hm1.2.1 | exact hm2.2.1 | exact hm3.2.1 | exact hm1.2.2.2.2 | exact hm2.2.2.2.2 | exact hm3.2.2.2.2 | exact hm4.2.1 | exact hm4.2.2.2.2) (by first | assumption | omega | exact hS_2.f | exact hm1.2.1 | exact hm2.2.1 | exact hm3.2.1 | exact hm1.2.2.2.2 | exact hm2.2.2.2.2 | exact hm3.2.2.2.2 | exact hm4.2.1 | exact hm4.2.2.2.2)) rfl rfl rfl rfl rfl trivial (by kernel_rfl) rfl rfl (gives_cons (gC rfl rfl) (gives_cons (give_view (c := .own 3 (deck_3.map cardc)) rfl rfl rfl rfl (view_map (fun _ => rfl))) gives_nil)) rfl (fun _ _ h => .inr (by obtain ⟨_, h1, h2, _⟩ := h; subst h1; subst h2; exact ⟨by simp [PV.closed, PV.closedL, closedE_map], by simp [PV.closedL, PV.closed]⟩)) ?_
    rintro _ _ ⟨out_4, rfl, rfl, hO_4⟩
    refine vpOps_assign (x := .own 3 (out_4.map cardc)) rfl rfl rfl rfl rfl rfl rfl ?_
    refine vpOps_nil ?_
    refine vp_seq ?_
    refine vp_region ?_
    refine vpOps_pure (x := .sh 1 (more.map u8c)) (pMv rfl rfl rfl) rfl rfl rfl rfl ?_
    refine vpOps_pure (x := .lv 6 []) (pure_move_lv rfl) rfl rfl rfl rfl ?_
    refine vpOps_call (gs := [⟨.tmp 46, .sh 1 (more.map u8c), none, none⟩, ⟨.tmp 47, .sh 3 (deck_3.map cardc), none, some 6⟩]) (c_A2Changed more deck_3 (by first | assumption | omega | exact hS_2.f | exact hm1.2.1 | exact hm2.2.1 | exact hm3.2.1 | exact hm1.2.2.2.2 | exact hm2.2.2.2.2 | exact hm3.2.2.2.2 | exact hm4.2.1 | exact hm4.2.2.2.2) (by first | assumption | omega | exact hS_2.f | exact hm1.2.1 | exact hm2.2.1 | exact hm3.2.1 | exact hm1.2.2.2.2 | exact hm2.2.2.2.2 | exact hm3.2.2.2.2 | exact hm4.2.1 | exact hm4.2.2.2.2) (by first | assumption | omega | exact hS_2.f | exact hm1.2.1 | exact hm2.2.1 | exact hm3.2.1 | exact hm1.2.2.2.2 | exact hm2.2.2.2.2 | exact hm3.2.2.2.2 | exact hm4.2.1 | exact hm4.2.2.2.2) (by first | assumption | omega | exact hS_2.f | exact hm1.2.1 | exact hm2.2.1 | exact hm3.2.1 | exact hm1.2.2.2.2 | exact hm2.2.2.2.2 | exact hm3.2.2.2.2 | exact hm4.2.1 | exact hm4.2.2.2.2) (by first | assumption | omega | exact hS_2.f | exact hm1.2.1 | exact hm2.2.1 | exact hm3.2.1 | exact hm1.2.2.2.2 | exact hm2.2.2.2.2 | exact hm3.2.2.2.2 | exact hm4.2.1 | exact hm4.2.2.2.2)) rfl rfl rfl rfl rfl trivial (by kernel_rfl) rfl rfl (gives_cons (gC rfl rfl) (gives_cons (give_view (c := .own 3 (deck_3.map cardc)) rfl rfl rfl rfl (view_map (fun _ => rfl))) gives_nil)) rfl (fun _ _ h => .inr (by obtain ⟨_, h1, h2, _⟩ := h; subst h1; subst h2; exact ⟨by simp [PV.closed, PV.closedL, closedE_map], by simp [PV.closedL, PV.closed]⟩)) ?_
    rintro _ _ ⟨out_5, rfl, rfl, hO_5⟩
    refine vpOps_assign (x := .own 3 (out_5.map cardc)) rfl rfl rfl rfl rfl rfl rfl ?_
    refine vpOps_nil ?_
    refine vp_seq ?_
    refine vp_region ?_
    refine vpOps_pure (x := .lv 6 []) (pure_move_lv rfl) rfl rfl rfl rfl ?_
    refine vpOps_pure (x := .lv 7 []) (pure_move_lv rfl) rfl rfl rfl rfl ?_
    refine vpOps_pure (x := .lv 8 []) (pure_move_lv rfl) rfl rfl rfl rfl ?_
    have hda := hO_4.1
    have hwa := hO_4.2.1
    have hla := hO_4.2.2
    have hdb := hO_5.1
    have hwb := hO_5.2.1
    have hlb := hO_5.2.2
    have hK : ok3 deck_3 out_4 out_5 := ⟨hdd, hda, hdb⟩
    have hK3 : ok3 deck_3 out_4 out_4 := ⟨hdd, hda, hda⟩
    have hl3 : deck_3.length ≤ 20 ∧ out_4.length ≤ 20 ∧ out_5.length ≤ 20 := (by omega)
    have hm1 := mrg_1 hdd hda (by omega) hwd hwa
    have hm2 := mrg_2 hdd hda (by omega) hwd hwa
    have hm3 := mrg_3 hdd hda (by omega) hwd hwa
    have hmo := mrgO_len hK hl3 hwa hwb
    have hcl3 := conL_len hK hl3
    have hnum := mrg_num hK hl3 hwa hwb
    have hc30 : (conL deck_3 out_4 out_4).length = 0 := (by rw [con_3 hK3]; rfl)
    have hdue : (0 < ((conL deck_3 out_4 out_5).length : Int)) ↔ mrgC deck_3 out_4 out_5 = 8 := (by rcases hnum with ⟨q1, q2, _⟩ | ⟨q1, q2, _⟩ <;> constructor <;> omega)
    have hd80 : mrgC deck_3 out_4 out_5 = 8 ∨ mrgC deck_3 out_4 out_5 = 0 := (by rcases hnum with ⟨q1, _⟩ | ⟨q1, _⟩; exact .inl q1; exact .inr q1)
    have hs1 : (deckOk (mrgO deck_3 out_4 deck_3) ∧ deckOk out_4) ∧ sameC (mrgO deck_3 out_4 deck_3) out_4 := ⟨⟨hm1.2.2.1, hda⟩, hm1.2.2.2.1⟩
    have hs2 : (deckOk (mrgO deck_3 deck_3 out_4) ∧ deckOk out_4) ∧ sameC (mrgO deck_3 deck_3 out_4) out_4 := ⟨⟨hm2.2.2.1, hda⟩, hm2.2.2.2.1⟩
    have hs3 : (deckOk (mrgO deck_3 out_4 out_4) ∧ deckOk out_4) ∧ sameC (mrgO deck_3 out_4 out_4) out_4 := ⟨⟨hm3.2.2.1, hda⟩, hm3.2.2.2.1⟩
    have hs4 : mrgC deck_3 out_4 out_5 = 0 → (deckOk (mrgO deck_3 out_5 out_4) ∧ deckOk (mrgO deck_3 out_4 out_5)) ∧ sameC (mrgO deck_3 out_5 out_4) (mrgO deck_3 out_4 out_5) := fun h => ⟨⟨(mrg_4 hK hl3 hwa hwb h).2.2.1, by rcases hnum with q | q; exact absurd q.1 (by omega); exact q.2.2.2.2.1⟩, (mrg_4 hK hl3 hwa hwb h).2.2.2.1⟩
    have hmow : ∀ c ∈ mrgO deck_3 out_4 out_5, c.wf := mrgO_wf hK hl3 hwa hwb
    refine vpOps_call (gs := [⟨.tmp 50, .sh 3 (deck_3.map cardc), none, some 6⟩, ⟨.tmp 51, .sh 3 (out_4.map cardc), none, some 7⟩, ⟨.tmp 52, .sh 3 (out_5.map cardc), none, some 8⟩]) (c_ConflictsOf deck_3 out_4 out_5 (by first | assumption | omega | exact hS_2.f | exact hm1.2.1 | exact hm2.2.1 | exact hm3.2.1 | exact hm1.2.2.2.2 | exact hm2.2.2.2.2 | exact hm3.2.2.2.2 | exact hm4.2.1 | exact hm4.2.2.2.2) (by first | assumption | omega | exact hS_2.f | exact hm1.2.1 | exact hm2.2.1 | exact hm3.2.1 | exact hm1.2.2.2.2 | exact hm2.2.2.2.2 | exact hm3.2.2.2.2 | exact hm4.2.1 | exact hm4.2.2.2.2) (by first | assumption | omega | exact hS_2.f | exact hm1.2.1 | exact hm2.2.1 | exact hm3.2.1 | exact hm1.2.2.2.2 | exact hm2.2.2.2.2 | exact hm3.2.2.2.2 | exact hm4.2.1 | exact hm4.2.2.2.2) (by first | assumption | omega | exact hS_2.f | exact hm1.2.1 | exact hm2.2.1 | exact hm3.2.1 | exact hm1.2.2.2.2 | exact hm2.2.2.2.2 | exact hm3.2.2.2.2 | exact hm4.2.1 | exact hm4.2.2.2.2) (by first | assumption | omega | exact hS_2.f | exact hm1.2.1 | exact hm2.2.1 | exact hm3.2.1 | exact hm1.2.2.2.2 | exact hm2.2.2.2.2 | exact hm3.2.2.2.2 | exact hm4.2.1 | exact hm4.2.2.2.2) (by first | assumption | omega | exact hS_2.f | exact hm1.2.1 | exact hm2.2.1 | exact hm3.2.1 | exact hm1.2.2.2.2 | exact hm2.2.2.2.2 | exact hm3.2.2.2.2 | exact hm4.2.1 | exact hm4.2.2.2.2)) rfl rfl rfl rfl rfl trivial (by kernel_rfl) rfl rfl (gives_cons (give_view (c := .own 3 (deck_3.map cardc)) rfl rfl rfl rfl (view_map (fun _ => rfl))) (gives_cons (give_view (c := .own 3 (out_4.map cardc)) rfl rfl rfl rfl (view_map (fun _ => rfl))) (gives_cons (give_view (c := .own 3 (out_5.map cardc)) rfl rfl rfl rfl (view_map (fun _ => rfl))) gives_nil))) rfl (fun _ _ h => .inr (by obtain ⟨h1, h2⟩ := h; subst h1; subst h2; exact ⟨by simp [PV.closed, PV.closedL, closedE_map], by simp [PV.closedL, PV.closed]⟩)) ?_
    rintro _ _ ⟨rfl, rfl⟩
    refine vpOps_pure (x := .lv 53 []) (pure_move_lv rfl) rfl rfl rfl rfl ?_
    refine vpOps_ghost (ghost_own (t := 49) rfl rfl rfl rfl) ?_
    refine vpOps_extract rfl rfl rfl rfl rfl rfl rfl rfl ?_
    refine vpOps_extract rfl rfl rfl rfl rfl rfl rfl rfl ?_
    refine vpOps_assign (x := .own 1 ((conL deck_3 out_4 out_5).map strc)) rfl rfl rfl rfl rfl rfl rfl ?_
    refine vpOps_pure (x := .v (.int .i64 (conC deck_3 out_4 out_5))) (pAs rfl rfl rfl) rfl rfl rfl rfl ?_
    refine vpOps_nil ?_
    refine vp_seq ?_
    refine vp_region ?_
    refine vpOps_pure (x := .lv 6 []) (pure_move_lv rfl) rfl rfl rfl rfl ?_
    refine vpOps_pure (x := .lv 7 []) (pure_move_lv rfl) rfl rfl rfl rfl ?_
    refine vpOps_pure (x := .lv 8 []) (pure_move_lv rfl) rfl rfl rfl rfl ?_
    refine vpOps_call (gs := [⟨.tmp 57, .sh 3 (deck_3.map cardc), none, some 6⟩, ⟨.tmp 58, .sh 3 (out_4.map cardc), none, some 7⟩, ⟨.tmp 59, .sh 3 (out_5.map cardc), none, some 8⟩]) (c_sConflictsOf deck_3 out_4 out_5 (by first | assumption | omega | exact hS_2.f | exact hm1.2.1 | exact hm2.2.1 | exact hm3.2.1 | exact hm1.2.2.2.2 | exact hm2.2.2.2.2 | exact hm3.2.2.2.2 | exact hm4.2.1 | exact hm4.2.2.2.2) (by first | assumption | omega | exact hS_2.f | exact hm1.2.1 | exact hm2.2.1 | exact hm3.2.1 | exact hm1.2.2.2.2 | exact hm2.2.2.2.2 | exact hm3.2.2.2.2 | exact hm4.2.1 | exact hm4.2.2.2.2) (by first | assumption | omega | exact hS_2.f | exact hm1.2.1 | exact hm2.2.1 | exact hm3.2.1 | exact hm1.2.2.2.2 | exact hm2.2.2.2.2 | exact hm3.2.2.2.2 | exact hm4.2.1 | exact hm4.2.2.2.2) (by first | assumption | omega | exact hS_2.f | exact hm1.2.1 | exact hm2.2.1 | exact hm3.2.1 | exact hm1.2.2.2.2 | exact hm2.2.2.2.2 | exact hm3.2.2.2.2 | exact hm4.2.1 | exact hm4.2.2.2.2) (by first | assumption | omega | exact hS_2.f | exact hm1.2.1 | exact hm2.2.1 | exact hm3.2.1 | exact hm1.2.2.2.2 | exact hm2.2.2.2.2 | exact hm3.2.2.2.2 | exact hm4.2.1 | exact hm4.2.2.2.2) (by first | assumption | omega | exact hS_2.f | exact hm1.2.1 | exact hm2.2.1 | exact hm3.2.1 | exact hm1.2.2.2.2 | exact hm2.2.2.2.2 | exact hm3.2.2.2.2 | exact hm4.2.1 | exact hm4.2.2.2.2)) rfl rfl rfl rfl rfl trivial (by kernel_rfl) rfl rfl (gives_cons (give_view (c := .own 3 (deck_3.map cardc)) rfl rfl rfl rfl (view_map (fun _ => rfl))) (gives_cons (give_view (c := .own 3 (out_4.map cardc)) rfl rfl rfl rfl (view_map (fun _ => rfl))) (gives_cons (give_view (c := .own 3 (out_5.map cardc)) rfl rfl rfl rfl (view_map (fun _ => rfl))) gives_nil))) rfl (fun _ _ h => .inr (by obtain ⟨h1, h2⟩ := h; subst h1; subst h2; exact ⟨by simp [PV.closed, PV.closedL, closedE_map], by simp [PV.closedL, PV.closed]⟩)) ?_
    rintro _ _ ⟨rfl, rfl⟩
    refine vpOps_pure (x := .lv 60 []) (pure_move_lv rfl) rfl rfl rfl rfl ?_
    refine vpOps_ghost (ghost_own (t := 56) rfl rfl rfl rfl) ?_
    refine vpOps_extract rfl rfl rfl rfl rfl rfl rfl rfl ?_
    refine vpOps_extract rfl rfl rfl rfl rfl rfl rfl rfl ?_
    refine vpOps_assign (x := .own 1 ((conL deck_3 out_4 out_5).map strc)) rfl rfl rfl rfl rfl rfl rfl ?_
    refine vpOps_pure (x := .v (.int .i64 (conC deck_3 out_4 out_5))) (pAs rfl rfl rfl) rfl rfl rfl rfl ?_
    refine vpOps_nil ?_
    refine vp_seq ?_
    refine vp_region ?_
    refine vpOps_pure (x := .lv 6 []) (pure_move_lv rfl) rfl rfl rfl rfl ?_
    refine vpOps_pure (x := .lv 7 []) (pure_move_lv rfl) rfl rfl rfl rfl ?_
    refine vpOps_pure (x := .lv 8 []) (pure_move_lv rfl) rfl rfl rfl rfl ?_
    refine vpOps_call (gs := [⟨.tmp 64, .sh 3 (deck_3.map cardc), none, some 6⟩, ⟨.tmp 65, .sh 3 (out_4.map cardc), none, some 7⟩, ⟨.tmp 66, .sh 3 (out_5.map cardc), none, some 8⟩]) (c_MergeThree deck_3 out_4 out_5 (by first | assumption | omega | exact hS_2.f | exact hm1.2.1 | exact hm2.2.1 | exact hm3.2.1 | exact hm1.2.2.2.2 | exact hm2.2.2.2.2 | exact hm3.2.2.2.2 | exact hm4.2.1 | exact hm4.2.2.2.2) (by first | assumption | omega | exact hS_2.f | exact hm1.2.1 | exact hm2.2.1 | exact hm3.2.1 | exact hm1.2.2.2.2 | exact hm2.2.2.2.2 | exact hm3.2.2.2.2 | exact hm4.2.1 | exact hm4.2.2.2.2) (by first | assumption | omega | exact hS_2.f | exact hm1.2.1 | exact hm2.2.1 | exact hm3.2.1 | exact hm1.2.2.2.2 | exact hm2.2.2.2.2 | exact hm3.2.2.2.2 | exact hm4.2.1 | exact hm4.2.2.2.2) (by first | assumption | omega | exact hS_2.f | exact hm1.2.1 | exact hm2.2.1 | exact hm3.2.1 | exact hm1.2.2.2.2 | exact hm2.2.2.2.2 | exact hm3.2.2.2.2 | exact hm4.2.1 | exact hm4.2.2.2.2) (by first | assumption | omega | exact hS_2.f | exact hm1.2.1 | exact hm2.2.1 | exact hm3.2.1 | exact hm1.2.2.2.2 | exact hm2.2.2.2.2 | exact hm3.2.2.2.2 | exact hm4.2.1 | exact hm4.2.2.2.2) (by first | assumption | omega | exact hS_2.f | exact hm1.2.1 | exact hm2.2.1 | exact hm3.2.1 | exact hm1.2.2.2.2 | exact hm2.2.2.2.2 | exact hm3.2.2.2.2 | exact hm4.2.1 | exact hm4.2.2.2.2)) rfl rfl rfl rfl rfl trivial (by kernel_rfl) rfl rfl (gives_cons (give_view (c := .own 3 (deck_3.map cardc)) rfl rfl rfl rfl (view_map (fun _ => rfl))) (gives_cons (give_view (c := .own 3 (out_4.map cardc)) rfl rfl rfl rfl (view_map (fun _ => rfl))) (gives_cons (give_view (c := .own 3 (out_5.map cardc)) rfl rfl rfl rfl (view_map (fun _ => rfl))) gives_nil))) rfl (fun _ _ h => .inr (by obtain ⟨h1, h2⟩ := h; subst h1; subst h2; exact ⟨by simp [PV.closed, PV.closedL, closedE_map], by simp [PV.closedL, PV.closed]⟩)) ?_
    rintro _ _ ⟨rfl, rfl⟩
    refine vpOps_pure (x := .lv 67 []) (pure_move_lv rfl) rfl rfl rfl rfl ?_
    refine vpOps_ghost (ghost_own (t := 63) rfl rfl rfl rfl) ?_
    refine vpOps_extract rfl rfl rfl rfl rfl rfl rfl rfl ?_
    refine vpOps_extract rfl rfl rfl rfl rfl rfl rfl rfl ?_
    refine vpOps_assign (x := .own 3 ((mrgO deck_3 out_4 out_5).map cardc)) rfl rfl rfl rfl rfl rfl rfl ?_
    refine vpOps_pure (x := .v (.int .i64 (mrgC deck_3 out_4 out_5))) (pAs rfl rfl rfl) rfl rfl rfl rfl ?_
    refine vpOps_nil ?_
    refine vp_seq ?_
    refine vp_region ?_
    refine vpOps_pure (x := .lv 6 []) (pure_move_lv rfl) rfl rfl rfl rfl ?_
    refine vpOps_pure (x := .lv 7 []) (pure_move_lv rfl) rfl rfl rfl rfl ?_
    refine vpOps_pure (x := .lv 8 []) (pure_move_lv rfl) rfl rfl rfl rfl ?_
    refine vpOps_call (gs := [⟨.tmp 71, .sh 3 (deck_3.map cardc), none, some 6⟩, ⟨.tmp 72, .sh 3 (out_4.map cardc), none, some 7⟩, ⟨.tmp 73, .sh 3 (out_5.map cardc), none, some 8⟩]) (c_sMergeThree deck_3 out_4 out_5 (by first | assumption | omega | exact hS_2.f | exact hm1.2.1 | exact hm2.2.1 | exact hm3.2.1 | exact hm1.2.2.2.2 | exact hm2.2.2.2.2 | exact hm3.2.2.2.2 | exact hm4.2.1 | exact hm4.2.2.2.2) (by first | assumption | omega | exact hS_2.f | exact hm1.2.1 | exact hm2.2.1 | exact hm3.2.1 | exact hm1.2.2.2.2 | exact hm2.2.2.2.2 | exact hm3.2.2.2.2 | exact hm4.2.1 | exact hm4.2.2.2.2) (by first | assumption | omega | exact hS_2.f | exact hm1.2.1 | exact hm2.2.1 | exact hm3.2.1 | exact hm1.2.2.2.2 | exact hm2.2.2.2.2 | exact hm3.2.2.2.2 | exact hm4.2.1 | exact hm4.2.2.2.2) (by first | assumption | omega | exact hS_2.f | exact hm1.2.1 | exact hm2.2.1 | exact hm3.2.1 | exact hm1.2.2.2.2 | exact hm2.2.2.2.2 | exact hm3.2.2.2.2 | exact hm4.2.1 | exact hm4.2.2.2.2) (by first | assumption | omega | exact hS_2.f | exact hm1.2.1 | exact hm2.2.1 | exact hm3.2.1 | exact hm1.2.2.2.2 | exact hm2.2.2.2.2 | exact hm3.2.2.2.2 | exact hm4.2.1 | exact hm4.2.2.2.2) (by first | assumption | omega | exact hS_2.f | exact hm1.2.1 | exact hm2.2.1 | exact hm3.2.1 | exact hm1.2.2.2.2 | exact hm2.2.2.2.2 | exact hm3.2.2.2.2 | exact hm4.2.1 | exact hm4.2.2.2.2)) rfl rfl rfl rfl rfl trivial (by kernel_rfl) rfl rfl (gives_cons (give_view (c := .own 3 (deck_3.map cardc)) rfl rfl rfl rfl (view_map (fun _ => rfl))) (gives_cons (give_view (c := .own 3 (out_4.map cardc)) rfl rfl rfl rfl (view_map (fun _ => rfl))) (gives_cons (give_view (c := .own 3 (out_5.map cardc)) rfl rfl rfl rfl (view_map (fun _ => rfl))) gives_nil))) rfl (fun _ _ h => .inr (by obtain ⟨h1, h2⟩ := h; subst h1; subst h2; exact ⟨by simp [PV.closed, PV.closedL, closedE_map], by simp [PV.closedL, PV.closed]⟩)) ?_
    rintro _ _ ⟨rfl, rfl⟩
    refine vpOps_pure (x := .lv 74 []) (pure_move_lv rfl) rfl rfl rfl rfl ?_
    refine vpOps_ghost (ghost_own (t := 70) rfl rfl rfl rfl) ?_
    refine vpOps_extract rfl rfl rfl rfl rfl rfl rfl rfl ?_
    refine vpOps_extract rfl rfl rfl rfl rfl rfl rfl rfl ?_
    refine vpOps_assign (x := .own 3 ((mrgO deck_3 out_4 out_5).map cardc)) rfl rfl rfl rfl rfl rfl rfl ?_
    refine vpOps_pure (x := .v (.int .i64 (mrgC deck_3 out_4 out_5))) (pAs rfl rfl rfl) rfl rfl rfl rfl ?_
    refine vpOps_nil ?_
    refine vp_seq ?_
    refine vp_seq ?_
    refine vp_region ?_
    refine vpOps_pure (x := .v (.int .i64 (conC deck_3 out_4 out_5))) (pMv rfl rfl rfl) rfl rfl rfl rfl ?_
    refine vpOps_pure (x := .v (.int .i64 (conC deck_3 out_4 out_5))) (pMv rfl rfl rfl) rfl rfl rfl rfl ?_
    refine vpOps_pure (x := .v (.bool (!decide ((conC deck_3 out_4 out_5) = (conC deck_3 out_4 out_5))))) (pure_bin rfl rfl rfl rfl) rfl rfl rfl rfl ?_
    refine vpOps_pure (x := .v (.bool (!decide ((conC deck_3 out_4 out_5) = (conC deck_3 out_4 out_5))))) (pMv rfl rfl rfl) rfl rfl rfl rfl ?_
    by_cases h2 : (conC deck_3 out_4 out_5) = (conC deck_3 out_4 out_5)
    · skip
      refine vRun rfl rfl rfl (not_of_t (decide_eq_true h2)) rfl rfl rfl ?_
      refine vpOps_pure (x := .v (.int .i64 (conC deck_3 out_4 out_5))) (pMv rfl rfl rfl) rfl rfl rfl rfl ?_
      refine vRun rfl rfl rfl (not_of_t (decide_eq_true h2)) rfl rfl rfl ?_
      refine vpOps_pure (x := .v (.bool (!decide ((conC deck_3 out_4 out_5) = 0)))) (pure_bin rfl rfl rfl rfl) rfl rfl rfl rfl ?_
      refine vpOps_pure (x := .v (.bool (!decide ((conC deck_3 out_4 out_5) = 0)))) (pPf rfl rfl (not_of_t (decide_eq_true h2)) rfl rfl) rfl rfl rfl rfl ?_
      refine vpOps_pure (x := .v (.bool (!decide ((conC deck_3 out_4 out_5) = 0)))) (pMv rfl rfl rfl) rfl rfl rfl rfl ?_
      by_cases h3 : (conC deck_3 out_4 out_5) = 0
      · skip
        refine vRun rfl rfl rfl (not_of_t (decide_eq_true h3)) rfl rfl rfl ?_
        refine vpOps_pure (x := .lv 9 []) (pure_move_lv rfl) rfl rfl rfl rfl ?_
        refine vRun rfl rfl rfl (not_of_t (decide_eq_true h3)) rfl rfl rfl ?_
        refine vpOps_pure (x := .lv 11 []) (pure_move_lv rfl) rfl rfl rfl rfl ?_
        refine vRun rfl rfl rfl (not_of_t (decide_eq_true h3)) rfl rfl rfl ?_
        refine vpOps_call (gs := [⟨.tmp 85, .sh 1 ((conL deck_3 out_4 out_5).map strc), none, some 9⟩, ⟨.tmp 86, .sh 1 ((conL deck_3 out_4 out_5).map strc), none, some 11⟩]) (c_A2Texts (conL deck_3 out_4 out_5) (conL deck_3 out_4 out_5) (by first | assumption | omega | exact hS_2.f | exact hm1.2.1 | exact hm2.2.1 | exact hm3.2.1 | exact hm1.2.2.2.2 | exact hm2.2.2.2.2 | exact hm3.2.2.2.2 | exact hm4.2.1 | exact hm4.2.2.2.2)) rfl rfl rfl rfl rfl trivial (by kernel_rfl) rfl rfl (gives_cons (give_view (c := .own 1 ((conL deck_3 out_4 out_5).map strc)) rfl rfl rfl rfl (view_map (fun _ => rfl))) (gives_cons (give_view (c := .own 1 ((conL deck_3 out_4 out_5).map strc)) rfl rfl rfl rfl (view_map (fun _ => rfl))) gives_nil)) rfl (fun _ _ h => .inr (by obtain ⟨h1, h2⟩ := h; subst h1; subst h2; exact ⟨by simp [PV.closed, PV.closedL, closedE_map], by simp [PV.closedL, PV.closed]⟩)) ?_
        rintro _ _ ⟨rfl, rfl⟩
        refine vRun rfl rfl rfl (not_of_t (decide_eq_true h3)) rfl rfl rfl ?_
        refine vpOps_pure (x := .v (.bool (!decide ((conL deck_3 out_4 out_5) = (conL deck_3 out_4 out_5))))) (pure_not rfl rfl) rfl rfl rfl rfl ?_
        refine vpOps_pure (x := .v (.bool (!decide ((conL deck_3 out_4 out_5) = (conL deck_3 out_4 out_5))))) (pPf rfl rfl (not_of_t (decide_eq_true h3)) rfl rfl) rfl rfl rfl rfl ?_
        refine vpOps_pure (x := .v (.bool (!decide ((conL deck_3 out_4 out_5) = (conL deck_3 out_4 out_5))))) (pMv rfl rfl rfl) rfl rfl rfl rfl ?_
        by_cases h4 : (conL deck_3 out_4 out_5) = (conL deck_3 out_4 out_5)
        · skip
          refine vRun rfl rfl rfl (not_of_t (decide_eq_true h4)) rfl rfl rfl ?_
          refine vpOps_pure (x := .v (.int .i64 (mrgC deck_3 out_4 out_5))) (pMv rfl rfl rfl) rfl rfl rfl rfl ?_
          refine vRun rfl rfl rfl (not_of_t (decide_eq_true h4)) rfl rfl rfl ?_
          refine vpOps_pure (x := .v (.int .i64 (mrgC deck_3 out_4 out_5))) (pMv rfl rfl rfl) rfl rfl rfl rfl ?_
          refine vRun rfl rfl rfl (not_of_t (decide_eq_true h4)) rfl rfl rfl ?_
          refine vpOps_pure (x := .v (.bool (!decide ((mrgC deck_3 out_4 out_5) = (mrgC deck_3 out_4 out_5))))) (pure_bin rfl rfl rfl rfl) rfl rfl rfl rfl ?_
          refine vpOps_pure (x := .v (.bool (!decide ((mrgC deck_3 out_4 out_5) = (mrgC deck_3 out_4 out_5))))) (pPf rfl rfl (not_of_t (decide_eq_true h4)) rfl rfl) rfl rfl rfl rfl ?_
          refine vpOps_pure (x := .v (.bool (!decide ((mrgC deck_3 out_4 out_5) = (mrgC deck_3 out_4 out_5))))) (pMv rfl rfl rfl) rfl rfl rfl rfl ?_
          by_cases h5 : (mrgC deck_3 out_4 out_5) = (mrgC deck_3 out_4 out_5)
          · skip
            refine vRun rfl rfl rfl (not_of_t (decide_eq_true h5)) rfl rfl rfl ?_
            refine vpOps_pure (x := .lv 13 []) (pure_move_lv rfl) rfl rfl rfl rfl ?_
            refine vRun rfl rfl rfl (not_of_t (decide_eq_true h5)) rfl rfl rfl ?_
            refine vpOps_pure (x := .lv 15 []) (pure_move_lv rfl) rfl rfl rfl rfl ?_
            refine vRun rfl rfl rfl (not_of_t (decide_eq_true h5)) rfl rfl rfl ?_
            refine vpOps_call (gs := [⟨.tmp 96, .sh 3 ((mrgO deck_3 out_4 out_5).map cardc), none, some 13⟩, ⟨.tmp 97, .sh 3 ((mrgO deck_3 out_4 out_5).map cardc), none, some 15⟩]) (c_SameDeck (mrgO deck_3 out_4 out_5) (mrgO deck_3 out_4 out_5) (by first | assumption | omega | exact hS_2.f | exact hm1.2.1 | exact hm2.2.1 | exact hm3.2.1 | exact hm1.2.2.2.2 | exact hm2.2.2.2.2 | exact hm3.2.2.2.2 | exact hm4.2.1 | exact hm4.2.2.2.2)) rfl rfl rfl rfl rfl trivial (by kernel_rfl) rfl rfl (gives_cons (give_view (c := .own 3 ((mrgO deck_3 out_4 out_5).map cardc)) rfl rfl rfl rfl (view_map (fun _ => rfl))) (gives_cons (give_view (c := .own 3 ((mrgO deck_3 out_4 out_5).map cardc)) rfl rfl rfl rfl (view_map (fun _ => rfl))) gives_nil)) rfl (fun _ _ h => .inr (by obtain ⟨h1, h2⟩ := h; subst h1; subst h2; exact ⟨by simp [PV.closed, PV.closedL, closedE_map], by simp [PV.closedL, PV.closed]⟩)) ?_
            rintro _ _ ⟨rfl, rfl⟩
            refine vRun rfl rfl rfl (not_of_t (decide_eq_true h5)) rfl rfl rfl ?_
            refine vpOps_pure (x := .v (.bool (!decide ((mrgO deck_3 out_4 out_5) = (mrgO deck_3 out_4 out_5))))) (pure_not rfl rfl) rfl rfl rfl rfl ?_
            refine vpOps_pure (x := .v (.bool (!decide ((mrgO deck_3 out_4 out_5) = (mrgO deck_3 out_4 out_5))))) (pPf rfl rfl (not_of_t (decide_eq_true h5)) rfl rfl) rfl rfl rfl rfl ?_
            refine vpOps_pure (x := .v (.bool (!decide ((mrgO deck_3 out_4 out_5) = (mrgO deck_3 out_4 out_5))))) (pMv rfl rfl rfl) rfl rfl rfl rfl ?_
            by_cases h6 : (mrgO deck_3 out_4 out_5) = (mrgO deck_3 out_4 out_5)
            · skip
              refine vRun rfl rfl rfl (not_of_t (decide_eq_true h6)) rfl rfl rfl ?_
              refine vpOps_pure (x := .lv 11 []) (pure_move_lv rfl) rfl rfl rfl rfl ?_
              refine vRun rfl rfl rfl (not_of_t (decide_eq_true h6)) rfl rfl rfl ?_
              refine vpOps_pure (x := .v (.int .i64 (((((conL deck_3 out_4 out_5).length) : Nat) : Int)))) (pLenR rfl rfl rfl rfl rfl (List.length_map _)) rfl rfl rfl rfl ?_
              refine vRun rfl rfl rfl (not_of_t (decide_eq_true h6)) rfl rfl rfl ?_
              refine vpOps_pure (x := .v (.bool (decide (0 < (((((conL deck_3 out_4 out_5).length) : Nat) : Int)))))) (pure_bin rfl rfl rfl rfl) rfl rfl rfl rfl ?_
              refine vRun rfl rfl rfl (not_of_t (decide_eq_true h6)) rfl rfl rfl ?_
              refine vpOps_pure (x := .v (.int .i64 (mrgC deck_3 out_4 out_5))) (pMv rfl rfl rfl) rfl rfl rfl rfl ?_
              refine vRun rfl rfl rfl (not_of_t (decide_eq_true h6)) rfl rfl rfl ?_
              refine vpOps_pure (x := .v (.bool (decide ((mrgC deck_3 out_4 out_5) = 8)))) (pure_bin rfl rfl rfl rfl) rfl rfl rfl rfl ?_
              refine vRun rfl rfl rfl (not_of_t (decide_eq_true h6)) rfl rfl rfl ?_
              refine vpOps_pure (x := .v (.bool (((decide (0 < (((((conL deck_3 out_4 out_5).length) : Nat) : Int)))) != (decide ((mrgC deck_3 out_4 out_5) = 8)))))) (pBoolNe rfl rfl rfl) rfl rfl rfl rfl ?_
              refine vpOps_pure (x := .v (.bool (((decide (0 < (((((conL deck_3 out_4 out_5).length) : Nat) : Int)))) != (decide ((mrgC deck_3 out_4 out_5) = 8)))))) (pPf rfl rfl (not_of_t (decide_eq_true h6)) rfl rfl) rfl rfl rfl rfl ?_
              refine vpOps_nil ?_
              refine vIfB rfl (fun h7 => ?_) (fun h7 => ?_)
              · skip
                refine vp_seq ?_
                refine vp_region ?_
                refine vpOps_pure (x := .v (.bool (false))) (pAs rfl rfl rfl) rfl rfl rfl rfl ?_
                refine vpOps_nil ?_
                refine vp_ret ?_
                exact ⟨[.v (.bool (false))], [4], (.cons (.tmp rfl rfl) .nil), rfl, ⟨(show (.v (.bool (false)) : PV) = .v (.bool (true)) from (by first | with_reducible rfl | (exfalso; omega) | exact absurd (con_ok hK).2 (by assumption) | exact absurd (con_ok hK3).2 (by assumption) | exact absurd (rfl : mrgO deck_3 out_4 out_5 = mrgO deck_3 out_4 out_5) (by assumption) | exact absurd (rfl : conL deck_3 out_4 out_5 = conL deck_3 out_4 out_5) (by assumption) | exact ne_dec hdue (by assumption) | exact absurd hs1 (by assumption) | exact absurd hs2 (by assumption) | exact absurd hs3 (by assumption) | exact (dec_t (hs4 (by omega))).symm | exact (dec_t (by omega)).symm)), rfl⟩⟩
              · skip
                refine vp_skip ?_
                refine vp_seq ?_
                refine vp_region ?_
                refine vpOps_pure (x := .lv 6 []) (pure_move_lv rfl) rfl rfl rfl rfl ?_
                refine vpOps_pure (x := .lv 7 []) (pure_move_lv rfl) rfl rfl rfl rfl ?_
                refine vpOps_pure (x := .lv 6 []) (pure_move_lv rfl) rfl rfl rfl rfl ?_
                refine vpOps_call (gs := [⟨.tmp 110, .sh 3 (deck_3.map cardc), none, some 6⟩, ⟨.tmp 111, .sh 3 (out_4.map cardc), none, some 7⟩, ⟨.tmp 112, .sh 3 (deck_3.map cardc), none, some 6⟩]) (c_MergeThree deck_3 out_4 deck_3 (by first | assumption | omega | exact hS_2.f | exact hm1.2.1 | exact hm2.2.1 | exact hm3.2.1 | exact hm1.2.2.2.2 | exact hm2.2.2.2.2 | exact hm3.2.2.2.2 | exact hm4.2.1 | exact hm4.2.2.2.2) (by first | assumption | omega | exact hS_2.f | exact hm1.2.1 | exact hm2.2.1 | exact hm3.2.1 | exact hm1.2.2.2.2 | exact hm2.2.2.2.2 | exact hm3.2.2.2.2 | exact hm4.2.1 | exact hm4.2.2.2.2) (by first | assumption | omega | exact hS_2.f | exact hm1.2.1 | exact hm2.2.1 | exact hm3.2.1 | exact hm1.2.2.2.2 | exact hm2.2.2.2.2 | exact hm3.2.2.2.2 | exact hm4.2.1 | exact hm4.2.2.2.2) (by first | assumption | omega | exact hS_2.f | exact hm1.2.1 | exact hm2.2.1 | exact hm3.2.1 | exact hm1.2.2.2.2 | exact hm2.2.2.2.2 | exact hm3.2.2.2.2 | exact hm4.2.1 | exact hm4.2.2.2.2) (by first | assumption | omega | exact hS_2.f | exact hm1.2.1 | exact hm2.2.1 | exact hm3.2.1 | exact hm1.2.2.2.2 | exact hm2.2.2.2.2 | exact hm3.2.2.2.2 | exact hm4.2.1 | exact hm4.2.2.2.2) (by first | assumption | omega | exact hS_2.f | exact hm1.2.1 | exact hm2.2.1 | exact hm3.2.1 | exact hm1.2.2.2.2 | exact hm2.2.2.2.2 | exact hm3.2.2.2.2 | exact hm4.2.1 | exact hm4.2.2.2.2)) rfl rfl rfl rfl rfl trivial (by kernel_rfl) rfl rfl (gives_cons (give_view (c := .own 3 (deck_3.map cardc)) rfl rfl rfl rfl (view_map (fun _ => rfl))) (gives_cons (give_view (c := .own 3 (out_4.map cardc)) rfl rfl rfl rfl (view_map (fun _ => rfl))) (gives_cons (give_view (c := .own 3 (deck_3.map cardc)) rfl rfl rfl rfl (view_map (fun _ => rfl))) gives_nil))) rfl (fun _ _ h => .inr (by obtain ⟨h1, h2⟩ := h; subst h1; subst h2; exact ⟨by simp [PV.closed, PV.closedL, closedE_map], by simp [PV.closedL, PV.closed]⟩)) ?_
                rintro _ _ ⟨rfl, rfl⟩
                refine vpOps_pure (x := .lv 113 []) (pure_move_lv rfl) rfl rfl rfl rfl ?_
                refine vpOps_ghost (ghost_own (t := 109) rfl rfl rfl rfl) ?_
                refine vpOps_extract rfl rfl rfl rfl rfl rfl rfl rfl ?_
                refine vpOps_extract rfl rfl rfl rfl rfl rfl rfl rfl ?_
                refine vpOps_assign (x := .own 3 ((mrgO deck_3 out_4 deck_3).map cardc)) rfl rfl rfl rfl rfl rfl rfl ?_
                refine vpOps_pure (x := .v (.int .i64 (mrgC deck_3 out_4 deck_3))) (pAs rfl rfl rfl) rfl rfl rfl rfl ?_
                refine vpOps_nil ?_
                refine vp_seq ?_
                refine vp_region ?_
                refine vpOps_pure (x := .lv 6 []) (pure_move_lv rfl) rfl rfl rfl rfl ?_
                refine vpOps_pure (x := .lv 6 []) (pure_move_lv rfl) rfl rfl rfl rfl ?_
                refine vpOps_pure (x := .lv 7 []) (pure_move_lv rfl) rfl rfl rfl rfl ?_
                refine vpOps_call (gs := [⟨.tmp 117, .sh 3 (deck_3.map cardc), none, some 6⟩, ⟨.tmp 118, .sh 3 (deck_3.map cardc), none, some 6⟩, ⟨.tmp 119, .sh 3 (out_4.map cardc), none, some 7⟩]) (c_MergeThree deck_3 deck_3 out_4 (by first | assumption | omega | exact hS_2.f | exact hm1.2.1 | exact hm2.2.1 | exact hm3.2.1 | exact hm1.2.2.2.2 | exact hm2.2.2.2.2 | exact hm3.2.2.2.2 | exact hm4.2.1 | exact hm4.2.2.2.2) (by first | assumption | omega | exact hS_2.f | exact hm1.2.1 | exact hm2.2.1 | exact hm3.2.1 | exact hm1.2.2.2.2 | exact hm2.2.2.2.2 | exact hm3.2.2.2.2 | exact hm4.2.1 | exact hm4.2.2.2.2) (by first | assumption | omega | exact hS_2.f | exact hm1.2.1 | exact hm2.2.1 | exact hm3.2.1 | exact hm1.2.2.2.2 | exact hm2.2.2.2.2 | exact hm3.2.2.2.2 | exact hm4.2.1 | exact hm4.2.2.2.2) (by first | assumption | omega | exact hS_2.f | exact hm1.2.1 | exact hm2.2.1 | exact hm3.2.1 | exact hm1.2.2.2.2 | exact hm2.2.2.2.2 | exact hm3.2.2.2.2 | exact hm4.2.1 | exact hm4.2.2.2.2) (by first | assumption | omega | exact hS_2.f | exact hm1.2.1 | exact hm2.2.1 | exact hm3.2.1 | exact hm1.2.2.2.2 | exact hm2.2.2.2.2 | exact hm3.2.2.2.2 | exact hm4.2.1 | exact hm4.2.2.2.2) (by first | assumption | omega | exact hS_2.f | exact hm1.2.1 | exact hm2.2.1 | exact hm3.2.1 | exact hm1.2.2.2.2 | exact hm2.2.2.2.2 | exact hm3.2.2.2.2 | exact hm4.2.1 | exact hm4.2.2.2.2)) rfl rfl rfl rfl rfl trivial (by kernel_rfl) rfl rfl (gives_cons (give_view (c := .own 3 (deck_3.map cardc)) rfl rfl rfl rfl (view_map (fun _ => rfl))) (gives_cons (give_view (c := .own 3 (deck_3.map cardc)) rfl rfl rfl rfl (view_map (fun _ => rfl))) (gives_cons (give_view (c := .own 3 (out_4.map cardc)) rfl rfl rfl rfl (view_map (fun _ => rfl))) gives_nil))) rfl (fun _ _ h => .inr (by obtain ⟨h1, h2⟩ := h; subst h1; subst h2; exact ⟨by simp [PV.closed, PV.closedL, closedE_map], by simp [PV.closedL, PV.closed]⟩)) ?_
                rintro _ _ ⟨rfl, rfl⟩
                refine vpOps_pure (x := .lv 120 []) (pure_move_lv rfl) rfl rfl rfl rfl ?_
                refine vpOps_ghost (ghost_own (t := 116) rfl rfl rfl rfl) ?_
                refine vpOps_extract rfl rfl rfl rfl rfl rfl rfl rfl ?_
                refine vpOps_extract rfl rfl rfl rfl rfl rfl rfl rfl ?_
                refine vpOps_assign (x := .own 3 ((mrgO deck_3 deck_3 out_4).map cardc)) rfl rfl rfl rfl rfl rfl rfl ?_
                refine vpOps_pure (x := .v (.int .i64 (mrgC deck_3 deck_3 out_4))) (pAs rfl rfl rfl) rfl rfl rfl rfl ?_
                refine vpOps_nil ?_
                refine vp_seq ?_
                refine vp_region ?_
                refine vpOps_pure (x := .lv 17 []) (pure_move_lv rfl) rfl rfl rfl rfl ?_
                refine vpOps_pure (x := .lv 7 []) (pure_move_lv rfl) rfl rfl rfl rfl ?_
                refine vpOps_call (gs := [⟨.tmp 124, .sh 3 ((mrgO deck_3 out_4 deck_3).map cardc), none, some 17⟩, ⟨.tmp 125, .sh 3 (out_4.map cardc), none, some 7⟩]) (c_SameCards (mrgO deck_3 out_4 deck_3) out_4 (by first | assumption | omega | exact hS_2.f | exact hm1.2.1 | exact hm2.2.1 | exact hm3.2.1 | exact hm1.2.2.2.2 | exact hm2.2.2.2.2 | exact hm3.2.2.2.2 | exact hm4.2.1 | exact hm4.2.2.2.2) (by first | assumption | omega | exact hS_2.f | exact hm1.2.1 | exact hm2.2.1 | exact hm3.2.1 | exact hm1.2.2.2.2 | exact hm2.2.2.2.2 | exact hm3.2.2.2.2 | exact hm4.2.1 | exact hm4.2.2.2.2) (by first | assumption | omega | exact hS_2.f | exact hm1.2.1 | exact hm2.2.1 | exact hm3.2.1 | exact hm1.2.2.2.2 | exact hm2.2.2.2.2 | exact hm3.2.2.2.2 | exact hm4.2.1 | exact hm4.2.2.2.2) (by first | assumption | omega | exact hS_2.f | exact hm1.2.1 | exact hm2.2.1 | exact hm3.2.1 | exact hm1.2.2.2.2 | exact hm2.2.2.2.2 | exact hm3.2.2.2.2 | exact hm4.2.1 | exact hm4.2.2.2.2)) rfl rfl rfl rfl rfl trivial (by kernel_rfl) rfl rfl (gives_cons (give_view (c := .own 3 ((mrgO deck_3 out_4 deck_3).map cardc)) rfl rfl rfl rfl (view_map (fun _ => rfl))) (gives_cons (give_view (c := .own 3 (out_4.map cardc)) rfl rfl rfl rfl (view_map (fun _ => rfl))) gives_nil)) rfl (fun _ _ h => .inr (by obtain ⟨h1, h2⟩ := h; subst h1; subst h2; exact ⟨by simp [PV.closed, PV.closedL, closedE_map], by simp [PV.closedL, PV.closed]⟩)) ?_
                rintro _ _ ⟨rfl, rfl⟩
                refine vpOps_pure (x := .tup [.v (.bool (decide ((deckOk (mrgO deck_3 out_4 deck_3) ∧ deckOk out_4) ∧ sameC (mrgO deck_3 out_4 deck_3) out_4))), .v (.int .i64 (if deckOk (mrgO deck_3 out_4 deck_3) ∧ deckOk out_4 then 0 else 1))]) (pMv rfl rfl rfl) rfl rfl rfl rfl ?_
                refine vpOps_pure (x := .v (.bool (decide ((deckOk (mrgO deck_3 out_4 deck_3) ∧ deckOk out_4) ∧ sameC (mrgO deck_3 out_4 deck_3) out_4)))) (pure_extract rfl rfl rfl (mvOkL_flat _ rfl)) rfl rfl rfl rfl ?_
                refine vpOps_pure (x := .v (.int .i64 0)) (pEqI (pure_extract rfl rfl rfl (mvOkL_flat _ rfl)) (if_pos ⟨hm1.2.2.1, hda⟩)) rfl rfl rfl rfl ?_
                refine vpOps_pure (x := .v (.bool (decide ((deckOk (mrgO deck_3 out_4 deck_3) ∧ deckOk out_4) ∧ sameC (mrgO deck_3 out_4 deck_3) out_4)))) (pAs rfl rfl rfl) rfl rfl rfl rfl ?_
                refine vpOps_pure (x := .v (.int .i64 0)) (pAs rfl rfl rfl) rfl rfl rfl rfl ?_
                refine vpOps_nil ?_
                refine vp_seq ?_
                refine vp_region ?_
                refine vpOps_pure (x := .lv 19 []) (pure_move_lv rfl) rfl rfl rfl rfl ?_
                refine vpOps_pure (x := .lv 7 []) (pure_move_lv rfl) rfl rfl rfl rfl ?_
                refine vpOps_call (gs := [⟨.tmp 130, .sh 3 ((mrgO deck_3 deck_3 out_4).map cardc), none, some 19⟩, ⟨.tmp 131, .sh 3 (out_4.map cardc), none, some 7⟩]) (c_SameCards (mrgO deck_3 deck_3 out_4) out_4 (by first | assumption | omega | exact hS_2.f | exact hm1.2.1 | exact hm2.2.1 | exact hm3.2.1 | exact hm1.2.2.2.2 | exact hm2.2.2.2.2 | exact hm3.2.2.2.2 | exact hm4.2.1 | exact hm4.2.2.2.2) (by first | assumption | omega | exact hS_2.f | exact hm1.2.1 | exact hm2.2.1 | exact hm3.2.1 | exact hm1.2.2.2.2 | exact hm2.2.2.2.2 | exact hm3.2.2.2.2 | exact hm4.2.1 | exact hm4.2.2.2.2) (by first | assumption | omega | exact hS_2.f | exact hm1.2.1 | exact hm2.2.1 | exact hm3.2.1 | exact hm1.2.2.2.2 | exact hm2.2.2.2.2 | exact hm3.2.2.2.2 | exact hm4.2.1 | exact hm4.2.2.2.2) (by first | assumption | omega | exact hS_2.f | exact hm1.2.1 | exact hm2.2.1 | exact hm3.2.1 | exact hm1.2.2.2.2 | exact hm2.2.2.2.2 | exact hm3.2.2.2.2 | exact hm4.2.1 | exact hm4.2.2.2.2)) rfl rfl rfl rfl rfl trivial (by kernel_rfl) rfl rfl (gives_cons (give_view (c := .own 3 ((mrgO deck_3 deck_3 out_4).map cardc)) rfl rfl rfl rfl (view_map (fun _ => rfl))) (gives_cons (give_view (c := .own 3 (out_4.map cardc)) rfl rfl rfl rfl (view_map (fun _ => rfl))) gives_nil)) rfl (fun _ _ h => .inr (by obtain ⟨h1, h2⟩ := h; subst h1; subst h2; exact ⟨by simp [PV.closed, PV.closedL, closedE_map], by simp [PV.closedL, PV.closed]⟩)) ?_
                rintro _ _ ⟨rfl, rfl⟩
                refine vpOps_pure (x := .tup [.v (.bool (decide ((deckOk (mrgO deck_3 deck_3 out_4) ∧ deckOk out_4) ∧ sameC (mrgO deck_3 deck_3 out_4) out_4))), .v (.int .i64 (if deckOk (mrgO deck_3 deck_3 out_4) ∧ deckOk out_4 then 0 else 1))]) (pMv rfl rfl rfl) rfl rfl rfl rfl ?_
                refine vpOps_pure (x := .v (.bool (decide ((deckOk (mrgO deck_3 deck_3 out_4) ∧ deckOk out_4) ∧ sameC (mrgO deck_3 deck_3 out_4) out_4)))) (pure_extract rfl rfl rfl (mvOkL_flat _ rfl)) rfl rfl rfl rfl ?_
                refine vpOps_pure (x := .v (.int .i64 0)) (pEqI (pure_extract rfl rfl rfl (mvOkL_flat _ rfl)) (if_pos ⟨hm2.2.2.1, hda⟩)) rfl rfl rfl rfl ?_
                refine vpOps_pure (x := .v (.bool (decide ((deckOk (mrgO deck_3 deck_3 out_4) ∧ deckOk out_4) ∧ sameC (mrgO deck_3 deck_3 out_4) out_4)))) (pAs rfl rfl rfl) rfl rfl rfl rfl ?_
                refine vpOps_pure (x := .v (.int .i64 0)) (pAs rfl rfl rfl) rfl rfl rfl rfl ?_
                refine vpOps_nil ?_
                refine vp_seq ?_
                refine vp_region ?_
                refine vpOps_pure (x := .lv 6 []) (pure_move_lv rfl) rfl rfl rfl rfl ?_
                refine vpOps_pure (x := .lv 7 []) (pure_move_lv rfl) rfl rfl rfl rfl ?_
                refine vpOps_pure (x := .lv 7 []) (pure_move_lv rfl) rfl rfl rfl rfl ?_
                refine vpOps_call (gs := [⟨.tmp 136, .sh 3 (deck_3.map cardc), none, some 6⟩, ⟨.tmp 137, .sh 3 (out_4.map cardc), none, some 7⟩, ⟨.tmp 138, .sh 3 (out_4.map cardc), none, some 7⟩]) (c_ConflictsOf deck_3 out_4 out_4 (by first | assumption | omega | exact hS_2.f | exact hm1.2.1 | exact hm2.2.1 | exact hm3.2.1 | exact hm1.2.2.2.2 | exact hm2.2.2.2.2 | exact hm3.2.2.2.2 | exact hm4.2.1 | exact hm4.2.2.2.2) (by first | assumption | omega | exact hS_2.f | exact hm1.2.1 | exact hm2.2.1 | exact hm3.2.1 | exact hm1.2.2.2.2 | exact hm2.2.2.2.2 | exact hm3.2.2.2.2 | exact hm4.2.1 | exact hm4.2.2.2.2) (by first | assumption | omega | exact hS_2.f | exact hm1.2.1 | exact hm2.2.1 | exact hm3.2.1 | exact hm1.2.2.2.2 | exact hm2.2.2.2.2 | exact hm3.2.2.2.2 | exact hm4.2.1 | exact hm4.2.2.2.2) (by first | assumption | omega | exact hS_2.f | exact hm1.2.1 | exact hm2.2.1 | exact hm3.2.1 | exact hm1.2.2.2.2 | exact hm2.2.2.2.2 | exact hm3.2.2.2.2 | exact hm4.2.1 | exact hm4.2.2.2.2) (by first | assumption | omega | exact hS_2.f | exact hm1.2.1 | exact hm2.2.1 | exact hm3.2.1 | exact hm1.2.2.2.2 | exact hm2.2.2.2.2 | exact hm3.2.2.2.2 | exact hm4.2.1 | exact hm4.2.2.2.2) (by first | assumption | omega | exact hS_2.f | exact hm1.2.1 | exact hm2.2.1 | exact hm3.2.1 | exact hm1.2.2.2.2 | exact hm2.2.2.2.2 | exact hm3.2.2.2.2 | exact hm4.2.1 | exact hm4.2.2.2.2)) rfl rfl rfl rfl rfl trivial (by kernel_rfl) rfl rfl (gives_cons (give_view (c := .own 3 (deck_3.map cardc)) rfl rfl rfl rfl (view_map (fun _ => rfl))) (gives_cons (give_view (c := .own 3 (out_4.map cardc)) rfl rfl rfl rfl (view_map (fun _ => rfl))) (gives_cons (give_view (c := .own 3 (out_4.map cardc)) rfl rfl rfl rfl (view_map (fun _ => rfl))) gives_nil))) rfl (fun _ _ h => .inr (by obtain ⟨h1, h2⟩ := h; subst h1; subst h2; exact ⟨by simp [PV.closed, PV.closedL, closedE_map], by simp [PV.closedL, PV.closed]⟩)) ?_
                rintro _ _ ⟨rfl, rfl⟩
                refine vpOps_pure (x := .lv 139 []) (pure_move_lv rfl) rfl rfl rfl rfl ?_
                refine vpOps_ghost (ghost_own (t := 135) rfl rfl rfl rfl) ?_
                refine vpOps_extract rfl rfl rfl rfl rfl rfl rfl rfl ?_
                refine vpOps_extract rfl rfl rfl rfl rfl rfl rfl rfl ?_
                refine vpOps_assign (x := .own 1 ((conL deck_3 out_4 out_4).map strc)) rfl rfl rfl rfl rfl rfl rfl ?_
                refine vpOps_pure (x := .v (.int .i64 (conC deck_3 out_4 out_4))) (pAs rfl rfl rfl) rfl rfl rfl rfl ?_
                refine vpOps_nil ?_
                refine vp_seq ?_
                refine vp_region ?_
                refine vpOps_pure (x := .lv 6 []) (pure_move_lv rfl) rfl rfl rfl rfl ?_
                refine vpOps_pure (x := .lv 7 []) (pure_move_lv rfl) rfl rfl rfl rfl ?_
                refine vpOps_pure (x := .lv 7 []) (pure_move_lv rfl) rfl rfl rfl rfl ?_
                refine vpOps_call (gs := [⟨.tmp 143, .sh 3 (deck_3.map cardc), none, some 6⟩, ⟨.tmp 144, .sh 3 (out_4.map cardc), none, some 7⟩, ⟨.tmp 145, .sh 3 (out_4.map cardc), none, some 7⟩]) (c_MergeThree deck_3 out_4 out_4 (by first | assumption | omega | exact hS_2.f | exact hm1.2.1 | exact hm2.2.1 | exact hm3.2.1 | exact hm1.2.2.2.2 | exact hm2.2.2.2.2 | exact hm3.2.2.2.2 | exact hm4.2.1 | exact hm4.2.2.2.2) (by first | assumption | omega | exact hS_2.f | exact hm1.2.1 | exact hm2.2.1 | exact hm3.2.1 | exact hm1.2.2.2.2 | exact hm2.2.2.2.2 | exact hm3.2.2.2.2 | exact hm4.2.1 | exact hm4.2.2.2.2) (by first | assumption | omega | exact hS_2.f | exact hm1.2.1 | exact hm2.2.1 | exact hm3.2.1 | exact hm1.2.2.2.2 | exact hm2.2.2.2.2 | exact hm3.2.2.2.2 | exact hm4.2.1 | exact hm4.2.2.2.2) (by first | assumption | omega | exact hS_2.f | exact hm1.2.1 | exact hm2.2.1 | exact hm3.2.1 | exact hm1.2.2.2.2 | exact hm2.2.2.2.2 | exact hm3.2.2.2.2 | exact hm4.2.1 | exact hm4.2.2.2.2) (by first | assumption | omega | exact hS_2.f | exact hm1.2.1 | exact hm2.2.1 | exact hm3.2.1 | exact hm1.2.2.2.2 | exact hm2.2.2.2.2 | exact hm3.2.2.2.2 | exact hm4.2.1 | exact hm4.2.2.2.2) (by first | assumption | omega | exact hS_2.f | exact hm1.2.1 | exact hm2.2.1 | exact hm3.2.1 | exact hm1.2.2.2.2 | exact hm2.2.2.2.2 | exact hm3.2.2.2.2 | exact hm4.2.1 | exact hm4.2.2.2.2)) rfl rfl rfl rfl rfl trivial (by kernel_rfl) rfl rfl (gives_cons (give_view (c := .own 3 (deck_3.map cardc)) rfl rfl rfl rfl (view_map (fun _ => rfl))) (gives_cons (give_view (c := .own 3 (out_4.map cardc)) rfl rfl rfl rfl (view_map (fun _ => rfl))) (gives_cons (give_view (c := .own 3 (out_4.map cardc)) rfl rfl rfl rfl (view_map (fun _ => rfl))) gives_nil))) rfl (fun _ _ h => .inr (by obtain ⟨h1, h2⟩ := h; subst h1; subst h2; exact ⟨by simp [PV.closed, PV.closedL, closedE_map], by simp [PV.closedL, PV.closed]⟩)) ?_
                rintro _ _ ⟨rfl, rfl⟩
                refine vpOps_pure (x := .lv 146 []) (pure_move_lv rfl) rfl rfl rfl rfl ?_
                refine vpOps_ghost (ghost_own (t := 142) rfl rfl rfl rfl) ?_
                refine vpOps_extract rfl rfl rfl rfl rfl rfl rfl rfl ?_
                refine vpOps_extract rfl rfl rfl rfl rfl rfl rfl rfl ?_
                refine vpOps_assign (x := .own 3 ((mrgO deck_3 out_4 out_4).map cardc)) rfl rfl rfl rfl rfl rfl rfl ?_
                refine vpOps_pure (x := .v (.int .i64 (mrgC deck_3 out_4 out_4))) (pAs rfl rfl rfl) rfl rfl rfl rfl ?_
                refine vpOps_nil ?_
                refine vp_seq ?_
                refine vp_region ?_
                refine vpOps_pure (x := .lv 27 []) (pure_move_lv rfl) rfl rfl rfl rfl ?_
                refine vpOps_pure (x := .lv 7 []) (pure_move_lv rfl) rfl rfl rfl rfl ?_
                refine vpOps_call (gs := [⟨.tmp 150, .sh 3 ((mrgO deck_3 out_4 out_4).map cardc), none, some 27⟩, ⟨.tmp 151, .sh 3 (out_4.map cardc), none, some 7⟩]) (c_SameCards (mrgO deck_3 out_4 out_4) out_4 (by first | assumption | omega | exact hS_2.f | exact hm1.2.1 | exact hm2.2.1 | exact hm3.2.1 | exact hm1.2.2.2.2 | exact hm2.2.2.2.2 | exact hm3.2.2.2.2 | exact hm4.2.1 | exact hm4.2.2.2.2) (by first | assumption | omega | exact hS_2.f | exact hm1.2.1 | exact hm2.2.1 | exact hm3.2.1 | exact hm1.2.2.2.2 | exact hm2.2.2.2.2 | exact hm3.2.2.2.2 | exact hm4.2.1 | exact hm4.2.2.2.2) (by first | assumption | omega | exact hS_2.f | exact hm1.2.1 | exact hm2.2.1 | exact hm3.2.1 | exact hm1.2.2.2.2 | exact hm2.2.2.2.2 | exact hm3.2.2.2.2 | exact hm4.2.1 | exact hm4.2.2.2.2) (by first | assumption | omega | exact hS_2.f | exact hm1.2.1 | exact hm2.2.1 | exact hm3.2.1 | exact hm1.2.2.2.2 | exact hm2.2.2.2.2 | exact hm3.2.2.2.2 | exact hm4.2.1 | exact hm4.2.2.2.2)) rfl rfl rfl rfl rfl trivial (by kernel_rfl) rfl rfl (gives_cons (give_view (c := .own 3 ((mrgO deck_3 out_4 out_4).map cardc)) rfl rfl rfl rfl (view_map (fun _ => rfl))) (gives_cons (give_view (c := .own 3 (out_4.map cardc)) rfl rfl rfl rfl (view_map (fun _ => rfl))) gives_nil)) rfl (fun _ _ h => .inr (by obtain ⟨h1, h2⟩ := h; subst h1; subst h2; exact ⟨by simp [PV.closed, PV.closedL, closedE_map], by simp [PV.closedL, PV.closed]⟩)) ?_
                rintro _ _ ⟨rfl, rfl⟩
                refine vpOps_pure (x := .tup [.v (.bool (decide ((deckOk (mrgO deck_3 out_4 out_4) ∧ deckOk out_4) ∧ sameC (mrgO deck_3 out_4 out_4) out_4))), .v (.int .i64 (if deckOk (mrgO deck_3 out_4 out_4) ∧ deckOk out_4 then 0 else 1))]) (pMv rfl rfl rfl) rfl rfl rfl rfl ?_
                refine vpOps_pure (x := .v (.bool (decide ((deckOk (mrgO deck_3 out_4 out_4) ∧ deckOk out_4) ∧ sameC (mrgO deck_3 out_4 out_4) out_4)))) (pure_extract rfl rfl rfl (mvOkL_flat _ rfl)) rfl rfl rfl rfl ?_
                refine vpOps_pure (x := .v (.int .i64 0)) (pEqI (pure_extract rfl rfl rfl (mvOkL_flat _ rfl)) (if_pos ⟨hm3.2.2.1, hda⟩)) rfl rfl rfl rfl ?_
                refine vpOps_pure (x := .v (.bool (decide ((deckOk (mrgO deck_3 out_4 out_4) ∧ deckOk out_4) ∧ sameC (mrgO deck_3 out_4 out_4) out_4)))) (pAs rfl rfl rfl) rfl rfl rfl rfl ?_
                refine vpOps_pure (x := .v (.int .i64 0)) (pAs rfl rfl rfl) rfl rfl rfl rfl ?_
                refine vpOps_nil ?_
                refine vp_seq ?_
                refine vp_seq ?_
                refine vp_region ?_
                refine vpOps_pure (x := .v (.int .i64 (mrgC deck_3 out_4 deck_3))) (pMv rfl rfl rfl) rfl rfl rfl rfl ?_
                refine vpOps_pure (x := .v (.bool (!decide ((mrgC deck_3 out_4 deck_3) = 0)))) (pure_bin rfl rfl rfl rfl) rfl rfl rfl rfl ?_
                refine vpOps_pure (x := .v (.bool (!decide ((mrgC deck_3 out_4 deck_3) = 0)))) (pMv rfl rfl rfl) rfl rfl rfl rfl ?_
                by_cases h8 : (mrgC deck_3 out_4 deck_3) = 0
                · skip
                  refine vRun rfl rfl rfl (not_of_t (decide_eq_true h8)) rfl rfl rfl ?_
                  refine vpOps_pure (x := .v (.int .i64 (mrgC deck_3 deck_3 out_4))) (pMv rfl rfl rfl) rfl rfl rfl rfl ?_
                  refine vRun rfl rfl rfl (not_of_t (decide_eq_true h8)) rfl rfl rfl ?_
                  refine vpOps_pure (x := .v (.bool (!decide ((mrgC deck_3 deck_3 out_4) = 0)))) (pure_bin rfl rfl rfl rfl) rfl rfl rfl rfl ?_
                  refine vpOps_pure (x := .v (.bool (!decide ((mrgC deck_3 deck_3 out_4) = 0)))) (pPf rfl rfl (not_of_t (decide_eq_true h8)) rfl rfl) rfl rfl rfl rfl ?_
                  refine vpOps_pure (x := .v (.bool (!decide ((mrgC deck_3 deck_3 out_4) = 0)))) (pMv rfl rfl rfl) rfl rfl rfl rfl ?_
                  by_cases h9 : (mrgC deck_3 deck_3 out_4) = 0
                  · skip
                    refine vRun rfl rfl rfl (not_of_t (decide_eq_true h9)) rfl rfl rfl ?_
                    refine vpOps_pure (x := .v (.int .i64 0)) (pMv rfl rfl rfl) rfl rfl rfl rfl ?_
                    refine vRun rfl rfl rfl (not_of_t (decide_eq_true h9)) rfl rfl rfl ?_
                    refine vpOps_pure (x := .v (.bool (!decide (0 = 0)))) (pure_bin rfl rfl rfl rfl) rfl rfl rfl rfl ?_
                    refine vpOps_pure (x := .v (.bool (!decide (0 = 0)))) (pPf rfl rfl (not_of_t (decide_eq_true h9)) rfl rfl) rfl rfl rfl rfl ?_
                    refine vpOps_pure (x := .v (.bool (!decide (0 = 0)))) (pMv rfl rfl rfl) rfl rfl rfl rfl ?_
                    refine vRun rfl rfl rfl (not_of_t (decide_eq_true (by decide))) rfl rfl rfl ?_
                    refine vpOps_pure (x := .v (.bool (decide ((deckOk (mrgO deck_3 out_4 deck_3) ∧ deckOk out_4) ∧ sameC (mrgO deck_3 out_4 deck_3) out_4)))) (pMv rfl rfl rfl) rfl rfl rfl rfl ?_
                    refine vRun rfl rfl rfl (not_of_t (decide_eq_true (by decide))) rfl rfl rfl ?_
                    refine vpOps_pure (x := .v (.bool (!decide ((deckOk (mrgO deck_3 out_4 deck_3) ∧ deckOk out_4) ∧ sameC (mrgO deck_3 out_4 deck_3) out_4)))) (pure_not rfl rfl) rfl rfl rfl rfl ?_
                    refine vpOps_pure (x := .v (.bool (!decide ((deckOk (mrgO deck_3 out_4 deck_3) ∧ deckOk out_4) ∧ sameC (mrgO deck_3 out_4 deck_3) out_4)))) (pPf rfl rfl (not_of_t (decide_eq_true (by decide))) rfl rfl) rfl rfl rfl rfl ?_
                    refine vpOps_pure (x := .v (.bool (!decide ((deckOk (mrgO deck_3 out_4 deck_3) ∧ deckOk out_4) ∧ sameC (mrgO deck_3 out_4 deck_3) out_4)))) (pMv rfl rfl rfl) rfl rfl rfl rfl ?_
                    by_cases h10 : (deckOk (mrgO deck_3 out_4 deck_3) ∧ deckOk out_4) ∧ sameC (mrgO deck_3 out_4 deck_3) out_4
                    · skip
                      refine vRun rfl rfl rfl (not_of_t (decide_eq_true h10)) rfl rfl rfl ?_
                      refine vpOps_pure (x := .v (.int .i64 0)) (pMv rfl rfl rfl) rfl rfl rfl rfl ?_
                      refine vRun rfl rfl rfl (not_of_t (decide_eq_true h10)) rfl rfl rfl ?_
                      refine vpOps_pure (x := .v (.bool (!decide (0 = 0)))) (pure_bin rfl rfl rfl rfl) rfl rfl rfl rfl ?_
                      refine vpOps_pure (x := .v (.bool (!decide (0 = 0)))) (pPf rfl rfl (not_of_t (decide_eq_true h10)) rfl rfl) rfl rfl rfl rfl ?_
                      refine vpOps_pure (x := .v (.bool (!decide (0 = 0)))) (pMv rfl rfl rfl) rfl rfl rfl rfl ?_
                      refine vRun rfl rfl rfl (not_of_t (decide_eq_true (by decide))) rfl rfl rfl ?_
                      refine vpOps_pure (x := .v (.bool (decide ((deckOk (mrgO deck_3 deck_3 out_4) ∧ deckOk out_4) ∧ sameC (mrgO deck_3 deck_3 out_4) out_4)))) (pMv rfl rfl rfl) rfl rfl rfl rfl ?_
                      refine vRun rfl rfl rfl (not_of_t (decide_eq_true (by decide))) rfl rfl rfl ?_
                      refine vpOps_pure (x := .v (.bool (!decide ((deckOk (mrgO deck_3 deck_3 out_4) ∧ deckOk out_4) ∧ sameC (mrgO deck_3 deck_3 out_4) out_4)))) (pure_not rfl rfl) rfl rfl rfl rfl ?_
                      refine vpOps_pure (x := .v (.bool (!decide ((deckOk (mrgO deck_3 deck_3 out_4) ∧ deckOk out_4) ∧ sameC (mrgO deck_3 deck_3 out_4) out_4)))) (pPf rfl rfl (not_of_t (decide_eq_true (by decide))) rfl rfl) rfl rfl rfl rfl ?_
                      refine vpOps_pure (x := .v (.bool (!decide ((deckOk (mrgO deck_3 deck_3 out_4) ∧ deckOk out_4) ∧ sameC (mrgO deck_3 deck_3 out_4) out_4)))) (pMv rfl rfl rfl) rfl rfl rfl rfl ?_
                      by_cases h11 : (deckOk (mrgO deck_3 deck_3 out_4) ∧ deckOk out_4) ∧ sameC (mrgO deck_3 deck_3 out_4) out_4
                      · skip
                        refine vRun rfl rfl rfl (not_of_t (decide_eq_true h11)) rfl rfl rfl ?_
                        refine vpOps_pure (x := .v (.int .i64 (conC deck_3 out_4 out_4))) (pMv rfl rfl rfl) rfl rfl rfl rfl ?_
                        refine vRun rfl rfl rfl (not_of_t (decide_eq_true h11)) rfl rfl rfl ?_
                        refine vpOps_pure (x := .v (.bool (!decide ((conC deck_3 out_4 out_4) = 0)))) (pure_bin rfl rfl rfl rfl) rfl rfl rfl rfl ?_
                        refine vpOps_pure (x := .v (.bool (!decide ((conC deck_3 out_4 out_4) = 0)))) (pPf rfl rfl (not_of_t (decide_eq_true h11)) rfl rfl) rfl rfl rfl rfl ?_
                        refine vpOps_pure (x := .v (.bool (!decide ((conC deck_3 out_4 out_4) = 0)))) (pMv rfl rfl rfl) rfl rfl rfl rfl ?_
                        by_cases h12 : (conC deck_3 out_4 out_4) = 0
                        · skip
                          refine vRun rfl rfl rfl (not_of_t (decide_eq_true h12)) rfl rfl rfl ?_
                          refine vpOps_pure (x := .lv 25 []) (pure_move_lv rfl) rfl rfl rfl rfl ?_
                          refine vRun rfl rfl rfl (not_of_t (decide_eq_true h12)) rfl rfl rfl ?_
                          refine vpOps_pure (x := .v (.int .i64 (((((conL deck_3 out_4 out_4).length) : Nat) : Int)))) (pLenR rfl rfl rfl rfl rfl (List.length_map _)) rfl rfl rfl rfl ?_
                          refine vRun rfl rfl rfl (not_of_t (decide_eq_true h12)) rfl rfl rfl ?_
                          refine vpOps_pure (x := .v (.bool (!decide ((((((conL deck_3 out_4 out_4).length) : Nat) : Int)) = 0)))) (pure_bin rfl rfl rfl rfl) rfl rfl rfl rfl ?_
                          refine vpOps_pure (x := .v (.bool (!decide ((((((conL deck_3 out_4 out_4).length) : Nat) : Int)) = 0)))) (pPf rfl rfl (not_of_t (decide_eq_true h12)) rfl rfl) rfl rfl rfl rfl ?_
                          refine vpOps_pure (x := .v (.bool (!decide ((((((conL deck_3 out_4 out_4).length) : Nat) : Int)) = 0)))) (pMv rfl rfl rfl) rfl rfl rfl rfl ?_
                          by_cases h13 : (((((conL deck_3 out_4 out_4).length) : Nat) : Int)) = 0
                          · skip
                            refine vRun rfl rfl rfl (not_of_t (decide_eq_true h13)) rfl rfl rfl ?_
                            refine vpOps_pure (x := .v (.int .i64 (mrgC deck_3 out_4 out_4))) (pMv rfl rfl rfl) rfl rfl rfl rfl ?_
                            refine vRun rfl rfl rfl (not_of_t (decide_eq_true h13)) rfl rfl rfl ?_
                            refine vpOps_pure (x := .v (.bool (!decide ((mrgC deck_3 out_4 out_4) = 0)))) (pure_bin rfl rfl rfl rfl) rfl rfl rfl rfl ?_
                            refine vpOps_pure (x := .v (.bool (!decide ((mrgC deck_3 out_4 out_4) = 0)))) (pPf rfl rfl (not_of_t (decide_eq_true h13)) rfl rfl) rfl rfl rfl rfl ?_
                            refine vpOps_pure (x := .v (.bool (!decide ((mrgC deck_3 out_4 out_4) = 0)))) (pMv rfl rfl rfl) rfl rfl rfl rfl ?_
                            by_cases h14 : (mrgC deck_3 out_4 out_4) = 0
                            · skip
                              refine vRun rfl rfl rfl (not_of_t (decide_eq_true h14)) rfl rfl rfl ?_
                              refine vpOps_pure (x := .v (.int .i64 0)) (pMv rfl rfl rfl) rfl rfl rfl rfl ?_
                              refine vRun rfl rfl rfl (not_of_t (decide_eq_true h14)) rfl rfl rfl ?_
                              refine vpOps_pure (x := .v (.bool (!decide (0 = 0)))) (pure_bin rfl rfl rfl rfl) rfl rfl rfl rfl ?_
                              refine vpOps_pure (x := .v (.bool (!decide (0 = 0)))) (pPf rfl rfl (not_of_t (decide_eq_true h14)) rfl rfl) rfl rfl rfl rfl ?_
                              refine vpOps_pure (x := .v (.bool (!decide (0 = 0)))) (pMv rfl rfl rfl) rfl rfl rfl rfl ?_
                              refine vRun rfl rfl rfl (not_of_t (decide_eq_true (by decide))) rfl rfl rfl ?_
                              refine vpOps_pure (x := .v (.bool (decide ((deckOk (mrgO deck_3 out_4 out_4) ∧ deckOk out_4) ∧ sameC (mrgO deck_3 out_4 out_4) out_4)))) (pMv rfl rfl rfl) rfl rfl rfl rfl ?_
                              refine vRun rfl rfl rfl (not_of_t (decide_eq_true (by decide))) rfl rfl rfl ?_
                              refine vpOps_pure (x := .v (.bool (!decide ((deckOk (mrgO deck_3 out_4 out_4) ∧ deckOk out_4) ∧ sameC (mrgO deck_3 out_4 out_4) out_4)))) (pure_not rfl rfl) rfl rfl rfl rfl ?_
                              refine vpOps_pure (x := .v (.bool (!decide ((deckOk (mrgO deck_3 out_4 out_4) ∧ deckOk out_4) ∧ sameC (mrgO deck_3 out_4 out_4) out_4)))) (pPf rfl rfl (not_of_t (decide_eq_true (by decide))) rfl rfl) rfl rfl rfl rfl ?_
                              refine vpOps_nil ?_
                              refine vIfN rfl (fun h15 => ?_) (fun h15 => ?_)
                              · skip
                                refine vp_seq ?_
                                refine vp_region ?_
                                refine vpOps_pure (x := .v (.bool (false))) (pAs rfl rfl rfl) rfl rfl rfl rfl ?_
                                refine vpOps_nil ?_
                                refine vp_ret ?_
                                exact ⟨[.v (.bool (false))], [4], (.cons (.tmp rfl rfl) .nil), rfl, ⟨(show (.v (.bool (false)) : PV) = .v (.bool (true)) from (by first | with_reducible rfl | (exfalso; omega) | exact absurd (con_ok hK).2 (by assumption) | exact absurd (con_ok hK3).2 (by assumption) | exact absurd (rfl : mrgO deck_3 out_4 out_5 = mrgO deck_3 out_4 out_5) (by assumption) | exact absurd (rfl : conL deck_3 out_4 out_5 = conL deck_3 out_4 out_5) (by assumption) | exact ne_dec hdue (by assumption) | exact absurd hs1 (by assumption) | exact absurd hs2 (by assumption) | exact absurd hs3 (by assumption) | exact (dec_t (hs4 (by omega))).symm | exact (dec_t (by omega)).symm)), rfl⟩⟩
                              · skip
                                refine vp_skip ?_
                                refine vp_seq ?_
                                refine vp_seq ?_
                                refine vp_region ?_
                                refine vpOps_pure (x := .v (.int .i64 (mrgC deck_3 out_4 out_5))) (pMv rfl rfl rfl) rfl rfl rfl rfl ?_
                                refine vpOps_pure (x := .v (.bool (!decide ((mrgC deck_3 out_4 out_5) = 0)))) (pure_bin rfl rfl rfl rfl) rfl rfl rfl rfl ?_
                                refine vpOps_nil ?_
                                refine vIfN rfl (fun h16 => ?_) (fun h16 => ?_)
                                · skip
                                  refine vp_seq ?_
                                  refine vp_region ?_
                                  refine vpOps_pure (x := .v (.int .i64 (mrgC deck_3 out_4 out_5))) (pMv rfl rfl rfl) rfl rfl rfl rfl ?_
                                  refine vpOps_pure (x := .v (.bool (decide ((mrgC deck_3 out_4 out_5) = 8)))) (pure_bin rfl rfl rfl rfl) rfl rfl rfl rfl ?_
                                  refine vpOps_pure (x := .v (.bool (decide ((mrgC deck_3 out_4 out_5) = 8)))) (pAs rfl rfl rfl) rfl rfl rfl rfl ?_
                                  refine vpOps_nil ?_
                                  refine vp_ret ?_
                                  exact ⟨[.v (.bool (decide ((mrgC deck_3 out_4 out_5) = 8)))], [4], (.cons (.tmp rfl rfl) .nil), rfl, ⟨(show (.v (.bool (decide ((mrgC deck_3 out_4 out_5) = 8))) : PV) = .v (.bool (true)) from (by first | with_reducible rfl | (exfalso; omega) | exact absurd (con_ok hK).2 (by assumption) | exact absurd (con_ok hK3).2 (by assumption) | exact absurd (rfl : mrgO deck_3 out_4 out_5 = mrgO deck_3 out_4 out_5) (by assumption) | exact absurd (rfl : conL deck_3 out_4 out_5 = conL deck_3 out_4 out_5) (by assumption) | exact ne_dec hdue (by assumption) | exact absurd hs1 (by assumption) | exact absurd hs2 (by assumption) | exact absurd hs3 (by assumption) | exact (dec_t (hs4 (by omega))).symm | exact (dec_t (by omega)).symm)), rfl⟩⟩
                                · skip
                                  refine vp_skip ?_
                                  refine vp_seq ?_
                                  refine vp_region ?_
                                  refine vpOps_pure (x := .lv 6 []) (pure_move_lv rfl) rfl rfl rfl rfl ?_
                                  refine vpOps_pure (x := .lv 8 []) (pure_move_lv rfl) rfl rfl rfl rfl ?_
                                  refine vpOps_pure (x := .lv 7 []) (pure_move_lv rfl) rfl rfl rfl rfl ?_
                                  have hm4 := mrg_4 hK hl3 hwa hwb (by omega)
                                  have hmd : deckOk (mrgO deck_3 out_4 out_5) := (by rcases hnum with q | q; exact absurd q.1 (by omega); exact q.2.2.2.2.1)
                                  refine vpOps_call (gs := [⟨.tmp 203, .sh 3 (deck_3.map cardc), none, some 6⟩, ⟨.tmp 204, .sh 3 (out_5.map cardc), none, some 8⟩, ⟨.tmp 205, .sh 3 (out_4.map cardc), none, some 7⟩]) (c_MergeThree deck_3 out_5 out_4 (by first | assumption | omega | exact hS_2.f | exact hm1.2.1 | exact hm2.2.1 | exact hm3.2.1 | exact hm1.2.2.2.2 | exact hm2.2.2.2.2 | exact hm3.2.2.2.2 | exact hm4.2.1 | exact hm4.2.2.2.2) (by first | assumption | omega | exact hS_2.f | exact hm1.2.1 | exact hm2.2.1 | exact hm3.2.1 | exact hm1.2.2.2.2 | exact hm2.2.2.2.2 | exact hm3.2.2.2.2 | exact hm4.2.1 | exact hm4.2.2.2.2) (by first | assumption | omega | exact hS_2.f | exact hm1.2.1 | exact hm2.2.1 | exact hm3.2.1 | exact hm1.2.2.2.2 | exact hm2.2.2.2.2 | exact hm3.2.2.2.2 | exact hm4.2.1 | exact hm4.2.2.2.2) (by first | assumption | omega | exact hS_2.f | exact hm1.2.1 | exact hm2.2.1 | exact hm3.2.1 | exact hm1.2.2.2.2 | exact hm2.2.2.2.2 | exact hm3.2.2.2.2 | exact hm4.2.1 | exact hm4.2.2.2.2) (by first | assumption | omega | exact hS_2.f | exact hm1.2.1 | exact hm2.2.1 | exact hm3.2.1 | exact hm1.2.2.2.2 | exact hm2.2.2.2.2 | exact hm3.2.2.2.2 | exact hm4.2.1 | exact hm4.2.2.2.2) (by first | assumption | omega | exact hS_2.f | exact hm1.2.1 | exact hm2.2.1 | exact hm3.2.1 | exact hm1.2.2.2.2 | exact hm2.2.2.2.2 | exact hm3.2.2.2.2 | exact hm4.2.1 | exact hm4.2.2.2.2)) rfl rfl rfl rfl rfl trivial (by kernel_rfl) rfl rfl (gives_cons (give_view (c := .own 3 (deck_3.map cardc)) rfl rfl rfl rfl (view_map (fun _ => rfl))) (gives_cons (give_view (c := .own 3 (out_5.map cardc)) rfl rfl rfl rfl (view_map (fun _ => rfl))) (gives_cons (give_view (c := .own 3 (out_4.map cardc)) rfl rfl rfl rfl (view_map (fun _ => rfl))) gives_nil))) rfl (fun _ _ h => .inr (by obtain ⟨h1, h2⟩ := h; subst h1; subst h2; exact ⟨by simp [PV.closed, PV.closedL, closedE_map], by simp [PV.closedL, PV.closed]⟩)) ?_
                                  rintro _ _ ⟨rfl, rfl⟩
                                  refine vpOps_pure (x := .lv 206 []) (pure_move_lv rfl) rfl rfl rfl rfl ?_
                                  refine vpOps_ghost (ghost_own (t := 202) rfl rfl rfl rfl) ?_
                                  refine vpOps_extract rfl rfl rfl rfl rfl rfl rfl rfl ?_
                                  refine vpOps_extract rfl rfl rfl rfl rfl rfl rfl rfl ?_
                                  refine vpOps_assign (x := .own 3 ((mrgO deck_3 out_5 out_4).map cardc)) rfl rfl rfl rfl rfl rfl rfl ?_
                                  refine vpOps_pure (x := .v (.int .i64 (mrgC deck_3 out_5 out_4))) (pAs rfl rfl rfl) rfl rfl rfl rfl ?_
                                  refine vpOps_nil ?_
                                  refine vp_seq ?_
                                  refine vp_region ?_
                                  refine vpOps_pure (x := .lv 31 []) (pure_move_lv rfl) rfl rfl rfl rfl ?_
                                  refine vpOps_pure (x := .lv 15 []) (pure_move_lv rfl) rfl rfl rfl rfl ?_
                                  refine vpOps_call (gs := [⟨.tmp 210, .sh 3 ((mrgO deck_3 out_5 out_4).map cardc), none, some 31⟩, ⟨.tmp 211, .sh 3 ((mrgO deck_3 out_4 out_5).map cardc), none, some 15⟩]) (c_SameCards (mrgO deck_3 out_5 out_4) (mrgO deck_3 out_4 out_5) (by first | assumption | omega | exact hS_2.f | exact hm1.2.1 | exact hm2.2.1 | exact hm3.2.1 | exact hm1.2.2.2.2 | exact hm2.2.2.2.2 | exact hm3.2.2.2.2 | exact hm4.2.1 | exact hm4.2.2.2.2) (by first | assumption | omega | exact hS_2.f | exact hm1.2.1 | exact hm2.2.1 | exact hm3.2.1 | exact hm1.2.2.2.2 | exact hm2.2.2.2.2 | exact hm3.2.2.2.2 | exact hm4.2.1 | exact hm4.2.2.2.2) (by first | assumption | omega | exact hS_2.f | exact hm1.2.1 | exact hm2.2.1 | exact hm3.2.1 | exact hm1.2.2.2.2 | exact hm2.2.2.2.2 | exact hm3.2.2.2.2 | exact hm4.2.1 | exact hm4.2.2.2.2) (by first | assumption | omega | exact hS_2.f | exact hm1.2.1 | exact hm2.2.1 | exact hm3.2.1 | exact hm1.2.2.2.2 | exact hm2.2.2.2.2 | exact hm3.2.2.2.2 | exact hm4.2.1 | exact hm4.2.2.2.2)) rfl rfl rfl rfl rfl trivial (by kernel_rfl) rfl rfl (gives_cons (give_view (c := .own 3 ((mrgO deck_3 out_5 out_4).map cardc)) rfl rfl rfl rfl (view_map (fun _ => rfl))) (gives_cons (give_view (c := .own 3 ((mrgO deck_3 out_4 out_5).map cardc)) rfl rfl rfl rfl (view_map (fun _ => rfl))) gives_nil)) rfl (fun _ _ h => .inr (by obtain ⟨h1, h2⟩ := h; subst h1; subst h2; exact ⟨by simp [PV.closed, PV.closedL, closedE_map], by simp [PV.closedL, PV.closed]⟩)) ?_
                                  rintro _ _ ⟨rfl, rfl⟩
                                  refine vpOps_pure (x := .tup [.v (.bool (decide ((deckOk (mrgO deck_3 out_5 out_4) ∧ deckOk (mrgO deck_3 out_4 out_5)) ∧ sameC (mrgO deck_3 out_5 out_4) (mrgO deck_3 out_4 out_5)))), .v (.int .i64 (if deckOk (mrgO deck_3 out_5 out_4) ∧ deckOk (mrgO deck_3 out_4 out_5) then 0 else 1))]) (pMv rfl rfl rfl) rfl rfl rfl rfl ?_
                                  refine vpOps_pure (x := .v (.bool (decide ((deckOk (mrgO deck_3 out_5 out_4) ∧ deckOk (mrgO deck_3 out_4 out_5)) ∧ sameC (mrgO deck_3 out_5 out_4) (mrgO deck_3 out_4 out_5))))) (pure_extract rfl rfl rfl (mvOkL_flat _ rfl)) rfl rfl rfl rfl ?_
                                  refine vpOps_pure (x := .v (.int .i64 0)) (pEqI (pure_extract rfl rfl rfl (mvOkL_flat _ rfl)) (if_pos ⟨hm4.2.2.1, hmd⟩)) rfl rfl rfl rfl ?_
                                  refine vpOps_pure (x := .v (.bool (decide ((deckOk (mrgO deck_3 out_5 out_4) ∧ deckOk (mrgO deck_3 out_4 out_5)) ∧ sameC (mrgO deck_3 out_5 out_4) (mrgO deck_3 out_4 out_5))))) (pAs rfl rfl rfl) rfl rfl rfl rfl ?_
                                  refine vpOps_pure (x := .v (.int .i64 0)) (pAs rfl rfl rfl) rfl rfl rfl rfl ?_
                                  refine vpOps_nil ?_
                                  refine vp_seq ?_
                                  refine vp_region ?_
                                  refine vpOps_pure (x := .v (.int .i64 (mrgC deck_3 out_5 out_4))) (pMv rfl rfl rfl) rfl rfl rfl rfl ?_
                                  refine vpOps_pure (x := .v (.bool (decide ((mrgC deck_3 out_5 out_4) = 0)))) (pure_bin rfl rfl rfl rfl) rfl rfl rfl rfl ?_
                                  refine vpOps_pure (x := .v (.bool (decide ((mrgC deck_3 out_5 out_4) = 0)))) (pMv rfl rfl rfl) rfl rfl rfl rfl ?_
                                  by_cases h17 : (mrgC deck_3 out_5 out_4) = 0
                                  · skip
                                    refine vRun rfl rfl rfl (decide_eq_true h17) rfl rfl rfl ?_
                                    refine vpOps_pure (x := .v (.int .i64 0)) (pMv rfl rfl rfl) rfl rfl rfl rfl ?_
                                    refine vRun rfl rfl rfl (decide_eq_true h17) rfl rfl rfl ?_
                                    refine vpOps_pure (x := .v (.bool (decide (0 = 0)))) (pure_bin rfl rfl rfl rfl) rfl rfl rfl rfl ?_
                                    refine vpOps_pure (x := .v (.bool (decide (0 = 0)))) (pPt rfl rfl (decide_eq_true h17) rfl rfl) rfl rfl rfl rfl ?_
                                    refine vpOps_pure (x := .v (.bool (decide (0 = 0)))) (pMv rfl rfl rfl) rfl rfl rfl rfl ?_
                                    refine vRun rfl rfl rfl (decide_eq_true (by decide)) rfl rfl rfl ?_
                                    refine vpOps_pure (x := .v (.bool (decide ((deckOk (mrgO deck_3 out_5 out_4) ∧ deckOk (mrgO deck_3 out_4 out_5)) ∧ sameC (mrgO deck_3 out_5 out_4) (mrgO deck_3 out_4 out_5))))) (pMv rfl rfl rfl) rfl rfl rfl rfl ?_
                                    refine vpOps_pure (x := .v (.bool (decide ((deckOk (mrgO deck_3 out_5 out_4) ∧ deckOk (mrgO deck_3 out_4 out_5)) ∧ sameC (mrgO deck_3 out_5 out_4) (mrgO deck_3 out_4 out_5))))) (pPt rfl rfl (decide_eq_true (by decide)) rfl rfl) rfl rfl rfl rfl ?_
                                    refine vpOps_pure (x := .v (.bool (decide ((deckOk (mrgO deck_3 out_5 out_4) ∧ deckOk (mrgO deck_3 out_4 out_5)) ∧ sameC (mrgO deck_3 out_5 out_4) (mrgO deck_3 out_4 out_5))))) (pAs rfl rfl rfl) rfl rfl rfl rfl ?_
                                    refine vpOps_nil ?_
                                    refine vp_ret ?_
                                    exact ⟨[.v (.bool (decide ((deckOk (mrgO deck_3 out_5 out_4) ∧ deckOk (mrgO deck_3 out_4 out_5)) ∧ sameC (mrgO deck_3 out_5 out_4) (mrgO deck_3 out_4 out_5))))], [4], (.cons (.tmp rfl rfl) .nil), rfl, ⟨(show (.v (.bool (decide ((deckOk (mrgO deck_3 out_5 out_4) ∧ deckOk (mrgO deck_3 out_4 out_5)) ∧ sameC (mrgO deck_3 out_5 out_4) (mrgO deck_3 out_4 out_5)))) : PV) = .v (.bool (true)) from (by first | with_reducible rfl | (exfalso; omega) | exact absurd (con_ok hK).2 (by assumption) | exact absurd (con_ok hK3).2 (by assumption) | exact absurd (rfl : mrgO deck_3 out_4 out_5 = mrgO deck_3 out_4 out_5) (by assumption) | exact absurd (rfl : conL deck_3 out_4 out_5 = conL deck_3 out_4 out_5) (by assumption) | exact ne_dec hdue (by assumption) | exact absurd hs1 (by assumption) | exact absurd hs2 (by assumption) | exact absurd hs3 (by assumption) | exact (dec_t (hs4 (by omega))).symm | exact (dec_t (by omega)).symm)), rfl⟩⟩
                                  · skip
                                    refine vPass rfl rfl rfl (decide_eq_false h17) rfl rfl rfl ?_
                                    refine vPass rfl rfl rfl (decide_eq_false h17) rfl rfl rfl ?_
                                    refine vpOps_pure (x := .v (.bool (false))) (pPf rfl rfl (decide_eq_false h17) rfl rfl) rfl rfl rfl rfl ?_
                                    refine vpOps_pure (x := .v (.bool (false))) (pMv rfl rfl rfl) rfl rfl rfl rfl ?_
                                    refine vPass rfl rfl rfl rfl rfl rfl rfl ?_
                                    refine vpOps_pure (x := .v (.bool (false))) (pPf rfl rfl rfl rfl rfl) rfl rfl rfl rfl ?_
                                    refine vpOps_pure (x := .v (.bool (false))) (pAs rfl rfl rfl) rfl rfl rfl rfl ?_
                                    refine vpOps_nil ?_
                                    refine vp_ret ?_
                                    exact ⟨[.v (.bool (false))], [4], (.cons (.tmp rfl rfl) .nil), rfl, ⟨(show (.v (.bool (false)) : PV) = .v (.bool (true)) from (by first | with_reducible rfl | (exfalso; omega) | exact absurd (con_ok hK).2 (by assumption) | exact absurd (con_ok hK3).2 (by assumption) | exact absurd (rfl : mrgO deck_3 out_4 out_5 = mrgO deck_3 out_4 out_5) (by assumption) | exact absurd (rfl : conL deck_3 out_4 out_5 = conL deck_3 out_4 out_5) (by assumption) | exact ne_dec hdue (by assumption) | exact absurd hs1 (by assumption) | exact absurd hs2 (by assumption) | exact absurd hs3 (by assumption) | exact (dec_t (hs4 (by omega))).symm | exact (dec_t (by omega)).symm)), rfl⟩⟩
                            · skip
                              refine vPass rfl rfl rfl (not_of_f (decide_eq_false h14)) rfl rfl rfl ?_
                              refine vPass rfl rfl rfl (not_of_f (decide_eq_false h14)) rfl rfl rfl ?_
                              refine vpOps_pure (x := .v (.bool (true))) (pPt rfl rfl (not_of_f (decide_eq_false h14)) rfl rfl) rfl rfl rfl rfl ?_
                              refine vpOps_pure (x := .v (.bool (true))) (pMv rfl rfl rfl) rfl rfl rfl rfl ?_
                              refine vPass rfl rfl rfl rfl rfl rfl rfl ?_
                              refine vPass rfl rfl rfl rfl rfl rfl rfl ?_
                              refine vpOps_pure (x := .v (.bool (true))) (pPt rfl rfl rfl rfl rfl) rfl rfl rfl rfl ?_
                              refine vpOps_nil ?_
                              refine vIfT rfl rfl ?_
                              refine vp_seq ?_
                              refine vp_region ?_
                              refine vpOps_pure (x := .v (.bool (false))) (pAs rfl rfl rfl) rfl rfl rfl rfl ?_
                              refine vpOps_nil ?_
                              refine vp_ret ?_
                              exact ⟨[.v (.bool (false))], [4], (.cons (.tmp rfl rfl) .nil), rfl, ⟨(show (.v (.bool (false)) : PV) = .v (.bool (true)) from (by first | with_reducible rfl | (exfalso; omega) | exact absurd (con_ok hK).2 (by assumption) | exact absurd (con_ok hK3).2 (by assumption) | exact absurd (rfl : mrgO deck_3 out_4 out_5 = mrgO deck_3 out_4 out_5) (by assumption) | exact absurd (rfl : conL deck_3 out_4 out_5 = conL deck_3 out_4 out_5) (by assumption) | exact ne_dec hdue (by assumption) | exact absurd hs1 (by assumption) | exact absurd hs2 (by assumption) | exact absurd hs3 (by assumption) | exact (dec_t (hs4 (by omega))).symm | exact (dec_t (by omega)).symm)), rfl⟩⟩
                          · skip
                            refine vPass rfl rfl rfl (not_of_f (decide_eq_false h13)) rfl rfl rfl ?_
                            refine vPass rfl rfl rfl (not_of_f (decide_eq_false h13)) rfl rfl rfl ?_
                            refine vpOps_pure (x := .v (.bool (true))) (pPt rfl rfl (not_of_f (decide_eq_false h13)) rfl rfl) rfl rfl rfl rfl ?_
                            refine vpOps_pure (x := .v (.bool (true))) (pMv rfl rfl rfl) rfl rfl rfl rfl ?_
                            refine vPass rfl rfl rfl rfl rfl rfl rfl ?_
                            refine vPass rfl rfl rfl rfl rfl rfl rfl ?_
                            refine vpOps_pure (x := .v (.bool (true))) (pPt rfl rfl rfl rfl rfl) rfl rfl rfl rfl ?_
                            refine vpOps_pure (x := .v (.bool (true))) (pMv rfl rfl rfl) rfl rfl rfl rfl ?_
                            refine vPass rfl rfl rfl rfl rfl rfl rfl ?_
                            refine vPass rfl rfl rfl rfl rfl rfl rfl ?_
                            refine vpOps_pure (x := .v (.bool (true))) (pPt rfl rfl rfl rfl rfl) rfl rfl rfl rfl ?_
                            refine vpOps_nil ?_
                            refine vIfT rfl rfl ?_
                            refine vp_seq ?_
                            refine vp_region ?_
                            refine vpOps_pure (x := .v (.bool (false))) (pAs rfl rfl rfl) rfl rfl rfl rfl ?_
                            refine vpOps_nil ?_
                            refine vp_ret ?_
                            exact ⟨[.v (.bool (false))], [4], (.cons (.tmp rfl rfl) .nil), rfl, ⟨(show (.v (.bool (false)) : PV) = .v (.bool (true)) from (by first | with_reducible rfl | (exfalso; omega) | exact absurd (con_ok hK).2 (by assumption) | exact absurd (con_ok hK3).2 (by assumption) | exact absurd (rfl : mrgO deck_3 out_4 out_5 = mrgO deck_3 out_4 out_5) (by assumption) | exact absurd (rfl : conL deck_3 out_4 out_5 = conL deck_3 out_4 out_5) (by assumption) | exact ne_dec hdue (by assumption) | exact absurd hs1 (by assumption) | exact absurd hs2 (by assumption) | exact absurd hs3 (by assumption) | exact (dec_t (hs4 (by omega))).symm | exact (dec_t (by omega)).symm)), rfl⟩⟩
                        · skip
                          refine vPass rfl rfl rfl (not_of_f (decide_eq_false h12)) rfl rfl rfl ?_
                          refine vPass rfl rfl rfl (not_of_f (decide_eq_false h12)) rfl rfl rfl ?_
                          refine vPass rfl rfl rfl (not_of_f (decide_eq_false h12)) rfl rfl rfl ?_
                          refine vpOps_pure (x := .v (.bool (true))) (pPt rfl rfl (not_of_f (decide_eq_false h12)) rfl rfl) rfl rfl rfl rfl ?_
                          refine vpOps_pure (x := .v (.bool (true))) (pMv rfl rfl rfl) rfl rfl rfl rfl ?_
                          refine vPass rfl rfl rfl rfl rfl rfl rfl ?_
                          refine vPass rfl rfl rfl rfl rfl rfl rfl ?_
                          refine vpOps_pure (x := .v (.bool (true))) (pPt rfl rfl rfl rfl rfl) rfl rfl rfl rfl ?_
                          refine vpOps_pure (x := .v (.bool (true))) (pMv rfl rfl rfl) rfl rfl rfl rfl ?_
                          refine vPass rfl rfl rfl rfl rfl rfl rfl ?_
                          refine vPass rfl rfl rfl rfl rfl rfl rfl ?_
                          refine vpOps_pure (x := .v (.bool (true))) (pPt rfl rfl rfl rfl rfl) rfl rfl rfl rfl ?_
                          refine vpOps_pure (x := .v (.bool (true))) (pMv rfl rfl rfl) rfl rfl rfl rfl ?_
                          refine vPass rfl rfl rfl rfl rfl rfl rfl ?_
                          refine vPass rfl rfl rfl rfl rfl rfl rfl ?_
                          refine vpOps_pure (x := .v (.bool (true))) (pPt rfl rfl rfl rfl rfl) rfl rfl rfl rfl ?_
                          refine vpOps_nil ?_
                          refine vIfT rfl rfl ?_
                          refine vp_seq ?_
                          refine vp_region ?_
                          refine vpOps_pure (x := .v (.bool (false))) (pAs rfl rfl rfl) rfl rfl rfl rfl ?_
                          refine vpOps_nil ?_
                          refine vp_ret ?_
                          exact ⟨[.v (.bool (false))], [4], (.cons (.tmp rfl rfl) .nil), rfl, ⟨(show (.v (.bool (false)) : PV) = .v (.bool (true)) from (by first | with_reducible rfl | (exfalso; omega) | exact absurd (con_ok hK).2 (by assumption) | exact absurd (con_ok hK3).2 (by assumption) | exact absurd (rfl : mrgO deck_3 out_4 out_5 = mrgO deck_3 out_4 out_5) (by assumption) | exact absurd (rfl : conL deck_3 out_4 out_5 = conL deck_3 out_4 out_5) (by assumption) | exact ne_dec hdue (by assumption) | exact absurd hs1 (by assumption) | exact absurd hs2 (by assumption) | exact absurd hs3 (by assumption) | exact (dec_t (hs4 (by omega))).symm | exact (dec_t (by omega)).symm)), rfl⟩⟩
                      · skip
                        refine vPass rfl rfl rfl (not_of_f (decide_eq_false h11)) rfl rfl rfl ?_
                        refine vPass rfl rfl rfl (not_of_f (decide_eq_false h11)) rfl rfl rfl ?_
                        refine vpOps_pure (x := .v (.bool (true))) (pPt rfl rfl (not_of_f (decide_eq_false h11)) rfl rfl) rfl rfl rfl rfl ?_
                        refine vpOps_pure (x := .v (.bool (true))) (pMv rfl rfl rfl) rfl rfl rfl rfl ?_
                        refine vPass rfl rfl rfl rfl rfl rfl rfl ?_
                        refine vPass rfl rfl rfl rfl rfl rfl rfl ?_
                        refine vPass rfl rfl rfl rfl rfl rfl rfl ?_
                        refine vpOps_pure (x := .v (.bool (true))) (pPt rfl rfl rfl rfl rfl) rfl rfl rfl rfl ?_
                        refine vpOps_pure (x := .v (.bool (true))) (pMv rfl rfl rfl) rfl rfl rfl rfl ?_
                        refine vPass rfl rfl rfl rfl rfl rfl rfl ?_
                        refine vPass rfl rfl rfl rfl rfl rfl rfl ?_
                        refine vpOps_pure (x := .v (.bool (true))) (pPt rfl rfl rfl rfl rfl) rfl rfl rfl rfl ?_
                        refine vpOps_pure (x := .v (.bool (true))) (pMv rfl rfl rfl) rfl rfl rfl rfl ?_
                        refine vPass rfl rfl rfl rfl rfl rfl rfl ?_
                        refine vPass rfl rfl rfl rfl rfl rfl rfl ?_
                        refine vpOps_pure (x := .v (.bool (true))) (pPt rfl rfl rfl rfl rfl) rfl rfl rfl rfl ?_
                        refine vpOps_pure (x := .v (.bool (true))) (pMv rfl rfl rfl) rfl rfl rfl rfl ?_
                        refine vPass rfl rfl rfl rfl rfl rfl rfl ?_
                        refine vPass rfl rfl rfl rfl rfl rfl rfl ?_
                        refine vpOps_pure (x := .v (.bool (true))) (pPt rfl rfl rfl rfl rfl) rfl rfl rfl rfl ?_
                        refine vpOps_nil ?_
                        refine vIfT rfl rfl ?_
                        refine vp_seq ?_
                        refine vp_region ?_
                        refine vpOps_pure (x := .v (.bool (false))) (pAs rfl rfl rfl) rfl rfl rfl rfl ?_
                        refine vpOps_nil ?_
                        refine vp_ret ?_
                        exact ⟨[.v (.bool (false))], [4], (.cons (.tmp rfl rfl) .nil), rfl, ⟨(show (.v (.bool (false)) : PV) = .v (.bool (true)) from (by first | with_reducible rfl | (exfalso; omega) | exact absurd (con_ok hK).2 (by assumption) | exact absurd (con_ok hK3).2 (by assumption) | exact absurd (rfl : mrgO deck_3 out_4 out_5 = mrgO deck_3 out_4 out_5) (by assumption) | exact absurd (rfl : conL deck_3 out_4 out_5 = conL deck_3 out_4 out_5) (by assumption) | exact ne_dec hdue (by assumption) | exact absurd hs1 (by assumption) | exact absurd hs2 (by assumption) | exact absurd hs3 (by assumption) | exact (dec_t (hs4 (by omega))).symm | exact (dec_t (by omega)).symm)), rfl⟩⟩
                    · skip
                      refine vPass rfl rfl rfl (not_of_f (decide_eq_false h10)) rfl rfl rfl ?_
                      refine vPass rfl rfl rfl (not_of_f (decide_eq_false h10)) rfl rfl rfl ?_
                      refine vpOps_pure (x := .v (.bool (true))) (pPt rfl rfl (not_of_f (decide_eq_false h10)) rfl rfl) rfl rfl rfl rfl ?_
                      refine vpOps_pure (x := .v (.bool (true))) (pMv rfl rfl rfl) rfl rfl rfl rfl ?_
                      refine vPass rfl rfl rfl rfl rfl rfl rfl ?_
                      refine vPass rfl rfl rfl rfl rfl rfl rfl ?_
                      refine vpOps_pure (x := .v (.bool (true))) (pPt rfl rfl rfl rfl rfl) rfl rfl rfl rfl ?_
                      refine vpOps_pure (x := .v (.bool (true))) (pMv rfl rfl rfl) rfl rfl rfl rfl ?_
                      refine vPass rfl rfl rfl rfl rfl rfl rfl ?_
                      refine vPass rfl rfl rfl rfl rfl rfl rfl ?_
                      refine vpOps_pure (x := .v (.bool (true))) (pPt rfl rfl rfl rfl rfl) rfl rfl rfl rfl ?_
                      refine vpOps_pure (x := .v (.bool (true))) (pMv rfl rfl rfl) rfl rfl rfl rfl ?_
                      refine vPass rfl rfl rfl rfl rfl rfl rfl ?_
                      refine vPass rfl rfl rfl rfl rfl rfl rfl ?_
                      refine vPass rfl rfl rfl rfl rfl rfl rfl ?_
                      refine vpOps_pure (x := .v (.bool (true))) (pPt rfl rfl rfl rfl rfl) rfl rfl rfl rfl ?_
                      refine vpOps_pure (x := .v (.bool (true))) (pMv rfl rfl rfl) rfl rfl rfl rfl ?_
                      refine vPass rfl rfl rfl rfl rfl rfl rfl ?_
                      refine vPass rfl rfl rfl rfl rfl rfl rfl ?_
                      refine vpOps_pure (x := .v (.bool (true))) (pPt rfl rfl rfl rfl rfl) rfl rfl rfl rfl ?_
                      refine vpOps_pure (x := .v (.bool (true))) (pMv rfl rfl rfl) rfl rfl rfl rfl ?_
                      refine vPass rfl rfl rfl rfl rfl rfl rfl ?_
                      refine vPass rfl rfl rfl rfl rfl rfl rfl ?_
                      refine vpOps_pure (x := .v (.bool (true))) (pPt rfl rfl rfl rfl rfl) rfl rfl rfl rfl ?_
                      refine vpOps_pure (x := .v (.bool (true))) (pMv rfl rfl rfl) rfl rfl rfl rfl ?_
                      refine vPass rfl rfl rfl rfl rfl rfl rfl ?_
                      refine vPass rfl rfl rfl rfl rfl rfl rfl ?_
                      refine vpOps_pure (x := .v (.bool (true))) (pPt rfl rfl rfl rfl rfl) rfl rfl rfl rfl ?_
                      refine vpOps_nil ?_
                      refine vIfT rfl rfl ?_
                      refine vp_seq ?_
                      refine vp_region ?_
                      refine vpOps_pure (x := .v (.bool (false))) (pAs rfl rfl rfl) rfl rfl rfl rfl ?_
                      refine vpOps_nil ?_
                      refine vp_ret ?_
                      exact ⟨[.v (.bool (false))], [4], (.cons (.tmp rfl rfl) .nil), rfl, ⟨(show (.v (.bool (false)) : PV) = .v (.bool (true)) from (by first | with_reducible rfl | (exfalso; omega) | exact absurd (con_ok hK).2 (by assumption) | exact absurd (con_ok hK3).2 (by assumption) | exact absurd (rfl : mrgO deck_3 out_4 out_5 = mrgO deck_3 out_4 out_5) (by assumption) | exact absurd (rfl : conL deck_3 out_4 out_5 = conL deck_3 out_4 out_5) (by assumption) | exact ne_dec hdue (by assumption) | exact absurd hs1 (by assumption) | exact absurd hs2 (by assumption) | exact absurd hs3 (by assumption) | exact (dec_t (hs4 (by omega))).symm | exact (dec_t (by omega)).symm)), rfl⟩⟩
                  · skip
                    refine vPass rfl rfl rfl (not_of_f (decide_eq_false h9)) rfl rfl rfl ?_
                    refine vPass rfl rfl rfl (not_of_f (decide_eq_false h9)) rfl rfl rfl ?_
                    refine vpOps_pure (x := .v (.bool (true))) (pPt rfl rfl (not_of_f (decide_eq_false h9)) rfl rfl) rfl rfl rfl rfl ?_
                    refine vpOps_pure (x := .v (.bool (true))) (pMv rfl rfl rfl) rfl rfl rfl rfl ?_
                    refine vPass rfl rfl rfl rfl rfl rfl rfl ?_
                    refine vPass rfl rfl rfl rfl rfl rfl rfl ?_
                    refine vpOps_pure (x := .v (.bool (true))) (pPt rfl rfl rfl rfl rfl) rfl rfl rfl rfl ?_
                    refine vpOps_pure (x := .v (.bool (true))) (pMv rfl rfl rfl) rfl rfl rfl rfl ?_
                    refine vPass rfl rfl rfl rfl rfl rfl rfl ?_
                    refine vPass rfl rfl rfl rfl rfl rfl rfl ?_
                    refine vpOps_pure (x := .v (.bool (true))) (pPt rfl rfl rfl rfl rfl) rfl rfl rfl rfl ?_
                    refine vpOps_pure (x := .v (.bool (true))) (pMv rfl rfl rfl) rfl rfl rfl rfl ?_
                    refine vPass rfl rfl rfl rfl rfl rfl rfl ?_
                    refine vPass rfl rfl rfl rfl rfl rfl rfl ?_
                    refine vpOps_pure (x := .v (.bool (true))) (pPt rfl rfl rfl rfl rfl) rfl rfl rfl rfl ?_
                    refine vpOps_pure (x := .v (.bool (true))) (pMv rfl rfl rfl) rfl rfl rfl rfl ?_
                    refine vPass rfl rfl rfl rfl rfl rfl rfl ?_
                    refine vPass rfl rfl rfl rfl rfl rfl rfl ?_
                    refine vpOps_pure (x := .v (.bool (true))) (pPt rfl rfl rfl rfl rfl) rfl rfl rfl rfl ?_
                    refine vpOps_pure (x := .v (.bool (true))) (pMv rfl rfl rfl) rfl rfl rfl rfl ?_
                    refine vPass rfl rfl rfl rfl rfl rfl rfl ?_
                    refine vPass rfl rfl rfl rfl rfl rfl rfl ?_
                    refine vPass rfl rfl rfl rfl rfl rfl rfl ?_
                    refine vpOps_pure (x := .v (.bool (true))) (pPt rfl rfl rfl rfl rfl) rfl rfl rfl rfl ?_
                    refine vpOps_pure (x := .v (.bool (true))) (pMv rfl rfl rfl) rfl rfl rfl rfl ?_
                    refine vPass rfl rfl rfl rfl rfl rfl rfl ?_
                    refine vPass rfl rfl rfl rfl rfl rfl rfl ?_
                    refine vpOps_pure (x := .v (.bool (true))) (pPt rfl rfl rfl rfl rfl) rfl rfl rfl rfl ?_
                    refine vpOps_pure (x := .v (.bool (true))) (pMv rfl rfl rfl) rfl rfl rfl rfl ?_
                    refine vPass rfl rfl rfl rfl rfl rfl rfl ?_
                    refine vPass rfl rfl rfl rfl rfl rfl rfl ?_
                    refine vpOps_pure (x := .v (.bool (true))) (pPt rfl rfl rfl rfl rfl) rfl rfl rfl rfl ?_
                    refine vpOps_pure (x := .v (.bool (true))) (pMv rfl rfl rfl) rfl rfl rfl rfl ?_
                    refine vPass rfl rfl rfl rfl rfl rfl rfl ?_
                    refine vPass rfl rfl rfl rfl rfl rfl rfl ?_
                    refine vpOps_pure (x := .v (.bool (true))) (pPt rfl rfl rfl rfl rfl) rfl rfl rfl rfl ?_
                    refine vpOps_nil ?_
                    refine vIfT rfl rfl ?_
                    refine vp_seq ?_
                    refine vp_region ?_
                    refine vpOps_pure (x := .v (.bool (false))) (pAs rfl rfl rfl) rfl rfl rfl rfl ?_
                    refine vpOps_nil ?_
                    refine vp_ret ?_
                    exact ⟨[.v (.bool (false))], [4], (.cons (.tmp rfl rfl) .nil), rfl, ⟨(show (.v (.bool (false)) : PV) = .v (.bool (true)) from (by first | with_reducible rfl | (exfalso; omega) | exact absurd (con_ok hK).2 (by assumption) | exact absurd (con_ok hK3).2 (by assumption) | exact absurd (rfl : mrgO deck_3 out_4 out_5 = mrgO deck_3 out_4 out_5) (by assumption) | exact absurd (rfl : conL deck_3 out_4 out_5 = conL deck_3 out_4 out_5) (by assumption) | exact ne_dec hdue (by assumption) | exact absurd hs1 (by assumption) | exact absurd hs2 (by assumption) | exact absurd hs3 (by assumption) | exact (dec_t (hs4 (by omega))).symm | exact (dec_t (by omega)).symm)), rfl⟩⟩
                · skip
                  refine vPass rfl rfl rfl (not_of_f (decide_eq_false h8)) rfl rfl rfl ?_
                  refine vPass rfl rfl rfl (not_of_f (decide_eq_false h8)) rfl rfl rfl ?_
                  refine vpOps_pure (x := .v (.bool (true))) (pPt rfl rfl (not_of_f (decide_eq_false h8)) rfl rfl) rfl rfl rfl rfl ?_
                  refine vpOps_pure (x := .v (.bool (true))) (pMv rfl rfl rfl) rfl rfl rfl rfl ?_
                  refine vPass rfl rfl rfl rfl rfl rfl rfl ?_
                  refine vPass rfl rfl rfl rfl rfl rfl rfl ?_
                  refine vpOps_pure (x := .v (.bool (true))) (pPt rfl rfl rfl rfl rfl) rfl rfl rfl rfl ?_
                  refine vpOps_pure (x := .v (.bool (true))) (pMv rfl rfl rfl) rfl rfl rfl rfl ?_
                  refine vPass rfl rfl rfl rfl rfl rfl rfl ?_
                  refine vPass rfl rfl rfl rfl rfl rfl rfl ?_
                  refine vpOps_pure (x := .v (.bool (true))) (pPt rfl rfl rfl rfl rfl) rfl rfl rfl rfl ?_
                  refine vpOps_pure (x := .v (.bool (true))) (pMv rfl rfl rfl) rfl rfl rfl rfl ?_
                  refine vPass rfl rfl rfl rfl rfl rfl rfl ?_
                  refine vPass rfl rfl rfl rfl rfl rfl rfl ?_
                  refine vpOps_pure (x := .v (.bool (true))) (pPt rfl rfl rfl rfl rfl) rfl rfl rfl rfl ?_
                  refine vpOps_pure (x := .v (.bool (true))) (pMv rfl rfl rfl) rfl rfl rfl rfl ?_
                  refine vPass rfl rfl rfl rfl rfl rfl rfl ?_
                  refine vPass rfl rfl rfl rfl rfl rfl rfl ?_
                  refine vpOps_pure (x := .v (.bool (true))) (pPt rfl rfl rfl rfl rfl) rfl rfl rfl rfl ?_
                  refine vpOps_pure (x := .v (.bool (true))) (pMv rfl rfl rfl) rfl rfl rfl rfl ?_
                  refine vPass rfl rfl rfl rfl rfl rfl rfl ?_
                  refine vPass rfl rfl rfl rfl rfl rfl rfl ?_
                  refine vpOps_pure (x := .v (.bool (true))) (pPt rfl rfl rfl rfl rfl) rfl rfl rfl rfl ?_
                  refine vpOps_pure (x := .v (.bool (true))) (pMv rfl rfl rfl) rfl rfl rfl rfl ?_
                  refine vPass rfl rfl rfl rfl rfl rfl rfl ?_
                  refine vPass rfl rfl rfl rfl rfl rfl rfl ?_
                  refine vPass rfl rfl rfl rfl rfl rfl rfl ?_
                  refine vpOps_pure (x := .v (.bool (true))) (pPt rfl rfl rfl rfl rfl) rfl rfl rfl rfl ?_
                  refine vpOps_pure (x := .v (.bool (true))) (pMv rfl rfl rfl) rfl rfl rfl rfl ?_
                  refine vPass rfl rfl rfl rfl rfl rfl rfl ?_
                  refine vPass rfl rfl rfl rfl rfl rfl rfl ?_
                  refine vpOps_pure (x := .v (.bool (true))) (pPt rfl rfl rfl rfl rfl) rfl rfl rfl rfl ?_
                  refine vpOps_pure (x := .v (.bool (true))) (pMv rfl rfl rfl) rfl rfl rfl rfl ?_
                  refine vPass rfl rfl rfl rfl rfl rfl rfl ?_
                  refine vPass rfl rfl rfl rfl rfl rfl rfl ?_
                  refine vpOps_pure (x := .v (.bool (true))) (pPt rfl rfl rfl rfl rfl) rfl rfl rfl rfl ?_
                  refine vpOps_pure (x := .v (.bool (true))) (pMv rfl rfl rfl) rfl rfl rfl rfl ?_
                  refine vPass rfl rfl rfl rfl rfl rfl rfl ?_
                  refine vPass rfl rfl rfl rfl rfl rfl rfl ?_
                  refine vpOps_pure (x := .v (.bool (true))) (pPt rfl rfl rfl rfl rfl) rfl rfl rfl rfl ?_
                  refine vpOps_nil ?_
                  refine vIfT rfl rfl ?_
                  refine vp_seq ?_
                  refine vp_region ?_
                  refine vpOps_pure (x := .v (.bool (false))) (pAs rfl rfl rfl) rfl rfl rfl rfl ?_
                  refine vpOps_nil ?_
                  refine vp_ret ?_
                  exact ⟨[.v (.bool (false))], [4], (.cons (.tmp rfl rfl) .nil), rfl, ⟨(show (.v (.bool (false)) : PV) = .v (.bool (true)) from (by first | with_reducible rfl | (exfalso; omega) | exact absurd (con_ok hK).2 (by assumption) | exact absurd (con_ok hK3).2 (by assumption) | exact absurd (rfl : mrgO deck_3 out_4 out_5 = mrgO deck_3 out_4 out_5) (by assumption) | exact absurd (rfl : conL deck_3 out_4 out_5 = conL deck_3 out_4 out_5) (by assumption) | exact ne_dec hdue (by assumption) | exact absurd hs1 (by assumption) | exact absurd hs2 (by assumption) | exact absurd hs3 (by assumption) | exact (dec_t (hs4 (by omega))).symm | exact (dec_t (by omega)).symm)), rfl⟩⟩
            · skip
              refine vPass rfl rfl rfl (not_of_f (decide_eq_false h6)) rfl rfl rfl ?_
              refine vPass rfl rfl rfl (not_of_f (decide_eq_false h6)) rfl rfl rfl ?_
              refine vPass rfl rfl rfl (not_of_f (decide_eq_false h6)) rfl rfl rfl ?_
              refine vPass rfl rfl rfl (not_of_f (decide_eq_false h6)) rfl rfl rfl ?_
              refine vPass rfl rfl rfl (not_of_f (decide_eq_false h6)) rfl rfl rfl ?_
              refine vPass rfl rfl rfl (not_of_f (decide_eq_false h6)) rfl rfl rfl ?_
              refine vpOps_pure (x := .v (.bool (true))) (pPt rfl rfl (not_of_f (decide_eq_false h6)) rfl rfl) rfl rfl rfl rfl ?_
              refine vpOps_nil ?_
              refine vIfT rfl rfl ?_
              refine vp_seq ?_
              refine vp_region ?_
              refine vpOps_pure (x := .v (.bool (false))) (pAs rfl rfl rfl) rfl rfl rfl rfl ?_
              refine vpOps_nil ?_
              refine vp_ret ?_
              exact ⟨[.v (.bool (false))], [4], (.cons (.tmp rfl rfl) .nil), rfl, ⟨(show (.v (.bool (false)) : PV) = .v (.bool (true)) from (by first | with_reducible rfl | (exfalso; omega) | exact absurd (con_ok hK).2 (by assumption) | exact absurd (con_ok hK3).2 (by assumption) | exact absurd (rfl : mrgO deck_3 out_4 out_5 = mrgO deck_3 out_4 out_5) (by assumption) | exact absurd (rfl : conL deck_3 out_4 out_5 = conL deck_3 out_4 out_5) (by assumption) | exact ne_dec hdue (by assumption) | exact absurd hs1 (by assumption) | exact absurd hs2 (by assumption) | exact absurd hs3 (by assumption) | exact (dec_t (hs4 (by omega))).symm | exact (dec_t (by omega)).symm)), rfl⟩⟩
          · skip
            refine vPass rfl rfl rfl (not_of_f (decide_eq_false h5)) rfl rfl rfl ?_
            refine vPass rfl rfl rfl (not_of_f (decide_eq_false h5)) rfl rfl rfl ?_
            refine vPass rfl rfl rfl (not_of_f (decide_eq_false h5)) rfl rfl rfl ?_
            refine vPass rfl rfl rfl (not_of_f (decide_eq_false h5)) rfl rfl rfl ?_
            refine vpOps_pure (x := .v (.bool (true))) (pPt rfl rfl (not_of_f (decide_eq_false h5)) rfl rfl) rfl rfl rfl rfl ?_
            refine vpOps_pure (x := .v (.bool (true))) (pMv rfl rfl rfl) rfl rfl rfl rfl ?_
            refine vPass rfl rfl rfl rfl rfl rfl rfl ?_
            refine vPass rfl rfl rfl rfl rfl rfl rfl ?_
            refine vPass rfl rfl rfl rfl rfl rfl rfl ?_
            refine vPass rfl rfl rfl rfl rfl rfl rfl ?_
            refine vPass rfl rfl rfl rfl rfl rfl rfl ?_
            refine vPass rfl rfl rfl rfl rfl rfl rfl ?_
            refine vpOps_pure (x := .v (.bool (true))) (pPt rfl rfl rfl rfl rfl) rfl rfl rfl rfl ?_
            refine vpOps_nil ?_
            refine vIfT rfl rfl ?_
            refine vp_seq ?_
            refine vp_region ?_
            refine vpOps_pure (x := .v (.bool (false))) (pAs rfl rfl rfl) rfl rfl rfl rfl ?_
            refine vpOps_nil ?_
            refine vp_ret ?_
            exact ⟨[.v (.bool (false))], [4], (.cons (.tmp rfl rfl) .nil), rfl, ⟨(show (.v (.bool (false)) : PV) = .v (.bool (true)) from (by first | with_reducible rfl | (exfalso; omega) | exact absurd (con_ok hK).2 (by assumption) | exact absurd (con_ok hK3).2 (by assumption) | exact absurd (rfl : mrgO deck_3 out_4 out_5 = mrgO deck_3 out_4 out_5) (by assumption) | exact absurd (rfl : conL deck_3 out_4 out_5 = conL deck_3 out_4 out_5) (by assumption) | exact ne_dec hdue (by assumption) | exact absurd hs1 (by assumption) | exact absurd hs2 (by assumption) | exact absurd hs3 (by assumption) | exact (dec_t (hs4 (by omega))).symm | exact (dec_t (by omega)).symm)), rfl⟩⟩
        · skip
          refine vPass rfl rfl rfl (not_of_f (decide_eq_false h4)) rfl rfl rfl ?_
          refine vPass rfl rfl rfl (not_of_f (decide_eq_false h4)) rfl rfl rfl ?_
          refine vPass rfl rfl rfl (not_of_f (decide_eq_false h4)) rfl rfl rfl ?_
          refine vpOps_pure (x := .v (.bool (true))) (pPt rfl rfl (not_of_f (decide_eq_false h4)) rfl rfl) rfl rfl rfl rfl ?_
          refine vpOps_pure (x := .v (.bool (true))) (pMv rfl rfl rfl) rfl rfl rfl rfl ?_
          refine vPass rfl rfl rfl rfl rfl rfl rfl ?_
          refine vPass rfl rfl rfl rfl rfl rfl rfl ?_
          refine vPass rfl rfl rfl rfl rfl rfl rfl ?_
          refine vPass rfl rfl rfl rfl rfl rfl rfl ?_
          refine vpOps_pure (x := .v (.bool (true))) (pPt rfl rfl rfl rfl rfl) rfl rfl rfl rfl ?_
          refine vpOps_pure (x := .v (.bool (true))) (pMv rfl rfl rfl) rfl rfl rfl rfl ?_
          refine vPass rfl rfl rfl rfl rfl rfl rfl ?_
          refine vPass rfl rfl rfl rfl rfl rfl rfl ?_
          refine vPass rfl rfl rfl rfl rfl rfl rfl ?_
          refine vPass rfl rfl rfl rfl rfl rfl rfl ?_
          refine vPass rfl rfl rfl rfl rfl rfl rfl ?_
          refine vPass rfl rfl rfl rfl rfl rfl rfl ?_
          refine vpOps_pure (x := .v (.bool (true))) (pPt rfl rfl rfl rfl rfl) rfl rfl rfl rfl ?_
          refine vpOps_nil ?_
          refine vIfT rfl rfl ?_
          refine vp_seq ?_
          refine vp_region ?_
          refine vpOps_pure (x := .v (.bool (false))) (pAs rfl rfl rfl) rfl rfl rfl rfl ?_
          refine vpOps_nil ?_
          refine vp_ret ?_
          exact ⟨[.v (.bool (false))], [4], (.cons (.tmp rfl rfl) .nil), rfl, ⟨(show (.v (.bool (false)) : PV) = .v (.bool (true)) from (by first | with_reducible rfl | (exfalso; omega) | exact absurd (con_ok hK).2 (by assumption) | exact absurd (con_ok hK3).2 (by assumption) | exact absurd (rfl : mrgO deck_3 out_4 out_5 = mrgO deck_3 out_4 out_5) (by assumption) | exact absurd (rfl : conL deck_3 out_4 out_5 = conL deck_3 out_4 out_5) (by assumption) | exact ne_dec hdue (by assumption) | exact absurd hs1 (by assumption) | exact absurd hs2 (by assumption) | exact absurd hs3 (by assumption) | exact (dec_t (hs4 (by omega))).symm | exact (dec_t (by omega)).symm)), rfl⟩⟩
      · skip
        refine vPass rfl rfl rfl (not_of_f (decide_eq_false h3)) rfl rfl rfl ?_
        refine vPass rfl rfl rfl (not_of_f (decide_eq_false h3)) rfl rfl rfl ?_
        refine vPass rfl rfl rfl (not_of_f (decide_eq_false h3)) rfl rfl rfl ?_
        refine vPass rfl rfl rfl (not_of_f (decide_eq_false h3)) rfl rfl rfl ?_
        refine vpOps_pure (x := .v (.bool (true))) (pPt rfl rfl (not_of_f (decide_eq_false h3)) rfl rfl) rfl rfl rfl rfl ?_
        refine vpOps_pure (x := .v (.bool (true))) (pMv rfl rfl rfl) rfl rfl rfl rfl ?_
        refine vPass rfl rfl rfl rfl rfl rfl rfl ?_
        refine vPass rfl rfl rfl rfl rfl rfl rfl ?_
        refine vPass rfl rfl rfl rfl rfl rfl rfl ?_
        refine vpOps_pure (x := .v (.bool (true))) (pPt rfl rfl rfl rfl rfl) rfl rfl rfl rfl ?_
        refine vpOps_pure (x := .v (.bool (true))) (pMv rfl rfl rfl) rfl rfl rfl rfl ?_
        refine vPass rfl rfl rfl rfl rfl rfl rfl ?_
        refine vPass rfl rfl rfl rfl rfl rfl rfl ?_
        refine vPass rfl rfl rfl rfl rfl rfl rfl ?_
        refine vPass rfl rfl rfl rfl rfl rfl rfl ?_
        refine vpOps_pure (x := .v (.bool (true))) (pPt rfl rfl rfl rfl rfl) rfl rfl rfl rfl ?_
        refine vpOps_pure (x := .v (.bool (true))) (pMv rfl rfl rfl) rfl rfl rfl rfl ?_
        refine vPass rfl rfl rfl rfl rfl rfl rfl ?_
        refine vPass rfl rfl rfl rfl rfl rfl rfl ?_
        refine vPass rfl rfl rfl rfl rfl rfl rfl ?_
        refine vPass rfl rfl rfl rfl rfl rfl rfl ?_
        refine vPass rfl rfl rfl rfl rfl rfl rfl ?_
        refine vPass rfl rfl rfl rfl rfl rfl rfl ?_
        refine vpOps_pure (x := .v (.bool (true))) (pPt rfl rfl rfl rfl rfl) rfl rfl rfl rfl ?_
        refine vpOps_nil ?_
        refine vIfT rfl rfl ?_
        refine vp_seq ?_
        refine vp_region ?_
        refine vpOps_pure (x := .v (.bool (false))) (pAs rfl rfl rfl) rfl rfl rfl rfl ?_
        refine vpOps_nil ?_
        refine vp_ret ?_
        exact ⟨[.v (.bool (false))], [4], (.cons (.tmp rfl rfl) .nil), rfl, ⟨(show (.v (.bool (false)) : PV) = .v (.bool (true)) from (by first | with_reducible rfl | (exfalso; omega) | exact absurd (con_ok hK).2 (by assumption) | exact absurd (con_ok hK3).2 (by assumption) | exact absurd (rfl : mrgO deck_3 out_4 out_5 = mrgO deck_3 out_4 out_5) (by assumption) | exact absurd (rfl : conL deck_3 out_4 out_5 = conL deck_3 out_4 out_5) (by assumption) | exact ne_dec hdue (by assumption) | exact absurd hs1 (by assumption) | exact absurd hs2 (by assumption) | exact absurd hs3 (by assumption) | exact (dec_t (hs4 (by omega))).symm | exact (dec_t (by omega)).symm)), rfl⟩⟩
    · skip
      refine vPass rfl rfl rfl (not_of_f (decide_eq_false h2)) rfl rfl rfl ?_
      refine vPass rfl rfl rfl (not_of_f (decide_eq_false h2)) rfl rfl rfl ?_
      refine vpOps_pure (x := .v (.bool (true))) (pPt rfl rfl (not_of_f (decide_eq_false h2)) rfl rfl) rfl rfl rfl rfl ?_
      refine vpOps_pure (x := .v (.bool (true))) (pMv rfl rfl rfl) rfl rfl rfl rfl ?_
      refine vPass rfl rfl rfl rfl rfl rfl rfl ?_
      refine vPass rfl rfl rfl rfl rfl rfl rfl ?_
      refine vPass rfl rfl rfl rfl rfl rfl rfl ?_
      refine vPass rfl rfl rfl rfl rfl rfl rfl ?_
      refine vpOps_pure (x := .v (.bool (true))) (pPt rfl rfl rfl rfl rfl) rfl rfl rfl rfl ?_
      refine vpOps_pure (x := .v (.bool (true))) (pMv rfl rfl rfl) rfl rfl rfl rfl ?_
      refine vPass rfl rfl rfl rfl rfl rfl rfl ?_
      refine vPass rfl rfl rfl rfl rfl rfl rfl ?_
      refine vPass rfl rfl rfl rfl rfl rfl rfl ?_
      refine vpOps_pure (x := .v (.bool (true))) (pPt rfl rfl rfl rfl rfl) rfl rfl rfl rfl ?_
      refine vpOps_pure (x := .v (.bool (true))) (pMv rfl rfl rfl) rfl rfl rfl rfl ?_
      refine vPass rfl rfl rfl rfl rfl rfl rfl ?_
      refine vPass rfl rfl rfl rfl rfl rfl rfl ?_
      refine vPass rfl rfl rfl rfl rfl rfl rfl ?_
      refine vPass rfl rfl rfl rfl rfl rfl rfl ?_
      refine vpOps_pure (x := .v (.bool (true))) (pPt rfl rfl rfl rfl rfl) rfl rfl rfl rfl ?_
      refine vpOps_pure (x := .v (.bool (true))) (pMv rfl rfl rfl) rfl rfl rfl rfl ?_
      refine vPass rfl rfl rfl rfl rfl rfl rfl ?_
      refine vPass rfl rfl rfl rfl rfl rfl rfl ?_
      refine vPass rfl rfl rfl rfl rfl rfl rfl ?_
      refine vPass rfl rfl rfl rfl rfl rfl rfl ?_
      refine vPass rfl rfl rfl rfl rfl rfl rfl ?_
      refine vPass rfl rfl rfl rfl rfl rfl rfl ?_
      refine vpOps_pure (x := .v (.bool (true))) (pPt rfl rfl rfl rfl rfl) rfl rfl rfl rfl ?_
      refine vpOps_nil ?_
      refine vIfT rfl rfl ?_
      refine vp_seq ?_
      refine vp_region ?_
      refine vpOps_pure (x := .v (.bool (false))) (pAs rfl rfl rfl) rfl rfl rfl rfl ?_
      refine vpOps_nil ?_
      refine vp_ret ?_
      exact ⟨[.v (.bool (false))], [4], (.cons (.tmp rfl rfl) .nil), rfl, ⟨(show (.v (.bool (false)) : PV) = .v (.bool (true)) from (by first | with_reducible rfl | (exfalso; omega) | exact absurd (con_ok hK).2 (by assumption) | exact absurd (con_ok hK3).2 (by assumption) | exact absurd (rfl : mrgO deck_3 out_4 out_5 = mrgO deck_3 out_4 out_5) (by assumption) | exact absurd (rfl : conL deck_3 out_4 out_5 = conL deck_3 out_4 out_5) (by assumption) | exact ne_dec hdue (by assumption) | exact absurd hs1 (by assumption) | exact absurd hs2 (by assumption) | exact absurd hs3 (by assumption) | exact (dec_t (hs4 (by omega))).symm | exact (dec_t (by omega)).symm)), rfl⟩⟩

end Go.Vr
