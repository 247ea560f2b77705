/- Walks through functions that the law reaches, and what these compute in plain terms; a part of the proof of the statement in YtmgjfbnleedadaaDoorClose. -/
import Derived.Test.YtmgjfbnleedadaaDoorPart1
import Derived.Lib.ItoaLen
import Derived.Lib.Join
import Derived.Lib.LaidTab
import Derived.Shelf.Strings.Builder1
import Derived.Shelf.Strings.Builder2
import Derived.Shelf.Strings.OnBuilder
import Derived.Shelf.Strings.BuilderF
import Derived.Shelf.Strings.Builder2Cap
import Derived.Shelf.Strconv.Itoa0
import Derived.Shelf.Strconv.Itoa1
import Derived.Shelf.LaysM
import Derived.Shelf.Strconv.Itoa2
import Derived.Shelf.Strconv.Itoa3
import Derived.Shelf.Strconv.Itoa4
import Derived.Test.YtmgjfbnleedadaaDoorProg
/- Walks of the functions that the law reaches: what each gives, by value. -/
namespace Go.Vr
open Go Go.Proofs
set_option linter.unusedVariables false
set_option linter.unusedSimpArgs false

/-- impl.isKnot -/
theorem c_isKnot {G : World → Prop} (k : Knot) (at_ : Int) (n : Nat) (hk : k.ok) : CallsV Tryd.prog G 25 [.agg [.v (.int .i16 k.field), .sh 1 (k.values.map i64c), .sh 1 (k.next.map i16c), .sh 1 (k.cards.map i64c)], .v (.int .i64 at_), .v (.int .i64 ((n : Nat) : Int))] (fun r outs => r = .v (.bool (decide (knOk k at_ n))) ∧ outs = [.junk, .junk, .junk]) := by
  refine callsV_enter [] Tryd.func25 rfl rfl rfl ?_
  refine vp_seq ?_
  refine vp_region ?_
  refine vpOps_pure (x := .box [.v (.int .i16 k.field), .sh 1 (k.values.map i64c), .sh 1 (k.next.map i16c), .sh 1 (k.cards.map i64c)]) (pure_box rfl rfl (mvOk_flat _ rfl) rfl rfl) rfl rfl rfl rfl ?_
  refine vpOps_pure (x := .v (.bool (false))) (pAs rfl rfl rfl) rfl rfl rfl rfl ?_
  refine vpOps_nil ?_
  refine vp_seq ?_
  refine vp_seq ?_
  refine vp_region ?_
  refine vpOps_pure (x := .pl 3 [⟨0, 0, 0⟩]) (pure_field_ref rfl rfl rfl rfl) rfl rfl rfl rfl ?_
  refine vpOps_pure (x := .v (.int .i16 k.field)) (pure_load_pl rfl rfl rfl rfl rfl rfl rfl trivial rfl) rfl rfl rfl rfl ?_
  refine vpOps_pure (x := .v (.bool (decide (k.field = (-1))))) (pure_bin rfl rfl rfl rfl) rfl rfl rfl rfl ?_
  refine vpOps_nil ?_
  refine vIf rfl (fun h1 => ?_) (fun h1 => ?_)
  · skip
    refine vp_seq ?_
    refine vp_seq ?_
    refine vp_region ?_
    refine vpOps_pure (x := .pl 3 [⟨0, 3, 0⟩]) (pure_field_ref rfl rfl rfl rfl) rfl rfl rfl rfl ?_
    refine vpOps_pure (x := .sh 1 (k.cards.map i64c)) (pure_load_pl rfl rfl rfl rfl rfl rfl rfl trivial rfl) rfl rfl rfl rfl ?_
    refine vpOps_pure (x := .v (.int .i64 ((k.cards.length : Nat) : Int))) (pLen rfl rfl (List.length_map _)) rfl rfl rfl rfl ?_
    refine vpOps_pure (x := .v (.int .i64 0)) (pMv rfl rfl rfl) rfl rfl rfl rfl ?_
    refine vpOps_nil ?_
    refine vp_block ?_
    refine vLoop (α := Nat) (fun i => k.cards.length - i) (fun i => (i ≤ k.cards.length) ∧ (upOk 59 (-1) k.cards ↔ upOk 59 (prevOf k.cards i (-1)) (k.cards.drop i)) ∧ (-1 ≤ prevOf k.cards i (-1)) ∧ True) (fun i => [(0, .agg [.v (.int .i16 k.field), .sh 1 (k.values.map i64c), .sh 1 (k.next.map i16c), .sh 1 (k.cards.map i64c)]), (1, .v (.int .i64 at_)), (2, .v (.int .i64 ((n : Nat) : Int))), (3, .box [.v (.int .i16 k.field), .sh 1 (k.values.map i64c), .sh 1 (k.next.map i16c), .sh 1 (k.cards.map i64c)]), (15, .sh 1 (k.cards.map i64c)), (16, .v (.int .i64 ((k.cards.length : Nat) : Int))), (17, .v (.int .i64 ((i : Nat) : Int)))]) (fun _ => rfl) (fun _ => rfl) 0 ⟨(by omega), (by exact Iff.rfl), (by rw [prevOf_0 rfl]; decide), trivial⟩ ⟨rfl, rfl, rfl, rfl, rfl, rfl, rfl, trivial⟩ ?_
    rintro i ⟨hi, he, hp, -⟩
    have hx := k.ok_len hk
    have hp0 := prevOf_0 (xs := k.cards) (i := i) (d := -1)
    have hp1 := prevOf_1 (xs := k.cards) (i := i) (d := -1)
    refine vp_seq ?_
    refine vp_region ?_
    refine vpOps_pure (x := .v (.bool (decide (((i : Nat) : Int) < ((k.cards.length : Nat) : Int))))) (pure_bin rfl rfl rfl rfl) rfl rfl rfl rfl ?_
    refine vpOps_nil ?_
    refine vp_seq ?_
    refine vIf rfl (fun h2 => ?_) (fun h2 => ?_)
    · skip
      refine vp_skip ?_
      refine vp_seq ?_
      refine vp_block ?_
      refine vp_seq ?_
      refine vp_region ?_
      refine vpOps_pure (x := .v (.int .i64 ((i : Nat) : Int))) (pMv rfl rfl rfl) rfl rfl rfl rfl ?_
      refine vpOps_pure (x := .rbox [.v (.int .i64 (k.cards.getD i default))]) (pIx (m := i) rfl rfl rfl (by first | rfl | omega) (by omega) rfl) rfl rfl rfl rfl ?_
      refine vpOps_pure (x := .v (.int .i64 (k.cards.getD i default))) (pure_load_rbox rfl rfl rfl) rfl rfl rfl rfl ?_
      refine vpOps_pure (x := .v (.int .i64 ((i : Nat) : Int))) (pAs rfl rfl rfl) rfl rfl rfl rfl ?_
      refine vpOps_pure (x := .v (.int .i64 (k.cards.getD i default))) (pAs rfl rfl rfl) rfl rfl rfl rfl ?_
      refine vpOps_nil ?_
      refine vp_seq ?_
      refine vp_region ?_
      refine vpOps_pure (x := .v (.int .i64 (k.cards.getD i default))) (pMv rfl rfl rfl) rfl rfl rfl rfl ?_
      refine vpOps_pure (x := .v (.bool (decide ((k.cards.getD i default) < 0)))) (pure_bin rfl rfl rfl rfl) rfl rfl rfl rfl ?_
      refine vpOps_pure (x := .v (.bool (decide ((k.cards.getD i default) < 0)))) (pMv rfl rfl rfl) rfl rfl rfl rfl ?_
      by_cases h3 : (k.cards.getD i default) < 0
      · skip
        refine vPass rfl rfl rfl (decide_eq_true h3) rfl rfl rfl ?_
        refine vPass rfl rfl rfl (decide_eq_true h3) rfl rfl rfl ?_
        refine vpOps_pure (x := .v (.bool (true))) (pPt rfl rfl (decide_eq_true h3) rfl rfl) rfl rfl rfl rfl ?_
        refine vpOps_pure (x := .v (.bool (true))) (pMv rfl rfl rfl) rfl rfl rfl rfl ?_
        refine vPass rfl rfl rfl rfl rfl rfl rfl ?_
        refine vPass rfl rfl rfl rfl rfl rfl rfl ?_
        refine vPass rfl rfl rfl rfl rfl rfl rfl ?_
        refine vpOps_skip rfl rfl rfl rfl rfl ?_
        refine vpOps_skip rfl rfl rfl rfl rfl ?_
        refine vpOps_skip rfl rfl rfl rfl rfl ?_
        refine vpOps_skip rfl rfl rfl rfl rfl ?_
        refine vpOps_skip rfl rfl rfl rfl rfl ?_
        refine vpOps_skip rfl rfl rfl rfl rfl ?_
        refine vpOps_skip rfl rfl rfl rfl rfl ?_
        refine vpOps_skip rfl rfl rfl rfl rfl ?_
        refine vPass rfl rfl rfl rfl rfl rfl rfl ?_
        refine vpOps_pure (x := .v (.bool (true))) (pPt rfl rfl rfl rfl rfl) rfl rfl rfl rfl ?_
        refine vpOps_nil ?_
        refine vIfT rfl rfl ?_
        refine vp_seq ?_
        refine vp_region ?_
        refine vpOps_pure (x := .v (.bool (false))) (pAs rfl rfl rfl) rfl rfl rfl rfl ?_
        refine vpOps_nil ?_
        refine vp_ret ?_
        exact ⟨[.v (.bool (false))], [6], (.cons (.tmp rfl rfl) .nil), rfl, ⟨(show (.v (.bool (false)) : PV) = .v (.bool (decide (knOk k at_ n))) from (by first | exact dec_f (fun h => by rw [knOk, if_pos (by assumption)] at h; have q := h.1; rw [he, upOk_step (by omega)] at q; omega) | exact dec_f (fun h => by rw [knOk, if_pos (by assumption)] at h; have q := h.2.1; rw [← len_nil] at q; contradiction) | (refine dec_i ?_; rw [knOk, if_pos (by assumption), leafOk, he, upOk_end (by omega), ← len_nil, ← len_nil]; exact ⟨fun h => ⟨trivial, by assumption, h⟩, fun h => h.2.2⟩) | exact dec_f (fun h => by rw [knOk, if_neg (by assumption)] at h; obtain ⟨⟨⟨q1, q2⟩, q3, q4, q5⟩, q6⟩ := h; have q8 : k.cards.length = 0 := (by rw [q3, List.length_nil]); have q9 : k.values.length ≠ 0 := (fun e => q4 (List.length_eq_zero_iff.1 e)); omega) | exact dec_f (fun h => by rw [knOk, if_neg (by assumption)] at h; have q := h.2 i (by omega); obtain ⟨r1, r2, r3, r4⟩ := q; first | omega | (have r5 := r2 (by omega); omega)) | exact dec_t (by rw [knOk, if_neg (by assumption)]; exact ⟨hd, fun j hj => hA j (by omega)⟩))), rfl⟩⟩
      · skip
        refine vRun rfl rfl rfl (decide_eq_false h3) rfl rfl rfl ?_
        refine vpOps_pure (x := .v (.int .i64 (k.cards.getD i default))) (pMv rfl rfl rfl) rfl rfl rfl rfl ?_
        refine vRun rfl rfl rfl (decide_eq_false h3) rfl rfl rfl ?_
        refine vpOps_pure (x := .v (.bool (decide (60 ≤ (k.cards.getD i default))))) (pure_bin rfl rfl rfl rfl) rfl rfl rfl rfl ?_
        refine vpOps_pure (x := .v (.bool (decide (60 ≤ (k.cards.getD i default))))) (pPf rfl rfl (decide_eq_false h3) rfl rfl) rfl rfl rfl rfl ?_
        refine vpOps_pure (x := .v (.bool (decide (60 ≤ (k.cards.getD i default))))) (pMv rfl rfl rfl) rfl rfl rfl rfl ?_
        by_cases h4 : 60 ≤ (k.cards.getD i default)
        · skip
          refine vPass rfl rfl rfl (decide_eq_true h4) rfl rfl rfl ?_
          refine vPass rfl rfl rfl (decide_eq_true h4) rfl rfl rfl ?_
          refine vPass rfl rfl rfl (decide_eq_true h4) rfl rfl rfl ?_
          refine vpOps_skip rfl rfl rfl rfl rfl ?_
          refine vpOps_skip rfl rfl rfl rfl rfl ?_
          refine vpOps_skip rfl rfl rfl rfl rfl ?_
          refine vpOps_skip rfl rfl rfl rfl rfl ?_
          refine vpOps_skip rfl rfl rfl rfl rfl ?_
          refine vpOps_skip rfl rfl rfl rfl rfl ?_
          refine vpOps_skip rfl rfl rfl rfl rfl ?_
          refine vpOps_skip rfl rfl rfl rfl rfl ?_
          refine vPass rfl rfl rfl (decide_eq_true h4) rfl rfl rfl ?_
          refine vpOps_pure (x := .v (.bool (true))) (pPt rfl rfl (decide_eq_true h4) rfl rfl) rfl rfl rfl rfl ?_
          refine vpOps_nil ?_
          refine vIfT rfl rfl ?_
          refine vp_seq ?_
          refine vp_region ?_
          refine vpOps_pure (x := .v (.bool (false))) (pAs rfl rfl rfl) rfl rfl rfl rfl ?_
          refine vpOps_nil ?_
          refine vp_ret ?_
          exact ⟨[.v (.bool (false))], [6], (.cons (.tmp rfl rfl) .nil), rfl, ⟨(show (.v (.bool (false)) : PV) = .v (.bool (decide (knOk k at_ n))) from (by first | exact dec_f (fun h => by rw [knOk, if_pos (by assumption)] at h; have q := h.1; rw [he, upOk_step (by omega)] at q; omega) | exact dec_f (fun h => by rw [knOk, if_pos (by assumption)] at h; have q := h.2.1; rw [← len_nil] at q; contradiction) | (refine dec_i ?_; rw [knOk, if_pos (by assumption), leafOk, he, upOk_end (by omega), ← len_nil, ← len_nil]; exact ⟨fun h => ⟨trivial, by assumption, h⟩, fun h => h.2.2⟩) | exact dec_f (fun h => by rw [knOk, if_neg (by assumption)] at h; obtain ⟨⟨⟨q1, q2⟩, q3, q4, q5⟩, q6⟩ := h; have q8 : k.cards.length = 0 := (by rw [q3, List.length_nil]); have q9 : k.values.length ≠ 0 := (fun e => q4 (List.length_eq_zero_iff.1 e)); omega) | exact dec_f (fun h => by rw [knOk, if_neg (by assumption)] at h; have q := h.2 i (by omega); obtain ⟨r1, r2, r3, r4⟩ := q; first | omega | (have r5 := r2 (by omega); omega)) | exact dec_t (by rw [knOk, if_neg (by assumption)]; exact ⟨hd, fun j hj => hA j (by omega)⟩))), rfl⟩⟩
        · skip
          refine vRun rfl rfl rfl (decide_eq_false h4) rfl rfl rfl ?_
          refine vpOps_pure (x := .v (.int .i64 ((i : Nat) : Int))) (pMv rfl rfl rfl) rfl rfl rfl rfl ?_
          refine vRun rfl rfl rfl (decide_eq_false h4) rfl rfl rfl ?_
          refine vpOps_pure (x := .v (.bool (decide (0 < ((i : Nat) : Int))))) (pure_bin rfl rfl rfl rfl) rfl rfl rfl rfl ?_
          refine vRun rfl rfl rfl (decide_eq_false h4) rfl rfl rfl ?_
          refine vpOps_pure (x := .v (.bool (decide (0 < ((i : Nat) : Int))))) (pMv rfl rfl rfl) rfl rfl rfl rfl ?_
          by_cases h5 : 0 < ((i : Nat) : Int)
          · skip
            refine vRun rfl rfl rfl (decide_eq_true h5) rfl rfl rfl ?_
            refine vpOps_pure (x := .pl 3 [⟨0, 3, 0⟩]) (pure_field_ref rfl rfl rfl rfl) rfl rfl rfl rfl ?_
            refine vRun rfl rfl rfl (decide_eq_true h5) rfl rfl rfl ?_
            refine vpOps_pure (x := .sh 1 (k.cards.map i64c)) (pure_load_pl rfl rfl rfl rfl rfl rfl rfl trivial rfl) rfl rfl rfl rfl ?_
            refine vRun rfl rfl rfl (decide_eq_true h5) rfl rfl rfl ?_
            refine vpOps_pure (x := .v (.int .i64 ((i : Nat) : Int))) (pMv rfl rfl rfl) rfl rfl rfl rfl ?_
            refine vRun rfl rfl rfl (decide_eq_true h5) rfl rfl rfl ?_
            refine vpOps_pure (x := .v (.int .i64 (((i : Nat) : Int) - 1))) (pure_sub rfl rfl rfl (in64 (by omega) (by omega))) rfl rfl rfl rfl ?_
            refine vRun rfl rfl rfl (decide_eq_true h5) rfl rfl rfl ?_
            refine vpOps_pure (x := .rbox [.v (.int .i64 (k.cards.getD (i - 1) default))]) (pIx (m := i - 1) rfl rfl rfl (by first | rfl | omega) (by omega) rfl) rfl rfl rfl rfl ?_
            refine vRun rfl rfl rfl (decide_eq_true h5) rfl rfl rfl ?_
            refine vpOps_pure (x := .v (.int .i64 (k.cards.getD (i - 1) default))) (pure_load_rbox rfl rfl rfl) rfl rfl rfl rfl ?_
            refine vRun rfl rfl rfl (decide_eq_true h5) rfl rfl rfl ?_
            refine vpOps_pure (x := .v (.int .i64 (k.cards.getD i default))) (pMv rfl rfl rfl) rfl rfl rfl rfl ?_
            refine vRun rfl rfl rfl (decide_eq_true h5) rfl rfl rfl ?_
            refine vpOps_pure (x := .v (.bool (decide ((k.cards.getD i default) ≤ (k.cards.getD (i - 1) default))))) (pure_bin rfl rfl rfl rfl) rfl rfl rfl rfl ?_
            refine vRun rfl rfl rfl (decide_eq_false h4) rfl rfl rfl ?_
            refine vpOps_pure (x := .v (.bool (decide ((k.cards.getD i default) ≤ (k.cards.getD (i - 1) default))))) (pPt rfl rfl (decide_eq_true h5) rfl rfl) rfl rfl rfl rfl ?_
            refine vpOps_pure (x := .v (.bool (decide ((k.cards.getD i default) ≤ (k.cards.getD (i - 1) default))))) (pPf rfl rfl (decide_eq_false h4) rfl rfl) rfl rfl rfl rfl ?_
            refine vpOps_nil ?_
            refine vIf rfl (fun h6 => ?_) (fun h6 => ?_)
            · skip
              refine vp_seq ?_
              refine vp_region ?_
              refine vpOps_pure (x := .v (.bool (false))) (pAs rfl rfl rfl) rfl rfl rfl rfl ?_
              refine vpOps_nil ?_
              refine vp_ret ?_
              exact ⟨[.v (.bool (false))], [6], (.cons (.tmp rfl rfl) .nil), rfl, ⟨(show (.v (.bool (false)) : PV) = .v (.bool (decide (knOk k at_ n))) from (by first | exact dec_f (fun h => by rw [knOk, if_pos (by assumption)] at h; have q := h.1; rw [he, upOk_step (by omega)] at q; omega) | exact dec_f (fun h => by rw [knOk, if_pos (by assumption)] at h; have q := h.2.1; rw [← len_nil] at q; contradiction) | (refine dec_i ?_; rw [knOk, if_pos (by assumption), leafOk, he, upOk_end (by omega), ← len_nil, ← len_nil]; exact ⟨fun h => ⟨trivial, by assumption, h⟩, fun h => h.2.2⟩) | exact dec_f (fun h => by rw [knOk, if_neg (by assumption)] at h; obtain ⟨⟨⟨q1, q2⟩, q3, q4, q5⟩, q6⟩ := h; have q8 : k.cards.length = 0 := (by rw [q3, List.length_nil]); have q9 : k.values.length ≠ 0 := (fun e => q4 (List.length_eq_zero_iff.1 e)); omega) | exact dec_f (fun h => by rw [knOk, if_neg (by assumption)] at h; have q := h.2 i (by omega); obtain ⟨r1, r2, r3, r4⟩ := q; first | omega | (have r5 := r2 (by omega); omega)) | exact dec_t (by rw [knOk, if_neg (by assumption)]; exact ⟨hd, fun j hj => hA j (by omega)⟩))), rfl⟩⟩
            · skip
              refine vp_skip ?_
              refine vp_region ?_
              refine vpOps_pure (x := .v (.int .i64 (((i : Nat) : Int) + 1))) (pure_add rfl rfl rfl (in64 (by omega) (by omega))) rfl rfl rfl rfl ?_
              refine vpOps_pure (x := .v (.int .i64 (((i : Nat) : Int) + 1))) (pMv rfl rfl rfl) rfl rfl rfl rfl ?_
              refine vpOps_nil ?_
              exact ⟨i + 1, (by first | omega | (dsimp only; omega)), ⟨(by omega), (by rw [he, upOk_step (by omega), prevOf_succ]; exact ⟨fun h => h.2, fun h => ⟨by omega, h⟩⟩), (by rw [prevOf_succ]; omega), trivial⟩, ⟨rfl, rfl, rfl, rfl, rfl, rfl, rfl, trivial⟩⟩
          · skip
            refine vPass rfl rfl rfl (decide_eq_false h5) rfl rfl rfl ?_
            refine vPass rfl rfl rfl (decide_eq_false h5) rfl rfl rfl ?_
            refine vPass rfl rfl rfl (decide_eq_false h5) rfl rfl rfl ?_
            refine vPass rfl rfl rfl (decide_eq_false h5) rfl rfl rfl ?_
            refine vPass rfl rfl rfl (decide_eq_false h5) rfl rfl rfl ?_
            refine vPass rfl rfl rfl (decide_eq_false h5) rfl rfl rfl ?_
            refine vPass rfl rfl rfl (decide_eq_false h5) rfl rfl rfl ?_
            refine vPass rfl rfl rfl (decide_eq_false h5) rfl rfl rfl ?_
            refine vRun rfl rfl rfl (decide_eq_false h4) rfl rfl rfl ?_
            refine vpOps_pure (x := .v (.bool (false))) (pPf rfl rfl (decide_eq_false h5) rfl rfl) rfl rfl rfl rfl ?_
            refine vpOps_pure (x := .v (.bool (false))) (pPf rfl rfl (decide_eq_false h4) rfl rfl) rfl rfl rfl rfl ?_
            refine vpOps_nil ?_
            refine vIfF rfl rfl ?_
            refine vp_skip ?_
            refine vp_region ?_
            refine vpOps_pure (x := .v (.int .i64 (((i : Nat) : Int) + 1))) (pure_add rfl rfl rfl (in64 (by omega) (by omega))) rfl rfl rfl rfl ?_
            refine vpOps_pure (x := .v (.int .i64 (((i : Nat) : Int) + 1))) (pMv rfl rfl rfl) rfl rfl rfl rfl ?_
            refine vpOps_nil ?_
            exact ⟨i + 1, (by first | omega | (dsimp only; omega)), ⟨(by omega), (by rw [he, upOk_step (by omega), prevOf_succ]; exact ⟨fun h => h.2, fun h => ⟨by omega, h⟩⟩), (by rw [prevOf_succ]; omega), trivial⟩, ⟨rfl, rfl, rfl, rfl, rfl, rfl, rfl, trivial⟩⟩
    · skip
      refine vp_exit ?_
      refine vp_seq ?_
      refine vp_region ?_
      refine vpOps_pure (x := .pl 3 [⟨0, 1, 0⟩]) (pure_field_ref rfl rfl rfl rfl) rfl rfl rfl rfl ?_
      refine vpOps_pure (x := .sh 1 (k.values.map i64c)) (pure_load_pl rfl rfl rfl rfl rfl rfl rfl trivial rfl) rfl rfl rfl rfl ?_
      refine vpOps_pure (x := .v (.int .i64 ((k.values.length : Nat) : Int))) (pLen rfl rfl (List.length_map _)) rfl rfl rfl rfl ?_
      refine vpOps_pure (x := .v (.bool (decide (((k.values.length : Nat) : Int) = 0)))) (pure_bin rfl rfl rfl rfl) rfl rfl rfl rfl ?_
      refine vpOps_pure (x := .v (.bool (decide (((k.values.length : Nat) : Int) = 0)))) (pMv rfl rfl rfl) rfl rfl rfl rfl ?_
      by_cases h7 : ((k.values.length : Nat) : Int) = 0
      · skip
        refine vRun rfl rfl rfl (decide_eq_true h7) rfl rfl rfl ?_
        refine vpOps_pure (x := .pl 3 [⟨0, 2, 0⟩]) (pure_field_ref rfl rfl rfl rfl) rfl rfl rfl rfl ?_
        refine vRun rfl rfl rfl (decide_eq_true h7) rfl rfl rfl ?_
        refine vpOps_pure (x := .sh 1 (k.next.map i16c)) (pure_load_pl rfl rfl rfl rfl rfl rfl rfl trivial rfl) rfl rfl rfl rfl ?_
        refine vRun rfl rfl rfl (decide_eq_true h7) rfl rfl rfl ?_
        refine vpOps_pure (x := .v (.int .i64 ((k.next.length : Nat) : Int))) (pLen rfl rfl (List.length_map _)) rfl rfl rfl rfl ?_
        refine vRun rfl rfl rfl (decide_eq_true h7) rfl rfl rfl ?_
        refine vpOps_pure (x := .v (.bool (decide (((k.next.length : Nat) : Int) = 0)))) (pure_bin rfl rfl rfl rfl) rfl rfl rfl rfl ?_
        refine vpOps_pure (x := .v (.bool (decide (((k.next.length : Nat) : Int) = 0)))) (pPt rfl rfl (decide_eq_true h7) rfl rfl) rfl rfl rfl rfl ?_
        refine vpOps_pure (x := .v (.bool (decide (((k.next.length : Nat) : Int) = 0)))) (pAs rfl rfl rfl) rfl rfl rfl rfl ?_
        refine vpOps_nil ?_
        refine vp_ret ?_
        exact ⟨[.v (.bool (decide (((k.next.length : Nat) : Int) = 0)))], [6], (.cons (.tmp rfl rfl) .nil), rfl, ⟨(show (.v (.bool (decide (((k.next.length : Nat) : Int) = 0))) : PV) = .v (.bool (decide (knOk k at_ n))) from (by first | exact dec_f (fun h => by rw [knOk, if_pos (by assumption)] at h; have q := h.1; rw [he, upOk_step (by omega)] at q; omega) | exact dec_f (fun h => by rw [knOk, if_pos (by assumption)] at h; have q := h.2.1; rw [← len_nil] at q; contradiction) | (refine dec_i ?_; rw [knOk, if_pos (by assumption), leafOk, he, upOk_end (by omega), ← len_nil, ← len_nil]; exact ⟨fun h => ⟨trivial, by assumption, h⟩, fun h => h.2.2⟩) | exact dec_f (fun h => by rw [knOk, if_neg (by assumption)] at h; obtain ⟨⟨⟨q1, q2⟩, q3, q4, q5⟩, q6⟩ := h; have q8 : k.cards.length = 0 := (by rw [q3, List.length_nil]); have q9 : k.values.length ≠ 0 := (fun e => q4 (List.length_eq_zero_iff.1 e)); omega) | exact dec_f (fun h => by rw [knOk, if_neg (by assumption)] at h; have q := h.2 i (by omega); obtain ⟨r1, r2, r3, r4⟩ := q; first | omega | (have r5 := r2 (by omega); omega)) | exact dec_t (by rw [knOk, if_neg (by assumption)]; exact ⟨hd, fun j hj => hA j (by omega)⟩))), rfl⟩⟩
      · skip
        refine vPass rfl rfl rfl (decide_eq_false h7) rfl rfl rfl ?_
        refine vPass rfl rfl rfl (decide_eq_false h7) rfl rfl rfl ?_
        refine vPass rfl rfl rfl (decide_eq_false h7) rfl rfl rfl ?_
        refine vPass rfl rfl rfl (decide_eq_false h7) rfl rfl rfl ?_
        refine vpOps_pure (x := .v (.bool (false))) (pPf rfl rfl (decide_eq_false h7) rfl rfl) rfl rfl rfl rfl ?_
        refine vpOps_pure (x := .v (.bool (false))) (pAs rfl rfl rfl) rfl rfl rfl rfl ?_
        refine vpOps_nil ?_
        refine vp_ret ?_
        exact ⟨[.v (.bool (false))], [6], (.cons (.tmp rfl rfl) .nil), rfl, ⟨(show (.v (.bool (false)) : PV) = .v (.bool (decide (knOk k at_ n))) from (by first | exact dec_f (fun h => by rw [knOk, if_pos (by assumption)] at h; have q := h.1; rw [he, upOk_step (by omega)] at q; omega) | exact dec_f (fun h => by rw [knOk, if_pos (by assumption)] at h; have q := h.2.1; rw [← len_nil] at q; contradiction) | (refine dec_i ?_; rw [knOk, if_pos (by assumption), leafOk, he, upOk_end (by omega), ← len_nil, ← len_nil]; exact ⟨fun h => ⟨trivial, by assumption, h⟩, fun h => h.2.2⟩) | exact dec_f (fun h => by rw [knOk, if_neg (by assumption)] at h; obtain ⟨⟨⟨q1, q2⟩, q3, q4, q5⟩, q6⟩ := h; have q8 : k.cards.length = 0 := (by rw [q3, List.length_nil]); have q9 : k.values.length ≠ 0 := (fun e => q4 (List.length_eq_zero_iff.1 e)); omega) | exact dec_f (fun h => by rw [knOk, if_neg (by assumption)] at h; have q := h.2 i (by omega); obtain ⟨r1, r2, r3, r4⟩ := q; first | omega | (have r5 := r2 (by omega); omega)) | exact dec_t (by rw [knOk, if_neg (by assumption)]; exact ⟨hd, fun j hj => hA j (by omega)⟩))), rfl⟩⟩
  · skip
    refine vp_skip ?_
    refine vp_seq ?_
    refine vp_seq ?_
    refine vp_region ?_
    refine vpOps_pure (x := .pl 3 [⟨0, 0, 0⟩]) (pure_field_ref rfl rfl rfl rfl) rfl rfl rfl rfl ?_
    refine vpOps_pure (x := .v (.int .i16 k.field)) (pure_load_pl rfl rfl rfl rfl rfl rfl rfl trivial rfl) rfl rfl rfl rfl ?_
    refine vpOps_pure (x := .v (.bool (decide (k.field < (-1))))) (pure_bin rfl rfl rfl rfl) rfl rfl rfl rfl ?_
    refine vpOps_pure (x := .v (.bool (decide (k.field < (-1))))) (pMv rfl rfl rfl) rfl rfl rfl rfl ?_
    by_cases h8 : k.field < (-1)
    · skip
      refine vPass rfl rfl rfl (decide_eq_true h8) rfl rfl rfl ?_
      refine vPass rfl rfl rfl (decide_eq_true h8) rfl rfl rfl ?_
      refine vPass rfl rfl rfl (decide_eq_true h8) rfl rfl rfl ?_
      refine vpOps_pure (x := .v (.bool (true))) (pPt rfl rfl (decide_eq_true h8) rfl rfl) rfl rfl rfl rfl ?_
      refine vpOps_pure (x := .v (.bool (true))) (pMv rfl rfl rfl) rfl rfl rfl rfl ?_
      refine vPass rfl rfl rfl rfl rfl rfl rfl ?_
      refine vPass rfl rfl rfl rfl rfl rfl rfl ?_
      refine vPass rfl rfl rfl rfl rfl rfl rfl ?_
      refine vPass rfl rfl rfl rfl rfl rfl rfl ?_
      refine vpOps_pure (x := .v (.bool (true))) (pPt rfl rfl rfl rfl rfl) rfl rfl rfl rfl ?_
      refine vpOps_pure (x := .v (.bool (true))) (pMv rfl rfl rfl) rfl rfl rfl rfl ?_
      refine vPass rfl rfl rfl rfl rfl rfl rfl ?_
      refine vPass rfl rfl rfl rfl rfl rfl rfl ?_
      refine vPass rfl rfl rfl rfl rfl rfl rfl ?_
      refine vPass rfl rfl rfl rfl rfl rfl rfl ?_
      refine vpOps_pure (x := .v (.bool (true))) (pPt rfl rfl rfl rfl rfl) rfl rfl rfl rfl ?_
      refine vpOps_pure (x := .v (.bool (true))) (pMv rfl rfl rfl) rfl rfl rfl rfl ?_
      refine vPass rfl rfl rfl rfl rfl rfl rfl ?_
      refine vPass rfl rfl rfl rfl rfl rfl rfl ?_
      refine vPass rfl rfl rfl rfl rfl rfl rfl ?_
      refine vPass rfl rfl rfl rfl rfl rfl rfl ?_
      refine vPass rfl rfl rfl rfl rfl rfl rfl ?_
      refine vPass rfl rfl rfl rfl rfl rfl rfl ?_
      refine vPass rfl rfl rfl rfl rfl rfl rfl ?_
      refine vpOps_pure (x := .v (.bool (true))) (pPt rfl rfl rfl rfl rfl) rfl rfl rfl rfl ?_
      refine vpOps_nil ?_
      refine vIfT rfl rfl ?_
      refine vp_seq ?_
      refine vp_region ?_
      refine vpOps_pure (x := .v (.bool (false))) (pAs rfl rfl rfl) rfl rfl rfl rfl ?_
      refine vpOps_nil ?_
      refine vp_ret ?_
      exact ⟨[.v (.bool (false))], [6], (.cons (.tmp rfl rfl) .nil), rfl, ⟨(show (.v (.bool (false)) : PV) = .v (.bool (decide (knOk k at_ n))) from (by first | exact dec_f (fun h => by rw [knOk, if_pos (by assumption)] at h; have q := h.1; rw [he, upOk_step (by omega)] at q; omega) | exact dec_f (fun h => by rw [knOk, if_pos (by assumption)] at h; have q := h.2.1; rw [← len_nil] at q; contradiction) | (refine dec_i ?_; rw [knOk, if_pos (by assumption), leafOk, he, upOk_end (by omega), ← len_nil, ← len_nil]; exact ⟨fun h => ⟨trivial, by assumption, h⟩, fun h => h.2.2⟩) | exact dec_f (fun h => by rw [knOk, if_neg (by assumption)] at h; obtain ⟨⟨⟨q1, q2⟩, q3, q4, q5⟩, q6⟩ := h; have q8 : k.cards.length = 0 := (by rw [q3, List.length_nil]); have q9 : k.values.length ≠ 0 := (fun e => q4 (List.length_eq_zero_iff.1 e)); omega) | exact dec_f (fun h => by rw [knOk, if_neg (by assumption)] at h; have q := h.2 i (by omega); obtain ⟨r1, r2, r3, r4⟩ := q; first | omega | (have r5 := r2 (by omega); omega)) | exact dec_t (by rw [knOk, if_neg (by assumption)]; exact ⟨hd, fun j hj => hA j (by omega)⟩))), rfl⟩⟩
    · skip
      refine vRun rfl rfl rfl (decide_eq_false h8) rfl rfl rfl ?_
      refine vpOps_pure (x := .pl 3 [⟨0, 0, 0⟩]) (pure_field_ref rfl rfl rfl rfl) rfl rfl rfl rfl ?_
      refine vRun rfl rfl rfl (decide_eq_false h8) rfl rfl rfl ?_
      refine vpOps_pure (x := .v (.int .i16 k.field)) (pure_load_pl rfl rfl rfl rfl rfl rfl rfl trivial rfl) rfl rfl rfl rfl ?_
      refine vRun rfl rfl rfl (decide_eq_false h8) rfl rfl rfl ?_
      refine vpOps_pure (x := .v (.bool (decide (12 ≤ k.field)))) (pure_bin rfl rfl rfl rfl) rfl rfl rfl rfl ?_
      refine vpOps_pure (x := .v (.bool (decide (12 ≤ k.field)))) (pPf rfl rfl (decide_eq_false h8) rfl rfl) rfl rfl rfl rfl ?_
      refine vpOps_pure (x := .v (.bool (decide (12 ≤ k.field)))) (pMv rfl rfl rfl) rfl rfl rfl rfl ?_
      by_cases h9 : 12 ≤ k.field
      · skip
        refine vPass rfl rfl rfl (decide_eq_true h9) rfl rfl rfl ?_
        refine vPass rfl rfl rfl (decide_eq_true h9) rfl rfl rfl ?_
        refine vPass rfl rfl rfl (decide_eq_true h9) rfl rfl rfl ?_
        refine vPass rfl rfl rfl (decide_eq_true h9) rfl rfl rfl ?_
        refine vpOps_pure (x := .v (.bool (true))) (pPt rfl rfl (decide_eq_true h9) rfl rfl) rfl rfl rfl rfl ?_
        refine vpOps_pure (x := .v (.bool (true))) (pMv rfl rfl rfl) rfl rfl rfl rfl ?_
        refine vPass rfl rfl rfl rfl rfl rfl rfl ?_
        refine vPass rfl rfl rfl rfl rfl rfl rfl ?_
        refine vPass rfl rfl rfl rfl rfl rfl rfl ?_
        refine vPass rfl rfl rfl rfl rfl rfl rfl ?_
        refine vpOps_pure (x := .v (.bool (true))) (pPt rfl rfl rfl rfl rfl) rfl rfl rfl rfl ?_
        refine vpOps_pure (x := .v (.bool (true))) (pMv rfl rfl rfl) rfl rfl rfl rfl ?_
        refine vPass rfl rfl rfl rfl rfl rfl rfl ?_
        refine vPass rfl rfl rfl rfl rfl rfl rfl ?_
        refine vPass rfl rfl rfl rfl rfl rfl rfl ?_
        refine vPass rfl rfl rfl rfl rfl rfl rfl ?_
        refine vPass rfl rfl rfl rfl rfl rfl rfl ?_
        refine vPass rfl rfl rfl rfl rfl rfl rfl ?_
        refine vPass rfl rfl rfl rfl rfl rfl rfl ?_
        refine vpOps_pure (x := .v (.bool (true))) (pPt rfl rfl rfl rfl rfl) rfl rfl rfl rfl ?_
        refine vpOps_nil ?_
        refine vIfT rfl rfl ?_
        refine vp_seq ?_
        refine vp_region ?_
        refine vpOps_pure (x := .v (.bool (false))) (pAs rfl rfl rfl) rfl rfl rfl rfl ?_
        refine vpOps_nil ?_
        refine vp_ret ?_
        exact ⟨[.v (.bool (false))], [6], (.cons (.tmp rfl rfl) .nil), rfl, ⟨(show (.v (.bool (false)) : PV) = .v (.bool (decide (knOk k at_ n))) from (by first | exact dec_f (fun h => by rw [knOk, if_pos (by assumption)] at h; have q := h.1; rw [he, upOk_step (by omega)] at q; omega) | exact dec_f (fun h => by rw [knOk, if_pos (by assumption)] at h; have q := h.2.1; rw [← len_nil] at q; contradiction) | (refine dec_i ?_; rw [knOk, if_pos (by assumption), leafOk, he, upOk_end (by omega), ← len_nil, ← len_nil]; exact ⟨fun h => ⟨trivial, by assumption, h⟩, fun h => h.2.2⟩) | exact dec_f (fun h => by rw [knOk, if_neg (by assumption)] at h; obtain ⟨⟨⟨q1, q2⟩, q3, q4, q5⟩, q6⟩ := h; have q8 : k.cards.length = 0 := (by rw [q3, List.length_nil]); have q9 : k.values.length ≠ 0 := (fun e => q4 (List.length_eq_zero_iff.1 e)); omega) | exact dec_f (fun h => by rw [knOk, if_neg (by assumption)] at h; have q := h.2 i (by omega); obtain ⟨r1, r2, r3, r4⟩ := q; first | omega | (have r5 := r2 (by omega); omega)) | exact dec_t (by rw [knOk, if_neg (by assumption)]; exact ⟨hd, fun j hj => hA j (by omega)⟩))), rfl⟩⟩
      · skip
        refine vRun rfl rfl rfl (decide_eq_false h9) rfl rfl rfl ?_
        refine vpOps_pure (x := .pl 3 [⟨0, 3, 0⟩]) (pure_field_ref rfl rfl rfl rfl) rfl rfl rfl rfl ?_
        refine vRun rfl rfl rfl (decide_eq_false h9) rfl rfl rfl ?_
        refine vpOps_pure (x := .sh 1 (k.cards.map i64c)) (pure_load_pl rfl rfl rfl rfl rfl rfl rfl trivial rfl) rfl rfl rfl rfl ?_
        refine vRun rfl rfl rfl (decide_eq_false h9) rfl rfl rfl ?_
        refine vpOps_pure (x := .v (.int .i64 ((k.cards.length : Nat) : Int))) (pLen rfl rfl (List.length_map _)) rfl rfl rfl rfl ?_
        refine vRun rfl rfl rfl (decide_eq_false h9) rfl rfl rfl ?_
        refine vpOps_pure (x := .v (.bool (decide (0 < ((k.cards.length : Nat) : Int))))) (pure_bin rfl rfl rfl rfl) rfl rfl rfl rfl ?_
        refine vpOps_pure (x := .v (.bool (decide (0 < ((k.cards.length : Nat) : Int))))) (pPf rfl rfl (decide_eq_false h9) rfl rfl) rfl rfl rfl rfl ?_
        refine vpOps_pure (x := .v (.bool (decide (0 < ((k.cards.length : Nat) : Int))))) (pMv rfl rfl rfl) rfl rfl rfl rfl ?_
        by_cases h10 : 0 < ((k.cards.length : Nat) : Int)
        · skip
          refine vPass rfl rfl rfl (decide_eq_true h10) rfl rfl rfl ?_
          refine vPass rfl rfl rfl (decide_eq_true h10) rfl rfl rfl ?_
          refine vPass rfl rfl rfl (decide_eq_true h10) rfl rfl rfl ?_
          refine vPass rfl rfl rfl (decide_eq_true h10) rfl rfl rfl ?_
          refine vpOps_pure (x := .v (.bool (true))) (pPt rfl rfl (decide_eq_true h10) rfl rfl) rfl rfl rfl rfl ?_
          refine vpOps_pure (x := .v (.bool (true))) (pMv rfl rfl rfl) rfl rfl rfl rfl ?_
          refine vPass rfl rfl rfl rfl rfl rfl rfl ?_
          refine vPass rfl rfl rfl rfl rfl rfl rfl ?_
          refine vPass rfl rfl rfl rfl rfl rfl rfl ?_
          refine vPass rfl rfl rfl rfl rfl rfl rfl ?_
          refine vPass rfl rfl rfl rfl rfl rfl rfl ?_
          refine vPass rfl rfl rfl rfl rfl rfl rfl ?_
          refine vPass rfl rfl rfl rfl rfl rfl rfl ?_
          refine vpOps_pure (x := .v (.bool (true))) (pPt rfl rfl rfl rfl rfl) rfl rfl rfl rfl ?_
          refine vpOps_nil ?_
          refine vIfT rfl rfl ?_
          refine vp_seq ?_
          refine vp_region ?_
          refine vpOps_pure (x := .v (.bool (false))) (pAs rfl rfl rfl) rfl rfl rfl rfl ?_
          refine vpOps_nil ?_
          refine vp_ret ?_
          exact ⟨[.v (.bool (false))], [6], (.cons (.tmp rfl rfl) .nil), rfl, ⟨(show (.v (.bool (false)) : PV) = .v (.bool (decide (knOk k at_ n))) from (by first | exact dec_f (fun h => by rw [knOk, if_pos (by assumption)] at h; have q := h.1; rw [he, upOk_step (by omega)] at q; omega) | exact dec_f (fun h => by rw [knOk, if_pos (by assumption)] at h; have q := h.2.1; rw [← len_nil] at q; contradiction) | (refine dec_i ?_; rw [knOk, if_pos (by assumption), leafOk, he, upOk_end (by omega), ← len_nil, ← len_nil]; exact ⟨fun h => ⟨trivial, by assumption, h⟩, fun h => h.2.2⟩) | exact dec_f (fun h => by rw [knOk, if_neg (by assumption)] at h; obtain ⟨⟨⟨q1, q2⟩, q3, q4, q5⟩, q6⟩ := h; have q8 : k.cards.length = 0 := (by rw [q3, List.length_nil]); have q9 : k.values.length ≠ 0 := (fun e => q4 (List.length_eq_zero_iff.1 e)); omega) | exact dec_f (fun h => by rw [knOk, if_neg (by assumption)] at h; have q := h.2 i (by omega); obtain ⟨r1, r2, r3, r4⟩ := q; first | omega | (have r5 := r2 (by omega); omega)) | exact dec_t (by rw [knOk, if_neg (by assumption)]; exact ⟨hd, fun j hj => hA j (by omega)⟩))), rfl⟩⟩
        · skip
          refine vRun rfl rfl rfl (decide_eq_false h10) rfl rfl rfl ?_
          refine vpOps_pure (x := .pl 3 [⟨0, 1, 0⟩]) (pure_field_ref rfl rfl rfl rfl) rfl rfl rfl rfl ?_
          refine vRun rfl rfl rfl (decide_eq_false h10) rfl rfl rfl ?_
          refine vpOps_pure (x := .sh 1 (k.values.map i64c)) (pure_load_pl rfl rfl rfl rfl rfl rfl rfl trivial rfl) rfl rfl rfl rfl ?_
          refine vRun rfl rfl rfl (decide_eq_false h10) rfl rfl rfl ?_
          refine vpOps_pure (x := .v (.int .i64 ((k.values.length : Nat) : Int))) (pLen rfl rfl (List.length_map _)) rfl rfl rfl rfl ?_
          refine vRun rfl rfl rfl (decide_eq_false h10) rfl rfl rfl ?_
          refine vpOps_pure (x := .v (.bool (decide (((k.values.length : Nat) : Int) = 0)))) (pure_bin rfl rfl rfl rfl) rfl rfl rfl rfl ?_
          refine vpOps_pure (x := .v (.bool (decide (((k.values.length : Nat) : Int) = 0)))) (pPf rfl rfl (decide_eq_false h10) rfl rfl) rfl rfl rfl rfl ?_
          refine vpOps_pure (x := .v (.bool (decide (((k.values.length : Nat) : Int) = 0)))) (pMv rfl rfl rfl) rfl rfl rfl rfl ?_
          by_cases h11 : ((k.values.length : Nat) : Int) = 0
          · skip
            refine vPass rfl rfl rfl (decide_eq_true h11) rfl rfl rfl ?_
            refine vPass rfl rfl rfl (decide_eq_true h11) rfl rfl rfl ?_
            refine vPass rfl rfl rfl (decide_eq_true h11) rfl rfl rfl ?_
            refine vPass rfl rfl rfl (decide_eq_true h11) rfl rfl rfl ?_
            refine vPass rfl rfl rfl (decide_eq_true h11) rfl rfl rfl ?_
            refine vPass rfl rfl rfl (decide_eq_true h11) rfl rfl rfl ?_
            refine vPass rfl rfl rfl (decide_eq_true h11) rfl rfl rfl ?_
            refine vpOps_pure (x := .v (.bool (true))) (pPt rfl rfl (decide_eq_true h11) rfl rfl) rfl rfl rfl rfl ?_
            refine vpOps_nil ?_
            refine vIfT rfl rfl ?_
            refine vp_seq ?_
            refine vp_region ?_
            refine vpOps_pure (x := .v (.bool (false))) (pAs rfl rfl rfl) rfl rfl rfl rfl ?_
            refine vpOps_nil ?_
            refine vp_ret ?_
            exact ⟨[.v (.bool (false))], [6], (.cons (.tmp rfl rfl) .nil), rfl, ⟨(show (.v (.bool (false)) : PV) = .v (.bool (decide (knOk k at_ n))) from (by first | exact dec_f (fun h => by rw [knOk, if_pos (by assumption)] at h; have q := h.1; rw [he, upOk_step (by omega)] at q; omega) | exact dec_f (fun h => by rw [knOk, if_pos (by assumption)] at h; have q := h.2.1; rw [← len_nil] at q; contradiction) | (refine dec_i ?_; rw [knOk, if_pos (by assumption), leafOk, he, upOk_end (by omega), ← len_nil, ← len_nil]; exact ⟨fun h => ⟨trivial, by assumption, h⟩, fun h => h.2.2⟩) | exact dec_f (fun h => by rw [knOk, if_neg (by assumption)] at h; obtain ⟨⟨⟨q1, q2⟩, q3, q4, q5⟩, q6⟩ := h; have q8 : k.cards.length = 0 := (by rw [q3, List.length_nil]); have q9 : k.values.length ≠ 0 := (fun e => q4 (List.length_eq_zero_iff.1 e)); omega) | exact dec_f (fun h => by rw [knOk, if_neg (by assumption)] at h; have q := h.2 i (by omega); obtain ⟨r1, r2, r3, r4⟩ := q; first | omega | (have r5 := r2 (by omega); omega)) | exact dec_t (by rw [knOk, if_neg (by assumption)]; exact ⟨hd, fun j hj => hA j (by omega)⟩))), rfl⟩⟩
          · skip
            refine vRun rfl rfl rfl (decide_eq_false h11) rfl rfl rfl ?_
            refine vpOps_pure (x := .pl 3 [⟨0, 2, 0⟩]) (pure_field_ref rfl rfl rfl rfl) rfl rfl rfl rfl ?_
            refine vRun rfl rfl rfl (decide_eq_false h11) rfl rfl rfl ?_
            refine vpOps_pure (x := .sh 1 (k.next.map i16c)) (pure_load_pl rfl rfl rfl rfl rfl rfl rfl trivial rfl) rfl rfl rfl rfl ?_
            refine vRun rfl rfl rfl (decide_eq_false h11) rfl rfl rfl ?_
            refine vpOps_pure (x := .v (.int .i64 ((k.next.length : Nat) : Int))) (pLen rfl rfl (List.length_map _)) rfl rfl rfl rfl ?_
            refine vRun rfl rfl rfl (decide_eq_false h11) rfl rfl rfl ?_
            refine vpOps_pure (x := .pl 3 [⟨0, 1, 0⟩]) (pure_field_ref rfl rfl rfl rfl) rfl rfl rfl rfl ?_
            refine vRun rfl rfl rfl (decide_eq_false h11) rfl rfl rfl ?_
            refine vpOps_pure (x := .sh 1 (k.values.map i64c)) (pure_load_pl rfl rfl rfl rfl rfl rfl rfl trivial rfl) rfl rfl rfl rfl ?_
            refine vRun rfl rfl rfl (decide_eq_false h11) rfl rfl rfl ?_
            refine vpOps_pure (x := .v (.int .i64 ((k.values.length : Nat) : Int))) (pLen rfl rfl (List.length_map _)) rfl rfl rfl rfl ?_
            refine vRun rfl rfl rfl (decide_eq_false h11) rfl rfl rfl ?_
            refine vpOps_pure (x := .v (.bool (!decide (((k.next.length : Nat) : Int) = ((k.values.length : Nat) : Int))))) (pure_bin rfl rfl rfl rfl) rfl rfl rfl rfl ?_
            refine vpOps_pure (x := .v (.bool (!decide (((k.next.length : Nat) : Int) = ((k.values.length : Nat) : Int))))) (pPf rfl rfl (decide_eq_false h11) rfl rfl) rfl rfl rfl rfl ?_
            refine vpOps_nil ?_
            refine vIfN rfl (fun h12 => ?_) (fun h12 => ?_)
            · skip
              refine vp_seq ?_
              refine vp_region ?_
              refine vpOps_pure (x := .v (.bool (false))) (pAs rfl rfl rfl) rfl rfl rfl rfl ?_
              refine vpOps_nil ?_
              refine vp_ret ?_
              exact ⟨[.v (.bool (false))], [6], (.cons (.tmp rfl rfl) .nil), rfl, ⟨(show (.v (.bool (false)) : PV) = .v (.bool (decide (knOk k at_ n))) from (by first | exact dec_f (fun h => by rw [knOk, if_pos (by assumption)] at h; have q := h.1; rw [he, upOk_step (by omega)] at q; omega) | exact dec_f (fun h => by rw [knOk, if_pos (by assumption)] at h; have q := h.2.1; rw [← len_nil] at q; contradiction) | (refine dec_i ?_; rw [knOk, if_pos (by assumption), leafOk, he, upOk_end (by omega), ← len_nil, ← len_nil]; exact ⟨fun h => ⟨trivial, by assumption, h⟩, fun h => h.2.2⟩) | exact dec_f (fun h => by rw [knOk, if_neg (by assumption)] at h; obtain ⟨⟨⟨q1, q2⟩, q3, q4, q5⟩, q6⟩ := h; have q8 : k.cards.length = 0 := (by rw [q3, List.length_nil]); have q9 : k.values.length ≠ 0 := (fun e => q4 (List.length_eq_zero_iff.1 e)); omega) | exact dec_f (fun h => by rw [knOk, if_neg (by assumption)] at h; have q := h.2 i (by omega); obtain ⟨r1, r2, r3, r4⟩ := q; first | omega | (have r5 := r2 (by omega); omega)) | exact dec_t (by rw [knOk, if_neg (by assumption)]; exact ⟨hd, fun j hj => hA j (by omega)⟩))), rfl⟩⟩
            · skip
              refine vp_skip ?_
              refine vp_seq ?_
              refine vp_seq ?_
              refine vp_region ?_
              refine vpOps_pure (x := .pl 3 [⟨0, 1, 0⟩]) (pure_field_ref rfl rfl rfl rfl) rfl rfl rfl rfl ?_
              refine vpOps_pure (x := .sh 1 (k.values.map i64c)) (pure_load_pl rfl rfl rfl rfl rfl rfl rfl trivial rfl) rfl rfl rfl rfl ?_
              refine vpOps_pure (x := .v (.int .i64 ((k.values.length : Nat) : Int))) (pLen rfl rfl (List.length_map _)) rfl rfl rfl rfl ?_
              refine vpOps_pure (x := .v (.int .i64 0)) (pMv rfl rfl rfl) rfl rfl rfl rfl ?_
              refine vpOps_nil ?_
              refine vp_block ?_
              refine vLoop (α := Nat) (fun i => k.values.length - i) (fun i => (i ≤ k.values.length) ∧ (askHead k) ∧ (∀ j, j < i → arcAt k at_ n j) ∧ True) (fun i => [(0, .agg [.v (.int .i16 k.field), .sh 1 (k.values.map i64c), .sh 1 (k.next.map i16c), .sh 1 (k.cards.map i64c)]), (1, .v (.int .i64 at_)), (2, .v (.int .i64 ((n : Nat) : Int))), (3, .box [.v (.int .i16 k.field), .sh 1 (k.values.map i64c), .sh 1 (k.next.map i16c), .sh 1 (k.cards.map i64c)]), (83, .sh 1 (k.values.map i64c)), (84, .v (.int .i64 ((k.values.length : Nat) : Int))), (85, .v (.int .i64 ((i : Nat) : Int)))]) (fun _ => rfl) (fun _ => rfl) 0 ⟨(by omega), (by refine ⟨⟨by omega, by omega⟩, List.length_eq_zero_iff.1 (by omega), (fun e => absurd (len_nil.2 e) (by assumption)), by omega⟩), (by intro j hj; omega), trivial⟩ ⟨rfl, rfl, rfl, rfl, rfl, rfl, rfl, trivial⟩ ?_
              rintro i ⟨hi, hd, hA, -⟩
              have hx := k.ok_len hk
              have hnl := hd.2.2.2
              have hni := getD_of hk.ns (by decide) i
              refine vp_seq ?_
              refine vp_region ?_
              refine vpOps_pure (x := .v (.bool (decide (((i : Nat) : Int) < ((k.values.length : Nat) : Int))))) (pure_bin rfl rfl rfl rfl) rfl rfl rfl rfl ?_
              refine vpOps_nil ?_
              refine vp_seq ?_
              refine vIf rfl (fun h13 => ?_) (fun h13 => ?_)
              · skip
                refine vp_skip ?_
                refine vp_seq ?_
                refine vp_block ?_
                refine vp_seq ?_
                refine vp_region ?_
                refine vpOps_pure (x := .v (.int .i64 ((i : Nat) : Int))) (pMv rfl rfl rfl) rfl rfl rfl rfl ?_
                refine vpOps_pure (x := .rbox [.v (.int .i64 (k.values.getD i default))]) (pIx (m := i) rfl rfl rfl (by first | rfl | omega) (by omega) rfl) rfl rfl rfl rfl ?_
                refine vpOps_pure (x := .v (.int .i64 (k.values.getD i default))) (pure_load_rbox rfl rfl rfl) rfl rfl rfl rfl ?_
                refine vpOps_pure (x := .v (.int .i64 ((i : Nat) : Int))) (pAs rfl rfl rfl) rfl rfl rfl rfl ?_
                refine vpOps_pure (x := .v (.int .i64 (k.values.getD i default))) (pAs rfl rfl rfl) rfl rfl rfl rfl ?_
                refine vpOps_nil ?_
                refine vp_seq ?_
                refine vp_region ?_
                refine vpOps_pure (x := .v (.int .i64 (k.values.getD i default))) (pMv rfl rfl rfl) rfl rfl rfl rfl ?_
                refine vpOps_pure (x := .v (.bool (decide ((k.values.getD i default) < (-2))))) (pure_bin rfl rfl rfl rfl) rfl rfl rfl rfl ?_
                refine vpOps_pure (x := .v (.bool (decide ((k.values.getD i default) < (-2))))) (pMv rfl rfl rfl) rfl rfl rfl rfl ?_
                by_cases h14 : (k.values.getD i default) < (-2)
                · skip
                  refine vPass rfl rfl rfl (decide_eq_true h14) rfl rfl rfl ?_
                  refine vPass rfl rfl rfl (decide_eq_true h14) rfl rfl rfl ?_
                  refine vPass rfl rfl rfl (decide_eq_true h14) rfl rfl rfl ?_
                  refine vpOps_skip rfl rfl rfl rfl rfl ?_
                  refine vpOps_skip rfl rfl rfl rfl rfl ?_
                  refine vpOps_skip rfl rfl rfl rfl rfl ?_
                  refine vpOps_skip rfl rfl rfl rfl rfl ?_
                  refine vpOps_skip rfl rfl rfl rfl rfl ?_
                  refine vpOps_skip rfl rfl rfl rfl rfl ?_
                  refine vpOps_skip rfl rfl rfl rfl rfl ?_
                  refine vpOps_skip rfl rfl rfl rfl rfl ?_
                  refine vPass rfl rfl rfl (decide_eq_true h14) rfl rfl rfl ?_
                  refine vpOps_pure (x := .v (.bool (true))) (pPt rfl rfl (decide_eq_true h14) rfl rfl) rfl rfl rfl rfl ?_
                  refine vpOps_pure (x := .v (.bool (true))) (pMv rfl rfl rfl) rfl rfl rfl rfl ?_
                  refine vPass rfl rfl rfl rfl rfl rfl rfl ?_
                  refine vPass rfl rfl rfl rfl rfl rfl rfl ?_
                  refine vPass rfl rfl rfl rfl rfl rfl rfl ?_
                  refine vPass rfl rfl rfl rfl rfl rfl rfl ?_
                  refine vPass rfl rfl rfl rfl rfl rfl rfl ?_
                  refine vPass rfl rfl rfl rfl rfl rfl rfl ?_
                  refine vPass rfl rfl rfl rfl rfl rfl rfl ?_
                  refine vPass rfl rfl rfl rfl rfl rfl rfl ?_
                  refine vpOps_pure (x := .v (.bool (true))) (pPt rfl rfl rfl rfl rfl) rfl rfl rfl rfl ?_
                  refine vpOps_pure (x := .v (.bool (true))) (pMv rfl rfl rfl) rfl rfl rfl rfl ?_
                  refine vPass rfl rfl rfl rfl rfl rfl rfl ?_
                  refine vPass rfl rfl rfl rfl rfl rfl rfl ?_
                  refine vPass rfl rfl rfl rfl rfl rfl rfl ?_
                  refine vPass rfl rfl rfl rfl rfl rfl rfl ?_
                  refine vPass rfl rfl rfl rfl rfl rfl rfl ?_
                  refine vPass rfl rfl rfl rfl rfl rfl rfl ?_
                  refine vPass rfl rfl rfl rfl rfl rfl rfl ?_
                  refine vPass rfl rfl rfl rfl rfl rfl rfl ?_
                  refine vpOps_pure (x := .v (.bool (true))) (pPt rfl rfl rfl rfl rfl) rfl rfl rfl rfl ?_
                  refine vpOps_nil ?_
                  refine vIfT rfl rfl ?_
                  refine vp_seq ?_
                  refine vp_region ?_
                  refine vpOps_pure (x := .v (.bool (false))) (pAs rfl rfl rfl) rfl rfl rfl rfl ?_
                  refine vpOps_nil ?_
                  refine vp_ret ?_
                  exact ⟨[.v (.bool (false))], [6], (.cons (.tmp rfl rfl) .nil), rfl, ⟨(show (.v (.bool (false)) : PV) = .v (.bool (decide (knOk k at_ n))) from (by first | exact dec_f (fun h => by rw [knOk, if_pos (by assumption)] at h; have q := h.1; rw [he, upOk_step (by omega)] at q; omega) | exact dec_f (fun h => by rw [knOk, if_pos (by assumption)] at h; have q := h.2.1; rw [← len_nil] at q; contradiction) | (refine dec_i ?_; rw [knOk, if_pos (by assumption), leafOk, he, upOk_end (by omega), ← len_nil, ← len_nil]; exact ⟨fun h => ⟨trivial, by assumption, h⟩, fun h => h.2.2⟩) | exact dec_f (fun h => by rw [knOk, if_neg (by assumption)] at h; obtain ⟨⟨⟨q1, q2⟩, q3, q4, q5⟩, q6⟩ := h; have q8 : k.cards.length = 0 := (by rw [q3, List.length_nil]); have q9 : k.values.length ≠ 0 := (fun e => q4 (List.length_eq_zero_iff.1 e)); omega) | exact dec_f (fun h => by rw [knOk, if_neg (by assumption)] at h; have q := h.2 i (by omega); obtain ⟨r1, r2, r3, r4⟩ := q; first | omega | (have r5 := r2 (by omega); omega)) | exact dec_t (by rw [knOk, if_neg (by assumption)]; exact ⟨hd, fun j hj => hA j (by omega)⟩))), rfl⟩⟩
                · skip
                  refine vRun rfl rfl rfl (decide_eq_false h14) rfl rfl rfl ?_
                  refine vpOps_pure (x := .v (.int .i64 ((i : Nat) : Int))) (pMv rfl rfl rfl) rfl rfl rfl rfl ?_
                  refine vRun rfl rfl rfl (decide_eq_false h14) rfl rfl rfl ?_
                  refine vpOps_pure (x := .v (.bool (decide (0 < ((i : Nat) : Int))))) (pure_bin rfl rfl rfl rfl) rfl rfl rfl rfl ?_
                  refine vRun rfl rfl rfl (decide_eq_false h14) rfl rfl rfl ?_
                  refine vpOps_pure (x := .v (.bool (decide (0 < ((i : Nat) : Int))))) (pMv rfl rfl rfl) rfl rfl rfl rfl ?_
                  by_cases h15 : 0 < ((i : Nat) : Int)
                  · skip
                    refine vRun rfl rfl rfl (decide_eq_true h15) rfl rfl rfl ?_
                    refine vpOps_pure (x := .pl 3 [⟨0, 1, 0⟩]) (pure_field_ref rfl rfl rfl rfl) rfl rfl rfl rfl ?_
                    refine vRun rfl rfl rfl (decide_eq_true h15) rfl rfl rfl ?_
                    refine vpOps_pure (x := .sh 1 (k.values.map i64c)) (pure_load_pl rfl rfl rfl rfl rfl rfl rfl trivial rfl) rfl rfl rfl rfl ?_
                    refine vRun rfl rfl rfl (decide_eq_true h15) rfl rfl rfl ?_
                    refine vpOps_pure (x := .v (.int .i64 ((i : Nat) : Int))) (pMv rfl rfl rfl) rfl rfl rfl rfl ?_
                    refine vRun rfl rfl rfl (decide_eq_true h15) rfl rfl rfl ?_
                    refine vpOps_pure (x := .v (.int .i64 (((i : Nat) : Int) - 1))) (pure_sub rfl rfl rfl (in64 (by omega) (by omega))) rfl rfl rfl rfl ?_
                    refine vRun rfl rfl rfl (decide_eq_true h15) rfl rfl rfl ?_
                    refine vpOps_pure (x := .rbox [.v (.int .i64 (k.values.getD (i - 1) default))]) (pIx (m := i - 1) rfl rfl rfl (by first | rfl | omega) (by omega) rfl) rfl rfl rfl rfl ?_
                    refine vRun rfl rfl rfl (decide_eq_true h15) rfl rfl rfl ?_
                    refine vpOps_pure (x := .v (.int .i64 (k.values.getD (i - 1) default))) (pure_load_rbox rfl rfl rfl) rfl rfl rfl rfl ?_
                    refine vRun rfl rfl rfl (decide_eq_true h15) rfl rfl rfl ?_
                    refine vpOps_pure (x := .v (.int .i64 (k.values.getD i default))) (pMv rfl rfl rfl) rfl rfl rfl rfl ?_
                    refine vRun rfl rfl rfl (decide_eq_true h15) rfl rfl rfl ?_
                    refine vpOps_pure (x := .v (.bool (decide ((k.values.getD i default) ≤ (k.values.getD (i - 1) default))))) (pure_bin rfl rfl rfl rfl) rfl rfl rfl rfl ?_
                    refine vRun rfl rfl rfl (decide_eq_false h14) rfl rfl rfl ?_
                    refine vpOps_pure (x := .v (.bool (decide ((k.values.getD i default) ≤ (k.values.getD (i - 1) default))))) (pPt rfl rfl (decide_eq_true h15) rfl rfl) rfl rfl rfl rfl ?_
                    refine vpOps_pure (x := .v (.bool (decide ((k.values.getD i default) ≤ (k.values.getD (i - 1) default))))) (pPf rfl rfl (decide_eq_false h14) rfl rfl) rfl rfl rfl rfl ?_
                    refine vpOps_pure (x := .v (.bool (decide ((k.values.getD i default) ≤ (k.values.getD (i - 1) default))))) (pMv rfl rfl rfl) rfl rfl rfl rfl ?_
                    by_cases h16 : (k.values.getD i default) ≤ (k.values.getD (i - 1) default)
                    · skip
                      refine vPass rfl rfl rfl (decide_eq_true h16) rfl rfl rfl ?_
                      refine vPass rfl rfl rfl (decide_eq_true h16) rfl rfl rfl ?_
                      refine vPass rfl rfl rfl (decide_eq_true h16) rfl rfl rfl ?_
                      refine vPass rfl rfl rfl (decide_eq_true h16) rfl rfl rfl ?_
                      refine vPass rfl rfl rfl (decide_eq_true h16) rfl rfl rfl ?_
                      refine vPass rfl rfl rfl (decide_eq_true h16) rfl rfl rfl ?_
                      refine vPass rfl rfl rfl (decide_eq_true h16) rfl rfl rfl ?_
                      refine vPass rfl rfl rfl (decide_eq_true h16) rfl rfl rfl ?_
                      refine vpOps_pure (x := .v (.bool (true))) (pPt rfl rfl (decide_eq_true h16) rfl rfl) rfl rfl rfl rfl ?_
                      refine vpOps_pure (x := .v (.bool (true))) (pMv rfl rfl rfl) rfl rfl rfl rfl ?_
                      refine vPass rfl rfl rfl rfl rfl rfl rfl ?_
                      refine vPass rfl rfl rfl rfl rfl rfl rfl ?_
                      refine vPass rfl rfl rfl rfl rfl rfl rfl ?_
                      refine vPass rfl rfl rfl rfl rfl rfl rfl ?_
                      refine vPass rfl rfl rfl rfl rfl rfl rfl ?_
                      refine vPass rfl rfl rfl rfl rfl rfl rfl ?_
                      refine vPass rfl rfl rfl rfl rfl rfl rfl ?_
                      refine vPass rfl rfl rfl rfl rfl rfl rfl ?_
                      refine vpOps_pure (x := .v (.bool (true))) (pPt rfl rfl rfl rfl rfl) rfl rfl rfl rfl ?_
                      refine vpOps_nil ?_
                      refine vIfT rfl rfl ?_
                      refine vp_seq ?_
                      refine vp_region ?_
                      refine vpOps_pure (x := .v (.bool (false))) (pAs rfl rfl rfl) rfl rfl rfl rfl ?_
                      refine vpOps_nil ?_
                      refine vp_ret ?_
                      exact ⟨[.v (.bool (false))], [6], (.cons (.tmp rfl rfl) .nil), rfl, ⟨(show (.v (.bool (false)) : PV) = .v (.bool (decide (knOk k at_ n))) from (by first | exact dec_f (fun h => by rw [knOk, if_pos (by assumption)] at h; have q := h.1; rw [he, upOk_step (by omega)] at q; omega) | exact dec_f (fun h => by rw [knOk, if_pos (by assumption)] at h; have q := h.2.1; rw [← len_nil] at q; contradiction) | (refine dec_i ?_; rw [knOk, if_pos (by assumption), leafOk, he, upOk_end (by omega), ← len_nil, ← len_nil]; exact ⟨fun h => ⟨trivial, by assumption, h⟩, fun h => h.2.2⟩) | exact dec_f (fun h => by rw [knOk, if_neg (by assumption)] at h; obtain ⟨⟨⟨q1, q2⟩, q3, q4, q5⟩, q6⟩ := h; have q8 : k.cards.length = 0 := (by rw [q3, List.length_nil]); have q9 : k.values.length ≠ 0 := (fun e => q4 (List.length_eq_zero_iff.1 e)); omega) | exact dec_f (fun h => by rw [knOk, if_neg (by assumption)] at h; have q := h.2 i (by omega); obtain ⟨r1, r2, r3, r4⟩ := q; first | omega | (have r5 := r2 (by omega); omega)) | exact dec_t (by rw [knOk, if_neg (by assumption)]; exact ⟨hd, fun j hj => hA j (by omega)⟩))), rfl⟩⟩
                    · skip
                      refine vRun rfl rfl rfl (decide_eq_false h16) rfl rfl rfl ?_
                      refine vpOps_pure (x := .pl 3 [⟨0, 2, 0⟩]) (pure_field_ref rfl rfl rfl rfl) rfl rfl rfl rfl ?_
                      refine vRun rfl rfl rfl (decide_eq_false h16) rfl rfl rfl ?_
                      refine vpOps_pure (x := .sh 1 (k.next.map i16c)) (pure_load_pl rfl rfl rfl rfl rfl rfl rfl trivial rfl) rfl rfl rfl rfl ?_
                      refine vRun rfl rfl rfl (decide_eq_false h16) rfl rfl rfl ?_
                      refine vpOps_pure (x := .v (.int .i64 ((i : Nat) : Int))) (pMv rfl rfl rfl) rfl rfl rfl rfl ?_
                      refine vRun rfl rfl rfl (decide_eq_false h16) rfl rfl rfl ?_
                      refine vpOps_pure (x := .rbox [.v (.int .i16 (k.next.getD i default))]) (pIx (m := i) rfl rfl rfl (by first | rfl | omega) (by omega) rfl) rfl rfl rfl rfl ?_
                      refine vRun rfl rfl rfl (decide_eq_false h16) rfl rfl rfl ?_
                      refine vpOps_pure (x := .v (.int .i16 (k.next.getD i default))) (pure_load_rbox rfl rfl rfl) rfl rfl rfl rfl ?_
                      refine vRun rfl rfl rfl (decide_eq_false h16) rfl rfl rfl ?_
                      refine vpOps_pure (x := .v (.int .i64 (k.next.getD i default))) (pure_conv_in rfl rfl (in64 (by omega) (by omega))) rfl rfl rfl rfl ?_
                      refine vRun rfl rfl rfl (decide_eq_false h16) rfl rfl rfl ?_
                      refine vpOps_pure (x := .v (.int .i64 at_)) (pMv rfl rfl rfl) rfl rfl rfl rfl ?_
                      refine vRun rfl rfl rfl (decide_eq_false h16) rfl rfl rfl ?_
                      refine vpOps_pure (x := .v (.bool (decide ((k.next.getD i default) ≤ at_)))) (pure_bin rfl rfl rfl rfl) rfl rfl rfl rfl ?_
                      refine vpOps_pure (x := .v (.bool (decide ((k.next.getD i default) ≤ at_)))) (pPf rfl rfl (decide_eq_false h16) rfl rfl) rfl rfl rfl rfl ?_
                      refine vpOps_pure (x := .v (.bool (decide ((k.next.getD i default) ≤ at_)))) (pMv rfl rfl rfl) rfl rfl rfl rfl ?_
                      by_cases h17 : (k.next.getD i default) ≤ at_
                      · skip
                        refine vPass rfl rfl rfl (decide_eq_true h17) rfl rfl rfl ?_
                        refine vPass rfl rfl rfl (decide_eq_true h17) rfl rfl rfl ?_
                        refine vPass rfl rfl rfl (decide_eq_true h17) rfl rfl rfl ?_
                        refine vPass rfl rfl rfl (decide_eq_true h17) rfl rfl rfl ?_
                        refine vPass rfl rfl rfl (decide_eq_true h17) rfl rfl rfl ?_
                        refine vPass rfl rfl rfl (decide_eq_true h17) rfl rfl rfl ?_
                        refine vPass rfl rfl rfl (decide_eq_true h17) rfl rfl rfl ?_
                        refine vPass rfl rfl rfl (decide_eq_true h17) rfl rfl rfl ?_
                        refine vpOps_pure (x := .v (.bool (true))) (pPt rfl rfl (decide_eq_true h17) rfl rfl) rfl rfl rfl rfl ?_
                        refine vpOps_nil ?_
                        refine vIfT rfl rfl ?_
                        refine vp_seq ?_
                        refine vp_region ?_
                        refine vpOps_pure (x := .v (.bool (false))) (pAs rfl rfl rfl) rfl rfl rfl rfl ?_
                        refine vpOps_nil ?_
                        refine vp_ret ?_
                        exact ⟨[.v (.bool (false))], [6], (.cons (.tmp rfl rfl) .nil), rfl, ⟨(show (.v (.bool (false)) : PV) = .v (.bool (decide (knOk k at_ n))) from (by first | exact dec_f (fun h => by rw [knOk, if_pos (by assumption)] at h; have q := h.1; rw [he, upOk_step (by omega)] at q; omega) | exact dec_f (fun h => by rw [knOk, if_pos (by assumption)] at h; have q := h.2.1; rw [← len_nil] at q; contradiction) | (refine dec_i ?_; rw [knOk, if_pos (by assumption), leafOk, he, upOk_end (by omega), ← len_nil, ← len_nil]; exact ⟨fun h => ⟨trivial, by assumption, h⟩, fun h => h.2.2⟩) | exact dec_f (fun h => by rw [knOk, if_neg (by assumption)] at h; obtain ⟨⟨⟨q1, q2⟩, q3, q4, q5⟩, q6⟩ := h; have q8 : k.cards.length = 0 := (by rw [q3, List.length_nil]); have q9 : k.values.length ≠ 0 := (fun e => q4 (List.length_eq_zero_iff.1 e)); omega) | exact dec_f (fun h => by rw [knOk, if_neg (by assumption)] at h; have q := h.2 i (by omega); obtain ⟨r1, r2, r3, r4⟩ := q; first | omega | (have r5 := r2 (by omega); omega)) | exact dec_t (by rw [knOk, if_neg (by assumption)]; exact ⟨hd, fun j hj => hA j (by omega)⟩))), rfl⟩⟩
                      · skip
                        refine vRun rfl rfl rfl (decide_eq_false h17) rfl rfl rfl ?_
                        refine vpOps_pure (x := .pl 3 [⟨0, 2, 0⟩]) (pure_field_ref rfl rfl rfl rfl) rfl rfl rfl rfl ?_
                        refine vRun rfl rfl rfl (decide_eq_false h17) rfl rfl rfl ?_
                        refine vpOps_pure (x := .sh 1 (k.next.map i16c)) (pure_load_pl rfl rfl rfl rfl rfl rfl rfl trivial rfl) rfl rfl rfl rfl ?_
                        refine vRun rfl rfl rfl (decide_eq_false h17) rfl rfl rfl ?_
                        refine vpOps_pure (x := .v (.int .i64 ((i : Nat) : Int))) (pMv rfl rfl rfl) rfl rfl rfl rfl ?_
                        refine vRun rfl rfl rfl (decide_eq_false h17) rfl rfl rfl ?_
                        refine vpOps_pure (x := .rbox [.v (.int .i16 (k.next.getD i default))]) (pIx (m := i) rfl rfl rfl (by first | rfl | omega) (by omega) rfl) rfl rfl rfl rfl ?_
                        refine vRun rfl rfl rfl (decide_eq_false h17) rfl rfl rfl ?_
                        refine vpOps_pure (x := .v (.int .i16 (k.next.getD i default))) (pure_load_rbox rfl rfl rfl) rfl rfl rfl rfl ?_
                        refine vRun rfl rfl rfl (decide_eq_false h17) rfl rfl rfl ?_
                        refine vpOps_pure (x := .v (.int .i64 (k.next.getD i default))) (pure_conv_in rfl rfl (in64 (by omega) (by omega))) rfl rfl rfl rfl ?_
                        refine vRun rfl rfl rfl (decide_eq_false h17) rfl rfl rfl ?_
                        refine vpOps_pure (x := .v (.int .i64 ((n : Nat) : Int))) (pMv rfl rfl rfl) rfl rfl rfl rfl ?_
                        refine vRun rfl rfl rfl (decide_eq_false h17) rfl rfl rfl ?_
                        refine vpOps_pure (x := .v (.bool (decide (((n : Nat) : Int) ≤ (k.next.getD i default))))) (pure_bin rfl rfl rfl rfl) rfl rfl rfl rfl ?_
                        refine vpOps_pure (x := .v (.bool (decide (((n : Nat) : Int) ≤ (k.next.getD i default))))) (pPf rfl rfl (decide_eq_false h17) rfl rfl) rfl rfl rfl rfl ?_
                        refine vpOps_nil ?_
                        refine vIf rfl (fun h18 => ?_) (fun h18 => ?_)
                        · skip
                          refine vp_seq ?_
                          refine vp_region ?_
                          refine vpOps_pure (x := .v (.bool (false))) (pAs rfl rfl rfl) rfl rfl rfl rfl ?_
                          refine vpOps_nil ?_
                          refine vp_ret ?_
                          exact ⟨[.v (.bool (false))], [6], (.cons (.tmp rfl rfl) .nil), rfl, ⟨(show (.v (.bool (false)) : PV) = .v (.bool (decide (knOk k at_ n))) from (by first | exact dec_f (fun h => by rw [knOk, if_pos (by assumption)] at h; have q := h.1; rw [he, upOk_step (by omega)] at q; omega) | exact dec_f (fun h => by rw [knOk, if_pos (by assumption)] at h; have q := h.2.1; rw [← len_nil] at q; contradiction) | (refine dec_i ?_; rw [knOk, if_pos (by assumption), leafOk, he, upOk_end (by omega), ← len_nil, ← len_nil]; exact ⟨fun h => ⟨trivial, by assumption, h⟩, fun h => h.2.2⟩) | exact dec_f (fun h => by rw [knOk, if_neg (by assumption)] at h; obtain ⟨⟨⟨q1, q2⟩, q3, q4, q5⟩, q6⟩ := h; have q8 : k.cards.length = 0 := (by rw [q3, List.length_nil]); have q9 : k.values.length ≠ 0 := (fun e => q4 (List.length_eq_zero_iff.1 e)); omega) | exact dec_f (fun h => by rw [knOk, if_neg (by assumption)] at h; have q := h.2 i (by omega); obtain ⟨r1, r2, r3, r4⟩ := q; first | omega | (have r5 := r2 (by omega); omega)) | exact dec_t (by rw [knOk, if_neg (by assumption)]; exact ⟨hd, fun j hj => hA j (by omega)⟩))), rfl⟩⟩
                        · skip
                          refine vp_skip ?_
                          refine vp_region ?_
                          refine vpOps_pure (x := .v (.int .i64 (((i : Nat) : Int) + 1))) (pure_add rfl rfl rfl (in64 (by omega) (by omega))) rfl rfl rfl rfl ?_
                          refine vpOps_pure (x := .v (.int .i64 (((i : Nat) : Int) + 1))) (pMv rfl rfl rfl) rfl rfl rfl rfl ?_
                          refine vpOps_nil ?_
                          exact ⟨i + 1, (by first | omega | (dsimp only; omega)), ⟨(by omega), (by assumption), (by intro j hj; rcases Nat.lt_or_ge j i with hji | hji; exact hA j hji; rw [show j = i by omega]; refine ⟨by omega, by first | (intro hj0; omega) | (intro hj0; assumption), by omega, by omega⟩), trivial⟩, ⟨rfl, rfl, rfl, rfl, rfl, rfl, rfl, trivial⟩⟩
                  · skip
                    refine vPass rfl rfl rfl (decide_eq_false h15) rfl rfl rfl ?_
                    refine vPass rfl rfl rfl (decide_eq_false h15) rfl rfl rfl ?_
                    refine vPass rfl rfl rfl (decide_eq_false h15) rfl rfl rfl ?_
                    refine vPass rfl rfl rfl (decide_eq_false h15) rfl rfl rfl ?_
                    refine vPass rfl rfl rfl (decide_eq_false h15) rfl rfl rfl ?_
                    refine vPass rfl rfl rfl (decide_eq_false h15) rfl rfl rfl ?_
                    refine vPass rfl rfl rfl (decide_eq_false h15) rfl rfl rfl ?_
                    refine vPass rfl rfl rfl (decide_eq_false h15) rfl rfl rfl ?_
                    refine vRun rfl rfl rfl (decide_eq_false h14) rfl rfl rfl ?_
                    refine vpOps_pure (x := .v (.bool (false))) (pPf rfl rfl (decide_eq_false h15) rfl rfl) rfl rfl rfl rfl ?_
                    refine vpOps_pure (x := .v (.bool (false))) (pPf rfl rfl (decide_eq_false h14) rfl rfl) rfl rfl rfl rfl ?_
                    refine vpOps_pure (x := .v (.bool (false))) (pMv rfl rfl rfl) rfl rfl rfl rfl ?_
                    refine vRun rfl rfl rfl rfl rfl rfl rfl ?_
                    refine vpOps_pure (x := .pl 3 [⟨0, 2, 0⟩]) (pure_field_ref rfl rfl rfl rfl) rfl rfl rfl rfl ?_
                    refine vRun rfl rfl rfl rfl rfl rfl rfl ?_
                    refine vpOps_pure (x := .sh 1 (k.next.map i16c)) (pure_load_pl rfl rfl rfl rfl rfl rfl rfl trivial rfl) rfl rfl rfl rfl ?_
                    refine vRun rfl rfl rfl rfl rfl rfl rfl ?_
                    refine vpOps_pure (x := .v (.int .i64 ((i : Nat) : Int))) (pMv rfl rfl rfl) rfl rfl rfl rfl ?_
                    refine vRun rfl rfl rfl rfl rfl rfl rfl ?_
                    refine vpOps_pure (x := .rbox [.v (.int .i16 (k.next.getD i default))]) (pIx (m := i) rfl rfl rfl (by first | rfl | omega) (by omega) rfl) rfl rfl rfl rfl ?_
                    refine vRun rfl rfl rfl rfl rfl rfl rfl ?_
                    refine vpOps_pure (x := .v (.int .i16 (k.next.getD i default))) (pure_load_rbox rfl rfl rfl) rfl rfl rfl rfl ?_
                    refine vRun rfl rfl rfl rfl rfl rfl rfl ?_
                    refine vpOps_pure (x := .v (.int .i64 (k.next.getD i default))) (pure_conv_in rfl rfl (in64 (by omega) (by omega))) rfl rfl rfl rfl ?_
                    refine vRun rfl rfl rfl rfl rfl rfl rfl ?_
                    refine vpOps_pure (x := .v (.int .i64 at_)) (pMv rfl rfl rfl) rfl rfl rfl rfl ?_
                    refine vRun rfl rfl rfl rfl rfl rfl rfl ?_
                    refine vpOps_pure (x := .v (.bool (decide ((k.next.getD i default) ≤ at_)))) (pure_bin rfl rfl rfl rfl) rfl rfl rfl rfl ?_
                    refine vpOps_pure (x := .v (.bool (decide ((k.next.getD i default) ≤ at_)))) (pPf rfl rfl rfl rfl rfl) rfl rfl rfl rfl ?_
                    refine vpOps_pure (x := .v (.bool (decide ((k.next.getD i default) ≤ at_)))) (pMv rfl rfl rfl) rfl rfl rfl rfl ?_
                    by_cases h19 : (k.next.getD i default) ≤ at_
                    · skip
                      refine vPass rfl rfl rfl (decide_eq_true h19) rfl rfl rfl ?_
                      refine vPass rfl rfl rfl (decide_eq_true h19) rfl rfl rfl ?_
                      refine vPass rfl rfl rfl (decide_eq_true h19) rfl rfl rfl ?_
                      refine vPass rfl rfl rfl (decide_eq_true h19) rfl rfl rfl ?_
                      refine vPass rfl rfl rfl (decide_eq_true h19) rfl rfl rfl ?_
                      refine vPass rfl rfl rfl (decide_eq_true h19) rfl rfl rfl ?_
                      refine vPass rfl rfl rfl (decide_eq_true h19) rfl rfl rfl ?_
                      refine vPass rfl rfl rfl (decide_eq_true h19) rfl rfl rfl ?_
                      refine vpOps_pure (x := .v (.bool (true))) (pPt rfl rfl (decide_eq_true h19) rfl rfl) rfl rfl rfl rfl ?_
                      refine vpOps_nil ?_
                      refine vIfT rfl rfl ?_
                      refine vp_seq ?_
                      refine vp_region ?_
                      refine vpOps_pure (x := .v (.bool (false))) (pAs rfl rfl rfl) rfl rfl rfl rfl ?_
                      refine vpOps_nil ?_
                      refine vp_ret ?_
                      exact ⟨[.v (.bool (false))], [6], (.cons (.tmp rfl rfl) .nil), rfl, ⟨(show (.v (.bool (false)) : PV) = .v (.bool (decide (knOk k at_ n))) from (by first | exact dec_f (fun h => by rw [knOk, if_pos (by assumption)] at h; have q := h.1; rw [he, upOk_step (by omega)] at q; omega) | exact dec_f (fun h => by rw [knOk, if_pos (by assumption)] at h; have q := h.2.1; rw [← len_nil] at q; contradiction) | (refine dec_i ?_; rw [knOk, if_pos (by assumption), leafOk, he, upOk_end (by omega), ← len_nil, ← len_nil]; exact ⟨fun h => ⟨trivial, by assumption, h⟩, fun h => h.2.2⟩) | exact dec_f (fun h => by rw [knOk, if_neg (by assumption)] at h; obtain ⟨⟨⟨q1, q2⟩, q3, q4, q5⟩, q6⟩ := h; have q8 : k.cards.length = 0 := (by rw [q3, List.length_nil]); have q9 : k.values.length ≠ 0 := (fun e => q4 (List.length_eq_zero_iff.1 e)); omega) | exact dec_f (fun h => by rw [knOk, if_neg (by assumption)] at h; have q := h.2 i (by omega); obtain ⟨r1, r2, r3, r4⟩ := q; first | omega | (have r5 := r2 (by omega); omega)) | exact dec_t (by rw [knOk, if_neg (by assumption)]; exact ⟨hd, fun j hj => hA j (by omega)⟩))), rfl⟩⟩
                    · skip
                      refine vRun rfl rfl rfl (decide_eq_false h19) rfl rfl rfl ?_
                      refine vpOps_pure (x := .pl 3 [⟨0, 2, 0⟩]) (pure_field_ref rfl rfl rfl rfl) rfl rfl rfl rfl ?_
                      refine vRun rfl rfl rfl (decide_eq_false h19) rfl rfl rfl ?_
                      refine vpOps_pure (x := .sh 1 (k.next.map i16c)) (pure_load_pl rfl rfl rfl rfl rfl rfl rfl trivial rfl) rfl rfl rfl rfl ?_
                      refine vRun rfl rfl rfl (decide_eq_false h19) rfl rfl rfl ?_
                      refine vpOps_pure (x := .v (.int .i64 ((i : Nat) : Int))) (pMv rfl rfl rfl) rfl rfl rfl rfl ?_
                      refine vRun rfl rfl rfl (decide_eq_false h19) rfl rfl rfl ?_
                      refine vpOps_pure (x := .rbox [.v (.int .i16 (k.next.getD i default))]) (pIx (m := i) rfl rfl rfl (by first | rfl | omega) (by omega) rfl) rfl rfl rfl rfl ?_
                      refine vRun rfl rfl rfl (decide_eq_false h19) rfl rfl rfl ?_
                      refine vpOps_pure (x := .v (.int .i16 (k.next.getD i default))) (pure_load_rbox rfl rfl rfl) rfl rfl rfl rfl ?_
                      refine vRun rfl rfl rfl (decide_eq_false h19) rfl rfl rfl ?_
                      refine vpOps_pure (x := .v (.int .i64 (k.next.getD i default))) (pure_conv_in rfl rfl (in64 (by omega) (by omega))) rfl rfl rfl rfl ?_
                      refine vRun rfl rfl rfl (decide_eq_false h19) rfl rfl rfl ?_
                      refine vpOps_pure (x := .v (.int .i64 ((n : Nat) : Int))) (pMv rfl rfl rfl) rfl rfl rfl rfl ?_
                      refine vRun rfl rfl rfl (decide_eq_false h19) rfl rfl rfl ?_
                      refine vpOps_pure (x := .v (.bool (decide (((n : Nat) : Int) ≤ (k.next.getD i default))))) (pure_bin rfl rfl rfl rfl) rfl rfl rfl rfl ?_
                      refine vpOps_pure (x := .v (.bool (decide (((n : Nat) : Int) ≤ (k.next.getD i default))))) (pPf rfl rfl (decide_eq_false h19) rfl rfl) rfl rfl rfl rfl ?_
                      refine vpOps_nil ?_
                      refine vIf rfl (fun h20 => ?_) (fun h20 => ?_)
                      · skip
                        refine vp_seq ?_
                        refine vp_region ?_
                        refine vpOps_pure (x := .v (.bool (false))) (pAs rfl rfl rfl) rfl rfl rfl rfl ?_
                        refine vpOps_nil ?_
                        refine vp_ret ?_
                        exact ⟨[.v (.bool (false))], [6], (.cons (.tmp rfl rfl) .nil), rfl, ⟨(show (.v (.bool (false)) : PV) = .v (.bool (decide (knOk k at_ n))) from (by first | exact dec_f (fun h => by rw [knOk, if_pos (by assumption)] at h; have q := h.1; rw [he, upOk_step (by omega)] at q; omega) | exact dec_f (fun h => by rw [knOk, if_pos (by assumption)] at h; have q := h.2.1; rw [← len_nil] at q; contradiction) | (refine dec_i ?_; rw [knOk, if_pos (by assumption), leafOk, he, upOk_end (by omega), ← len_nil, ← len_nil]; exact ⟨fun h => ⟨trivial, by assumption, h⟩, fun h => h.2.2⟩) | exact dec_f (fun h => by rw [knOk, if_neg (by assumption)] at h; obtain ⟨⟨⟨q1, q2⟩, q3, q4, q5⟩, q6⟩ := h; have q8 : k.cards.length = 0 := (by rw [q3, List.length_nil]); have q9 : k.values.length ≠ 0 := (fun e => q4 (List.length_eq_zero_iff.1 e)); omega) | exact dec_f (fun h => by rw [knOk, if_neg (by assumption)] at h; have q := h.2 i (by omega); obtain ⟨r1, r2, r3, r4⟩ := q; first | omega | (have r5 := r2 (by omega); omega)) | exact dec_t (by rw [knOk, if_neg (by assumption)]; exact ⟨hd, fun j hj => hA j (by omega)⟩))), rfl⟩⟩
                      · skip
                        refine vp_skip ?_
                        refine vp_region ?_
                        refine vpOps_pure (x := .v (.int .i64 (((i : Nat) : Int) + 1))) (pure_add rfl rfl rfl (in64 (by omega) (by omega))) rfl rfl rfl rfl ?_
                        refine vpOps_pure (x := .v (.int .i64 (((i : Nat) : Int) + 1))) (pMv rfl rfl rfl) rfl rfl rfl rfl ?_
                        refine vpOps_nil ?_
                        exact ⟨i + 1, (by first | omega | (dsimp only; omega)), ⟨(by omega), (by assumption), (by intro j hj; rcases Nat.lt_or_ge j i with hji | hji; exact hA j hji; rw [show j = i by omega]; refine ⟨by omega, by first | (intro hj0; omega) | (intro hj0; assumption), by omega, by omega⟩), trivial⟩, ⟨rfl, rfl, rfl, rfl, rfl, rfl, rfl, trivial⟩⟩
              · skip
                refine vp_exit ?_
                refine vp_seq ?_
                refine vp_region ?_
                refine vpOps_pure (x := .v (.bool (true))) (pAs rfl rfl rfl) rfl rfl rfl rfl ?_
                refine vpOps_nil ?_
                refine vp_ret ?_
                exact ⟨[.v (.bool (true))], [6], (.cons (.tmp rfl rfl) .nil), rfl, ⟨(show (.v (.bool (true)) : PV) = .v (.bool (decide (knOk k at_ n))) from (by first | exact dec_f (fun h => by rw [knOk, if_pos (by assumption)] at h; have q := h.1; rw [he, upOk_step (by omega)] at q; omega) | exact dec_f (fun h => by rw [knOk, if_pos (by assumption)] at h; have q := h.2.1; rw [← len_nil] at q; contradiction) | (refine dec_i ?_; rw [knOk, if_pos (by assumption), leafOk, he, upOk_end (by omega), ← len_nil, ← len_nil]; exact ⟨fun h => ⟨trivial, by assumption, h⟩, fun h => h.2.2⟩) | exact dec_f (fun h => by rw [knOk, if_neg (by assumption)] at h; obtain ⟨⟨⟨q1, q2⟩, q3, q4, q5⟩, q6⟩ := h; have q8 : k.cards.length = 0 := (by rw [q3, List.length_nil]); have q9 : k.values.length ≠ 0 := (fun e => q4 (List.length_eq_zero_iff.1 e)); omega) | exact dec_f (fun h => by rw [knOk, if_neg (by assumption)] at h; have q := h.2 i (by omega); obtain ⟨r1, r2, r3, r4⟩ := q; first | omega | (have r5 := r2 (by omega); omega)) | exact dec_t (by rw [knOk, if_neg (by assumption)]; exact ⟨hd, fun j hj => hA j (by omega)⟩))), rfl⟩⟩

/-- impl.isTree$1 -/
theorem c_isTree1 {G : World → Prop} (x : Int)  : CallsV Tryd.prog G 27 [.v (.int .i64 x)] (fun r outs => r = .v (.bool (!decide (x = 1))) ∧ outs = [.junk]) := by
  refine callsV_enter [] Tryd.func27 rfl rfl rfl ?_
  refine vp_seq ?_
  refine vp_region ?_
  refine vpOps_pure (x := .v (.bool (false))) (pAs rfl rfl rfl) rfl rfl rfl rfl ?_
  refine vpOps_nil ?_
  refine vp_seq ?_
  refine vp_region ?_
  refine vpOps_pure (x := .v (.int .i64 x)) (pMv rfl rfl rfl) rfl rfl rfl rfl ?_
  refine vpOps_pure (x := .v (.bool (!decide (x = 1)))) (pure_bin rfl rfl rfl rfl) rfl rfl rfl rfl ?_
  refine vpOps_pure (x := .v (.bool (!decide (x = 1)))) (pAs rfl rfl rfl) rfl rfl rfl rfl ?_
  refine vpOps_nil ?_
  refine vp_ret ?_
  exact ⟨[.v (.bool (!decide (x = 1)))], [2], (.cons (.tmp rfl rfl) .nil), rfl, ⟨(show (.v (.bool (!decide (x = 1))) : PV) = .v (.bool (!decide (x = 1))) from rfl), rfl⟩⟩

/-- slices.IndexFunc[[]int,int] -/
theorem c_IndexFunc {G : World → Prop} (xs : List Int) (hx : xs.length ≤ 1048576) : CallsV Tryd.prog G 34 [.sh 1 (xs.map i64c), .clo 27 []] (fun r outs => ∃ (v : Int), r = .v (.int .i64 v) ∧ outs = [.junk, .junk] ∧ (0 ≤ v ↔ hasNot1 xs)) := by
  refine callsV_enter [] Tryd.func34 rfl rfl rfl ?_
  refine vp_seq ?_
  refine vp_region ?_
  refine vpOps_pure (x := .v (.int .i64 0)) (pAs rfl rfl rfl) rfl rfl rfl rfl ?_
  refine vpOps_nil ?_
  refine vp_seq ?_
  refine vp_seq ?_
  refine vp_region ?_
  refine vpOps_pure (x := .sh 1 (xs.map i64c)) (pMv rfl rfl rfl) rfl rfl rfl rfl ?_
  refine vpOps_pure (x := .v (.int .i64 ((xs.length : Nat) : Int))) (pLen rfl rfl (List.length_map _)) rfl rfl rfl rfl ?_
  refine vpOps_pure (x := .v (.int .i64 0)) (pMv rfl rfl rfl) rfl rfl rfl rfl ?_
  refine vpOps_nil ?_
  refine vp_block ?_
  refine vLoop (α := Nat) (fun i => xs.length - i) (fun i => (i ≤ xs.length) ∧ (∀ j, j < i → xs.getD j default = 1) ∧ True) (fun i => [(0, .sh 1 (xs.map i64c)), (1, .clo 27 []), (7, .v (.int .i64 ((xs.length : Nat) : Int))), (8, .v (.int .i64 ((i : Nat) : Int)))]) (fun _ => rfl) (fun _ => rfl) 0 ⟨(by omega), (by intro j hj; omega), trivial⟩ ⟨rfl, rfl, rfl, rfl, trivial⟩ ?_
  rintro i ⟨hi, hA, -⟩
  refine vp_seq ?_
  refine vp_region ?_
  refine vpOps_pure (x := .v (.bool (decide (((i : Nat) : Int) < ((xs.length : Nat) : Int))))) (pure_bin rfl rfl rfl rfl) rfl rfl rfl rfl ?_
  refine vpOps_nil ?_
  refine vp_seq ?_
  refine vIf rfl (fun h1 => ?_) (fun h1 => ?_)
  · skip
    refine vp_skip ?_
    refine vp_seq ?_
    refine vp_block ?_
    refine vp_seq ?_
    refine vp_region ?_
    refine vpOps_pure (x := .v (.int .i64 ((i : Nat) : Int))) (pMv rfl rfl rfl) rfl rfl rfl rfl ?_
    refine vpOps_pure (x := .v (.int .i64 ((i : Nat) : Int))) (pAs rfl rfl rfl) rfl rfl rfl rfl ?_
    refine vpOps_nil ?_
    refine vp_seq ?_
    refine vp_region ?_
    refine vpOps_pure (x := .clo 27 []) (pMv rfl rfl rfl) rfl rfl rfl rfl ?_
    refine vpOps_pure (x := .sh 1 (xs.map i64c)) (pMv rfl rfl rfl) rfl rfl rfl rfl ?_
    refine vpOps_pure (x := .v (.int .i64 ((i : Nat) : Int))) (pMv rfl rfl rfl) rfl rfl rfl rfl ?_
    refine vpOps_pure (x := .rbox [.v (.int .i64 (xs.getD i default))]) (pIx (m := i) rfl rfl rfl (by first | rfl | omega) (by omega) rfl) rfl rfl rfl rfl ?_
    refine vpOps_pure (x := .v (.int .i64 (xs.getD i default))) (pure_load_rbox rfl rfl rfl) rfl rfl rfl rfl ?_
    refine vpOps_call (gs := [⟨.tmp 15, .v (.int .i64 (xs.getD i default)), none, none⟩]) (c_isTree1 (xs.getD i default) ) rfl rfl rfl rfl rfl trivial (by kernel_rfl) rfl rfl (gives_cons (gC rfl rfl) gives_nil) rfl (fun _ _ _ => .inl rfl) ?_
    rintro _ _ ⟨rfl, rfl⟩
    refine vpOps_nil ?_
    refine vIfN rfl (fun h2 => ?_) (fun h2 => ?_)
    · skip
      refine vp_seq ?_
      refine vp_region ?_
      refine vpOps_pure (x := .v (.int .i64 ((i : Nat) : Int))) (pMv rfl rfl rfl) rfl rfl rfl rfl ?_
      refine vpOps_pure (x := .v (.int .i64 ((i : Nat) : Int))) (pAs rfl rfl rfl) rfl rfl rfl rfl ?_
      refine vpOps_nil ?_
      refine vp_ret ?_
      exact ⟨[.v (.int .i64 ((i : Nat) : Int))], [4], (.cons (.tmp rfl rfl) .nil), rfl, ⟨↑i, (show (.v (.int .i64 ((i : Nat) : Int)) : PV) = .v (.int .i64 ((i : Nat) : Int)) from rfl), rfl, (by first | exact ⟨fun _ h => by have := h i (by omega); contradiction, fun _ => by omega⟩ | exact ⟨fun h => by omega, fun h => absurd (fun m hm => hA m (by omega)) h⟩)⟩⟩
    · skip
      refine vp_skip ?_
      refine vp_region ?_
      refine vpOps_pure (x := .v (.int .i64 (((i : Nat) : Int) + 1))) (pure_add rfl rfl rfl (in64 (by omega) (by omega))) rfl rfl rfl rfl ?_
      refine vpOps_pure (x := .v (.int .i64 (((i : Nat) : Int) + 1))) (pMv rfl rfl rfl) rfl rfl rfl rfl ?_
      refine vpOps_nil ?_
      exact ⟨i + 1, (by first | omega | (dsimp only; omega)), ⟨(by omega), (by intro j hj; rcases Nat.lt_or_ge j i with hji | hji; exact hA j hji; rw [show j = i by omega]; assumption), trivial⟩, ⟨rfl, rfl, rfl, rfl, trivial⟩⟩
  · skip
    refine vp_exit ?_
    refine vp_seq ?_
    refine vp_region ?_
    refine vpOps_pure (x := .v (.int .i64 (-1))) (pAs rfl rfl rfl) rfl rfl rfl rfl ?_
    refine vpOps_nil ?_
    refine vp_ret ?_
    exact ⟨[.v (.int .i64 (-1))], [4], (.cons (.tmp rfl rfl) .nil), rfl, ⟨-1, (show (.v (.int .i64 (-1)) : PV) = .v (.int .i64 (-1)) from rfl), rfl, (by first | exact ⟨fun _ h => by have := h i (by omega); contradiction, fun _ => by omega⟩ | exact ⟨fun h => by omega, fun h => absurd (fun m hm => hA m (by omega)) h⟩)⟩⟩

/-- slices.ContainsFunc[[]int,int] -/
theorem c_ContainsFunc {G : World → Prop} (xs : List Int) (hx : xs.length ≤ 1048576) : CallsV Tryd.prog G 26 [.sh 1 (xs.map i64c), .clo 27 []] (fun r outs => r = .v (.bool (decide (hasNot1 xs))) ∧ outs = [.junk, .junk]) := by
  refine callsV_enter [] Tryd.func26 rfl rfl rfl ?_
  refine vp_seq ?_
  refine vp_region ?_
  refine vpOps_pure (x := .v (.bool (false))) (pAs rfl rfl rfl) rfl rfl rfl rfl ?_
  refine vpOps_nil ?_
  refine vp_seq ?_
  refine vp_region ?_
  refine vpOps_pure (x := .sh 1 (xs.map i64c)) (pMv rfl rfl rfl) rfl rfl rfl rfl ?_
  refine vpOps_pure (x := .clo 27 []) (pMv rfl rfl rfl) rfl rfl rfl rfl ?_
  refine vpOps_call (gs := [⟨.tmp 5, .sh 1 (xs.map i64c), none, none⟩, ⟨.tmp 6, .clo 27 [], none, none⟩]) (c_IndexFunc xs (by first | assumption | omega)) rfl rfl rfl rfl rfl trivial (by kernel_rfl) rfl rfl (gives_cons (gC rfl rfl) (gives_cons (gC rfl rfl) gives_nil)) rfl (fun _ _ _ => .inl rfl) ?_
  rintro _ _ ⟨v_1, rfl, rfl, hv_1⟩
  refine vpOps_pure (x := .v (.bool (decide (0 ≤ v_1)))) (pure_bin rfl rfl rfl rfl) rfl rfl rfl rfl ?_
  refine vpOps_pure (x := .v (.bool (decide (0 ≤ v_1)))) (pAs rfl rfl rfl) rfl rfl rfl rfl ?_
  refine vpOps_nil ?_
  refine vp_ret ?_
  exact ⟨[.v (.bool (decide (0 ≤ v_1)))], [4], (.cons (.tmp rfl rfl) .nil), rfl, ⟨(show (.v (.bool (decide (0 ≤ v_1))) : PV) = .v (.bool (decide (hasNot1 xs))) from (by exact dec_i hv_1)), rfl⟩⟩

/-- impl.isTree -/
theorem c_isTree {G : World → Prop} (ks : List Knot) (hk : ∀ k ∈ ks, k.ok) (hn : ks.length ≤ 1048576) : CallsV Tryd.prog G 13 [.sh 4 (ks.map knotc)] (fun r outs => r = .v (.bool (decide (treeI ks))) ∧ outs = [.junk]) := by
  refine callsV_enter [] Tryd.func13 rfl rfl rfl ?_
  refine vp_seq ?_
  refine vp_region ?_
  refine vpOps_pure (x := .v (.bool (false))) (pAs rfl rfl rfl) rfl rfl rfl rfl ?_
  refine vpOps_nil ?_
  refine vp_seq ?_
  refine vp_seq ?_
  refine vp_region ?_
  refine vpOps_pure (x := .sh 4 (ks.map knotc)) (pMv rfl rfl rfl) rfl rfl rfl rfl ?_
  refine vpOps_pure (x := .v (.int .i64 ((ks.length : Nat) : Int))) (pLen rfl rfl (List.length_map _)) rfl rfl rfl rfl ?_
  refine vpOps_pure (x := .v (.bool (decide (((ks.length : Nat) : Int) < 1)))) (pure_bin rfl rfl rfl rfl) rfl rfl rfl rfl ?_
  refine vpOps_pure (x := .v (.bool (decide (((ks.length : Nat) : Int) < 1)))) (pMv rfl rfl rfl) rfl rfl rfl rfl ?_
  by_cases h1 : ((ks.length : Nat) : Int) < 1
  · skip
    refine vPass rfl rfl rfl (decide_eq_true h1) rfl rfl rfl ?_
    refine vPass rfl rfl rfl (decide_eq_true h1) rfl rfl rfl ?_
    refine vPass rfl rfl rfl (decide_eq_true h1) rfl rfl rfl ?_
    refine vpOps_pure (x := .v (.bool (true))) (pPt rfl rfl (decide_eq_true h1) rfl rfl) rfl rfl rfl rfl ?_
    refine vpOps_nil ?_
    refine vIfT rfl rfl ?_
    refine vp_seq ?_
    refine vp_region ?_
    refine vpOps_pure (x := .v (.bool (false))) (pAs rfl rfl rfl) rfl rfl rfl rfl ?_
    refine vpOps_nil ?_
    refine vp_ret ?_
    exact ⟨[.v (.bool (false))], [2], (.cons (.tmp rfl rfl) .nil), rfl, ⟨(show (.v (.bool (false)) : PV) = .v (.bool (decide (treeI ks))) from (by first | exact dec_f (fun h => by obtain ⟨h1, h2, h3⟩ := h; omega) | exact dec_f (fun h => by have q := h.2.1 i (by omega); contradiction) | (refine dec_not ?_; unfold hasNot1 treeI; rw [hu, show i = ks.length by omega]; exact ⟨fun h => ⟨hd, fun j hj => hA j (by omega), Decidable.of_not_not h⟩, fun h e => e h.2.2⟩))), rfl⟩⟩
  · skip
    refine vRun rfl rfl rfl (decide_eq_false h1) rfl rfl rfl ?_
    refine vpOps_pure (x := .sh 4 (ks.map knotc)) (pMv rfl rfl rfl) rfl rfl rfl rfl ?_
    refine vRun rfl rfl rfl (decide_eq_false h1) rfl rfl rfl ?_
    refine vpOps_pure (x := .v (.int .i64 ((ks.length : Nat) : Int))) (pLen rfl rfl (List.length_map _)) rfl rfl rfl rfl ?_
    refine vRun rfl rfl rfl (decide_eq_false h1) rfl rfl rfl ?_
    refine vpOps_pure (x := .v (.bool (decide (120 < ((ks.length : Nat) : Int))))) (pure_bin rfl rfl rfl rfl) rfl rfl rfl rfl ?_
    refine vpOps_pure (x := .v (.bool (decide (120 < ((ks.length : Nat) : Int))))) (pPf rfl rfl (decide_eq_false h1) rfl rfl) rfl rfl rfl rfl ?_
    refine vpOps_nil ?_
    refine vIf rfl (fun h2 => ?_) (fun h2 => ?_)
    · skip
      refine vp_seq ?_
      refine vp_region ?_
      refine vpOps_pure (x := .v (.bool (false))) (pAs rfl rfl rfl) rfl rfl rfl rfl ?_
      refine vpOps_nil ?_
      refine vp_ret ?_
      exact ⟨[.v (.bool (false))], [2], (.cons (.tmp rfl rfl) .nil), rfl, ⟨(show (.v (.bool (false)) : PV) = .v (.bool (decide (treeI ks))) from (by first | exact dec_f (fun h => by obtain ⟨h1, h2, h3⟩ := h; omega) | exact dec_f (fun h => by have q := h.2.1 i (by omega); contradiction) | (refine dec_not ?_; unfold hasNot1 treeI; rw [hu, show i = ks.length by omega]; exact ⟨fun h => ⟨hd, fun j hj => hA j (by omega), Decidable.of_not_not h⟩, fun h e => e h.2.2⟩))), rfl⟩⟩
    · skip
      refine vp_skip ?_
      refine vp_seq ?_
      refine vp_region ?_
      refine vpOps_pure (x := .sh 4 (ks.map knotc)) (pMv rfl rfl rfl) rfl rfl rfl rfl ?_
      refine vpOps_pure (x := .v (.int .i64 ((ks.length : Nat) : Int))) (pLen rfl rfl (List.length_map _)) rfl rfl rfl rfl ?_
      refine vpOps_pure (x := .own 1 ((List.replicate ks.length 0).map i64c)) (pMkM (m := ks.length) rfl rfl rfl (by first | rfl | omega) (by omega) (by omega) rfl rfl (map_rep rfl)) rfl rfl rfl rfl ?_
      refine vpOps_assign rfl rfl rfl rfl rfl rfl rfl ?_
      refine vpOps_nil ?_
      refine vp_seq ?_
      refine vp_seq ?_
      refine vp_region ?_
      refine vpOps_pure (x := .sh 4 (ks.map knotc)) (pMv rfl rfl rfl) rfl rfl rfl rfl ?_
      refine vpOps_pure (x := .v (.int .i64 ((ks.length : Nat) : Int))) (pLen rfl rfl (List.length_map _)) rfl rfl rfl rfl ?_
      refine vpOps_pure (x := .v (.int .i64 0)) (pMv rfl rfl rfl) rfl rfl rfl rfl ?_
      refine vpOps_nil ?_
      refine vp_block ?_
      refine vLoop (α := Nat × List Int) (fun (i, s) => ks.length - i) (fun (i, s) => (i ≤ ks.length) ∧ (s.length = ks.length) ∧ (∀ j, j < i → knOk (ks.getD j default) j ks.length) ∧ (s = seenI ks i) ∧ (∀ t, 0 ≤ s.getD t default ∧ s.getD t default ≤ 1048576 * i) ∧ (1 ≤ (ks.length : Int) ∧ (ks.length : Int) ≤ 120) ∧ True) (fun (i, s) => [(0, .sh 4 (ks.map knotc)), (3, .own 1 (s.map i64c)), (19, .sh 4 (ks.map knotc)), (20, .v (.int .i64 ((ks.length : Nat) : Int))), (21, .v (.int .i64 ((i : Nat) : Int)))]) (fun ⟨_, _⟩ => rfl) (fun ⟨_, _⟩ => rfl) (0, List.replicate ks.length 0) ⟨(by omega), (by rw [List.length_replicate]), (by intro j hj; omega), (by rfl), (by intro t; have := rep_bound ks.length t; omega), (by first | assumption | omega), trivial⟩ ⟨rfl, rfl, rfl, rfl, rfl, trivial⟩ ?_
      rintro ⟨i, s⟩ ⟨hi, hsl, hA, hu, hw, hd, -⟩
      have hki := getD_of hk Knot.ok_default i
      have hni := hki.n
      refine vp_seq ?_
      refine vp_region ?_
      refine vpOps_pure (x := .v (.bool (decide (((i : Nat) : Int) < ((ks.length : Nat) : Int))))) (pure_bin rfl rfl rfl rfl) rfl rfl rfl rfl ?_
      refine vpOps_nil ?_
      refine vp_seq ?_
      refine vIf rfl (fun h3 => ?_) (fun h3 => ?_)
      · skip
        refine vp_skip ?_
        refine vp_seq ?_
        refine vp_block ?_
        refine vp_seq ?_
        refine vp_region ?_
        refine vpOps_pure (x := .v (.int .i64 ((i : Nat) : Int))) (pMv rfl rfl rfl) rfl rfl rfl rfl ?_
        refine vpOps_pure (x := .rbox [.v (.int .i16 ((ks.getD i default).field)), .sh 1 (((ks.getD i default).values).map i64c), .sh 1 (((ks.getD i default).next).map i16c), .sh 1 (((ks.getD i default).cards).map i64c)]) (pIx (m := i) rfl rfl rfl (by first | rfl | omega) (by omega) rfl) rfl rfl rfl rfl ?_
        refine vpOps_pure (x := .agg [.v (.int .i16 ((ks.getD i default).field)), .sh 1 (((ks.getD i default).values).map i64c), .sh 1 (((ks.getD i default).next).map i16c), .sh 1 (((ks.getD i default).cards).map i64c)]) (pure_load_rbox_agg rfl rfl rfl rfl rfl) rfl rfl rfl rfl ?_
        refine vpOps_pure (x := .box [.v (.int .i16 0), .v (.slice none 0 0), .v (.slice none 0 0), .v (.slice none 0 0)]) (pure_alloc rfl) rfl rfl rfl rfl ?_
        refine vpOps_pure (x := .v (.int .i64 ((i : Nat) : Int))) (pAs rfl rfl rfl) rfl rfl rfl rfl ?_
        refine vStB (x := .agg [.v (.int .i16 ((ks.getD i default).field)), .sh 1 (((ks.getD i default).values).map i64c), .sh 1 (((ks.getD i default).next).map i16c), .sh 1 (((ks.getD i default).cards).map i64c)]) (row' := [.v (.int .i16 ((ks.getD i default).field)), .sh 1 (((ks.getD i default).values).map i64c), .sh 1 (((ks.getD i default).next).map i16c), .sh 1 (((ks.getD i default).cards).map i64c)]) rfl rfl rfl rfl rfl rfl rfl rfl rfl rfl rfl rfl ?_
        refine vpOps_nil ?_
        refine vp_seq ?_
        refine vp_seq ?_
        refine vp_region ?_
        refine vpOps_pure (x := .agg [.v (.int .i16 ((ks.getD i default).field)), .sh 1 (((ks.getD i default).values).map i64c), .sh 1 (((ks.getD i default).next).map i16c), .sh 1 (((ks.getD i default).cards).map i64c)]) (pure_load_pl_agg rfl rfl rfl rfl rfl rfl rfl rfl (by simp [PV.flatL, PV.flat])) rfl rfl rfl rfl ?_
        refine vpOps_pure (x := .v (.int .i64 ((i : Nat) : Int))) (pMv rfl rfl rfl) rfl rfl rfl rfl ?_
        refine vpOps_pure (x := .sh 4 (ks.map knotc)) (pMv rfl rfl rfl) rfl rfl rfl rfl ?_
        refine vpOps_pure (x := .v (.int .i64 ((ks.length : Nat) : Int))) (pLen rfl rfl (List.length_map _)) rfl rfl rfl rfl ?_
        refine vpOps_call (gs := [⟨.tmp 26, .agg [.v (.int .i16 ((ks.getD i default).field)), .sh 1 (((ks.getD i default).values).map i64c), .sh 1 (((ks.getD i default).next).map i16c), .sh 1 (((ks.getD i default).cards).map i64c)], none, none⟩, ⟨.tmp 27, .v (.int .i64 ((i : Nat) : Int)), none, none⟩, ⟨.tmp 29, .v (.int .i64 ((ks.length : Nat) : Int)), none, none⟩]) (c_isKnot (ks.getD i default) ((i : Nat) : Int) ks.length (by first | assumption | exact getD_of hk Knot.ok_default _ | omega)) rfl rfl rfl rfl rfl trivial (by kernel_rfl) rfl rfl (gives_cons (gC rfl rfl) (gives_cons (gC rfl rfl) (gives_cons (gC rfl rfl) gives_nil))) rfl (fun _ _ _ => .inl rfl) ?_
        rintro _ _ ⟨rfl, rfl⟩
        refine vpOps_pure (x := .v (.bool (!decide (knOk (ks.getD i default) ((i : Nat) : Int) ks.length)))) (pure_not rfl rfl) rfl rfl rfl rfl ?_
        refine vpOps_nil ?_
        refine vIfN rfl (fun h4 => ?_) (fun h4 => ?_)
        · skip
          refine vp_seq ?_
          refine vp_region ?_
          refine vpOps_pure (x := .v (.bool (false))) (pAs rfl rfl rfl) rfl rfl rfl rfl ?_
          refine vpOps_nil ?_
          refine vp_ret ?_
          exact ⟨[.v (.bool (false))], [2], (.cons (.tmp rfl rfl) .nil), rfl, ⟨(show (.v (.bool (false)) : PV) = .v (.bool (decide (treeI ks))) from (by first | exact dec_f (fun h => by obtain ⟨h1, h2, h3⟩ := h; omega) | exact dec_f (fun h => by have q := h.2.1 i (by omega); contradiction) | (refine dec_not ?_; unfold hasNot1 treeI; rw [hu, show i = ks.length by omega]; exact ⟨fun h => ⟨hd, fun j hj => hA j (by omega), Decidable.of_not_not h⟩, fun h e => e h.2.2⟩))), rfl⟩⟩
        · skip
          refine vp_skip ?_
          refine vp_seq ?_
          refine vp_region ?_
          refine vpOps_pure (x := .pl 5 [⟨0, 2, 0⟩]) (pure_field_ref rfl rfl rfl rfl) rfl rfl rfl rfl ?_
          refine vpOps_pure (x := .sh 1 (((ks.getD i default).next).map i16c)) (pure_load_pl rfl rfl rfl rfl rfl rfl rfl trivial rfl) rfl rfl rfl rfl ?_
          refine vpOps_pure (x := .v (.int .i64 ((((((ks.getD i default).next).length) : Nat) : Int)))) (pLen rfl rfl (List.length_map _)) rfl rfl rfl rfl ?_
          refine vpOps_pure (x := .v (.int .i64 0)) (pMv rfl rfl rfl) rfl rfl rfl rfl ?_
          refine vpOps_nil ?_
          refine vp_block ?_
          refine vLoop (α := Nat × List Int) (fun (j, u) => (ks.getD i default).next.length - j) (fun (j, u) => (j ≤ (ks.getD i default).next.length) ∧ (u.length = ks.length) ∧ (u = bump s ((ks.getD i default).next.take j)) ∧ (∀ t, 0 ≤ u.getD t default ∧ u.getD t default ≤ 1048576 * i + j) ∧ True) (fun (j, u) => [(0, .sh 4 (ks.map knotc)), (3, .own 1 (u.map i64c)), (4, .v (.int .i64 ((i : Nat) : Int))), (5, .box [.v (.int .i16 ((ks.getD i default).field)), .sh 1 (((ks.getD i default).values).map i64c), .sh 1 (((ks.getD i default).next).map i16c), .sh 1 (((ks.getD i default).cards).map i64c)]), (19, .sh 4 (ks.map knotc)), (20, .v (.int .i64 ((ks.length : Nat) : Int))), (21, .v (.int .i64 ((i : Nat) : Int))), (33, .sh 1 (((ks.getD i default).next).map i16c)), (34, .v (.int .i64 ((((((ks.getD i default).next).length) : Nat) : Int)))), (35, .v (.int .i64 ((j : Nat) : Int)))]) (fun ⟨_, _⟩ => rfl) (fun ⟨_, _⟩ => rfl) (0, s) ⟨(by omega), (by assumption), (by rfl), (by intro t; have := hw t; omega), trivial⟩ ⟨rfl, rfl, rfl, rfl, rfl, rfl, rfl, rfl, rfl, rfl, trivial⟩ ?_
          rintro ⟨j, u⟩ ⟨hj, hul, hb, hv, -⟩
          have hnj := getD_of hki.ns (by decide) j
          have hko : 0 < (ks.getD i default).next.length → askOk (ks.getD i default) i ks.length := knOk_next (by assumption)
          have har := fun h => arc_of (hko h) (j := j)
          refine vp_seq ?_
          refine vp_region ?_
          refine vpOps_pure (x := .v (.bool (decide (((j : Nat) : Int) < ((((((ks.getD i default).next).length) : Nat) : Int)))))) (pure_bin rfl rfl rfl rfl) rfl rfl rfl rfl ?_
          refine vpOps_nil ?_
          refine vp_seq ?_
          refine vIf rfl (fun h5 => ?_) (fun h5 => ?_)
          · skip
            refine vp_skip ?_
            refine vp_seq ?_
            refine vp_block ?_
            refine vp_seq ?_
            refine vp_region ?_
            refine vpOps_pure (x := .rbox [.v (.int .i16 (((ks.getD i default).next).getD j default))]) (pIx (m := j) rfl rfl rfl (by first | rfl | omega) (by omega) rfl) rfl rfl rfl rfl ?_
            refine vpOps_pure (x := .v (.int .i16 (((ks.getD i default).next).getD j default))) (pure_load_rbox rfl rfl rfl) rfl rfl rfl rfl ?_
            refine vpOps_pure (x := .v (.int .i16 (((ks.getD i default).next).getD j default))) (pAs rfl rfl rfl) rfl rfl rfl rfl ?_
            refine vpOps_nil ?_
            refine vp_region ?_
            refine vpOps_pure (x := .lv 3 []) (pure_move_lv rfl) rfl rfl rfl rfl ?_
            refine vpOps_pure (x := .v (.int .i16 (((ks.getD i default).next).getD j default))) (pMv rfl rfl rfl) rfl rfl rfl rfl ?_
            refine vpOps_pure (x := .pl 3 [⟨(((ks.getD i default).next).getD j default).toNat, 0, 1⟩]) (pIxR (m := (((ks.getD i default).next).getD j default).toNat) rfl rfl rfl rfl rfl rfl (by first | rfl | omega) (by rw [List.length_map]; omega) rfl) rfl rfl rfl rfl ?_
            have hwi := hv ((ks.getD i default).next.getD j default).toNat
            refine vpOps_pure (x := .v (.int .i64 (u.getD ((((ks.getD i default).next).getD j default).toNat) default))) (pure_load_pl rfl rfl rfl rfl rfl (row_map (by omega)) rfl trivial rfl) rfl rfl rfl rfl ?_
            refine vpOps_pure (x := .v (.int .i64 ((u.getD ((((ks.getD i default).next).getD j default).toNat) default) + 1))) (pure_add rfl rfl rfl (in64 (by omega) (by omega))) rfl rfl rfl rfl ?_
            refine vpOps_pure (x := .pl 3 [⟨(((ks.getD i default).next).getD j default).toNat, 0, 1⟩]) (pIxR (m := (((ks.getD i default).next).getD j default).toNat) rfl rfl rfl rfl rfl rfl (by first | rfl | omega) (by rw [List.length_map]; omega) rfl) rfl rfl rfl rfl ?_
            refine vSt (f := i64c) (xs := u) (x := .v (.int .i64 ((u.getD ((((ks.getD i default).next).getD j default).toNat) default) + 1))) (x' := (u.getD ((((ks.getD i default).next).getD j default).toNat) default) + 1) rfl rfl rfl rfl rfl rfl rfl rfl rfl rfl (by omega) (Nat.le_of_ble_eq_true rfl) rfl ?_
            refine vpOps_nil ?_
            refine vp_region ?_
            refine vpOps_pure (x := .v (.int .i64 (((j : Nat) : Int) + 1))) (pure_add rfl rfl rfl (in64 (by omega) (by omega))) rfl rfl rfl rfl ?_
            refine vpOps_pure (x := .v (.int .i64 (((j : Nat) : Int) + 1))) (pMv rfl rfl rfl) rfl rfl rfl rfl ?_
            refine vpOps_nil ?_
            exact ⟨(j + 1, u.set ((((ks.getD i default).next).getD j default).toNat) ((u.getD ((((ks.getD i default).next).getD j default).toNat) default) + 1)), (by first | omega | (dsimp only; omega)), ⟨(by omega), (by rw [List.length_set]; assumption), (by rw [bump_step _ _ (by omega), ← hb]; rfl), (by intro t; have := bump1_bound hv t (t := (ks.getD i default).next.getD j default); unfold bump1 at this; omega), trivial⟩, ⟨rfl, rfl, rfl, rfl, rfl, rfl, rfl, rfl, rfl, rfl, trivial⟩⟩
          · skip
            refine vp_exit ?_
            refine vp_region ?_
            refine vpOps_pure (x := .v (.int .i64 (((i : Nat) : Int) + 1))) (pure_add rfl rfl rfl (in64 (by omega) (by omega))) rfl rfl rfl rfl ?_
            refine vpOps_pure (x := .v (.int .i64 (((i : Nat) : Int) + 1))) (pMv rfl rfl rfl) rfl rfl rfl rfl ?_
            refine vpOps_nil ?_
            exact ⟨(i + 1, u), (by first | omega | (dsimp only; omega)), ⟨(by omega), (by omega), (by intro j hj; rcases Nat.lt_or_ge j i with hji | hji; exact hA j hji; rw [show j = i by omega]; assumption), (by rw [seenI, ← hu]; rw [hb, List.take_of_length_le (by omega)]), (by intro t; have := hv t; omega), (by first | assumption | omega), trivial⟩, ⟨rfl, rfl, rfl, rfl, rfl, trivial⟩⟩
      · skip
        refine vp_exit ?_
        refine vp_seq ?_
        refine vp_region ?_
        refine vpOps_pure (x := .lv 3 []) (pure_move_lv rfl) rfl rfl rfl rfl ?_
        refine vpOps_ghost (ghost_own (t := 47) rfl rfl rfl rfl) ?_
        refine vSlLo (l := 1) rfl rfl rfl rfl rfl rfl rfl (by first | rfl | omega) (by omega) ?_
        refine vpOps_call (gs := [⟨.tmp 48, .sh 1 ((s.drop 1).map i64c), none, some 48⟩, ⟨.func 27, .clo 27 [], none, none⟩]) (c_ContainsFunc (s.drop 1) (by rw [List.length_drop]; omega)) rfl rfl rfl rfl rfl trivial (by kernel_rfl) rfl rfl (gives_cons (give_view (c := .own 1 ((s.drop 1).map i64c)) rfl rfl rfl rfl (view_map (fun _ => rfl))) (gives_cons (gC rfl rfl) gives_nil)) rfl (fun _ _ h => .inr (by obtain ⟨h1, h2⟩ := h; subst h1; subst h2; exact ⟨by simp [PV.closed, PV.closedL, closedE_map], by simp [PV.closedL, PV.closed]⟩)) ?_
        rintro _ _ ⟨rfl, rfl⟩
        refine vpOps_pure (x := .v (.bool (!decide (hasNot1 (s.drop 1))))) (pure_not rfl rfl) rfl rfl rfl rfl ?_
        refine vpOps_pure (x := .v (.bool (!decide (hasNot1 (s.drop 1))))) (pAs rfl rfl rfl) rfl rfl rfl rfl ?_
        refine vpOps_nil ?_
        refine vp_ret ?_
        exact ⟨[.v (.bool (!decide (hasNot1 (s.drop 1))))], [2], (.cons (.tmp rfl rfl) .nil), rfl, ⟨(show (.v (.bool (!decide (hasNot1 (s.drop 1)))) : PV) = .v (.bool (decide (treeI ks))) from (by first | exact dec_f (fun h => by obtain ⟨h1, h2, h3⟩ := h; omega) | exact dec_f (fun h => by have q := h.2.1 i (by omega); contradiction) | (refine dec_not ?_; unfold hasNot1 treeI; rw [hu, show i = ks.length by omega]; exact ⟨fun h => ⟨hd, fun j hj => hA j (by omega), Decidable.of_not_not h⟩, fun h e => e h.2.2⟩))), rfl⟩⟩

end Go.Vr
/- Walks of the functions that the law reaches: what each gives, by value. -/
namespace Go.Vr
open Go Go.Proofs
set_option linter.unusedVariables false
set_option linter.unusedSimpArgs false

/-- spec.Decimal -/
theorem c_Decimal {G : World → Prop} (v : Int) (hv : 0 ≤ v ∧ v ≤ 9223372036854775807) : CallsV Tryd.prog G 21 [.v (.int .i64 v)] (fun r outs => r = .v (.string (decimal v.toNat)) ∧ outs = [.junk]) := by
  refine callsV_enter [] Tryd.func21 rfl rfl rfl ?_
  have hds : (decimal (v / 10).toNat).size ≤ 20 := decimal_20 (by omega)
  have hdt : (strOf [48 + v % 10]).size = 1 := strOf_size _
  refine vp_seq ?_
  refine vp_region ?_
  refine vpOps_pure (x := .v (.string (ByteArray.mk #[]))) (pAs rfl rfl rfl) rfl rfl rfl rfl ?_
  refine vpOps_nil ?_
  refine vp_seq ?_
  refine vp_seq ?_
  refine vp_region ?_
  refine vpOps_pure (x := .v (.int .i64 v)) (pMv rfl rfl rfl) rfl rfl rfl rfl ?_
  refine vpOps_pure (x := .v (.bool (decide (v < 10)))) (pure_bin rfl rfl rfl rfl) rfl rfl rfl rfl ?_
  refine vpOps_nil ?_
  refine vIf rfl (fun h1 => ?_) (fun h1 => ?_)
  · skip
    refine vp_seq ?_
    refine vp_region ?_
    refine vpOps_pure (x := .v (.int .i64 v)) (pMv rfl rfl rfl) rfl rfl rfl rfl ?_
    refine vpOps_pure (x := .v (.int .i64 (v % 10))) (pRemN rfl rfl rfl (by omega) (by decide)) rfl rfl rfl rfl ?_
    refine vpOps_pure (x := .v (.int .i64 (48 + (v % 10)))) (pure_add rfl rfl rfl (in64 (by omega) (by omega))) rfl rfl rfl rfl ?_
    refine vpOps_pure (x := .v (.int .u8 (48 + (v % 10)))) (pure_conv_in rfl rfl (inu8 (by omega) (by omega))) rfl rfl rfl rfl ?_
    refine vpOps_pure (x := .own 1 [[.v (.int .u8 (48 + (v % 10)))]]) (pBs (cs := [.v (.int .u8 (48 + (v % 10)))]) rfl rfl rfl rfl rfl rfl rfl) rfl rfl rfl rfl ?_
    refine vpOps_pure (x := .v (.string (strOf [48 + (v % 10)]))) (pConvStr rfl rfl rfl rfl rfl rfl) rfl rfl rfl rfl ?_
    refine vpOps_pure (x := .v (.string (strOf [48 + (v % 10)]))) (pAs rfl rfl rfl) rfl rfl rfl rfl ?_
    refine vpOps_nil ?_
    refine vp_ret ?_
    exact ⟨[.v (.string (strOf [48 + (v % 10)]))], [2], (.cons (.tmp rfl rfl) .nil), rfl, ⟨(show (.v (.string (strOf [48 + (v % 10)])) : PV) = .v (.string (decimal v.toNat)) from (by first | rw [decimal_lt (by omega) (by assumption)] | rw [decimal_ge (by omega) (by assumption)])), rfl⟩⟩
  · skip
    refine vp_skip ?_
    refine vp_seq ?_
    refine vRegD 10 ((11, .v (.int .i64 v)) :: (12, .v (.int .i64 (v / 10))) :: (13, .v (.string (decimal (v / 10).toNat))) :: (14, .v (.int .i64 v)) :: (15, .v (.int .i64 (v % 10))) :: (16, .v (.int .i64 (48 + (v % 10)))) :: (17, .v (.int .u8 (48 + (v % 10)))) :: (18, .own 1 [[.v (.int .u8 (48 + (v % 10)))]]) :: (19, .v (.string (strOf [48 + (v % 10)]))) :: (20, .v (.string ((decimal (v / 10).toNat) ++ (strOf [48 + (v % 10)])))) :: []) (0 :: 1 :: 3 :: 0 :: 8 :: 24 :: 56 :: 120 :: 248 :: 511 :: 1023 :: []) (by kernel_rfl) rfl (by kernel_rfl) (by kernel_rfl) (by kernel_rfl) (by kernel_rfl) (by kernel_rfl) ⟨
        dPure rfl (pMv rfl rfl rfl),
        dPure rfl (pQuoN rfl rfl rfl (by omega) (by decide) (in64 (by omega) (by omega))),
        dPure rfl (pure_call (gs := [⟨.tmp 12, .v (.int .i64 (v / 10)), none, none⟩]) (c_Decimal (v / 10) (by omega)) rfl rfl trivial (by kernel_rfl) rfl rfl (gives_cons (gC rfl rfl) gives_nil) rfl (fun _ _ h => h.1) trivial),
        dPure rfl (pMv rfl rfl rfl),
        dPure rfl (pRemN rfl rfl rfl (by omega) (by decide)),
        dPure rfl (pure_add rfl rfl rfl (in64 (by omega) (by omega))),
        dPure rfl (pure_conv_in rfl rfl (inu8 (by omega) (by omega))),
        dPure rfl (pBs (cs := [.v (.int .u8 (48 + (v % 10)))]) rfl rfl rfl rfl rfl rfl rfl),
        dPure rfl (pConvStr rfl rfl rfl rfl rfl rfl),
        dPure rfl (pure_str_add rfl rfl rfl (by first | omega | (simp only [ByteArray.size_append]; omega))),
        trivial⟩ ?_
    refine vpOps_pure (x := .v (.string ((decimal (v / 10).toNat) ++ (strOf [48 + (v % 10)])))) (pAs rfl rfl rfl) rfl rfl rfl rfl ?_
    refine vpOps_nil ?_
    refine vp_ret ?_
    exact ⟨[.v (.string ((decimal (v / 10).toNat) ++ (strOf [48 + (v % 10)])))], [2], (.cons (.tmp rfl rfl) .nil), rfl, ⟨(show (.v (.string ((decimal (v / 10).toNat) ++ (strOf [48 + (v % 10)]))) : PV) = .v (.string (decimal v.toNat)) from (by first | rw [decimal_lt (by omega) (by assumption)] | rw [decimal_ge (by omega) (by assumption)])), rfl⟩⟩
termination_by v.toNat
decreasing_by all_goals omega

/-- spec.l06ValueText -/
theorem c_ValueText {G : World → Prop} (v : Int) (hv : -2 ≤ v ∧ v ≤ 9223372036854775807) : CallsV Tryd.prog G 22 [.v (.int .i64 v)] (fun r outs => r = .v (.string (valueText v)) ∧ outs = [.junk]) := by
  refine callsV_enter [] Tryd.func22 rfl rfl rfl ?_
  refine vp_seq ?_
  refine vp_region ?_
  refine vpOps_pure (x := .v (.string (ByteArray.mk #[]))) (pAs rfl rfl rfl) rfl rfl rfl rfl ?_
  refine vpOps_nil ?_
  refine vp_seq ?_
  refine vp_seq ?_
  refine vp_region ?_
  refine vpOps_pure (x := .v (.int .i64 v)) (pMv rfl rfl rfl) rfl rfl rfl rfl ?_
  refine vpOps_nil ?_
  refine vp_block ?_
  refine vp_seq ?_
  refine vp_region ?_
  refine vpOps_pure (x := .v (.bool (decide (v = (-1))))) (pure_bin rfl rfl rfl rfl) rfl rfl rfl rfl ?_
  refine vpOps_pure (x := .v (.bool (decide (v = (-1))))) (pAs rfl rfl rfl) rfl rfl rfl rfl ?_
  refine vpOps_nil ?_
  refine vIf rfl (fun h1 => ?_) (fun h1 => ?_)
  · skip
    refine vp_seq ?_
    refine vp_region ?_
    refine vpOps_pure (x := .v (.string (ByteArray.mk #[101, 109, 112, 116, 121]))) (pAs rfl rfl rfl) rfl rfl rfl rfl ?_
    refine vpOps_nil ?_
    refine vp_ret ?_
    exact ⟨[.v (.string (ByteArray.mk #[101, 109, 112, 116, 121]))], [2], (.cons (.tmp rfl rfl) .nil), rfl, ⟨(show (.v (.string (ByteArray.mk #[101, 109, 112, 116, 121])) : PV) = .v (.string (valueText v)) from (by first | (rw [valueText, if_pos (by assumption)]; done) | (rw [valueText, if_neg (by assumption), if_pos (by assumption)]; done) | rw [valueText, if_neg (by assumption), if_neg (by assumption)])), rfl⟩⟩
  · skip
    refine vp_seq ?_
    refine vp_region ?_
    refine vpOps_pure (x := .v (.bool (decide (v = (-2))))) (pure_bin rfl rfl rfl rfl) rfl rfl rfl rfl ?_
    refine vpOps_pure (x := .v (.bool (decide (v = (-2))))) (pAs rfl rfl rfl) rfl rfl rfl rfl ?_
    refine vpOps_nil ?_
    refine vIf rfl (fun h2 => ?_) (fun h2 => ?_)
    · skip
      refine vp_seq ?_
      refine vp_region ?_
      refine vpOps_pure (x := .v (.string (ByteArray.mk #[116, 111, 114, 110]))) (pAs rfl rfl rfl) rfl rfl rfl rfl ?_
      refine vpOps_nil ?_
      refine vp_ret ?_
      exact ⟨[.v (.string (ByteArray.mk #[116, 111, 114, 110]))], [2], (.cons (.tmp rfl rfl) .nil), rfl, ⟨(show (.v (.string (ByteArray.mk #[116, 111, 114, 110])) : PV) = .v (.string (valueText v)) from (by first | (rw [valueText, if_pos (by assumption)]; done) | (rw [valueText, if_neg (by assumption), if_pos (by assumption)]; done) | rw [valueText, if_neg (by assumption), if_neg (by assumption)])), rfl⟩⟩
    · skip
      refine vp_skip ?_
      refine vp_seq ?_
      refine vp_region ?_
      refine vpOps_pure (x := .v (.int .i64 v)) (pMv rfl rfl rfl) rfl rfl rfl rfl ?_
      refine vpOps_call (gs := [⟨.tmp 8, .v (.int .i64 v), none, none⟩]) (c_Decimal v (by omega)) rfl rfl rfl rfl rfl trivial (by kernel_rfl) rfl rfl (gives_cons (gC rfl rfl) gives_nil) rfl (fun _ _ _ => .inl rfl) ?_
      rintro _ _ ⟨rfl, rfl⟩
      refine vpOps_pure (x := .v (.string (decimal v.toNat))) (pAs rfl rfl rfl) rfl rfl rfl rfl ?_
      refine vpOps_nil ?_
      refine vp_ret ?_
      exact ⟨[.v (.string (decimal v.toNat))], [2], (.cons (.tmp rfl rfl) .nil), rfl, ⟨(show (.v (.string (decimal v.toNat)) : PV) = .v (.string (valueText v)) from (by first | (rw [valueText, if_pos (by assumption)]; done) | (rw [valueText, if_neg (by assumption), if_pos (by assumption)]; done) | rw [valueText, if_neg (by assumption), if_neg (by assumption)])), rfl⟩⟩

/-- spec.l06Text -/
theorem c_l06Text {G : World → Prop} (ks : List Knot) (hk : ∀ k ∈ ks, k.ok) (hT : treeOk ks) : CallsV Tryd.prog G 11 [.sh 4 (ks.map knotc)] (fun r outs => r = .v (.string (textTo ks ks.length)) ∧ outs = [.junk]) := by
  refine callsV_enter [] Tryd.func11 rfl rfl rfl ?_
  refine vp_seq ?_
  refine vp_region ?_
  refine vpOps_pure (x := .v (.string (ByteArray.mk #[]))) (pAs rfl rfl rfl) rfl rfl rfl rfl ?_
  refine vpOps_nil ?_
  refine vp_seq ?_
  refine vp_region ?_
  refine vpOps_pure (x := .v (.string (ByteArray.mk #[]))) (pAs rfl rfl rfl) rfl rfl rfl rfl ?_
  refine vpOps_nil ?_
  refine vp_seq ?_
  refine vp_seq ?_
  refine vp_region ?_
  refine vpOps_pure (x := .v (.int .i64 0)) (pAs rfl rfl rfl) rfl rfl rfl rfl ?_
  refine vpOps_nil ?_
  refine vp_block ?_
  refine vLoop (α := Nat × ByteArray) (fun (i, a) => ks.length - i) (fun (i, a) => (i ≤ ks.length) ∧ (a = textTo ks i) ∧ (a.size ≤ 134217728 * i) ∧ True) (fun (i, a) => [(0, .sh 4 (ks.map knotc)), (2, .v (.string (ByteArray.mk #[]))), (3, .v (.string a)), (4, .v (.int .i64 ((i : Nat) : Int)))]) (fun ⟨_, _⟩ => rfl) (fun ⟨_, _⟩ => rfl) (0, ByteArray.mk #[]) ⟨(by omega), (by rfl), (by exact Nat.le_refl _), trivial⟩ ⟨rfl, rfl, rfl, rfl, trivial⟩ ?_
  rintro ⟨i, a⟩ ⟨hi, ha, hz, -⟩
  have hn := hT.1
  have hki := getD_of hk Knot.ok_default i
  have hlen := Knot.ok_len _ hki
  have hkf := hki.f
  have hfd : (decimal (ks.getD i default).field.toNat).size ≤ 20 := decimal_20 (by omega)
  refine vp_seq ?_
  refine vp_seq ?_
  refine vp_region ?_
  refine vpOps_pure (x := .v (.int .i64 ((i : Nat) : Int))) (pMv rfl rfl rfl) rfl rfl rfl rfl ?_
  refine vpOps_pure (x := .sh 4 (ks.map knotc)) (pMv rfl rfl rfl) rfl rfl rfl rfl ?_
  refine vpOps_pure (x := .v (.int .i64 ((ks.length : Nat) : Int))) (pLen rfl rfl (List.length_map _)) rfl rfl rfl rfl ?_
  refine vpOps_pure (x := .v (.bool (decide (((i : Nat) : Int) < ((ks.length : Nat) : Int))))) (pure_bin rfl rfl rfl rfl) rfl rfl rfl rfl ?_
  refine vpOps_nil ?_
  refine vIf rfl (fun h1 => ?_) (fun h1 => ?_)
  · skip
    refine vp_skip ?_
    refine vp_seq ?_
    refine vp_block ?_
    refine vp_seq ?_
    refine vp_region ?_
    refine vpOps_pure (x := .sh 4 (ks.map knotc)) (pMv rfl rfl rfl) rfl rfl rfl rfl ?_
    refine vpOps_pure (x := .v (.int .i64 ((i : Nat) : Int))) (pMv rfl rfl rfl) rfl rfl rfl rfl ?_
    refine vpOps_pure (x := .rbox [.v (.int .i16 ((ks.getD i default).field)), .sh 1 (((ks.getD i default).values).map i64c), .sh 1 (((ks.getD i default).next).map i16c), .sh 1 (((ks.getD i default).cards).map i64c)]) (pIx (m := i) rfl rfl rfl (by first | rfl | omega) (by omega) rfl) rfl rfl rfl rfl ?_
    refine vpOps_pure (x := .rbox [.v (.int .i16 ((ks.getD i default).field)), .sh 1 (((ks.getD i default).values).map i64c), .sh 1 (((ks.getD i default).next).map i16c), .sh 1 (((ks.getD i default).cards).map i64c)]) (pAs rfl rfl rfl) rfl rfl rfl rfl ?_
    refine vpOps_nil ?_
    refine vp_seq ?_
    refine vp_seq ?_
    refine vp_region ?_
    refine vpOps_pure (x := .rbox [.v (.int .i16 ((ks.getD i default).field)), .sh 1 (((ks.getD i default).values).map i64c), .sh 1 (((ks.getD i default).next).map i16c), .sh 1 (((ks.getD i default).cards).map i64c)]) (pMv rfl rfl rfl) rfl rfl rfl rfl ?_
    refine vpOps_pure (x := .rbox [.v (.int .i16 ((ks.getD i default).field)), .sh 1 (((ks.getD i default).values).map i64c), .sh 1 (((ks.getD i default).next).map i16c), .sh 1 (((ks.getD i default).cards).map i64c)]) (pure_nil_flat rfl rfl) rfl rfl rfl rfl ?_
    refine vpOps_pure (x := .rbox [.v (.int .i16 ((ks.getD i default).field)), .sh 1 (((ks.getD i default).values).map i64c), .sh 1 (((ks.getD i default).next).map i16c), .sh 1 (((ks.getD i default).cards).map i64c)]) (pure_field_rbox rfl rfl rfl rfl) rfl rfl rfl rfl ?_
    refine vpOps_pure (x := .v (.int .i16 ((ks.getD i default).field))) (pure_load_rbox rfl rfl rfl) rfl rfl rfl rfl ?_
    refine vpOps_pure (x := .v (.bool (decide (((ks.getD i default).field) < 0)))) (pure_bin rfl rfl rfl rfl) rfl rfl rfl rfl ?_
    refine vpOps_nil ?_
    refine vIf rfl (fun h2 => ?_) (fun h2 => ?_)
    · skip
      refine vp_seq ?_
      refine vp_region ?_
      refine vpOps_pure (x := .v (.string a)) (pMv rfl rfl rfl) rfl rfl rfl rfl ?_
      refine vpOps_pure (x := .v (.string (a ++ (ByteArray.mk #[108, 101, 97, 102])))) (pure_str_add rfl rfl rfl (by first | omega | (simp only [ByteArray.size_append, l32, l10, lleaf, lask]; omega))) rfl rfl rfl rfl ?_
      refine vpOps_pure (x := .v (.string (a ++ (ByteArray.mk #[108, 101, 97, 102])))) (pAs rfl rfl rfl) rfl rfl rfl rfl ?_
      refine vpOps_nil ?_
      refine vp_seq ?_
      refine vp_region ?_
      refine vpOps_pure (x := .v (.int .i64 0)) (pAs rfl rfl rfl) rfl rfl rfl rfl ?_
      refine vpOps_nil ?_
      refine vp_block ?_
      refine vLoop (α := Nat × ByteArray) (fun (j, b) => (ks.getD i default).cards.length - j) (fun (j, b) => (j ≤ (ks.getD i default).cards.length) ∧ (b = cardsTo (ks.getD i default) (a ++ ⟨#[108, 101, 97, 102]⟩) j) ∧ (b.size ≤ a.size + 4 + 64 * j) ∧ True) (fun (j, b) => [(0, .sh 4 (ks.map knotc)), (2, .v (.string (ByteArray.mk #[]))), (3, .v (.string b)), (4, .v (.int .i64 ((i : Nat) : Int))), (5, .rbox [.v (.int .i16 ((ks.getD i default).field)), .sh 1 (((ks.getD i default).values).map i64c), .sh 1 (((ks.getD i default).next).map i16c), .sh 1 (((ks.getD i default).cards).map i64c)]), (6, .v (.int .i64 ((j : Nat) : Int)))]) (fun ⟨_, _⟩ => rfl) (fun ⟨_, _⟩ => rfl) (0, a ++ (ByteArray.mk #[108, 101, 97, 102])) ⟨(by omega), (by rfl), (by simp only [ByteArray.size_append, l32, l10, lleaf, lask]; omega), trivial⟩ ⟨rfl, rfl, rfl, rfl, rfl, rfl, trivial⟩ ?_
      rintro ⟨j, b⟩ ⟨hj, hb, hbz, -⟩
      have hc := fun h => card_of (hT.2.1 i (by omega)) (by assumption) (j := j) h
      have hcd : j < (ks.getD i default).cards.length → (decimal ((ks.getD i default).cards.getD j default).toNat).size ≤ 20 := fun h => decimal_20 (by have := hc h; omega)
      refine vp_seq ?_
      refine vp_seq ?_
      refine vp_region ?_
      refine vpOps_pure (x := .v (.int .i64 ((j : Nat) : Int))) (pMv rfl rfl rfl) rfl rfl rfl rfl ?_
      refine vpOps_pure (x := .rbox [.v (.int .i16 ((ks.getD i default).field)), .sh 1 (((ks.getD i default).values).map i64c), .sh 1 (((ks.getD i default).next).map i16c), .sh 1 (((ks.getD i default).cards).map i64c)]) (pMv rfl rfl rfl) rfl rfl rfl rfl ?_
      refine vpOps_pure (x := .rbox [.v (.int .i16 ((ks.getD i default).field)), .sh 1 (((ks.getD i default).values).map i64c), .sh 1 (((ks.getD i default).next).map i16c), .sh 1 (((ks.getD i default).cards).map i64c)]) (pure_nil_flat rfl rfl) rfl rfl rfl rfl ?_
      refine vpOps_pure (x := .rbox [.sh 1 (((ks.getD i default).cards).map i64c)]) (pure_field_rbox rfl rfl rfl rfl) rfl rfl rfl rfl ?_
      refine vpOps_pure (x := .sh 1 (((ks.getD i default).cards).map i64c)) (pure_load_rbox rfl rfl rfl) rfl rfl rfl rfl ?_
      refine vpOps_pure (x := .v (.int .i64 ((((((ks.getD i default).cards).length) : Nat) : Int)))) (pLen rfl rfl (List.length_map _)) rfl rfl rfl rfl ?_
      refine vpOps_pure (x := .v (.bool (decide (((j : Nat) : Int) < ((((((ks.getD i default).cards).length) : Nat) : Int)))))) (pure_bin rfl rfl rfl rfl) rfl rfl rfl rfl ?_
      refine vpOps_nil ?_
      refine vIf rfl (fun h3 => ?_) (fun h3 => ?_)
      · skip
        refine vp_skip ?_
        refine vp_seq ?_
        refine vp_block ?_
        refine vp_region ?_
        refine vpOps_pure (x := .v (.string b)) (pMv rfl rfl rfl) rfl rfl rfl rfl ?_
        refine vpOps_pure (x := .rbox [.v (.int .i16 ((ks.getD i default).field)), .sh 1 (((ks.getD i default).values).map i64c), .sh 1 (((ks.getD i default).next).map i16c), .sh 1 (((ks.getD i default).cards).map i64c)]) (pMv rfl rfl rfl) rfl rfl rfl rfl ?_
        refine vpOps_pure (x := .rbox [.v (.int .i16 ((ks.getD i default).field)), .sh 1 (((ks.getD i default).values).map i64c), .sh 1 (((ks.getD i default).next).map i16c), .sh 1 (((ks.getD i default).cards).map i64c)]) (pure_nil_flat rfl rfl) rfl rfl rfl rfl ?_
        refine vpOps_pure (x := .rbox [.sh 1 (((ks.getD i default).cards).map i64c)]) (pure_field_rbox rfl rfl rfl rfl) rfl rfl rfl rfl ?_
        refine vpOps_pure (x := .sh 1 (((ks.getD i default).cards).map i64c)) (pure_load_rbox rfl rfl rfl) rfl rfl rfl rfl ?_
        refine vpOps_pure (x := .v (.int .i64 ((j : Nat) : Int))) (pMv rfl rfl rfl) rfl rfl rfl rfl ?_
        refine vpOps_pure (x := .rbox [.v (.int .i64 (((ks.getD i default).cards).getD j default))]) (pIx (m := j) rfl rfl rfl (by first | rfl | omega) (by omega) rfl) rfl rfl rfl rfl ?_
        refine vpOps_pure (x := .v (.int .i64 (((ks.getD i default).cards).getD j default))) (pure_load_rbox rfl rfl rfl) rfl rfl rfl rfl ?_
        refine vpOps_call (gs := [⟨.tmp 40, .v (.int .i64 (((ks.getD i default).cards).getD j default)), none, none⟩]) (c_Decimal (((ks.getD i default).cards).getD j default) (by omega)) rfl rfl rfl rfl rfl trivial (by kernel_rfl) rfl rfl (gives_cons (gC rfl rfl) gives_nil) rfl (fun _ _ _ => .inl rfl) ?_
        rintro _ _ ⟨rfl, rfl⟩
        refine vpOps_pure (x := .v (.string ((ByteArray.mk #[32]) ++ (decimal (((ks.getD i default).cards).getD j default).toNat)))) (pure_str_add rfl rfl rfl (by first | omega | (simp only [ByteArray.size_append, l32, l10, lleaf, lask]; omega))) rfl rfl rfl rfl ?_
        refine vpOps_pure (x := .v (.string (b ++ ((ByteArray.mk #[32]) ++ (decimal (((ks.getD i default).cards).getD j default).toNat))))) (pure_str_add rfl rfl rfl (by first | omega | (simp only [ByteArray.size_append, l32, l10, lleaf, lask]; omega))) rfl rfl rfl rfl ?_
        refine vpOps_pure (x := .v (.string (b ++ ((ByteArray.mk #[32]) ++ (decimal (((ks.getD i default).cards).getD j default).toNat))))) (pAs rfl rfl rfl) rfl rfl rfl rfl ?_
        refine vpOps_nil ?_
        refine vp_region ?_
        refine vpOps_pure (x := .v (.int .i64 ((j : Nat) : Int))) (pMv rfl rfl rfl) rfl rfl rfl rfl ?_
        refine vpOps_pure (x := .v (.int .i64 (((j : Nat) : Int) + 1))) (pure_add rfl rfl rfl (in64 (by omega) (by omega))) rfl rfl rfl rfl ?_
        refine vpOps_pure (x := .v (.int .i64 (((j : Nat) : Int) + 1))) (pAs rfl rfl rfl) rfl rfl rfl rfl ?_
        refine vpOps_nil ?_
        exact ⟨(j + 1, b ++ ((ByteArray.mk #[32]) ++ (decimal (((ks.getD i default).cards).getD j default).toNat))), (by first | omega | (dsimp only; omega)), ⟨(by omega), (by rw [cardsTo, ← hb]), (by simp only [ByteArray.size_append, l32, l10, lleaf, lask]; omega), trivial⟩, ⟨rfl, rfl, rfl, rfl, rfl, rfl, trivial⟩⟩
      · skip
        refine vp_exit ?_
        refine vp_region ?_
        refine vpOps_pure (x := .v (.string b)) (pMv rfl rfl rfl) rfl rfl rfl rfl ?_
        refine vpOps_pure (x := .v (.string (b ++ (ByteArray.mk #[10])))) (pure_str_add rfl rfl rfl (by first | omega | (simp only [ByteArray.size_append, l32, l10, lleaf, lask]; omega))) rfl rfl rfl rfl ?_
        refine vpOps_pure (x := .v (.string (b ++ (ByteArray.mk #[10])))) (pAs rfl rfl rfl) rfl rfl rfl rfl ?_
        refine vpOps_nil ?_
        refine vp_region ?_
        refine vpOps_pure (x := .v (.int .i64 ((i : Nat) : Int))) (pMv rfl rfl rfl) rfl rfl rfl rfl ?_
        refine vpOps_pure (x := .v (.int .i64 (((i : Nat) : Int) + 1))) (pure_add rfl rfl rfl (in64 (by omega) (by omega))) rfl rfl rfl rfl ?_
        refine vpOps_pure (x := .v (.int .i64 (((i : Nat) : Int) + 1))) (pAs rfl rfl rfl) rfl rfl rfl rfl ?_
        refine vpOps_nil ?_
        exact ⟨(i + 1, b ++ (ByteArray.mk #[10])), (by first | omega | (dsimp only; omega)), ⟨(by omega), (by rw [textTo, ← ha, knotT]; first | (rw [if_pos (by assumption), hb, show j = (ks.getD i default).cards.length by omega]; done) | (rw [if_neg (by assumption), hb, show j = (ks.getD i default).values.length by omega]; done)), (by simp only [ByteArray.size_append, l32, l10, lleaf, lask]; omega), trivial⟩, ⟨rfl, rfl, rfl, rfl, trivial⟩⟩
    · skip
      refine vp_seq ?_
      refine vp_region ?_
      refine vpOps_pure (x := .v (.string a)) (pMv rfl rfl rfl) rfl rfl rfl rfl ?_
      refine vpOps_pure (x := .rbox [.v (.int .i16 ((ks.getD i default).field)), .sh 1 (((ks.getD i default).values).map i64c), .sh 1 (((ks.getD i default).next).map i16c), .sh 1 (((ks.getD i default).cards).map i64c)]) (pMv rfl rfl rfl) rfl rfl rfl rfl ?_
      refine vpOps_pure (x := .rbox [.v (.int .i16 ((ks.getD i default).field)), .sh 1 (((ks.getD i default).values).map i64c), .sh 1 (((ks.getD i default).next).map i16c), .sh 1 (((ks.getD i default).cards).map i64c)]) (pure_nil_flat rfl rfl) rfl rfl rfl rfl ?_
      refine vpOps_pure (x := .rbox [.v (.int .i16 ((ks.getD i default).field)), .sh 1 (((ks.getD i default).values).map i64c), .sh 1 (((ks.getD i default).next).map i16c), .sh 1 (((ks.getD i default).cards).map i64c)]) (pure_field_rbox rfl rfl rfl rfl) rfl rfl rfl rfl ?_
      refine vpOps_pure (x := .v (.int .i16 ((ks.getD i default).field))) (pure_load_rbox rfl rfl rfl) rfl rfl rfl rfl ?_
      refine vpOps_pure (x := .v (.int .i64 ((ks.getD i default).field))) (pure_conv_in rfl rfl (in64 (by omega) (by omega))) rfl rfl rfl rfl ?_
      refine vpOps_call (gs := [⟨.tmp 49, .v (.int .i64 ((ks.getD i default).field)), none, none⟩]) (c_Decimal ((ks.getD i default).field) (by omega)) rfl rfl rfl rfl rfl trivial (by kernel_rfl) rfl rfl (gives_cons (gC rfl rfl) gives_nil) rfl (fun _ _ _ => .inl rfl) ?_
      rintro _ _ ⟨rfl, rfl⟩
      refine vpOps_pure (x := .v (.string ((ByteArray.mk #[97, 115, 107, 32]) ++ (decimal ((ks.getD i default).field).toNat)))) (pure_str_add rfl rfl rfl (by first | omega | (simp only [ByteArray.size_append, l32, l10, lleaf, lask]; omega))) rfl rfl rfl rfl ?_
      refine vpOps_pure (x := .v (.string (a ++ ((ByteArray.mk #[97, 115, 107, 32]) ++ (decimal ((ks.getD i default).field).toNat))))) (pure_str_add rfl rfl rfl (by first | omega | (simp only [ByteArray.size_append, l32, l10, lleaf, lask]; omega))) rfl rfl rfl rfl ?_
      refine vpOps_pure (x := .v (.string (a ++ ((ByteArray.mk #[97, 115, 107, 32]) ++ (decimal ((ks.getD i default).field).toNat))))) (pAs rfl rfl rfl) rfl rfl rfl rfl ?_
      refine vpOps_nil ?_
      refine vp_seq ?_
      refine vp_region ?_
      refine vpOps_pure (x := .v (.int .i64 0)) (pAs rfl rfl rfl) rfl rfl rfl rfl ?_
      refine vpOps_nil ?_
      refine vp_block ?_
      refine vLoop (α := Nat × ByteArray) (fun (j, b) => (ks.getD i default).values.length - j) (fun (j, b) => (j ≤ (ks.getD i default).values.length) ∧ (b = arcsTo (ks.getD i default) (a ++ (⟨#[97, 115, 107, 32]⟩ ++ decimal (ks.getD i default).field.toNat)) j) ∧ (b.size ≤ a.size + 64 + 64 * j) ∧ True) (fun (j, b) => [(0, .sh 4 (ks.map knotc)), (2, .v (.string (ByteArray.mk #[]))), (3, .v (.string b)), (4, .v (.int .i64 ((i : Nat) : Int))), (5, .rbox [.v (.int .i16 ((ks.getD i default).field)), .sh 1 (((ks.getD i default).values).map i64c), .sh 1 (((ks.getD i default).next).map i16c), .sh 1 (((ks.getD i default).cards).map i64c)]), (7, .v (.int .i64 ((j : Nat) : Int)))]) (fun ⟨_, _⟩ => rfl) (fun ⟨_, _⟩ => rfl) (0, a ++ ((ByteArray.mk #[97, 115, 107, 32]) ++ (decimal ((ks.getD i default).field).toNat))) ⟨(by omega), (by rfl), (by simp only [ByteArray.size_append, l32, l10, lleaf, lask]; omega), trivial⟩ ⟨rfl, rfl, rfl, rfl, rfl, rfl, trivial⟩ ?_
      rintro ⟨j, b⟩ ⟨hj, hb, hbz, -⟩
      have hc := fun h => arc_all (ask_of (hT.2.1 i (by omega)) (by assumption)) (j := j) h
      have hvj := getD_of hki.vs (by decide) j
      have hnj := getD_of hki.ns (by decide) j
      have hvz : (valueText ((ks.getD i default).values.getD j default)).size ≤ 20 := valueText_size (by omega)
      have hnz : (decimal ((ks.getD i default).next.getD j default).toNat).size ≤ 20 := decimal_20 (by omega)
      refine vp_seq ?_
      refine vp_seq ?_
      refine vp_region ?_
      refine vpOps_pure (x := .v (.int .i64 ((j : Nat) : Int))) (pMv rfl rfl rfl) rfl rfl rfl rfl ?_
      refine vpOps_pure (x := .rbox [.v (.int .i16 ((ks.getD i default).field)), .sh 1 (((ks.getD i default).values).map i64c), .sh 1 (((ks.getD i default).next).map i16c), .sh 1 (((ks.getD i default).cards).map i64c)]) (pMv rfl rfl rfl) rfl rfl rfl rfl ?_
      refine vpOps_pure (x := .rbox [.v (.int .i16 ((ks.getD i default).field)), .sh 1 (((ks.getD i default).values).map i64c), .sh 1 (((ks.getD i default).next).map i16c), .sh 1 (((ks.getD i default).cards).map i64c)]) (pure_nil_flat rfl rfl) rfl rfl rfl rfl ?_
      refine vpOps_pure (x := .rbox [.sh 1 (((ks.getD i default).values).map i64c), .sh 1 (((ks.getD i default).next).map i16c), .sh 1 (((ks.getD i default).cards).map i64c)]) (pure_field_rbox rfl rfl rfl rfl) rfl rfl rfl rfl ?_
      refine vpOps_pure (x := .sh 1 (((ks.getD i default).values).map i64c)) (pure_load_rbox rfl rfl rfl) rfl rfl rfl rfl ?_
      refine vpOps_pure (x := .v (.int .i64 ((((((ks.getD i default).values).length) : Nat) : Int)))) (pLen rfl rfl (List.length_map _)) rfl rfl rfl rfl ?_
      refine vpOps_pure (x := .v (.bool (decide (((j : Nat) : Int) < ((((((ks.getD i default).values).length) : Nat) : Int)))))) (pure_bin rfl rfl rfl rfl) rfl rfl rfl rfl ?_
      refine vpOps_nil ?_
      refine vIf rfl (fun h4 => ?_) (fun h4 => ?_)
      · skip
        refine vp_skip ?_
        refine vp_seq ?_
        refine vp_block ?_
        refine vRegD 22 ((62, .v (.string b)) :: (63, .rbox [.v (.int .i16 ((ks.getD i default).field)), .sh 1 (((ks.getD i default).values).map i64c), .sh 1 (((ks.getD i default).next).map i16c), .sh 1 (((ks.getD i default).cards).map i64c)]) :: (64, .rbox [.v (.int .i16 ((ks.getD i default).field)), .sh 1 (((ks.getD i default).values).map i64c), .sh 1 (((ks.getD i default).next).map i16c), .sh 1 (((ks.getD i default).cards).map i64c)]) :: (65, .rbox [.sh 1 (((ks.getD i default).values).map i64c), .sh 1 (((ks.getD i default).next).map i16c), .sh 1 (((ks.getD i default).cards).map i64c)]) :: (66, .sh 1 (((ks.getD i default).values).map i64c)) :: (67, .v (.int .i64 ((j : Nat) : Int))) :: (68, .rbox [.v (.int .i64 (((ks.getD i default).values).getD j default))]) :: (69, .v (.int .i64 (((ks.getD i default).values).getD j default))) :: (70, .v (.string (valueText (((ks.getD i default).values).getD j default)))) :: (71, .v (.string ((ByteArray.mk #[32]) ++ (valueText (((ks.getD i default).values).getD j default))))) :: (72, .v (.string (((ByteArray.mk #[32]) ++ (valueText (((ks.getD i default).values).getD j default))) ++ (ByteArray.mk #[32])))) :: (73, .rbox [.v (.int .i16 ((ks.getD i default).field)), .sh 1 (((ks.getD i default).values).map i64c), .sh 1 (((ks.getD i default).next).map i16c), .sh 1 (((ks.getD i default).cards).map i64c)]) :: (74, .rbox [.v (.int .i16 ((ks.getD i default).field)), .sh 1 (((ks.getD i default).values).map i64c), .sh 1 (((ks.getD i default).next).map i16c), .sh 1 (((ks.getD i default).cards).map i64c)]) :: (75, .rbox [.sh 1 (((ks.getD i default).next).map i16c), .sh 1 (((ks.getD i default).cards).map i64c)]) :: (76, .sh 1 (((ks.getD i default).next).map i16c)) :: (77, .v (.int .i64 ((j : Nat) : Int))) :: (78, .rbox [.v (.int .i16 (((ks.getD i default).next).getD j default))]) :: (79, .v (.int .i16 (((ks.getD i default).next).getD j default))) :: (80, .v (.int .i64 (((ks.getD i default).next).getD j default))) :: (81, .v (.string (decimal (((ks.getD i default).next).getD j default).toNat))) :: (82, .v (.string ((((ByteArray.mk #[32]) ++ (valueText (((ks.getD i default).values).getD j default))) ++ (ByteArray.mk #[32])) ++ (decimal (((ks.getD i default).next).getD j default).toNat)))) :: (83, .v (.string (b ++ ((((ByteArray.mk #[32]) ++ (valueText (((ks.getD i default).values).getD j default))) ++ (ByteArray.mk #[32])) ++ (decimal (((ks.getD i default).next).getD j default).toNat))))) :: []) (0 :: 0 :: 2 :: 6 :: 14 :: 0 :: 62 :: 126 :: 254 :: 510 :: 1022 :: 0 :: 2048 :: 6144 :: 14336 :: 0 :: 63488 :: 129024 :: 260096 :: 522750 :: 1048574 :: 2097151 :: 4194303 :: []) (by kernel_rfl) rfl (by kernel_rfl) (by kernel_rfl) (by kernel_rfl) (by kernel_rfl) (by kernel_rfl) ⟨
            dPure rfl (pMv rfl rfl rfl),
            dPure rfl (pMv rfl rfl rfl),
            dPure rfl (pure_nil_flat rfl rfl),
            dPure rfl (pure_field_rbox rfl rfl rfl rfl),
            dPure rfl (pure_load_rbox rfl rfl rfl),
            dPure rfl (pMv rfl rfl rfl),
            dPure rfl (pIx (m := j) rfl rfl rfl (by first | rfl | omega) (by omega) rfl),
            dPure rfl (pure_load_rbox rfl rfl rfl),
            dPure rfl (pure_call (gs := [⟨.tmp 69, .v (.int .i64 (((ks.getD i default).values).getD j default)), none, none⟩]) (c_ValueText (((ks.getD i default).values).getD j default) (by omega)) rfl rfl trivial (by kernel_rfl) rfl rfl (gives_cons (gC rfl rfl) gives_nil) rfl (fun _ _ h => h.1) trivial),
            dPure rfl (pure_str_add rfl rfl rfl (by first | omega | (simp only [ByteArray.size_append, l32, l10, lleaf, lask]; omega))),
            dPure rfl (pure_str_add rfl rfl rfl (by first | omega | (simp only [ByteArray.size_append, l32, l10, lleaf, lask]; omega))),
            dPure rfl (pMv rfl rfl rfl),
            dPure rfl (pure_nil_flat rfl rfl),
            dPure rfl (pure_field_rbox rfl rfl rfl rfl),
            dPure rfl (pure_load_rbox rfl rfl rfl),
            dPure rfl (pMv rfl rfl rfl),
            dPure rfl (pIx (m := j) rfl rfl rfl (by first | rfl | omega) (by omega) rfl),
            dPure rfl (pure_load_rbox rfl rfl rfl),
            dPure rfl (pure_conv_in rfl rfl (in64 (by omega) (by omega))),
            dPure rfl (pure_call (gs := [⟨.tmp 80, .v (.int .i64 (((ks.getD i default).next).getD j default)), none, none⟩]) (c_Decimal (((ks.getD i default).next).getD j default) (by omega)) rfl rfl trivial (by kernel_rfl) rfl rfl (gives_cons (gC rfl rfl) gives_nil) rfl (fun _ _ h => h.1) trivial),
            dPure rfl (pure_str_add rfl rfl rfl (by first | omega | (simp only [ByteArray.size_append, l32, l10, lleaf, lask]; omega))),
            dPure rfl (pure_str_add rfl rfl rfl (by first | omega | (simp only [ByteArray.size_append, l32, l10, lleaf, lask]; omega))),
            trivial⟩ ?_
        refine vpOps_pure (x := .v (.string (b ++ ((((ByteArray.mk #[32]) ++ (valueText (((ks.getD i default).values).getD j default))) ++ (ByteArray.mk #[32])) ++ (decimal (((ks.getD i default).next).getD j default).toNat))))) (pAs rfl rfl rfl) rfl rfl rfl rfl ?_
        refine vpOps_nil ?_
        refine vp_region ?_
        refine vpOps_pure (x := .v (.int .i64 ((j : Nat) : Int))) (pMv rfl rfl rfl) rfl rfl rfl rfl ?_
        refine vpOps_pure (x := .v (.int .i64 (((j : Nat) : Int) + 1))) (pure_add rfl rfl rfl (in64 (by omega) (by omega))) rfl rfl rfl rfl ?_
        refine vpOps_pure (x := .v (.int .i64 (((j : Nat) : Int) + 1))) (pAs rfl rfl rfl) rfl rfl rfl rfl ?_
        refine vpOps_nil ?_
        exact ⟨(j + 1, b ++ ((((ByteArray.mk #[32]) ++ (valueText (((ks.getD i default).values).getD j default))) ++ (ByteArray.mk #[32])) ++ (decimal (((ks.getD i default).next).getD j default).toNat))), (by first | omega | (dsimp only; omega)), ⟨(by omega), (by rw [arcsTo, ← hb]), (by simp only [ByteArray.size_append, l32, l10, lleaf, lask]; omega), trivial⟩, ⟨rfl, rfl, rfl, rfl, rfl, rfl, trivial⟩⟩
      · skip
        refine vp_exit ?_
        refine vp_region ?_
        refine vpOps_pure (x := .v (.string b)) (pMv rfl rfl rfl) rfl rfl rfl rfl ?_
        refine vpOps_pure (x := .v (.string (b ++ (ByteArray.mk #[10])))) (pure_str_add rfl rfl rfl (by first | omega | (simp only [ByteArray.size_append, l32, l10, lleaf, lask]; omega))) rfl rfl rfl rfl ?_
        refine vpOps_pure (x := .v (.string (b ++ (ByteArray.mk #[10])))) (pAs rfl rfl rfl) rfl rfl rfl rfl ?_
        refine vpOps_nil ?_
        refine vp_region ?_
        refine vpOps_pure (x := .v (.int .i64 ((i : Nat) : Int))) (pMv rfl rfl rfl) rfl rfl rfl rfl ?_
        refine vpOps_pure (x := .v (.int .i64 (((i : Nat) : Int) + 1))) (pure_add rfl rfl rfl (in64 (by omega) (by omega))) rfl rfl rfl rfl ?_
        refine vpOps_pure (x := .v (.int .i64 (((i : Nat) : Int) + 1))) (pAs rfl rfl rfl) rfl rfl rfl rfl ?_
        refine vpOps_nil ?_
        exact ⟨(i + 1, b ++ (ByteArray.mk #[10])), (by first | omega | (dsimp only; omega)), ⟨(by omega), (by rw [textTo, ← ha, knotT]; first | (rw [if_pos (by assumption), hb, show j = (ks.getD i default).cards.length by omega]; done) | (rw [if_neg (by assumption), hb, show j = (ks.getD i default).values.length by omega]; done)), (by simp only [ByteArray.size_append, l32, l10, lleaf, lask]; omega), trivial⟩, ⟨rfl, rfl, rfl, rfl, trivial⟩⟩
  · skip
    refine vp_exit ?_
    refine vp_seq ?_
    refine vp_region ?_
    refine vpOps_pure (x := .v (.string a)) (pMv rfl rfl rfl) rfl rfl rfl rfl ?_
    refine vpOps_pure (x := .v (.string a)) (pAs rfl rfl rfl) rfl rfl rfl rfl ?_
    refine vpOps_nil ?_
    refine vp_ret ?_
    exact ⟨[.v (.string a)], [2], (.cons (.tmp rfl rfl) .nil), rfl, ⟨(show (.v (.string a) : PV) = .v (.string (textTo ks ks.length)) from (by rw [ha, show i = ks.length by omega])), rfl⟩⟩

/-- spec.TreeText -/
theorem c_specTreeText {G : World → Prop} (ks : List Knot) (hk : ∀ k ∈ ks, k.ok) (hn : ks.length ≤ 1048576) : CallsV Tryd.prog G 5 [.sh 4 (ks.map knotc)] (fun r outs => r = .v (.string (if treeOk ks then textTo ks ks.length else ⟨#[]⟩)) ∧ outs = [.junk]) := by
  refine callsV_enter [] Tryd.func5 rfl rfl rfl ?_
  refine vp_seq ?_
  refine vp_region ?_
  refine vpOps_pure (x := .v (.string (ByteArray.mk #[]))) (pAs rfl rfl rfl) rfl rfl rfl rfl ?_
  refine vpOps_nil ?_
  refine vp_seq ?_
  refine vp_seq ?_
  refine vp_region ?_
  refine vpOps_pure (x := .sh 4 (ks.map knotc)) (pMv rfl rfl rfl) rfl rfl rfl rfl ?_
  refine vpOps_call (gs := [⟨.tmp 3, .sh 4 (ks.map knotc), none, none⟩]) (c_l06Ok ks (by first | assumption | omega) (by first | assumption | omega)) rfl rfl rfl rfl rfl trivial (by kernel_rfl) rfl rfl (gives_cons (gC rfl rfl) gives_nil) rfl (fun _ _ _ => .inl rfl) ?_
  rintro _ _ ⟨rfl, rfl⟩
  refine vpOps_pure (x := .v (.bool (!decide (treeOk ks)))) (pure_not rfl rfl) rfl rfl rfl rfl ?_
  refine vpOps_nil ?_
  refine vIfN rfl (fun h1 => ?_) (fun h1 => ?_)
  · skip
    refine vp_seq ?_
    refine vp_region ?_
    refine vpOps_pure (x := .v (.string (ByteArray.mk #[]))) (pAs rfl rfl rfl) rfl rfl rfl rfl ?_
    refine vpOps_nil ?_
    refine vp_ret ?_
    exact ⟨[.v (.string (ByteArray.mk #[]))], [2], (.cons (.tmp rfl rfl) .nil), rfl, ⟨(show (.v (.string (ByteArray.mk #[])) : PV) = .v (.string (if treeOk ks then textTo ks ks.length else ⟨#[]⟩)) from (by first | rw [if_pos (by assumption)] | rw [if_neg (by assumption)])), rfl⟩⟩
  · skip
    refine vp_skip ?_
    refine vp_seq ?_
    refine vp_region ?_
    refine vpOps_pure (x := .sh 4 (ks.map knotc)) (pMv rfl rfl rfl) rfl rfl rfl rfl ?_
    refine vpOps_call (gs := [⟨.tmp 6, .sh 4 (ks.map knotc), none, none⟩]) (c_l06Text ks (by first | assumption | omega) (by first | assumption | omega)) rfl rfl rfl rfl rfl trivial (by kernel_rfl) rfl rfl (gives_cons (gC rfl rfl) gives_nil) rfl (fun _ _ _ => .inl rfl) ?_
    rintro _ _ ⟨rfl, rfl⟩
    refine vpOps_pure (x := .v (.string (textTo ks ks.length))) (pAs rfl rfl rfl) rfl rfl rfl rfl ?_
    refine vpOps_nil ?_
    refine vp_ret ?_
    exact ⟨[.v (.string (textTo ks ks.length))], [2], (.cons (.tmp rfl rfl) .nil), rfl, ⟨(show (.v (.string (textTo ks ks.length)) : PV) = .v (.string (if treeOk ks then textTo ks ks.length else ⟨#[]⟩)) from (by first | rw [if_pos (by assumption)] | rw [if_neg (by assumption)])), rfl⟩⟩

end Go.Vr
/- What the program's own text of a tree is, in plain Lean. -/
namespace Go.Vr
open Go Go.Proofs
set_option linter.unusedVariables false

def itoaB (v : Int) : ByteArray := ⟨(Lib.itoa v).toArray⟩
theorem itoaB_size {v : Int} (h0 : -9223372036854775808 ≤ v) (h1 : v ≤ 9223372036854775807) : (itoaB v).size ≤ 21 := by
  have := Lib.itoa_length_le v h0 h1
  show (Lib.itoa v).toArray.size ≤ 21
  simpa using this
def joinB (ws : List ByteArray) (sep : ByteArray) : ByteArray := ⟨(Lib.join (ws.map (·.data.toList)) sep.data.toList).toArray⟩
def vword (v : Int) : ByteArray := if v = -1 then (ByteArray.mk #[101, 109, 112, 116, 121]) else if v = -2 then (ByteArray.mk #[116, 111, 114, 110]) else itoaB v
theorem vword_size {v : Int} (h0 : -9223372036854775808 ≤ v) (h1 : v ≤ 9223372036854775807) : (vword v).size ≤ 21 := by
  unfold vword
  split
  · decide
  · split
    · decide
    · exact itoaB_size h0 h1
def cwTo (k : Knot) : Nat → List ByteArray
  | 0 => [(ByteArray.mk #[108, 101, 97, 102])]
  | j + 1 => cwTo k j ++ [itoaB (k.cards.getD j default)]
def awTo (k : Knot) (ws : List ByteArray) : Nat → List ByteArray
  | 0 => ws
  | j + 1 => awTo k ws j ++ [vword (k.values.getD j default), itoaB (k.next.getD j default)]
def headW (k : Knot) : List ByteArray := if 0 ≤ k.field then [(ByteArray.mk #[97, 115, 107]), itoaB k.field] else cwTo k k.cards.length
def knotI (acc : ByteArray) (k : Knot) : ByteArray := acc ++ (joinB (awTo k (headW k) k.values.length) (ByteArray.mk #[32]) ++ (ByteArray.mk #[10]))
def textI (ks : List Knot) : Nat → ByteArray
  | 0 => (ByteArray.mk #[])
  | i + 1 => knotI (textI ks i) (ks.getD i default)
def pow10Ok (w : World) : Prop := Lib.TabIs Tryd.prog w "internal/strconv.uint64pow10" .u64 Lib.pow10Tab
theorem join_size (n : Nat) : ∀ (ws : List ByteArray), (∀ w ∈ ws, w.size ≤ n) → (joinB ws (ByteArray.mk #[32])).size ≤ (n + 1) * ws.length
  | [], _ => Nat.zero_le _
  | x :: r, h => by
    have hx := h x (by simp)
    have ht : ∀ (r : List ByteArray), (∀ w ∈ r, w.size ≤ n) → (Lib.joinTail [32] (r.map (·.data.toList))).length ≤ (n + 1) * r.length := by
      intro r
      induction r with
      | nil => intro _; simp [Lib.joinTail]
      | cons y r ih =>
        intro h
        have hy := h y (by simp)
        have := ih (fun w hw => h w (by simp [hw]))
        simp only [Lib.joinTail, List.map_cons, List.flatten_cons, List.length_append, List.length_cons, List.length_nil] at this ⊢
        have e : y.data.toList.length = y.size := by simp
        rw [e, Nat.mul_add]
        omega
    have := ht r (fun w hw => h w (by simp [hw]))
    have e : x.data.toList.length = x.size := by simp
    show (Lib.join _ [32]).toArray.size ≤ _
    rw [List.size_toArray, List.map_cons, Lib.join_cons, List.length_append, e, List.length_cons, Nat.mul_add]
    omega
theorem treeI_len {ks : List Knot} (h : treeI ks) : ∀ j, j < ks.length → (ks.getD j default).next.length = (ks.getD j default).values.length := by
  intro j hj
  have := h.2.1 j hj
  unfold knOk at this
  split at this
  · rw [this.2.1, this.2.2]
  · exact this.1.2.2.2
end Go.Vr
/-
  DERIVED: THE SHELF's CONTRACTS AT THIS DUMP, IN PLAIN WORDS (tools/lay-plain.mjs out of 'TrydShelf.lean', which tools/lay-shelf.mjs wrote): THE SAME DECLARATIONS UNDER THE SAME NAMES: 'import', 'namespace', 'open', 'def', 'theorem' AND NOTHING ELSE: no command of the shelf's: FOR A HAND-IN. Each laying: the table of numbers ('.._ren') and one theorem, a field a fact of the dump's own or the kernel's comparison; each contract: ONE APPLICATION.
-/
namespace Go.Proofs
open Go.Shelf
def Tryd.lays169_ren : Go.Shelf.Ren := ⟨fun | 169 => 39 | n => n, fun | 70 => 60 | 9 => 9 | 0 => 0 | 72 => 62 | 37 => 58 | 127 => 75 | 3 => 3 | 5 => 5 | n => n, fun | n => n⟩
theorem Tryd.lays169 : Go.Proofs.Lays.n169 Tryd.prog Tryd.lays169_ren := {
  mixed := by kernel_rfl
  f169 := Tryd.func39.trans (congrArg some (by kernel_rfl))
  t0 := Tryd.underlying0
  a0 := Tryd.isAgg0
  z0 := Tryd.sizeOf0
  v0 := Tryd.zeroValue0
  t3 := Tryd.underlying3
  a3 := Tryd.isAgg3
  z3 := Tryd.sizeOf3
  v3 := Tryd.zeroValue3
  t9 := Tryd.underlying9
  a9 := Tryd.isAgg9
  z9 := Tryd.sizeOf9
  v9 := Tryd.zeroValue9
  t37 := Tryd.underlying58
  a37 := Tryd.isAgg58
  z37 := Tryd.sizeOf58
  v37 := Tryd.zeroValue58
  t70 := Tryd.underlying60
  a70 := Tryd.isAgg60
  z70 := Tryd.sizeOf60
  v70 := Tryd.zeroValue60
  t72 := Tryd.underlying62
  a72 := Tryd.isAgg62
  z72 := Tryd.sizeOf62
  v72 := Tryd.zeroValue62
  t127 := Tryd.underlying75
  a127 := Tryd.isAgg75
  z127 := Tryd.sizeOf75
  v127 := Tryd.zeroValue75 }
theorem Tryd.Builder_Extra_169 : Builder.Extra Tryd.prog Tryd.lays169_ren := {
  sizeBuilder := by kernel_rfl
  liesBuilder := by kernel_rfl
  t5 := Tryd.underlying5
  a5 := Tryd.isAgg5
  z5 := Tryd.sizeOf5
  v5 := Tryd.zeroValue5
  infoByte := by kernel_rfl
  cellsByte := by kernel_rfl
  sizeByte := by kernel_rfl
  neB5 := by decide }
open Go.RowKit in
/-- (*strings.Builder).String: "String returns the accumulated string.": OF A BUILDER THAT HOLDS AT LEAST ONE BYTE. ✋ THE MODEL FREEZES THOSE BYTES IN THE BUFFER (unsafe.String): a later write INTO them ends the model's run without an answer; a later append BEHIND them goes on. The statement's order of evaluation is drawn: one draw. (LAID: no walk: one application.) -/
theorem Tryd.Builder_String (B b : Nat) (l : List UInt8) (w : World) (h : Lib.IsBuilder 62 5 B b (Lib.byteCells l) w) (h0 : l ≠ []) :
    Calls Tryd.prog 39 #[.pointer (some ⟨b, 0, none⟩)] w fun e w' => e = .returned (.string ⟨l.toArray⟩) ∧ Below B w w' := Any.Builder_String Tryd.lays169 Tryd.Builder_Extra_169 B b l w h h0
open Go.RowKit in
/-- (*strings.Builder).String OF A BUILDER THAT HOLDS NO BYTE: the empty string. (Its buffer is nil, or a row of which it has taken nothing yet; where that row has NO capacity the model lays one new block for unsafe.SliceData's 'some address'.) One draw. (LAID: no walk: one application.) -/
theorem Tryd.Builder_String_empty (B b : Nat) (w : World) (h : Lib.IsBuilder 62 5 B b [] w) (hBw : B ≤ w.heap.size) :
    Calls Tryd.prog 39 #[.pointer (some ⟨b, 0, none⟩)] w fun e w' => e = .returned (.string ⟨#[]⟩) ∧ Below B w w' := Any.Builder_String_empty Tryd.lays169 Tryd.Builder_Extra_169 B b w h hBw
open Go.RowKit in
/-- (*strings.Builder).String: "String returns the accumulated string.": WHATEVER THE BUILDER HOLDS. (LAID: no walk: one application.) -/
theorem Tryd.Builder_String_any (B b : Nat) (l : List UInt8) (w : World) (h : Lib.IsBuilder 62 5 B b (Lib.byteCells l) w) (hBw : B ≤ w.heap.size) :
    Calls Tryd.prog 39 #[.pointer (some ⟨b, 0, none⟩)] w fun e w' => e = .returned (.string ⟨l.toArray⟩) ∧ Below B w w' := Any.Builder_String_any Tryd.lays169 Tryd.Builder_Extra_169 B b l w h hBw
def Tryd.lays241_ren : Go.Shelf.Ren := ⟨fun | 241 => 45 | 277 => 52 | n => n, fun | 70 => 60 | 3 => 3 | 0 => 0 | 72 => 62 | 37 => 58 | 5 => 5 | n => n, fun | n => n⟩
theorem Tryd.lays241 : Go.Proofs.Lays.n241 Tryd.prog Tryd.lays241_ren := {
  mixed := by kernel_rfl
  f241 := Tryd.func45.trans (congrArg some (by kernel_rfl))
  f277 := Tryd.func52.trans (congrArg some (by kernel_rfl))
  t0 := Tryd.underlying0
  a0 := Tryd.isAgg0
  z0 := Tryd.sizeOf0
  v0 := Tryd.zeroValue0
  t3 := Tryd.underlying3
  a3 := Tryd.isAgg3
  z3 := Tryd.sizeOf3
  v3 := Tryd.zeroValue3
  t37 := Tryd.underlying58
  a37 := Tryd.isAgg58
  z37 := Tryd.sizeOf58
  v37 := Tryd.zeroValue58
  t70 := Tryd.underlying60
  a70 := Tryd.isAgg60
  z70 := Tryd.sizeOf60
  v70 := Tryd.zeroValue60
  t72 := Tryd.underlying62
  a72 := Tryd.isAgg62
  z72 := Tryd.sizeOf62
  v72 := Tryd.zeroValue62 }
theorem Tryd.Builder_Extra_241 : Builder.Extra Tryd.prog Tryd.lays241_ren := {
  sizeBuilder := by kernel_rfl
  liesBuilder := by kernel_rfl
  t5 := Tryd.underlying5
  a5 := Tryd.isAgg5
  z5 := Tryd.sizeOf5
  v5 := Tryd.zeroValue5
  infoByte := by kernel_rfl
  cellsByte := by kernel_rfl
  sizeByte := by kernel_rfl
  neB5 := by decide }
open Go.RowKit in
/-- (*strings.Builder).grow (no doc but "grow copies the buffer to a new, larger buffer so that there are at least n bytes of capacity beyond len(b.buf)."): AT A BUILDER WITHOUT A BUFFER: a new row of whatever bytes for its buffer, none of them its own yet. Three draws. (LAID: no walk: one application.) -/
theorem Tryd.Builder_grow_fresh (B b n : Nat) (w : World) (hB : B ≤ b) (hbk : w.heap[b]? = some (.cells #[.pointer (some ⟨b, 0, none⟩), .slice none 0 0] 62 (0, 0))) (hBw : B ≤ w.heap.size) (hn : n ≤ 281474976710656) :
    Calls Tryd.prog 45 #[.pointer (some ⟨b, 0, none⟩), .int .i64 n] w fun e w' => e = .returned (.tuple #[]) ∧ (Lib.BuilderAt 62 5 B b (.pointer (some ⟨b, 0, none⟩)) [] w' ∧ Below B w w') := Any.Builder_grow_fresh Tryd.lays241 Tryd.Builder_Extra_241 B b n w hB hbk hBw hn
def Tryd.lays165_ren : Go.Shelf.Ren := ⟨fun | 165 => 37 | 240 => 44 | 241 => 45 | 276 => 51 | 277 => 52 | n => n, fun | 70 => 60 | 3 => 3 | 0 => 0 | 4 => 4 | 9 => 9 | 20 => 20 | 72 => 62 | 37 => 58 | 164 => 83 | 5 => 5 | n => n, fun | n => n⟩
theorem Tryd.lays165 : Go.Proofs.Lays.n165 Tryd.prog Tryd.lays165_ren := {
  mixed := by kernel_rfl
  f165 := Tryd.func37.trans (congrArg some (by kernel_rfl))
  f240 := Tryd.func44.trans (congrArg some (by kernel_rfl))
  f241 := Tryd.func45.trans (congrArg some (by kernel_rfl))
  f276 := Tryd.func51.trans (congrArg some (by kernel_rfl))
  f277 := Tryd.func52.trans (congrArg some (by kernel_rfl))
  t0 := Tryd.underlying0
  a0 := Tryd.isAgg0
  z0 := Tryd.sizeOf0
  v0 := Tryd.zeroValue0
  t3 := Tryd.underlying3
  a3 := Tryd.isAgg3
  z3 := Tryd.sizeOf3
  v3 := Tryd.zeroValue3
  t4 := Tryd.underlying4
  a4 := Tryd.isAgg4
  z4 := Tryd.sizeOf4
  v4 := Tryd.zeroValue4
  t9 := Tryd.underlying9
  a9 := Tryd.isAgg9
  z9 := Tryd.sizeOf9
  v9 := Tryd.zeroValue9
  t20 := Tryd.underlying20
  a20 := Tryd.isAgg20
  z20 := Tryd.sizeOf20
  v20 := Tryd.zeroValue20
  t37 := Tryd.underlying58
  a37 := Tryd.isAgg58
  z37 := Tryd.sizeOf58
  v37 := Tryd.zeroValue58
  t70 := Tryd.underlying60
  a70 := Tryd.isAgg60
  z70 := Tryd.sizeOf60
  v70 := Tryd.zeroValue60
  t72 := Tryd.underlying62
  a72 := Tryd.isAgg62
  z72 := Tryd.sizeOf62
  v72 := Tryd.zeroValue62
  t164 := Tryd.underlying83
  a164 := Tryd.isAgg83
  z164 := Tryd.sizeOf83
  v164 := Tryd.zeroValue83 }
theorem Tryd.Builder_Extra_165 : Builder.Extra Tryd.prog Tryd.lays165_ren := {
  sizeBuilder := by kernel_rfl
  liesBuilder := by kernel_rfl
  t5 := Tryd.underlying5
  a5 := Tryd.isAgg5
  z5 := Tryd.sizeOf5
  v5 := Tryd.zeroValue5
  infoByte := by kernel_rfl
  cellsByte := by kernel_rfl
  sizeByte := by kernel_rfl
  neB5 := by decide }
open Go.RowKit in
/-- (*strings.Builder).Grow AT A BUILDER THAT HAS NOT BEEN WRITTEN ('var b strings.Builder; b.Grow(n)'): "Grow grows b's capacity, if necessary, to guarantee space for another n bytes.": it holds no byte behind it as before it. (LAID: no walk: one application.) -/
theorem Tryd.Builder_Grow_fresh (B b n : Nat) (w : World) (hB : B ≤ b) (hbk : w.heap[b]? = some (.cells #[.pointer none, .slice none 0 0] 62 (0, 0))) (hBw : B ≤ w.heap.size) (hn : n ≤ 281474976710656) :
    Calls Tryd.prog 37 #[.pointer (some ⟨b, 0, none⟩), .int .i64 n] w fun e w' => e = .returned (.tuple #[]) ∧ (Lib.BuilderAt 62 5 B b (.pointer (some ⟨b, 0, none⟩)) [] w' ∧ Below B w w') := Any.Builder_Grow_fresh Tryd.lays165 Tryd.Builder_Extra_165 B b n w hB hbk hBw hn
def Tryd.lays156_ren : Go.Shelf.Ren := ⟨fun | 156 => 31 | 165 => 37 | 166 => 38 | 169 => 39 | 240 => 44 | 241 => 45 | 276 => 51 | 277 => 52 | n => n, fun | 31 => 52 | 9 => 9 | 3 => 3 | 4 => 4 | 0 => 0 | 20 => 20 | 72 => 62 | 76 => 66 | 70 => 60 | 37 => 58 | 75 => 65 | 127 => 75 | 164 => 83 | 5 => 5 | 80 => 68 | n => n, fun | n => n⟩
theorem Tryd.lays156 : Go.Proofs.Lays.n156 Tryd.prog Tryd.lays156_ren := {
  mixed := by kernel_rfl
  f156 := Tryd.func31.trans (congrArg some (by kernel_rfl))
  f165 := Tryd.func37.trans (congrArg some (by kernel_rfl))
  f166 := Tryd.func38.trans (congrArg some (by kernel_rfl))
  f169 := Tryd.func39.trans (congrArg some (by kernel_rfl))
  f240 := Tryd.func44.trans (congrArg some (by kernel_rfl))
  f241 := Tryd.func45.trans (congrArg some (by kernel_rfl))
  f276 := Tryd.func51.trans (congrArg some (by kernel_rfl))
  f277 := Tryd.func52.trans (congrArg some (by kernel_rfl))
  t0 := Tryd.underlying0
  a0 := Tryd.isAgg0
  z0 := Tryd.sizeOf0
  v0 := Tryd.zeroValue0
  t3 := Tryd.underlying3
  a3 := Tryd.isAgg3
  z3 := Tryd.sizeOf3
  v3 := Tryd.zeroValue3
  t4 := Tryd.underlying4
  a4 := Tryd.isAgg4
  z4 := Tryd.sizeOf4
  v4 := Tryd.zeroValue4
  t9 := Tryd.underlying9
  a9 := Tryd.isAgg9
  z9 := Tryd.sizeOf9
  v9 := Tryd.zeroValue9
  t20 := Tryd.underlying20
  a20 := Tryd.isAgg20
  z20 := Tryd.sizeOf20
  v20 := Tryd.zeroValue20
  t31 := Tryd.underlying52
  a31 := Tryd.isAgg52
  z31 := Tryd.sizeOf52
  v31 := Tryd.zeroValue52
  t37 := Tryd.underlying58
  a37 := Tryd.isAgg58
  z37 := Tryd.sizeOf58
  v37 := Tryd.zeroValue58
  t70 := Tryd.underlying60
  a70 := Tryd.isAgg60
  z70 := Tryd.sizeOf60
  v70 := Tryd.zeroValue60
  t72 := Tryd.underlying62
  a72 := Tryd.isAgg62
  z72 := Tryd.sizeOf62
  v72 := Tryd.zeroValue62
  t75 := Tryd.underlying65
  a75 := Tryd.isAgg65
  z75 := Tryd.sizeOf65
  v75 := Tryd.zeroValue65
  t76 := Tryd.underlying66
  a76 := Tryd.isAgg66
  z76 := Tryd.sizeOf66
  v76 := Tryd.zeroValue66
  t127 := Tryd.underlying75
  a127 := Tryd.isAgg75
  z127 := Tryd.sizeOf75
  v127 := Tryd.zeroValue75
  t164 := Tryd.underlying83
  a164 := Tryd.isAgg83
  z164 := Tryd.sizeOf83
  v164 := Tryd.zeroValue83 }
theorem Tryd.Builder_Extra_156 : Builder.Extra Tryd.prog Tryd.lays156_ren := {
  sizeBuilder := by kernel_rfl
  liesBuilder := by kernel_rfl
  t5 := Tryd.underlying5
  a5 := Tryd.isAgg5
  z5 := Tryd.sizeOf5
  v5 := Tryd.zeroValue5
  infoByte := by kernel_rfl
  cellsByte := by kernel_rfl
  sizeByte := by kernel_rfl
  neB5 := by decide }
open Go.RowKit in
/-- No element: the empty string; the world is as it was. (Whatever the slice's address and capacity: a nil slice too.) (LAID: no walk: one application.) -/
theorem Tryd.strings_Join_none (a : Option Addr) (c : Nat) (sep : ByteArray) (w : World) :
    Calls Tryd.prog 31 #[.slice a 0 c, .string sep] w fun e w' => e = .returned (.string ⟨#[]⟩) ∧ w' = w := Any.strings_Join_none Tryd.lays156 Tryd.Builder_Extra_156 a c sep w
open Go.RowKit in
/-- strings.Join: "Join concatenates the elements of its first argument to create a single string. The separator string sep is placed between elements in the resulting string.": HOWEVER MANY ELEMENTS. Below the heap's end the world is as it was. (LAID: no walk: one application.) -/
theorem Tryd.strings_Join (bk o c : Nat) (xs : List ByteArray) (sep : ByteArray) (w : World) (hcells : ∀ (j : Nat) x, xs[j]? = some x → w.cell? ⟨bk, o + j, none⟩ = some (.string x)) (hbk : bk < w.heap.size) (hN : xs.length ≤ 140737488355328) (hcap : xs.length ≤ c) (hlen : (Lib.join (xs.map (·.data.toList)) sep.data.toList).length ≤ 140737488355328) :
    Calls Tryd.prog 31 #[.slice (some ⟨bk, o, none⟩) xs.length c, .string sep] w fun e w' => e = .returned (.string ⟨(Lib.join (xs.map (·.data.toList)) sep.data.toList).toArray⟩) ∧ Below w.heap.size w w' := Any.strings_Join Tryd.lays156 Tryd.Builder_Extra_156 bk o c xs sep w hcells hbk hN hcap hlen
open Go.RowKit in
/-- (*strings.Builder).String: "String returns the accumulated string.": OF A BUILDER THAT HOLDS AT LEAST ONE BYTE. ✋ THE MODEL FREEZES THOSE BYTES IN THE BUFFER (unsafe.String): a later write INTO them ends the model's run without an answer; a later append BEHIND them goes on. The statement's order of evaluation is drawn: one draw. THE FORM '_f': IT SAYS BESIDES THAT THE BUILDER IS A BUILDER STILL ('Lib.IsBuilderF', the same bytes): SO IT CAN BE WRITTEN ON: 'b.WriteString(b.String()[:k])'. (LAID: no walk: one application.) -/
theorem Tryd.Builder_String_f (B b : Nat) (l : List UInt8) (w : World) (h : Lib.IsBuilderF 62 5 B b (Lib.byteCells l) w) (h0 : l ≠ []) :
    Calls Tryd.prog 39 #[.pointer (some ⟨b, 0, none⟩)] w fun e w' => e = .returned (.string ⟨l.toArray⟩) ∧ (Lib.IsBuilderF 62 5 B b (Lib.byteCells l) w' ∧ Below B w w') := Any.Builder_String_f Tryd.lays169 Tryd.Builder_Extra_169 B b l w h h0
open Go.RowKit in
/-- (*strings.Builder).String OF A BUILDER THAT HOLDS NO BYTE: the empty string; THE FORM '_f': a builder still. (LAID: no walk: one application.) -/
theorem Tryd.Builder_String_empty_f (B b : Nat) (w : World) (h : Lib.IsBuilderF 62 5 B b [] w) (hBw : B ≤ w.heap.size) :
    Calls Tryd.prog 39 #[.pointer (some ⟨b, 0, none⟩)] w fun e w' => e = .returned (.string ⟨#[]⟩) ∧ (Lib.IsBuilderF 62 5 B b [] w' ∧ Below B w w') := Any.Builder_String_empty_f Tryd.lays169 Tryd.Builder_Extra_169 B b w h hBw
open Go.RowKit in
/-- (*strings.Builder).String: "String returns the accumulated string.": WHATEVER THE BUILDER HOLDS; THE FORM '_f': OF A BUILDER THAT MAY HAVE BEEN READ BEFORE; AND IT IS A BUILDER STILL, holding the same bytes: it can be written on. (LAID: no walk: one application.) -/
theorem Tryd.Builder_String_any_f (B b : Nat) (l : List UInt8) (w : World) (h : Lib.IsBuilderF 62 5 B b (Lib.byteCells l) w) (hBw : B ≤ w.heap.size) :
    Calls Tryd.prog 39 #[.pointer (some ⟨b, 0, none⟩)] w fun e w' => e = .returned (.string ⟨l.toArray⟩) ∧ (Lib.IsBuilderF 62 5 B b (Lib.byteCells l) w' ∧ Below B w w') := Any.Builder_String_any_f Tryd.lays169 Tryd.Builder_Extra_169 B b l w h hBw
open Go.RowKit in
/-- (*strings.Builder).grow (no doc but "grow copies the buffer to a new, larger buffer so that there are at least n bytes of capacity beyond len(b.buf)."): AT A BUILDER WITHOUT A BUFFER: a new row of whatever bytes for its buffer, none of them its own yet. Three draws. (LAID: no walk: one application.) -/
theorem Tryd.Builder_grow_fresh_cap (B b n : Nat) (w : World) (hB : B ≤ b) (hbk : w.heap[b]? = some (.cells #[.pointer (some ⟨b, 0, none⟩), .slice none 0 0] 62 (0, 0))) (hBw : B ≤ w.heap.size) (hn : n ≤ 281474976710656) :
    Calls Tryd.prog 45 #[.pointer (some ⟨b, 0, none⟩), .int .i64 n] w fun e w' => e = .returned (.tuple #[]) ∧ (Lib.BuilderAt 62 5 B b (.pointer (some ⟨b, 0, none⟩)) [] w' ∧ Below B w w') ∧ ∃ p cap, w'.cell? ⟨b, 1, none⟩ = some (.slice p 0 cap) ∧ n ≤ cap := Any.Builder_grow_fresh_cap Tryd.lays241 Tryd.Builder_Extra_241 B b n w hB hbk hBw hn
open Go.RowKit in
/-- (*strings.Builder).Grow AT A BUILDER THAT HAS NOT BEEN WRITTEN ('var b strings.Builder; b.Grow(n)'): "Grow grows b's capacity, if necessary, to guarantee space for another n bytes.": it holds no byte behind it as before it. (LAID: no walk: one application.) -/
theorem Tryd.Builder_Grow_fresh_cap (B b n : Nat) (w : World) (hB : B ≤ b) (hbk : w.heap[b]? = some (.cells #[.pointer none, .slice none 0 0] 62 (0, 0))) (hBw : B ≤ w.heap.size) (hn : n ≤ 281474976710656) :
    Calls Tryd.prog 37 #[.pointer (some ⟨b, 0, none⟩), .int .i64 n] w fun e w' => e = .returned (.tuple #[]) ∧ (Lib.BuilderAt 62 5 B b (.pointer (some ⟨b, 0, none⟩)) [] w' ∧ Below B w w') ∧ ∃ p cap, w'.cell? ⟨b, 1, none⟩ = some (.slice p 0 cap) ∧ n ≤ cap := Any.Builder_Grow_fresh_cap Tryd.lays165 Tryd.Builder_Extra_165 B b n w hB hbk hBw hn
def Tryd.lays129_ren : Go.Shelf.Ren := ⟨fun | 129 => 47 | n => n, fun | 53 => 70 | 3 => 3 | 4 => 4 | 46 => 81 | 5 => 5 | 9 => 9 | n => n, fun | n => n⟩
theorem Tryd.lays129 : Go.Proofs.Lays.n129 Tryd.prog Tryd.lays129_ren := {
  mixed := by kernel_rfl
  f129 := Tryd.func47.trans (congrArg some (by kernel_rfl))
  t3 := Tryd.underlying3
  a3 := Tryd.isAgg3
  z3 := Tryd.sizeOf3
  v3 := Tryd.zeroValue3
  t4 := Tryd.underlying4
  a4 := Tryd.isAgg4
  z4 := Tryd.sizeOf4
  v4 := Tryd.zeroValue4
  t5 := Tryd.underlying5
  a5 := Tryd.isAgg5
  z5 := Tryd.sizeOf5
  v5 := Tryd.zeroValue5
  t9 := Tryd.underlying9
  a9 := Tryd.isAgg9
  z9 := Tryd.sizeOf9
  v9 := Tryd.zeroValue9
  t46 := Tryd.underlying81
  a46 := Tryd.isAgg81
  z46 := Tryd.sizeOf81
  v46 := Tryd.zeroValue81
  t53 := Tryd.underlying70
  a53 := Tryd.isAgg70
  z53 := Tryd.sizeOf70
  v53 := Tryd.zeroValue70 }
/-- bits.Len64: "Len64 returns the minimum number of bits required to represent x; the result is 0 for x == 0.": IT RETURNS 'Lib.bitLen x'; the world is as it was. ('h0', 'h1': x is a uint64.) (LAID: no walk: one application.) -/
theorem Tryd.bits_Len64 (x : Int) (w : World) (h0 : 0 ≤ x) (h1 : x ≤ 18446744073709551615) :
    Calls Tryd.prog 47 #[.int .u64 x] w fun e w' => e = .returned (.int .i64 (Lib.bitLen x.toNat)) ∧ w' = w := Any.bits_Len64 Tryd.lays129 x w h0 h1
def Tryd.lays317_ren : Go.Shelf.Ren := ⟨fun | 317 => 46 | n => n, fun | 3 => 3 | 46 => 81 | n => n, fun | n => n⟩
theorem Tryd.lays317 : Go.Proofs.Lays.n317 Tryd.prog Tryd.lays317_ren := {
  mixed := by kernel_rfl
  f317 := Tryd.func46.trans (congrArg some (by kernel_rfl))
  t3 := Tryd.underlying3
  a3 := Tryd.isAgg3
  z3 := Tryd.sizeOf3
  v3 := Tryd.zeroValue3
  t46 := Tryd.underlying81
  a46 := Tryd.isAgg81
  z46 := Tryd.sizeOf81
  v46 := Tryd.zeroValue81 }
open Go.Lib in
/-- internal/strconv.log10Pow2: "log10Pow2(x) returns ⌊log₁₀ 2**x⌋ = ⌊x * log₁₀ 2⌋.": '(x * 78913) >> 18', at an x up to 64 (a length in bits). The world is as it was. (LAID: no walk: one application.) -/
theorem Tryd.internal_strconv_log10Pow2 (x : Nat) (h : x ≤ 64) (w : World) :
    Calls Tryd.prog 46 #[.int .i64 x] w fun e w' => e = .returned (.int .i64 (Lib.l10 x)) ∧ w' = w := Any.internal_strconv_log10Pow2 Tryd.lays317 x h w
def Tryd.lays318_ren : Go.Shelf.Ren := ⟨fun | 318 => 48 | n => n, fun | 3 => 3 | 4 => 4 | n => n, fun | n => n⟩
theorem Tryd.lays318 : Go.Proofs.Lays.n318 Tryd.prog Tryd.lays318_ren := {
  mixed := by kernel_rfl
  f318 := Tryd.func48.trans (congrArg some (by kernel_rfl))
  t3 := Tryd.underlying3
  a3 := Tryd.isAgg3
  z3 := Tryd.sizeOf3
  v3 := Tryd.zeroValue3
  t4 := Tryd.underlying4
  a4 := Tryd.isAgg4
  z4 := Tryd.sizeOf4
  v4 := Tryd.zeroValue4 }
open Go.Lib in
/-- internal/strconv.bool2: "bool2 converts b to an integer: 1 for true, 0 for false." The world is as it was. (LAID: no walk: one application.) -/
theorem Tryd.internal_strconv_bool2_int (b : Bool) (w : World) :
    Calls Tryd.prog 48 #[.bool b] w fun e w' => e = .returned (.int .i64 (if b then 1 else 0)) ∧ w' = w := Any.internal_strconv_bool2_int Tryd.lays318 b w
def Tryd.lays283_ren : Go.Shelf.Ren := ⟨fun | 283 => 40 | n => n, fun | 3 => 3 | 9 => 9 | 4 => 4 | n => n, fun | n => n⟩
theorem Tryd.lays283 : Go.Proofs.Lays.n283 Tryd.prog Tryd.lays283_ren := {
  mixed := by kernel_rfl
  f283 := Tryd.func40.trans (congrArg some (by kernel_rfl))
  t3 := Tryd.underlying3
  a3 := Tryd.isAgg3
  z3 := Tryd.sizeOf3
  v3 := Tryd.zeroValue3
  t4 := Tryd.underlying4
  a4 := Tryd.isAgg4
  z4 := Tryd.sizeOf4
  v4 := Tryd.zeroValue4
  t9 := Tryd.underlying9
  a9 := Tryd.isAgg9
  z9 := Tryd.sizeOf9
  v9 := Tryd.zeroValue9 }
open Go.Lib in
/-- internal/strconv.small: "small returns the string for an i with 0 <= i < nSmalls.": i's decimal numeral. The world is as it was. (LAID: no walk: one application.) -/
theorem Tryd.internal_strconv_small (i : Nat) (h : i < 100) (w : World) :
    Calls Tryd.prog 40 #[.int .i64 i] w fun e w' => e = .returned (.string ⟨(Lib.decDigits i).toArray⟩) ∧ w' = w := Any.internal_strconv_small Tryd.lays283 i h w
def Tryd.laysM284_ren : Go.Shelf.Ren := ⟨fun | 284 => 41 | 129 => 47 | 317 => 46 | 318 => 48 | n => n, fun | 53 => 70 | 3 => 3 | 212 => 78 | 0 => 0 | 4 => 4 | 46 => 81 | 5 => 5 | 9 => 9 | n => n, fun | 17 => 0 | n => n⟩
theorem Tryd.laysM284 : Go.Proofs.LaysM.n284 Tryd.prog Tryd.laysM284_ren := {
  mixed := by kernel_rfl
  f129 := Tryd.func47.trans (congrArg some (by kernel_rfl))
  f284 := Tryd.func41.trans (congrArg some (by kernel_rfl))
  f317 := Tryd.func46.trans (congrArg some (by kernel_rfl))
  f318 := Tryd.func48.trans (congrArg some (by kernel_rfl))
  t0 := Tryd.underlying0
  a0 := Tryd.isAgg0
  z0 := Tryd.sizeOf0
  v0 := Tryd.zeroValue0
  t3 := Tryd.underlying3
  a3 := Tryd.isAgg3
  z3 := Tryd.sizeOf3
  v3 := Tryd.zeroValue3
  t4 := Tryd.underlying4
  a4 := Tryd.isAgg4
  z4 := Tryd.sizeOf4
  v4 := Tryd.zeroValue4
  t5 := Tryd.underlying5
  a5 := Tryd.isAgg5
  z5 := Tryd.sizeOf5
  v5 := Tryd.zeroValue5
  t9 := Tryd.underlying9
  a9 := Tryd.isAgg9
  z9 := Tryd.sizeOf9
  v9 := Tryd.zeroValue9
  t46 := Tryd.underlying81
  a46 := Tryd.isAgg81
  z46 := Tryd.sizeOf81
  v46 := Tryd.zeroValue81
  t53 := Tryd.underlying70
  a53 := Tryd.isAgg70
  z53 := Tryd.sizeOf70
  v53 := Tryd.zeroValue70
  t212 := Tryd.underlying78
  a212 := Tryd.isAgg78
  z212 := Tryd.sizeOf78
  v212 := Tryd.zeroValue78
  g17 := by kernel_rfl
  i0 := by kernel_rfl
  i3 := by kernel_rfl
  i4 := by kernel_rfl
  i5 := by kernel_rfl
  i9 := by kernel_rfl
  i46 := by kernel_rfl
  i53 := by kernel_rfl
  i212 := by kernel_rfl
  m17 := by kernel_rfl }
open Go.Lib in
/-- internal/strconv.numDigits, at a d that is not 0: THE NUMBER OF d's DECIMAL DIGITS. The world is as it was. (LAID: no walk: one application.) -/
theorem Tryd.internal_strconv_numDigits (u : Nat) (h1 : 1 ≤ u) (h2 : u < 18446744073709551616) (w : World) (htab : Lib.TabIs Tryd.prog w "internal/strconv.uint64pow10" .u64 Lib.pow10Tab) :
    Calls Tryd.prog 41 #[.int .u64 u] w fun e w' => e = .returned (.int .i64 (Lib.nDigits u)) ∧ w' = w := Any.internal_strconv_numDigits Tryd.laysM284 u h1 h2 w htab
def Tryd.lays285_ren : Go.Shelf.Ren := ⟨fun | 285 => 42 | n => n, fun | 37 => 58 | 53 => 70 | 3 => 3 | 4 => 4 | 51 => 79 | 9 => 9 | 5 => 5 | 0 => 0 | n => n, fun | n => n⟩
theorem Tryd.lays285 : Go.Proofs.Lays.n285 Tryd.prog Tryd.lays285_ren := {
  mixed := by kernel_rfl
  f285 := Tryd.func42.trans (congrArg some (by kernel_rfl))
  t0 := Tryd.underlying0
  a0 := Tryd.isAgg0
  z0 := Tryd.sizeOf0
  v0 := Tryd.zeroValue0
  t3 := Tryd.underlying3
  a3 := Tryd.isAgg3
  z3 := Tryd.sizeOf3
  v3 := Tryd.zeroValue3
  t4 := Tryd.underlying4
  a4 := Tryd.isAgg4
  z4 := Tryd.sizeOf4
  v4 := Tryd.zeroValue4
  t5 := Tryd.underlying5
  a5 := Tryd.isAgg5
  z5 := Tryd.sizeOf5
  v5 := Tryd.zeroValue5
  t9 := Tryd.underlying9
  a9 := Tryd.isAgg9
  z9 := Tryd.sizeOf9
  v9 := Tryd.zeroValue9
  t37 := Tryd.underlying58
  a37 := Tryd.isAgg58
  z37 := Tryd.sizeOf58
  v37 := Tryd.zeroValue58
  t51 := Tryd.underlying79
  a51 := Tryd.isAgg79
  z51 := Tryd.sizeOf79
  v51 := Tryd.zeroValue79
  t53 := Tryd.underlying70
  a53 := Tryd.isAgg70
  z53 := Tryd.sizeOf70
  v53 := Tryd.zeroValue70 }
open Go.RowKit Go.Sort Go.Lib in
/-- internal/strconv.formatBase10: "formatBase10 formats the decimal representation of u into a. The caller is responsible for ensuring that a is big enough to hold u. If a is too big, leading zeros will be filled in as needed.": THE ROW HOLDS u's DIGITS ('FmtInv .. 0 ..': every place t holds 'dg u (len - 1 - t)'); all else is as it was but for the count of draws. (LAID: no walk: one application.) -/
theorem Tryd.internal_strconv_formatBase10 (blk off cap : Nat) (u : Nat) (d : Array UInt8) (w : World) (hH : Holds (fun (b : UInt8) => Value.int .u8 (b.toNat : Int)) w blk off d) (hu : u < 10 ^ d.size) (hu64 : u < 18446744073709551616) (hsz : d.size < 4611686018427387904) :
    Calls Tryd.prog 42 #[.slice (some ⟨blk, off, none⟩) d.size cap, .int .u64 u] w fun e w' =>
      e = .returned (.tuple #[]) ∧ ∃ (n v' : Nat) (dk : Array UInt8), w' = (putRow (fun (b : UInt8) => Value.int .u8 (b.toNat : Int)) w blk off dk).drewN n ∧ FmtInv d.size u 0 v' dk := Any.internal_strconv_formatBase10 Tryd.lays285 blk off cap u d w hH hu hu64 hsz
def Tryd.laysM246_ren : Go.Shelf.Ren := ⟨fun | 246 => 35 | 283 => 40 | 284 => 41 | 285 => 42 | 286 => 43 | 129 => 47 | 317 => 46 | 318 => 48 | 319 => 49 | 320 => 50 | 337 => 53 | 338 => 54 | n => n, fun | 2 => 2 | 3 => 3 | 9 => 9 | 4 => 4 | 171 => 69 | 0 => 0 | 53 => 70 | 37 => 58 | 5 => 5 | 173 => 73 | 212 => 78 | 51 => 79 | 20 => 20 | 213 => 80 | 46 => 81 | 232 => 87 | 233 => 88 | n => n, fun | 17 => 0 | 18 => 2 | 19 => 3 | n => n⟩
theorem Tryd.laysM246 : Go.Proofs.LaysM.n246 Tryd.prog Tryd.laysM246_ren := {
  mixed := by kernel_rfl
  f129 := Tryd.func47.trans (congrArg some (by kernel_rfl))
  f246 := Tryd.func35.trans (congrArg some (by kernel_rfl))
  f283 := Tryd.func40.trans (congrArg some (by kernel_rfl))
  f284 := Tryd.func41.trans (congrArg some (by kernel_rfl))
  f285 := Tryd.func42.trans (congrArg some (by kernel_rfl))
  f286 := Tryd.func43.trans (congrArg some (by kernel_rfl))
  f317 := Tryd.func46.trans (congrArg some (by kernel_rfl))
  f318 := Tryd.func48.trans (congrArg some (by kernel_rfl))
  f319 := Tryd.func49.trans (congrArg some (by kernel_rfl))
  f320 := Tryd.func50.trans (congrArg some (by kernel_rfl))
  f337 := Tryd.func53.trans (congrArg some (by kernel_rfl))
  f338 := Tryd.func54.trans (congrArg some (by kernel_rfl))
  t0 := Tryd.underlying0
  a0 := Tryd.isAgg0
  z0 := Tryd.sizeOf0
  v0 := Tryd.zeroValue0
  t2 := Tryd.underlying2
  a2 := Tryd.isAgg2
  z2 := Tryd.sizeOf2
  v2 := Tryd.zeroValue2
  t3 := Tryd.underlying3
  a3 := Tryd.isAgg3
  z3 := Tryd.sizeOf3
  v3 := Tryd.zeroValue3
  t4 := Tryd.underlying4
  a4 := Tryd.isAgg4
  z4 := Tryd.sizeOf4
  v4 := Tryd.zeroValue4
  t5 := Tryd.underlying5
  a5 := Tryd.isAgg5
  z5 := Tryd.sizeOf5
  v5 := Tryd.zeroValue5
  t9 := Tryd.underlying9
  a9 := Tryd.isAgg9
  z9 := Tryd.sizeOf9
  v9 := Tryd.zeroValue9
  t20 := Tryd.underlying20
  a20 := Tryd.isAgg20
  z20 := Tryd.sizeOf20
  v20 := Tryd.zeroValue20
  t37 := Tryd.underlying58
  a37 := Tryd.isAgg58
  z37 := Tryd.sizeOf58
  v37 := Tryd.zeroValue58
  t46 := Tryd.underlying81
  a46 := Tryd.isAgg81
  z46 := Tryd.sizeOf81
  v46 := Tryd.zeroValue81
  t51 := Tryd.underlying79
  a51 := Tryd.isAgg79
  z51 := Tryd.sizeOf79
  v51 := Tryd.zeroValue79
  t53 := Tryd.underlying70
  a53 := Tryd.isAgg70
  z53 := Tryd.sizeOf70
  v53 := Tryd.zeroValue70
  t171 := Tryd.underlying69
  a171 := Tryd.isAgg69
  z171 := Tryd.sizeOf69
  v171 := Tryd.zeroValue69
  t173 := Tryd.underlying73
  a173 := Tryd.isAgg73
  z173 := Tryd.sizeOf73
  v173 := Tryd.zeroValue73
  t212 := Tryd.underlying78
  a212 := Tryd.isAgg78
  z212 := Tryd.sizeOf78
  v212 := Tryd.zeroValue78
  t213 := Tryd.underlying80
  a213 := Tryd.isAgg80
  z213 := Tryd.sizeOf80
  t232 := Tryd.underlying87
  a232 := Tryd.isAgg87
  z232 := Tryd.sizeOf87
  v232 := Tryd.zeroValue87
  t233 := Tryd.underlying88
  a233 := Tryd.isAgg88
  z233 := Tryd.sizeOf88
  v233 := Tryd.zeroValue88
  g17 := by kernel_rfl
  g18 := by kernel_rfl
  g19 := by kernel_rfl
  i0 := by kernel_rfl
  i2 := by kernel_rfl
  i3 := by kernel_rfl
  i4 := by kernel_rfl
  i5 := by kernel_rfl
  i9 := by kernel_rfl
  i20 := by kernel_rfl
  i37 := by kernel_rfl
  i46 := by kernel_rfl
  i51 := by kernel_rfl
  i53 := by kernel_rfl
  i171 := by kernel_rfl
  i173 := by kernel_rfl
  i212 := by kernel_rfl
  i232 := by kernel_rfl
  i233 := by kernel_rfl
  m17 := by kernel_rfl
  m18 := by kernel_rfl
  m19 := by kernel_rfl }
open Go.RowKit Go.Sort Go.Lib in
/-- internal/strconv.FormatInt: "FormatInt returns the string representation of i in the given base": AT BASE 10: i's decimal numeral, for every int64. The world behind the call: the world before it, new blocks behind the heap, draws. (LAID: no walk: one application.) -/
theorem Tryd.internal_strconv_FormatInt_10 (n : Int) (h0 : -9223372036854775808 ≤ n) (h1 : n ≤ 9223372036854775807) (w : World) (htab : Lib.TabIs Tryd.prog w "internal/strconv.uint64pow10" .u64 Lib.pow10Tab) :
    Calls Tryd.prog 35 #[.int .i64 n, .int .i64 10] w fun e w' => e = .returned (.string ⟨(Lib.itoa n).toArray⟩) ∧ ∃ k os, w' = grow (w.drewN k) os := Any.internal_strconv_FormatInt_10 Tryd.laysM246 n h0 h1 w htab
def Tryd.lays246_ren : Go.Shelf.Ren := ⟨fun | 246 => 35 | 283 => 40 | 284 => 41 | 285 => 42 | 286 => 43 | 129 => 47 | 317 => 46 | 318 => 48 | 319 => 49 | 320 => 50 | 337 => 53 | 338 => 54 | n => n, fun | 2 => 2 | 3 => 3 | 9 => 9 | 4 => 4 | 171 => 69 | 0 => 0 | 53 => 70 | 37 => 58 | 5 => 5 | 173 => 73 | 212 => 78 | 51 => 79 | 20 => 20 | 213 => 80 | 46 => 81 | 232 => 87 | 233 => 88 | n => n, fun | 17 => 0 | 18 => 2 | 19 => 3 | n => n⟩
theorem Tryd.lays246 : Go.Proofs.Lays.n246 Tryd.prog Tryd.lays246_ren := {
  mixed := by kernel_rfl
  f129 := Tryd.func47.trans (congrArg some (by kernel_rfl))
  f246 := Tryd.func35.trans (congrArg some (by kernel_rfl))
  f283 := Tryd.func40.trans (congrArg some (by kernel_rfl))
  f284 := Tryd.func41.trans (congrArg some (by kernel_rfl))
  f285 := Tryd.func42.trans (congrArg some (by kernel_rfl))
  f286 := Tryd.func43.trans (congrArg some (by kernel_rfl))
  f317 := Tryd.func46.trans (congrArg some (by kernel_rfl))
  f318 := Tryd.func48.trans (congrArg some (by kernel_rfl))
  f319 := Tryd.func49.trans (congrArg some (by kernel_rfl))
  f320 := Tryd.func50.trans (congrArg some (by kernel_rfl))
  f337 := Tryd.func53.trans (congrArg some (by kernel_rfl))
  f338 := Tryd.func54.trans (congrArg some (by kernel_rfl))
  t0 := Tryd.underlying0
  a0 := Tryd.isAgg0
  z0 := Tryd.sizeOf0
  v0 := Tryd.zeroValue0
  t2 := Tryd.underlying2
  a2 := Tryd.isAgg2
  z2 := Tryd.sizeOf2
  v2 := Tryd.zeroValue2
  t3 := Tryd.underlying3
  a3 := Tryd.isAgg3
  z3 := Tryd.sizeOf3
  v3 := Tryd.zeroValue3
  t4 := Tryd.underlying4
  a4 := Tryd.isAgg4
  z4 := Tryd.sizeOf4
  v4 := Tryd.zeroValue4
  t5 := Tryd.underlying5
  a5 := Tryd.isAgg5
  z5 := Tryd.sizeOf5
  v5 := Tryd.zeroValue5
  t9 := Tryd.underlying9
  a9 := Tryd.isAgg9
  z9 := Tryd.sizeOf9
  v9 := Tryd.zeroValue9
  t20 := Tryd.underlying20
  a20 := Tryd.isAgg20
  z20 := Tryd.sizeOf20
  v20 := Tryd.zeroValue20
  t37 := Tryd.underlying58
  a37 := Tryd.isAgg58
  z37 := Tryd.sizeOf58
  v37 := Tryd.zeroValue58
  t46 := Tryd.underlying81
  a46 := Tryd.isAgg81
  z46 := Tryd.sizeOf81
  v46 := Tryd.zeroValue81
  t51 := Tryd.underlying79
  a51 := Tryd.isAgg79
  z51 := Tryd.sizeOf79
  v51 := Tryd.zeroValue79
  t53 := Tryd.underlying70
  a53 := Tryd.isAgg70
  z53 := Tryd.sizeOf70
  v53 := Tryd.zeroValue70
  t171 := Tryd.underlying69
  a171 := Tryd.isAgg69
  z171 := Tryd.sizeOf69
  v171 := Tryd.zeroValue69
  t173 := Tryd.underlying73
  a173 := Tryd.isAgg73
  z173 := Tryd.sizeOf73
  v173 := Tryd.zeroValue73
  t212 := Tryd.underlying78
  a212 := Tryd.isAgg78
  z212 := Tryd.sizeOf78
  v212 := Tryd.zeroValue78
  t213 := Tryd.underlying80
  a213 := Tryd.isAgg80
  z213 := Tryd.sizeOf80
  t232 := Tryd.underlying87
  a232 := Tryd.isAgg87
  z232 := Tryd.sizeOf87
  v232 := Tryd.zeroValue87
  t233 := Tryd.underlying88
  a233 := Tryd.isAgg88
  z233 := Tryd.sizeOf88
  v233 := Tryd.zeroValue88
  g17 := by kernel_rfl
  g18 := by kernel_rfl
  g19 := by kernel_rfl }
open Go.RowKit Go.Sort Go.Lib in
/-- THE ROAD WITHOUT THE TABLE: 0 <= i < 100: two constants are read, nothing is laid: no premise on the world, and the world is as it was. (LAID: no walk: one application.) -/
theorem Tryd.internal_strconv_FormatInt_10_small (i : Nat) (hi : i < 100) (w : World) :
    Calls Tryd.prog 35 #[.int .i64 i, .int .i64 10] w fun e w' => e = .returned (.string ⟨(Lib.decDigits i).toArray⟩) ∧ w' = w := Any.internal_strconv_FormatInt_10_small Tryd.lays246 i hi w
def Tryd.laysM243_ren : Go.Shelf.Ren := ⟨fun | 243 => 36 | 246 => 35 | 283 => 40 | 284 => 41 | 285 => 42 | 286 => 43 | 129 => 47 | 317 => 46 | 318 => 48 | 319 => 49 | 320 => 50 | 337 => 53 | 338 => 54 | n => n, fun | 3 => 3 | 9 => 9 | 2 => 2 | 4 => 4 | 171 => 69 | 0 => 0 | 53 => 70 | 37 => 58 | 5 => 5 | 173 => 73 | 212 => 78 | 51 => 79 | 20 => 20 | 213 => 80 | 46 => 81 | 232 => 87 | 233 => 88 | n => n, fun | 17 => 0 | 18 => 2 | 19 => 3 | n => n⟩
theorem Tryd.laysM243 : Go.Proofs.LaysM.n243 Tryd.prog Tryd.laysM243_ren := {
  mixed := by kernel_rfl
  f129 := Tryd.func47.trans (congrArg some (by kernel_rfl))
  f243 := Tryd.func36.trans (congrArg some (by kernel_rfl))
  f246 := Tryd.func35.trans (congrArg some (by kernel_rfl))
  f283 := Tryd.func40.trans (congrArg some (by kernel_rfl))
  f284 := Tryd.func41.trans (congrArg some (by kernel_rfl))
  f285 := Tryd.func42.trans (congrArg some (by kernel_rfl))
  f286 := Tryd.func43.trans (congrArg some (by kernel_rfl))
  f317 := Tryd.func46.trans (congrArg some (by kernel_rfl))
  f318 := Tryd.func48.trans (congrArg some (by kernel_rfl))
  f319 := Tryd.func49.trans (congrArg some (by kernel_rfl))
  f320 := Tryd.func50.trans (congrArg some (by kernel_rfl))
  f337 := Tryd.func53.trans (congrArg some (by kernel_rfl))
  f338 := Tryd.func54.trans (congrArg some (by kernel_rfl))
  t0 := Tryd.underlying0
  a0 := Tryd.isAgg0
  z0 := Tryd.sizeOf0
  v0 := Tryd.zeroValue0
  t2 := Tryd.underlying2
  a2 := Tryd.isAgg2
  z2 := Tryd.sizeOf2
  v2 := Tryd.zeroValue2
  t3 := Tryd.underlying3
  a3 := Tryd.isAgg3
  z3 := Tryd.sizeOf3
  v3 := Tryd.zeroValue3
  t4 := Tryd.underlying4
  a4 := Tryd.isAgg4
  z4 := Tryd.sizeOf4
  v4 := Tryd.zeroValue4
  t5 := Tryd.underlying5
  a5 := Tryd.isAgg5
  z5 := Tryd.sizeOf5
  v5 := Tryd.zeroValue5
  t9 := Tryd.underlying9
  a9 := Tryd.isAgg9
  z9 := Tryd.sizeOf9
  v9 := Tryd.zeroValue9
  t20 := Tryd.underlying20
  a20 := Tryd.isAgg20
  z20 := Tryd.sizeOf20
  v20 := Tryd.zeroValue20
  t37 := Tryd.underlying58
  a37 := Tryd.isAgg58
  z37 := Tryd.sizeOf58
  v37 := Tryd.zeroValue58
  t46 := Tryd.underlying81
  a46 := Tryd.isAgg81
  z46 := Tryd.sizeOf81
  v46 := Tryd.zeroValue81
  t51 := Tryd.underlying79
  a51 := Tryd.isAgg79
  z51 := Tryd.sizeOf79
  v51 := Tryd.zeroValue79
  t53 := Tryd.underlying70
  a53 := Tryd.isAgg70
  z53 := Tryd.sizeOf70
  v53 := Tryd.zeroValue70
  t171 := Tryd.underlying69
  a171 := Tryd.isAgg69
  z171 := Tryd.sizeOf69
  v171 := Tryd.zeroValue69
  t173 := Tryd.underlying73
  a173 := Tryd.isAgg73
  z173 := Tryd.sizeOf73
  v173 := Tryd.zeroValue73
  t212 := Tryd.underlying78
  a212 := Tryd.isAgg78
  z212 := Tryd.sizeOf78
  v212 := Tryd.zeroValue78
  t213 := Tryd.underlying80
  a213 := Tryd.isAgg80
  z213 := Tryd.sizeOf80
  t232 := Tryd.underlying87
  a232 := Tryd.isAgg87
  z232 := Tryd.sizeOf87
  v232 := Tryd.zeroValue87
  t233 := Tryd.underlying88
  a233 := Tryd.isAgg88
  z233 := Tryd.sizeOf88
  v233 := Tryd.zeroValue88
  g17 := by kernel_rfl
  g18 := by kernel_rfl
  g19 := by kernel_rfl
  i0 := by kernel_rfl
  i2 := by kernel_rfl
  i3 := by kernel_rfl
  i4 := by kernel_rfl
  i5 := by kernel_rfl
  i9 := by kernel_rfl
  i20 := by kernel_rfl
  i37 := by kernel_rfl
  i46 := by kernel_rfl
  i51 := by kernel_rfl
  i53 := by kernel_rfl
  i171 := by kernel_rfl
  i173 := by kernel_rfl
  i212 := by kernel_rfl
  i232 := by kernel_rfl
  i233 := by kernel_rfl
  m17 := by kernel_rfl
  m18 := by kernel_rfl
  m19 := by kernel_rfl }
open Go.RowKit Go.Sort Go.Lib in
/-- internal/strconv.Itoa: "Itoa is equivalent to FormatInt(int64(i), 10).": i's decimal numeral, for every int. (LAID: no walk: one application.) -/
theorem Tryd.internal_strconv_Itoa (n : Int) (h0 : -9223372036854775808 ≤ n) (h1 : n ≤ 9223372036854775807) (w : World) (htab : Lib.TabIs Tryd.prog w "internal/strconv.uint64pow10" .u64 Lib.pow10Tab) :
    Calls Tryd.prog 36 #[.int .i64 n] w fun e w' => e = .returned (.string ⟨(Lib.itoa n).toArray⟩) ∧ ∃ k os, w' = grow (w.drewN k) os := Any.internal_strconv_Itoa Tryd.laysM243 n h0 h1 w htab
def Tryd.lays243_ren : Go.Shelf.Ren := ⟨fun | 243 => 36 | 246 => 35 | 283 => 40 | 284 => 41 | 285 => 42 | 286 => 43 | 129 => 47 | 317 => 46 | 318 => 48 | 319 => 49 | 320 => 50 | 337 => 53 | 338 => 54 | n => n, fun | 3 => 3 | 9 => 9 | 2 => 2 | 4 => 4 | 171 => 69 | 0 => 0 | 53 => 70 | 37 => 58 | 5 => 5 | 173 => 73 | 212 => 78 | 51 => 79 | 20 => 20 | 213 => 80 | 46 => 81 | 232 => 87 | 233 => 88 | n => n, fun | 17 => 0 | 18 => 2 | 19 => 3 | n => n⟩
theorem Tryd.lays243 : Go.Proofs.Lays.n243 Tryd.prog Tryd.lays243_ren := {
  mixed := by kernel_rfl
  f129 := Tryd.func47.trans (congrArg some (by kernel_rfl))
  f243 := Tryd.func36.trans (congrArg some (by kernel_rfl))
  f246 := Tryd.func35.trans (congrArg some (by kernel_rfl))
  f283 := Tryd.func40.trans (congrArg some (by kernel_rfl))
  f284 := Tryd.func41.trans (congrArg some (by kernel_rfl))
  f285 := Tryd.func42.trans (congrArg some (by kernel_rfl))
  f286 := Tryd.func43.trans (congrArg some (by kernel_rfl))
  f317 := Tryd.func46.trans (congrArg some (by kernel_rfl))
  f318 := Tryd.func48.trans (congrArg some (by kernel_rfl))
  f319 := Tryd.func49.trans (congrArg some (by kernel_rfl))
  f320 := Tryd.func50.trans (congrArg some (by kernel_rfl))
  f337 := Tryd.func53.trans (congrArg some (by kernel_rfl))
  f338 := Tryd.func54.trans (congrArg some (by kernel_rfl))
  t0 := Tryd.underlying0
  a0 := Tryd.isAgg0
  z0 := Tryd.sizeOf0
  v0 := Tryd.zeroValue0
  t2 := Tryd.underlying2
  a2 := Tryd.isAgg2
  z2 := Tryd.sizeOf2
  v2 := Tryd.zeroValue2
  t3 := Tryd.underlying3
  a3 := Tryd.isAgg3
  z3 := Tryd.sizeOf3
  v3 := Tryd.zeroValue3
  t4 := Tryd.underlying4
  a4 := Tryd.isAgg4
  z4 := Tryd.sizeOf4
  v4 := Tryd.zeroValue4
  t5 := Tryd.underlying5
  a5 := Tryd.isAgg5
  z5 := Tryd.sizeOf5
  v5 := Tryd.zeroValue5
  t9 := Tryd.underlying9
  a9 := Tryd.isAgg9
  z9 := Tryd.sizeOf9
  v9 := Tryd.zeroValue9
  t20 := Tryd.underlying20
  a20 := Tryd.isAgg20
  z20 := Tryd.sizeOf20
  v20 := Tryd.zeroValue20
  t37 := Tryd.underlying58
  a37 := Tryd.isAgg58
  z37 := Tryd.sizeOf58
  v37 := Tryd.zeroValue58
  t46 := Tryd.underlying81
  a46 := Tryd.isAgg81
  z46 := Tryd.sizeOf81
  v46 := Tryd.zeroValue81
  t51 := Tryd.underlying79
  a51 := Tryd.isAgg79
  z51 := Tryd.sizeOf79
  v51 := Tryd.zeroValue79
  t53 := Tryd.underlying70
  a53 := Tryd.isAgg70
  z53 := Tryd.sizeOf70
  v53 := Tryd.zeroValue70
  t171 := Tryd.underlying69
  a171 := Tryd.isAgg69
  z171 := Tryd.sizeOf69
  v171 := Tryd.zeroValue69
  t173 := Tryd.underlying73
  a173 := Tryd.isAgg73
  z173 := Tryd.sizeOf73
  v173 := Tryd.zeroValue73
  t212 := Tryd.underlying78
  a212 := Tryd.isAgg78
  z212 := Tryd.sizeOf78
  v212 := Tryd.zeroValue78
  t213 := Tryd.underlying80
  a213 := Tryd.isAgg80
  z213 := Tryd.sizeOf80
  t232 := Tryd.underlying87
  a232 := Tryd.isAgg87
  z232 := Tryd.sizeOf87
  v232 := Tryd.zeroValue87
  t233 := Tryd.underlying88
  a233 := Tryd.isAgg88
  z233 := Tryd.sizeOf88
  v233 := Tryd.zeroValue88
  g17 := by kernel_rfl
  g18 := by kernel_rfl
  g19 := by kernel_rfl }
open Go.RowKit Go.Sort Go.Lib in
/-- THE ROAD WITHOUT THE TABLE: 0 <= i < 100. (LAID: no walk: one application.) -/
theorem Tryd.internal_strconv_Itoa_small (i : Nat) (hi : i < 100) (w : World) :
    Calls Tryd.prog 36 #[.int .i64 i] w fun e w' => e = .returned (.string ⟨(Lib.decDigits i).toArray⟩) ∧ w' = w := Any.internal_strconv_Itoa_small Tryd.lays243 i hi w
def Tryd.laysM171_ren : Go.Shelf.Ren := ⟨fun | 171 => 29 | 243 => 36 | 246 => 35 | 283 => 40 | 284 => 41 | 285 => 42 | 286 => 43 | 129 => 47 | 317 => 46 | 318 => 48 | 319 => 49 | 320 => 50 | 337 => 53 | 338 => 54 | n => n, fun | 3 => 3 | 9 => 9 | 2 => 2 | 4 => 4 | 171 => 69 | 0 => 0 | 53 => 70 | 37 => 58 | 5 => 5 | 173 => 73 | 212 => 78 | 51 => 79 | 20 => 20 | 213 => 80 | 46 => 81 | 232 => 87 | 233 => 88 | n => n, fun | 17 => 0 | 18 => 2 | 19 => 3 | n => n⟩
theorem Tryd.laysM171 : Go.Proofs.LaysM.n171 Tryd.prog Tryd.laysM171_ren := {
  mixed := by kernel_rfl
  f129 := Tryd.func47.trans (congrArg some (by kernel_rfl))
  f171 := Tryd.func29.trans (congrArg some (by kernel_rfl))
  f243 := Tryd.func36.trans (congrArg some (by kernel_rfl))
  f246 := Tryd.func35.trans (congrArg some (by kernel_rfl))
  f283 := Tryd.func40.trans (congrArg some (by kernel_rfl))
  f284 := Tryd.func41.trans (congrArg some (by kernel_rfl))
  f285 := Tryd.func42.trans (congrArg some (by kernel_rfl))
  f286 := Tryd.func43.trans (congrArg some (by kernel_rfl))
  f317 := Tryd.func46.trans (congrArg some (by kernel_rfl))
  f318 := Tryd.func48.trans (congrArg some (by kernel_rfl))
  f319 := Tryd.func49.trans (congrArg some (by kernel_rfl))
  f320 := Tryd.func50.trans (congrArg some (by kernel_rfl))
  f337 := Tryd.func53.trans (congrArg some (by kernel_rfl))
  f338 := Tryd.func54.trans (congrArg some (by kernel_rfl))
  t0 := Tryd.underlying0
  a0 := Tryd.isAgg0
  z0 := Tryd.sizeOf0
  v0 := Tryd.zeroValue0
  t2 := Tryd.underlying2
  a2 := Tryd.isAgg2
  z2 := Tryd.sizeOf2
  v2 := Tryd.zeroValue2
  t3 := Tryd.underlying3
  a3 := Tryd.isAgg3
  z3 := Tryd.sizeOf3
  v3 := Tryd.zeroValue3
  t4 := Tryd.underlying4
  a4 := Tryd.isAgg4
  z4 := Tryd.sizeOf4
  v4 := Tryd.zeroValue4
  t5 := Tryd.underlying5
  a5 := Tryd.isAgg5
  z5 := Tryd.sizeOf5
  v5 := Tryd.zeroValue5
  t9 := Tryd.underlying9
  a9 := Tryd.isAgg9
  z9 := Tryd.sizeOf9
  v9 := Tryd.zeroValue9
  t20 := Tryd.underlying20
  a20 := Tryd.isAgg20
  z20 := Tryd.sizeOf20
  v20 := Tryd.zeroValue20
  t37 := Tryd.underlying58
  a37 := Tryd.isAgg58
  z37 := Tryd.sizeOf58
  v37 := Tryd.zeroValue58
  t46 := Tryd.underlying81
  a46 := Tryd.isAgg81
  z46 := Tryd.sizeOf81
  v46 := Tryd.zeroValue81
  t51 := Tryd.underlying79
  a51 := Tryd.isAgg79
  z51 := Tryd.sizeOf79
  v51 := Tryd.zeroValue79
  t53 := Tryd.underlying70
  a53 := Tryd.isAgg70
  z53 := Tryd.sizeOf70
  v53 := Tryd.zeroValue70
  t171 := Tryd.underlying69
  a171 := Tryd.isAgg69
  z171 := Tryd.sizeOf69
  v171 := Tryd.zeroValue69
  t173 := Tryd.underlying73
  a173 := Tryd.isAgg73
  z173 := Tryd.sizeOf73
  v173 := Tryd.zeroValue73
  t212 := Tryd.underlying78
  a212 := Tryd.isAgg78
  z212 := Tryd.sizeOf78
  v212 := Tryd.zeroValue78
  t213 := Tryd.underlying80
  a213 := Tryd.isAgg80
  z213 := Tryd.sizeOf80
  t232 := Tryd.underlying87
  a232 := Tryd.isAgg87
  z232 := Tryd.sizeOf87
  v232 := Tryd.zeroValue87
  t233 := Tryd.underlying88
  a233 := Tryd.isAgg88
  z233 := Tryd.sizeOf88
  v233 := Tryd.zeroValue88
  g17 := by kernel_rfl
  g18 := by kernel_rfl
  g19 := by kernel_rfl
  i0 := by kernel_rfl
  i2 := by kernel_rfl
  i3 := by kernel_rfl
  i4 := by kernel_rfl
  i5 := by kernel_rfl
  i9 := by kernel_rfl
  i20 := by kernel_rfl
  i37 := by kernel_rfl
  i46 := by kernel_rfl
  i51 := by kernel_rfl
  i53 := by kernel_rfl
  i171 := by kernel_rfl
  i173 := by kernel_rfl
  i212 := by kernel_rfl
  i232 := by kernel_rfl
  i233 := by kernel_rfl
  m17 := by kernel_rfl
  m18 := by kernel_rfl
  m19 := by kernel_rfl }
open Go.RowKit Go.Sort Go.Lib in
/-- strconv.Itoa: "Itoa is equivalent to FormatInt(int64(i), 10).": i's DECIMAL NUMERAL ('Lib.itoa': a '-' where i is negative, then the digits), FOR EVERY int. The world behind the call: the world before it, new blocks behind the heap (the library's 'var a [24]byte'), draws. (LAID: no walk: one application.) -/
theorem Tryd.strconv_Itoa (n : Int) (h0 : -9223372036854775808 ≤ n) (h1 : n ≤ 9223372036854775807) (w : World) (htab : Lib.TabIs Tryd.prog w "internal/strconv.uint64pow10" .u64 Lib.pow10Tab) :
    Calls Tryd.prog 29 #[.int .i64 n] w fun e w' => e = .returned (.string ⟨(Lib.itoa n).toArray⟩) ∧ ∃ k os, w' = grow (w.drewN k) os := Any.strconv_Itoa Tryd.laysM171 n h0 h1 w htab
def Tryd.lays171_ren : Go.Shelf.Ren := ⟨fun | 171 => 29 | 243 => 36 | 246 => 35 | 283 => 40 | 284 => 41 | 285 => 42 | 286 => 43 | 129 => 47 | 317 => 46 | 318 => 48 | 319 => 49 | 320 => 50 | 337 => 53 | 338 => 54 | n => n, fun | 3 => 3 | 9 => 9 | 2 => 2 | 4 => 4 | 171 => 69 | 0 => 0 | 53 => 70 | 37 => 58 | 5 => 5 | 173 => 73 | 212 => 78 | 51 => 79 | 20 => 20 | 213 => 80 | 46 => 81 | 232 => 87 | 233 => 88 | n => n, fun | 17 => 0 | 18 => 2 | 19 => 3 | n => n⟩
theorem Tryd.lays171 : Go.Proofs.Lays.n171 Tryd.prog Tryd.lays171_ren := {
  mixed := by kernel_rfl
  f129 := Tryd.func47.trans (congrArg some (by kernel_rfl))
  f171 := Tryd.func29.trans (congrArg some (by kernel_rfl))
  f243 := Tryd.func36.trans (congrArg some (by kernel_rfl))
  f246 := Tryd.func35.trans (congrArg some (by kernel_rfl))
  f283 := Tryd.func40.trans (congrArg some (by kernel_rfl))
  f284 := Tryd.func41.trans (congrArg some (by kernel_rfl))
  f285 := Tryd.func42.trans (congrArg some (by kernel_rfl))
  f286 := Tryd.func43.trans (congrArg some (by kernel_rfl))
  f317 := Tryd.func46.trans (congrArg some (by kernel_rfl))
  f318 := Tryd.func48.trans (congrArg some (by kernel_rfl))
  f319 := Tryd.func49.trans (congrArg some (by kernel_rfl))
  f320 := Tryd.func50.trans (congrArg some (by kernel_rfl))
  f337 := Tryd.func53.trans (congrArg some (by kernel_rfl))
  f338 := Tryd.func54.trans (congrArg some (by kernel_rfl))
  t0 := Tryd.underlying0
  a0 := Tryd.isAgg0
  z0 := Tryd.sizeOf0
  v0 := Tryd.zeroValue0
  t2 := Tryd.underlying2
  a2 := Tryd.isAgg2
  z2 := Tryd.sizeOf2
  v2 := Tryd.zeroValue2
  t3 := Tryd.underlying3
  a3 := Tryd.isAgg3
  z3 := Tryd.sizeOf3
  v3 := Tryd.zeroValue3
  t4 := Tryd.underlying4
  a4 := Tryd.isAgg4
  z4 := Tryd.sizeOf4
  v4 := Tryd.zeroValue4
  t5 := Tryd.underlying5
  a5 := Tryd.isAgg5
  z5 := Tryd.sizeOf5
  v5 := Tryd.zeroValue5
  t9 := Tryd.underlying9
  a9 := Tryd.isAgg9
  z9 := Tryd.sizeOf9
  v9 := Tryd.zeroValue9
  t20 := Tryd.underlying20
  a20 := Tryd.isAgg20
  z20 := Tryd.sizeOf20
  v20 := Tryd.zeroValue20
  t37 := Tryd.underlying58
  a37 := Tryd.isAgg58
  z37 := Tryd.sizeOf58
  v37 := Tryd.zeroValue58
  t46 := Tryd.underlying81
  a46 := Tryd.isAgg81
  z46 := Tryd.sizeOf81
  v46 := Tryd.zeroValue81
  t51 := Tryd.underlying79
  a51 := Tryd.isAgg79
  z51 := Tryd.sizeOf79
  v51 := Tryd.zeroValue79
  t53 := Tryd.underlying70
  a53 := Tryd.isAgg70
  z53 := Tryd.sizeOf70
  v53 := Tryd.zeroValue70
  t171 := Tryd.underlying69
  a171 := Tryd.isAgg69
  z171 := Tryd.sizeOf69
  v171 := Tryd.zeroValue69
  t173 := Tryd.underlying73
  a173 := Tryd.isAgg73
  z173 := Tryd.sizeOf73
  v173 := Tryd.zeroValue73
  t212 := Tryd.underlying78
  a212 := Tryd.isAgg78
  z212 := Tryd.sizeOf78
  v212 := Tryd.zeroValue78
  t213 := Tryd.underlying80
  a213 := Tryd.isAgg80
  z213 := Tryd.sizeOf80
  t232 := Tryd.underlying87
  a232 := Tryd.isAgg87
  z232 := Tryd.sizeOf87
  v232 := Tryd.zeroValue87
  t233 := Tryd.underlying88
  a233 := Tryd.isAgg88
  z233 := Tryd.sizeOf88
  v233 := Tryd.zeroValue88
  g17 := by kernel_rfl
  g18 := by kernel_rfl
  g19 := by kernel_rfl }
open Go.RowKit Go.Sort Go.Lib in
/-- THE ROAD WITHOUT THE TABLE: 0 <= i < 100: NO PREMISE ON THE WORLD, AND THE WORLD IS AS IT WAS: a row that keeps its argument in that range need list no table ('laid = []'). (LAID: no walk: one application.) -/
theorem Tryd.strconv_Itoa_small (i : Nat) (hi : i < 100) (w : World) :
    Calls Tryd.prog 29 #[.int .i64 i] w fun e w' => e = .returned (.string ⟨(Lib.decDigits i).toArray⟩) ∧ w' = w := Any.strconv_Itoa_small Tryd.lays171 i hi w
def Tryd.laysM173_ren : Go.Shelf.Ren := ⟨fun | 173 => 28 | 246 => 35 | 283 => 40 | 284 => 41 | 285 => 42 | 286 => 43 | 129 => 47 | 317 => 46 | 318 => 48 | 319 => 49 | 320 => 50 | 337 => 53 | 338 => 54 | n => n, fun | 2 => 2 | 3 => 3 | 9 => 9 | 4 => 4 | 171 => 69 | 0 => 0 | 53 => 70 | 37 => 58 | 5 => 5 | 173 => 73 | 212 => 78 | 51 => 79 | 20 => 20 | 213 => 80 | 46 => 81 | 232 => 87 | 233 => 88 | n => n, fun | 17 => 0 | 18 => 2 | 19 => 3 | n => n⟩
theorem Tryd.laysM173 : Go.Proofs.LaysM.n173 Tryd.prog Tryd.laysM173_ren := {
  mixed := by kernel_rfl
  f129 := Tryd.func47.trans (congrArg some (by kernel_rfl))
  f173 := Tryd.func28.trans (congrArg some (by kernel_rfl))
  f246 := Tryd.func35.trans (congrArg some (by kernel_rfl))
  f283 := Tryd.func40.trans (congrArg some (by kernel_rfl))
  f284 := Tryd.func41.trans (congrArg some (by kernel_rfl))
  f285 := Tryd.func42.trans (congrArg some (by kernel_rfl))
  f286 := Tryd.func43.trans (congrArg some (by kernel_rfl))
  f317 := Tryd.func46.trans (congrArg some (by kernel_rfl))
  f318 := Tryd.func48.trans (congrArg some (by kernel_rfl))
  f319 := Tryd.func49.trans (congrArg some (by kernel_rfl))
  f320 := Tryd.func50.trans (congrArg some (by kernel_rfl))
  f337 := Tryd.func53.trans (congrArg some (by kernel_rfl))
  f338 := Tryd.func54.trans (congrArg some (by kernel_rfl))
  t0 := Tryd.underlying0
  a0 := Tryd.isAgg0
  z0 := Tryd.sizeOf0
  v0 := Tryd.zeroValue0
  t2 := Tryd.underlying2
  a2 := Tryd.isAgg2
  z2 := Tryd.sizeOf2
  v2 := Tryd.zeroValue2
  t3 := Tryd.underlying3
  a3 := Tryd.isAgg3
  z3 := Tryd.sizeOf3
  v3 := Tryd.zeroValue3
  t4 := Tryd.underlying4
  a4 := Tryd.isAgg4
  z4 := Tryd.sizeOf4
  v4 := Tryd.zeroValue4
  t5 := Tryd.underlying5
  a5 := Tryd.isAgg5
  z5 := Tryd.sizeOf5
  v5 := Tryd.zeroValue5
  t9 := Tryd.underlying9
  a9 := Tryd.isAgg9
  z9 := Tryd.sizeOf9
  v9 := Tryd.zeroValue9
  t20 := Tryd.underlying20
  a20 := Tryd.isAgg20
  z20 := Tryd.sizeOf20
  v20 := Tryd.zeroValue20
  t37 := Tryd.underlying58
  a37 := Tryd.isAgg58
  z37 := Tryd.sizeOf58
  v37 := Tryd.zeroValue58
  t46 := Tryd.underlying81
  a46 := Tryd.isAgg81
  z46 := Tryd.sizeOf81
  v46 := Tryd.zeroValue81
  t51 := Tryd.underlying79
  a51 := Tryd.isAgg79
  z51 := Tryd.sizeOf79
  v51 := Tryd.zeroValue79
  t53 := Tryd.underlying70
  a53 := Tryd.isAgg70
  z53 := Tryd.sizeOf70
  v53 := Tryd.zeroValue70
  t171 := Tryd.underlying69
  a171 := Tryd.isAgg69
  z171 := Tryd.sizeOf69
  v171 := Tryd.zeroValue69
  t173 := Tryd.underlying73
  a173 := Tryd.isAgg73
  z173 := Tryd.sizeOf73
  v173 := Tryd.zeroValue73
  t212 := Tryd.underlying78
  a212 := Tryd.isAgg78
  z212 := Tryd.sizeOf78
  v212 := Tryd.zeroValue78
  t213 := Tryd.underlying80
  a213 := Tryd.isAgg80
  z213 := Tryd.sizeOf80
  t232 := Tryd.underlying87
  a232 := Tryd.isAgg87
  z232 := Tryd.sizeOf87
  v232 := Tryd.zeroValue87
  t233 := Tryd.underlying88
  a233 := Tryd.isAgg88
  z233 := Tryd.sizeOf88
  v233 := Tryd.zeroValue88
  g17 := by kernel_rfl
  g18 := by kernel_rfl
  g19 := by kernel_rfl
  i0 := by kernel_rfl
  i2 := by kernel_rfl
  i3 := by kernel_rfl
  i4 := by kernel_rfl
  i5 := by kernel_rfl
  i9 := by kernel_rfl
  i20 := by kernel_rfl
  i37 := by kernel_rfl
  i46 := by kernel_rfl
  i51 := by kernel_rfl
  i53 := by kernel_rfl
  i171 := by kernel_rfl
  i173 := by kernel_rfl
  i212 := by kernel_rfl
  i232 := by kernel_rfl
  i233 := by kernel_rfl
  m17 := by kernel_rfl
  m18 := by kernel_rfl
  m19 := by kernel_rfl }
open Go.RowKit Go.Sort Go.Lib in
/-- strconv.FormatInt: "FormatInt returns the string representation of i in the given base": AT BASE 10: i's decimal numeral, for every int64. (LAID: no walk: one application.) -/
theorem Tryd.strconv_FormatInt_10 (n : Int) (h0 : -9223372036854775808 ≤ n) (h1 : n ≤ 9223372036854775807) (w : World) (htab : Lib.TabIs Tryd.prog w "internal/strconv.uint64pow10" .u64 Lib.pow10Tab) :
    Calls Tryd.prog 28 #[.int .i64 n, .int .i64 10] w fun e w' => e = .returned (.string ⟨(Lib.itoa n).toArray⟩) ∧ ∃ k os, w' = grow (w.drewN k) os := Any.strconv_FormatInt_10 Tryd.laysM173 n h0 h1 w htab
def Tryd.lays173_ren : Go.Shelf.Ren := ⟨fun | 173 => 28 | 246 => 35 | 283 => 40 | 284 => 41 | 285 => 42 | 286 => 43 | 129 => 47 | 317 => 46 | 318 => 48 | 319 => 49 | 320 => 50 | 337 => 53 | 338 => 54 | n => n, fun | 2 => 2 | 3 => 3 | 9 => 9 | 4 => 4 | 171 => 69 | 0 => 0 | 53 => 70 | 37 => 58 | 5 => 5 | 173 => 73 | 212 => 78 | 51 => 79 | 20 => 20 | 213 => 80 | 46 => 81 | 232 => 87 | 233 => 88 | n => n, fun | 17 => 0 | 18 => 2 | 19 => 3 | n => n⟩
theorem Tryd.lays173 : Go.Proofs.Lays.n173 Tryd.prog Tryd.lays173_ren := {
  mixed := by kernel_rfl
  f129 := Tryd.func47.trans (congrArg some (by kernel_rfl))
  f173 := Tryd.func28.trans (congrArg some (by kernel_rfl))
  f246 := Tryd.func35.trans (congrArg some (by kernel_rfl))
  f283 := Tryd.func40.trans (congrArg some (by kernel_rfl))
  f284 := Tryd.func41.trans (congrArg some (by kernel_rfl))
  f285 := Tryd.func42.trans (congrArg some (by kernel_rfl))
  f286 := Tryd.func43.trans (congrArg some (by kernel_rfl))
  f317 := Tryd.func46.trans (congrArg some (by kernel_rfl))
  f318 := Tryd.func48.trans (congrArg some (by kernel_rfl))
  f319 := Tryd.func49.trans (congrArg some (by kernel_rfl))
  f320 := Tryd.func50.trans (congrArg some (by kernel_rfl))
  f337 := Tryd.func53.trans (congrArg some (by kernel_rfl))
  f338 := Tryd.func54.trans (congrArg some (by kernel_rfl))
  t0 := Tryd.underlying0
  a0 := Tryd.isAgg0
  z0 := Tryd.sizeOf0
  v0 := Tryd.zeroValue0
  t2 := Tryd.underlying2
  a2 := Tryd.isAgg2
  z2 := Tryd.sizeOf2
  v2 := Tryd.zeroValue2
  t3 := Tryd.underlying3
  a3 := Tryd.isAgg3
  z3 := Tryd.sizeOf3
  v3 := Tryd.zeroValue3
  t4 := Tryd.underlying4
  a4 := Tryd.isAgg4
  z4 := Tryd.sizeOf4
  v4 := Tryd.zeroValue4
  t5 := Tryd.underlying5
  a5 := Tryd.isAgg5
  z5 := Tryd.sizeOf5
  v5 := Tryd.zeroValue5
  t9 := Tryd.underlying9
  a9 := Tryd.isAgg9
  z9 := Tryd.sizeOf9
  v9 := Tryd.zeroValue9
  t20 := Tryd.underlying20
  a20 := Tryd.isAgg20
  z20 := Tryd.sizeOf20
  v20 := Tryd.zeroValue20
  t37 := Tryd.underlying58
  a37 := Tryd.isAgg58
  z37 := Tryd.sizeOf58
  v37 := Tryd.zeroValue58
  t46 := Tryd.underlying81
  a46 := Tryd.isAgg81
  z46 := Tryd.sizeOf81
  v46 := Tryd.zeroValue81
  t51 := Tryd.underlying79
  a51 := Tryd.isAgg79
  z51 := Tryd.sizeOf79
  v51 := Tryd.zeroValue79
  t53 := Tryd.underlying70
  a53 := Tryd.isAgg70
  z53 := Tryd.sizeOf70
  v53 := Tryd.zeroValue70
  t171 := Tryd.underlying69
  a171 := Tryd.isAgg69
  z171 := Tryd.sizeOf69
  v171 := Tryd.zeroValue69
  t173 := Tryd.underlying73
  a173 := Tryd.isAgg73
  z173 := Tryd.sizeOf73
  v173 := Tryd.zeroValue73
  t212 := Tryd.underlying78
  a212 := Tryd.isAgg78
  z212 := Tryd.sizeOf78
  v212 := Tryd.zeroValue78
  t213 := Tryd.underlying80
  a213 := Tryd.isAgg80
  z213 := Tryd.sizeOf80
  t232 := Tryd.underlying87
  a232 := Tryd.isAgg87
  z232 := Tryd.sizeOf87
  v232 := Tryd.zeroValue87
  t233 := Tryd.underlying88
  a233 := Tryd.isAgg88
  z233 := Tryd.sizeOf88
  v233 := Tryd.zeroValue88
  g17 := by kernel_rfl
  g18 := by kernel_rfl
  g19 := by kernel_rfl }
open Go.RowKit Go.Sort Go.Lib in
/-- THE ROAD WITHOUT THE TABLE: 0 <= i < 100. (LAID: no walk: one application.) -/
theorem Tryd.strconv_FormatInt_10_small (i : Nat) (hi : i < 100) (w : World) :
    Calls Tryd.prog 28 #[.int .i64 i, .int .i64 10] w fun e w' => e = .returned (.string ⟨(Lib.decDigits i).toArray⟩) ∧ w' = w := Any.strconv_FormatInt_10_small Tryd.lays173 i hi w
end Go.Proofs
/- The library's numerals, told by value. -/
namespace Go.Vr
open Go Go.Proofs
theorem c_FormatInt {G : World → Prop} (hG : ∀ w, G w → pow10Ok w) (v : Int) (h0 : -9223372036854775808 ≤ v) (h1 : v ≤ 9223372036854775807) : CallsV Tryd.prog G 28 [.v (.int .i64 v), .v (.int .i64 10)] (fun r outs => r = .v (.string (itoaB v)) ∧ outs = [.junk, .junk]) :=
  callsV_imm (xs := [.int .i64 v, .int .i64 10]) (v := .string (itoaB v)) fun w hw => (Tryd.strconv_FormatInt_10 v h0 h1 w (hG w hw)).mono fun e w' ⟨he, k, os, hw'⟩ => ⟨he, by rw [hw']; exact quiet_grow w k os⟩
theorem c_Itoa {G : World → Prop} (hG : ∀ w, G w → pow10Ok w) (v : Int) (h0 : -9223372036854775808 ≤ v) (h1 : v ≤ 9223372036854775807) : CallsV Tryd.prog G 29 [.v (.int .i64 v)] (fun r outs => r = .v (.string (itoaB v)) ∧ outs = [.junk]) :=
  callsV_imm (xs := [.int .i64 v]) (v := .string (itoaB v)) fun w hw => (Tryd.strconv_Itoa v h0 h1 w (hG w hw)).mono fun e w' ⟨he, k, os, hw'⟩ => ⟨he, by rw [hw']; exact quiet_grow w k os⟩
theorem RepE_str {w : World} {Z : Blocks} : ∀ {xs : List ByteArray} {vss : List (List Value)} {φ : List Nat}, RepE w Z 1 (xs.map strc) vss φ → vss.flatten = xs.map Value.string
  | [], _, _, ⟨rfl, _⟩ => rfl
  | x :: xs, _, _, ⟨vs, vss', φ₁, φ₂, rfl, _, _, h, h'⟩ => by
    obtain ⟨v, vs', _, _, rfl, _, ⟨rfl, _⟩, ⟨rfl, _⟩⟩ := h
    simp [RepE_str h']
theorem c_Join {G : World → Prop} (ws : List ByteArray) (hw : ∀ w ∈ ws, w.size ≤ 21) (hl : ws.length ≤ 4194304) : CallsV Tryd.prog G 31 [.sh 1 (ws.map strc), .v (.string (ByteArray.mk #[32]))] (fun r outs => r = .v (.string (joinB ws (ByteArray.mk #[32]))) ∧ outs = [.junk, .junk]) := by
  intro w Zs Zf vals φ hz hzl hrep hnd hφ hG
  obtain ⟨v1, vs1, φ1, φ2, rfl, rfl, hsh, v2, vs2, φ3, φ4, rfl, rfl, ⟨rfl, rfl⟩, rfl, rfl⟩ := hrep
  have fin : ∀ (w' : World), Quiet w w' → ∃ r outs v ψ Zs', Ending.returned (Value.string (joinB ws (ByteArray.mk #[32]))) = Ending.returned v ∧ (r = .v (.string (joinB ws (ByteArray.mk #[32]))) ∧ outs = [.junk, .junk]) ∧ Ext Zf w w' ∧ (∀ b, Zs b → Zs' b) ∧ (∀ b, Zs' b → (Zs b ∨ b ∈ φ1 ++ ([] ++ []) ∨ w.heap.size ≤ b) ∧ b < w'.heap.size) ∧
      RepL w' Zs' (r :: outs) (v :: [v1, Value.string (ByteArray.mk #[32])]) ψ ∧ ψ.Nodup ∧ ∀ b ∈ ψ, b < w'.heap.size ∧ ¬ Zf b ∧ ¬ Zs' b ∧ (b ∈ φ1 ++ ([] ++ []) ∨ w.heap.size ≤ b) := fun w' hq =>
    ⟨_, _, _, [], Zs, rfl, ⟨rfl, rfl⟩, hq.anti hzl, fun _ h => h, fun b hb => ⟨.inl hb, Nat.lt_of_lt_of_le (hzl b (hz b hb)) hq.size⟩, ⟨_, _, [], [], rfl, rfl, ⟨rfl, rfl⟩, RepL_junk [v1, Value.string (ByteArray.mk #[32])]⟩, by simp, by simp⟩
  obtain ⟨rfl, ⟨h1, a, c, rfl⟩ | ⟨b, o, cap, vss, rfl, hb, hE, hc, hcap⟩⟩ := hsh
  · have hn : ws = [] := by simpa using h1
    subst hn
    refine (Tryd.strings_Join_none a c (ByteArray.mk #[32]) w).mono ?_
    rintro e w' ⟨rfl, rfl⟩
    exact fin _ (Ext.refl _ _)
  · have hv := RepE_str hE
    rw [hv] at hc
    have hj := join_size 21 ws hw
    have hlen : (Lib.join (ws.map (·.data.toList)) (ByteArray.mk #[32]).data.toList).length ≤ 140737488355328 := by
      have e : (joinB ws (ByteArray.mk #[32])).size = (Lib.join (ws.map (·.data.toList)) (ByteArray.mk #[32]).data.toList).length := by
        show (Lib.join _ _).toArray.size = _
        rw [List.size_toArray]
      omega
    rw [List.length_map] at hcap
    have := Tryd.strings_Join b o cap ws (ByteArray.mk #[32]) w (fun j x hx => by
      obtain ⟨hj, rfl⟩ := List.getElem?_eq_some_iff.1 hx
      have := hc j (by simpa using hj)
      simpa using this) (hzl b (hz b hb)) (by omega) hcap hlen
    rw [List.length_map]
    refine this.mono ?_
    rintro e w' ⟨rfl, hB⟩
    have hf := fin w' ⟨hB.os, hB.tape, hB.output, hB.size, hB.block⟩
    simp only [List.length_map] at hf
    exact hf
end Go.Vr
/- Walks of the functions that the law reaches: what each gives, by value. -/
namespace Go.Vr
open Go Go.Proofs
set_option linter.unusedVariables false
set_option linter.unusedSimpArgs false

/-- impl.valueWord -/
theorem c_valueWord {G : World → Prop} (hG : ∀ w, G w → pow10Ok w) (v : Int) (hv : -9223372036854775808 ≤ v ∧ v ≤ 9223372036854775807) : CallsV Tryd.prog G 30 [.v (.int .i64 v)] (fun r outs => r = .v (.string (vword v)) ∧ outs = [.junk]) := by
  refine callsV_enter [] Tryd.func30 rfl rfl rfl ?_
  refine vp_seq ?_
  refine vp_region ?_
  refine vpOps_pure (x := .v (.string (ByteArray.mk #[]))) (pAs rfl rfl rfl) rfl rfl rfl rfl ?_
  refine vpOps_nil ?_
  refine vp_seq ?_
  refine vp_seq ?_
  refine vp_region ?_
  refine vpOps_pure (x := .v (.int .i64 v)) (pMv rfl rfl rfl) rfl rfl rfl rfl ?_
  refine vpOps_nil ?_
  refine vp_block ?_
  refine vp_seq ?_
  refine vp_region ?_
  refine vpOps_pure (x := .v (.bool (decide (v = (-1))))) (pure_bin rfl rfl rfl rfl) rfl rfl rfl rfl ?_
  refine vpOps_pure (x := .v (.bool (decide (v = (-1))))) (pAs rfl rfl rfl) rfl rfl rfl rfl ?_
  refine vpOps_nil ?_
  refine vIf rfl (fun h1 => ?_) (fun h1 => ?_)
  · skip
    refine vp_seq ?_
    refine vp_region ?_
    refine vpOps_pure (x := .v (.string (ByteArray.mk #[101, 109, 112, 116, 121]))) (pAs rfl rfl rfl) rfl rfl rfl rfl ?_
    refine vpOps_nil ?_
    refine vp_ret ?_
    exact ⟨[.v (.string (ByteArray.mk #[101, 109, 112, 116, 121]))], [2], (.cons (.tmp rfl rfl) .nil), rfl, ⟨(show (.v (.string (ByteArray.mk #[101, 109, 112, 116, 121])) : PV) = .v (.string (vword v)) from (by first | (rw [vword, if_pos (by assumption)]; done) | (rw [vword, if_neg (by assumption), if_pos (by assumption)]; done) | rw [vword, if_neg (by assumption), if_neg (by assumption)])), rfl⟩⟩
  · skip
    refine vp_seq ?_
    refine vp_region ?_
    refine vpOps_pure (x := .v (.bool (decide (v = (-2))))) (pure_bin rfl rfl rfl rfl) rfl rfl rfl rfl ?_
    refine vpOps_pure (x := .v (.bool (decide (v = (-2))))) (pAs rfl rfl rfl) rfl rfl rfl rfl ?_
    refine vpOps_nil ?_
    refine vIf rfl (fun h2 => ?_) (fun h2 => ?_)
    · skip
      refine vp_seq ?_
      refine vp_region ?_
      refine vpOps_pure (x := .v (.string (ByteArray.mk #[116, 111, 114, 110]))) (pAs rfl rfl rfl) rfl rfl rfl rfl ?_
      refine vpOps_nil ?_
      refine vp_ret ?_
      exact ⟨[.v (.string (ByteArray.mk #[116, 111, 114, 110]))], [2], (.cons (.tmp rfl rfl) .nil), rfl, ⟨(show (.v (.string (ByteArray.mk #[116, 111, 114, 110])) : PV) = .v (.string (vword v)) from (by first | (rw [vword, if_pos (by assumption)]; done) | (rw [vword, if_neg (by assumption), if_pos (by assumption)]; done) | rw [vword, if_neg (by assumption), if_neg (by assumption)])), rfl⟩⟩
    · skip
      refine vp_skip ?_
      refine vp_seq ?_
      refine vp_region ?_
      refine vpOps_pure (x := .v (.int .i64 v)) (pMv rfl rfl rfl) rfl rfl rfl rfl ?_
      refine vpOps_call (gs := [⟨.tmp 8, .v (.int .i64 v), none, none⟩, ⟨.const (.int .i64 10), .v (.int .i64 10), none, none⟩]) (c_FormatInt hG v (by omega) (by omega)) rfl rfl rfl rfl rfl trivial (by kernel_rfl) rfl rfl (gives_cons (gC rfl rfl) (gives_cons (gC rfl rfl) gives_nil)) rfl (fun _ _ _ => .inl rfl) ?_
      rintro _ _ ⟨rfl, rfl⟩
      refine vpOps_pure (x := .v (.string (itoaB v))) (pAs rfl rfl rfl) rfl rfl rfl rfl ?_
      refine vpOps_nil ?_
      refine vp_ret ?_
      exact ⟨[.v (.string (itoaB v))], [2], (.cons (.tmp rfl rfl) .nil), rfl, ⟨(show (.v (.string (itoaB v)) : PV) = .v (.string (vword v)) from (by first | (rw [vword, if_pos (by assumption)]; done) | (rw [vword, if_neg (by assumption), if_pos (by assumption)]; done) | rw [vword, if_neg (by assumption), if_neg (by assumption)])), rfl⟩⟩

/-- impl.treeText -/
theorem c_treeText {G : World → Prop} (hG : ∀ w, G w → pow10Ok w) (ks : List Knot) (hk : ∀ k ∈ ks, k.ok) (hn : ks.length ≤ 1048576) (hE : ∀ j, j < ks.length → (ks.getD j default).next.length = (ks.getD j default).values.length) : CallsV Tryd.prog G 14 [.sh 4 (ks.map knotc)] (fun r outs => r = .v (.string (textI ks ks.length)) ∧ outs = [.junk]) := by
  refine callsV_enter [] Tryd.func14 rfl rfl rfl ?_
  refine vp_seq ?_
  refine vp_region ?_
  refine vpOps_pure (x := .v (.string (ByteArray.mk #[]))) (pAs rfl rfl rfl) rfl rfl rfl rfl ?_
  refine vpOps_nil ?_
  refine vp_seq ?_
  refine vp_region ?_
  refine vpOps_pure (x := .v (.string (ByteArray.mk #[]))) (pAs rfl rfl rfl) rfl rfl rfl rfl ?_
  refine vpOps_nil ?_
  refine vp_seq ?_
  refine vp_seq ?_
  refine vp_region ?_
  refine vpOps_pure (x := .sh 4 (ks.map knotc)) (pMv rfl rfl rfl) rfl rfl rfl rfl ?_
  refine vpOps_pure (x := .v (.int .i64 ((ks.length : Nat) : Int))) (pLen rfl rfl (List.length_map _)) rfl rfl rfl rfl ?_
  refine vpOps_pure (x := .v (.int .i64 0)) (pMv rfl rfl rfl) rfl rfl rfl rfl ?_
  refine vpOps_nil ?_
  refine vp_block ?_
  refine vLoop (α := Nat × ByteArray) (fun (i, a) => ks.length - i) (fun (i, a) => (i ≤ ks.length) ∧ (a = textI ks i) ∧ (a.size ≤ 134217728 * i) ∧ True) (fun (i, a) => [(0, .sh 4 (ks.map knotc)), (2, .v (.string (ByteArray.mk #[]))), (3, .v (.string a)), (11, .sh 4 (ks.map knotc)), (12, .v (.int .i64 ((ks.length : Nat) : Int))), (13, .v (.int .i64 ((i : Nat) : Int)))]) (fun ⟨_, _⟩ => rfl) (fun ⟨_, _⟩ => rfl) (0, ByteArray.mk #[]) ⟨(by omega), (by rfl), (by exact Nat.le_refl _), trivial⟩ ⟨rfl, rfl, rfl, rfl, rfl, rfl, trivial⟩ ?_
  rintro ⟨i, a⟩ ⟨hi, ha, hz, -⟩
  have hki := getD_of hk Knot.ok_default i
  have hlen := Knot.ok_len _ hki
  have hkf := hki.f
  refine vp_seq ?_
  refine vp_region ?_
  refine vpOps_pure (x := .v (.bool (decide (((i : Nat) : Int) < ((ks.length : Nat) : Int))))) (pure_bin rfl rfl rfl rfl) rfl rfl rfl rfl ?_
  refine vpOps_nil ?_
  refine vp_seq ?_
  refine vIf rfl (fun h1 => ?_) (fun h1 => ?_)
  · skip
    refine vp_skip ?_
    refine vp_seq ?_
    refine vp_block ?_
    refine vp_seq ?_
    refine vp_region ?_
    refine vpOps_pure (x := .rbox [.v (.int .i16 ((ks.getD i default).field)), .sh 1 (((ks.getD i default).values).map i64c), .sh 1 (((ks.getD i default).next).map i16c), .sh 1 (((ks.getD i default).cards).map i64c)]) (pIx (m := i) rfl rfl rfl (by first | rfl | omega) (by omega) rfl) rfl rfl rfl rfl ?_
    refine vpOps_pure (x := .agg [.v (.int .i16 ((ks.getD i default).field)), .sh 1 (((ks.getD i default).values).map i64c), .sh 1 (((ks.getD i default).next).map i16c), .sh 1 (((ks.getD i default).cards).map i64c)]) (pure_load_rbox_agg rfl rfl rfl rfl rfl) rfl rfl rfl rfl ?_
    refine vpOps_pure (x := .box [.v (.int .i16 0), .v (.slice none 0 0), .v (.slice none 0 0), .v (.slice none 0 0)]) (pure_alloc rfl) rfl rfl rfl rfl ?_
    refine vStB (x := .agg [.v (.int .i16 ((ks.getD i default).field)), .sh 1 (((ks.getD i default).values).map i64c), .sh 1 (((ks.getD i default).next).map i16c), .sh 1 (((ks.getD i default).cards).map i64c)]) (row' := [.v (.int .i16 ((ks.getD i default).field)), .sh 1 (((ks.getD i default).values).map i64c), .sh 1 (((ks.getD i default).next).map i16c), .sh 1 (((ks.getD i default).cards).map i64c)]) rfl rfl rfl rfl rfl rfl rfl rfl rfl rfl rfl rfl ?_
    refine vpOps_nil ?_
    refine vp_seq ?_
    refine vp_region ?_
    refine vpOps_pure (x := .own 1 [[.v (.string (ByteArray.mk #[108, 101, 97, 102]))]]) (pBs (cs := [.v (.string (ByteArray.mk #[108, 101, 97, 102]))]) rfl rfl rfl rfl rfl rfl rfl) rfl rfl rfl rfl ?_
    refine vpOps_assign (x := .own 1 [[.v (.string (ByteArray.mk #[108, 101, 97, 102]))]]) rfl rfl rfl rfl rfl rfl rfl ?_
    refine vpOps_nil ?_
    refine vp_seq ?_
    refine vp_seq ?_
    refine vp_region ?_
    refine vpOps_pure (x := .pl 5 [⟨0, 3, 0⟩]) (pure_field_ref rfl rfl rfl rfl) rfl rfl rfl rfl ?_
    refine vpOps_pure (x := .sh 1 (((ks.getD i default).cards).map i64c)) (pure_load_pl rfl rfl rfl rfl rfl rfl rfl trivial rfl) rfl rfl rfl rfl ?_
    refine vpOps_pure (x := .v (.int .i64 ((((((ks.getD i default).cards).length) : Nat) : Int)))) (pLen rfl rfl (List.length_map _)) rfl rfl rfl rfl ?_
    refine vpOps_pure (x := .v (.int .i64 0)) (pMv rfl rfl rfl) rfl rfl rfl rfl ?_
    refine vpOps_nil ?_
    refine vp_block ?_
    refine vLoop (α := Nat × List ByteArray) (fun (j, ws) => (ks.getD i default).cards.length - j) (fun (j, ws) => (j ≤ (ks.getD i default).cards.length) ∧ (ws = cwTo (ks.getD i default) j) ∧ (∀ w ∈ ws, w.size ≤ 21) ∧ (ws.length = 1 + j) ∧ True) (fun (j, ws) => [(0, .sh 4 (ks.map knotc)), (2, .v (.string (ByteArray.mk #[]))), (3, .v (.string a)), (5, .box [.v (.int .i16 ((ks.getD i default).field)), .sh 1 (((ks.getD i default).values).map i64c), .sh 1 (((ks.getD i default).next).map i16c), .sh 1 (((ks.getD i default).cards).map i64c)]), (6, .own 1 (ws.map strc)), (11, .sh 4 (ks.map knotc)), (12, .v (.int .i64 ((ks.length : Nat) : Int))), (13, .v (.int .i64 ((i : Nat) : Int))), (19, .sh 1 (((ks.getD i default).cards).map i64c)), (20, .v (.int .i64 ((((((ks.getD i default).cards).length) : Nat) : Int)))), (21, .v (.int .i64 ((j : Nat) : Int)))]) (fun ⟨_, _⟩ => rfl) (fun ⟨_, _⟩ => rfl) (0, [(ByteArray.mk #[108, 101, 97, 102])]) ⟨(by omega), (by rfl), (by decide), (by rfl), trivial⟩ ⟨rfl, rfl, rfl, rfl, rfl, rfl, rfl, rfl, rfl, rfl, rfl, trivial⟩ ?_
    rintro ⟨j, ws⟩ ⟨hj, hw, hs, hwl, -⟩
    have hcj := getD_of hki.cs (by decide) j
    have hcz := itoaB_size hcj.1 hcj.2
    refine vp_seq ?_
    refine vp_region ?_
    refine vpOps_pure (x := .v (.bool (decide (((j : Nat) : Int) < ((((((ks.getD i default).cards).length) : Nat) : Int)))))) (pure_bin rfl rfl rfl rfl) rfl rfl rfl rfl ?_
    refine vpOps_nil ?_
    refine vp_seq ?_
    refine vIf rfl (fun h2 => ?_) (fun h2 => ?_)
    · skip
      refine vp_skip ?_
      refine vp_seq ?_
      refine vp_block ?_
      refine vp_seq ?_
      refine vp_region ?_
      refine vpOps_pure (x := .rbox [.v (.int .i64 (((ks.getD i default).cards).getD j default))]) (pIx (m := j) rfl rfl rfl (by first | rfl | omega) (by omega) rfl) rfl rfl rfl rfl ?_
      refine vpOps_pure (x := .v (.int .i64 (((ks.getD i default).cards).getD j default))) (pure_load_rbox rfl rfl rfl) rfl rfl rfl rfl ?_
      refine vpOps_pure (x := .v (.int .i64 (((ks.getD i default).cards).getD j default))) (pAs rfl rfl rfl) rfl rfl rfl rfl ?_
      refine vpOps_nil ?_
      refine vp_region ?_
      refine vpOps_pure (x := .lv 6 []) (pure_move_lv rfl) rfl rfl rfl rfl ?_
      refine vpOps_pure (x := .v (.int .i64 (((ks.getD i default).cards).getD j default))) (pMv rfl rfl rfl) rfl rfl rfl rfl ?_
      refine vpOps_call (gs := [⟨.tmp 26, .v (.int .i64 (((ks.getD i default).cards).getD j default)), none, none⟩, ⟨.const (.int .i64 10), .v (.int .i64 10), none, none⟩]) (c_FormatInt hG (((ks.getD i default).cards).getD j default) (by first | assumption | omega) (by first | assumption | omega)) rfl rfl rfl rfl rfl trivial (by kernel_rfl) rfl rfl (gives_cons (gC rfl rfl) (gives_cons (gC rfl rfl) gives_nil)) rfl (fun _ _ _ => .inl rfl) ?_
      rintro _ _ ⟨rfl, rfl⟩
      refine vpOps_pure (x := .own 1 [[.v (.string (itoaB (((ks.getD i default).cards).getD j default)))]]) (pBs (cs := [.v (.string (itoaB (((ks.getD i default).cards).getD j default)))]) rfl rfl rfl rfl rfl rfl rfl) rfl rfl rfl rfl ?_
      refine vpOps_ghost (ghost_own (t := 25) rfl rfl rfl rfl) ?_
      refine vApp (f := strc) (xs := ws) (ys := [itoaB (((ks.getD i default).cards).getD j default)]) (l := 1) rfl rfl rfl rfl rfl (srcOwn rfl rfl (fun _ => mvOkL_flat _ rfl)) rfl rfl (fun _ => rfl) (.inl ⟨_, rfl⟩) rfl rfl rfl (rfl) (by omega) (by omega) ?_
      refine vpOps_assign (x := .own 1 ((ws ++ [itoaB (((ks.getD i default).cards).getD j default)]).map strc)) rfl rfl rfl rfl rfl rfl rfl ?_
      refine vpOps_nil ?_
      refine vp_region ?_
      refine vpOps_pure (x := .v (.int .i64 (((j : Nat) : Int) + 1))) (pure_add rfl rfl rfl (in64 (by omega) (by omega))) rfl rfl rfl rfl ?_
      refine vpOps_pure (x := .v (.int .i64 (((j : Nat) : Int) + 1))) (pMv rfl rfl rfl) rfl rfl rfl rfl ?_
      refine vpOps_nil ?_
      exact ⟨(j + 1, ws ++ [itoaB (((ks.getD i default).cards).getD j default)]), (by first | omega | (dsimp only; omega)), ⟨(by omega), (by rw [cwTo, ← hw]), (by intro w hw; rcases List.mem_append.1 hw with hw | hw; exact hs w hw; simp only [List.mem_cons, List.not_mem_nil, or_false] at hw; rw [hw]; exact hcz), (by rw [List.length_append, hwl]; simp only [List.length_cons, List.length_nil]; omega), trivial⟩, ⟨rfl, rfl, rfl, rfl, rfl, rfl, rfl, rfl, rfl, rfl, rfl, trivial⟩⟩
    · skip
      refine vp_exit ?_
      refine vp_seq ?_
      refine vp_seq ?_
      refine vp_region ?_
      refine vpOps_pure (x := .pl 5 [⟨0, 0, 0⟩]) (pure_field_ref rfl rfl rfl rfl) rfl rfl rfl rfl ?_
      refine vpOps_pure (x := .v (.int .i16 ((ks.getD i default).field))) (pure_load_pl rfl rfl rfl rfl rfl rfl rfl trivial rfl) rfl rfl rfl rfl ?_
      refine vpOps_pure (x := .v (.bool (decide (0 ≤ ((ks.getD i default).field))))) (pure_bin rfl rfl rfl rfl) rfl rfl rfl rfl ?_
      refine vpOps_nil ?_
      refine vIf rfl (fun h3 => ?_) (fun h3 => ?_)
      · skip
        refine vp_region ?_
        refine vpOps_pure (x := .pl 5 [⟨0, 0, 0⟩]) (pure_field_ref rfl rfl rfl rfl) rfl rfl rfl rfl ?_
        refine vpOps_pure (x := .v (.int .i16 ((ks.getD i default).field))) (pure_load_pl rfl rfl rfl rfl rfl rfl rfl trivial rfl) rfl rfl rfl rfl ?_
        refine vpOps_pure (x := .v (.int .i64 ((ks.getD i default).field))) (pure_conv_in rfl rfl (in64 (by omega) (by omega))) rfl rfl rfl rfl ?_
        refine vpOps_call (gs := [⟨.tmp 36, .v (.int .i64 ((ks.getD i default).field)), none, none⟩]) (c_Itoa hG ((ks.getD i default).field) (by first | assumption | omega) (by first | assumption | omega)) rfl rfl rfl rfl rfl trivial (by kernel_rfl) rfl rfl (gives_cons (gC rfl rfl) gives_nil) rfl (fun _ _ _ => .inl rfl) ?_
        rintro _ _ ⟨rfl, rfl⟩
        refine vpOps_pure (x := .own 1 [[.v (.string (ByteArray.mk #[97, 115, 107]))], [.v (.string (itoaB ((ks.getD i default).field)))]]) (pBs (cs := [.v (.string (ByteArray.mk #[97, 115, 107])), .v (.string (itoaB ((ks.getD i default).field)))]) rfl rfl rfl rfl rfl rfl rfl) rfl rfl rfl rfl ?_
        refine vpOps_assign (x := .own 1 [[.v (.string (ByteArray.mk #[97, 115, 107]))], [.v (.string (itoaB ((ks.getD i default).field)))]]) rfl rfl rfl rfl rfl rfl rfl ?_
        refine vpOps_nil ?_
        refine vp_seq ?_
        refine vp_seq ?_
        refine vp_region ?_
        refine vpOps_pure (x := .pl 5 [⟨0, 1, 0⟩]) (pure_field_ref rfl rfl rfl rfl) rfl rfl rfl rfl ?_
        refine vpOps_pure (x := .sh 1 (((ks.getD i default).values).map i64c)) (pure_load_pl rfl rfl rfl rfl rfl rfl rfl trivial rfl) rfl rfl rfl rfl ?_
        refine vpOps_pure (x := .v (.int .i64 ((((((ks.getD i default).values).length) : Nat) : Int)))) (pLen rfl rfl (List.length_map _)) rfl rfl rfl rfl ?_
        refine vpOps_pure (x := .v (.int .i64 0)) (pMv rfl rfl rfl) rfl rfl rfl rfl ?_
        refine vpOps_nil ?_
        refine vp_block ?_
        refine vLoop (α := Nat × List ByteArray) (fun (m, us) => (ks.getD i default).values.length - m) (fun (m, us) => (m ≤ (ks.getD i default).values.length) ∧ (us = awTo (ks.getD i default) (headW (ks.getD i default)) m) ∧ (∀ w ∈ us, w.size ≤ 21) ∧ (us.length ≤ 1048577 + 2 * m) ∧ True) (fun (m, us) => [(0, .sh 4 (ks.map knotc)), (2, .v (.string (ByteArray.mk #[]))), (3, .v (.string a)), (5, .box [.v (.int .i16 ((ks.getD i default).field)), .sh 1 (((ks.getD i default).values).map i64c), .sh 1 (((ks.getD i default).next).map i16c), .sh 1 (((ks.getD i default).cards).map i64c)]), (6, .own 1 (us.map strc)), (11, .sh 4 (ks.map knotc)), (12, .v (.int .i64 ((ks.length : Nat) : Int))), (13, .v (.int .i64 ((i : Nat) : Int))), (19, .sh 1 (((ks.getD i default).cards).map i64c)), (20, .v (.int .i64 ((((((ks.getD i default).cards).length) : Nat) : Int)))), (21, .v (.int .i64 ((j : Nat) : Int))), (40, .sh 1 (((ks.getD i default).values).map i64c)), (41, .v (.int .i64 ((((((ks.getD i default).values).length) : Nat) : Int)))), (42, .v (.int .i64 ((m : Nat) : Int)))]) (fun ⟨_, _⟩ => rfl) (fun ⟨_, _⟩ => rfl) (0, [(ByteArray.mk #[97, 115, 107]), itoaB ((ks.getD i default).field)]) ⟨(by omega), (by first | (show _ = headW _; rw [headW, if_pos (by assumption)]; done) | (show _ = headW _; rw [headW, if_neg (by omega), hw, show j = (ks.getD i default).cards.length by omega])), (by first | exact hs | (intro w hw; simp only [List.mem_cons, List.not_mem_nil, or_false] at hw; rcases hw with hw | hw; (rw [hw]; decide); (rw [hw]; exact itoaB_size (by omega) (by omega)))), (by first | omega | (simp only [List.length_cons, List.length_nil]; omega)), trivial⟩ ⟨rfl, rfl, rfl, rfl, rfl, rfl, rfl, rfl, rfl, rfl, rfl, rfl, rfl, rfl, trivial⟩ ?_
        rintro ⟨m, us⟩ ⟨hm, hu, ht, hul, -⟩
        have hEi := hE i (by omega)
        have hvj := getD_of hki.vs (by decide) m
        have hnj := getD_of hki.ns (by decide) m
        have hvz := vword_size hvj.1 hvj.2
        have hnz : (itoaB ((ks.getD i default).next.getD m default)).size ≤ 21 := itoaB_size (by omega) (by omega)
        refine vp_seq ?_
        refine vp_region ?_
        refine vpOps_pure (x := .v (.bool (decide (((m : Nat) : Int) < ((((((ks.getD i default).values).length) : Nat) : Int)))))) (pure_bin rfl rfl rfl rfl) rfl rfl rfl rfl ?_
        refine vpOps_nil ?_
        refine vp_seq ?_
        refine vIf rfl (fun h4 => ?_) (fun h4 => ?_)
        · skip
          refine vp_skip ?_
          refine vp_seq ?_
          refine vp_block ?_
          refine vp_seq ?_
          refine vp_region ?_
          refine vpOps_pure (x := .v (.int .i64 ((m : Nat) : Int))) (pMv rfl rfl rfl) rfl rfl rfl rfl ?_
          refine vpOps_pure (x := .rbox [.v (.int .i64 (((ks.getD i default).values).getD m default))]) (pIx (m := m) rfl rfl rfl (by first | rfl | omega) (by omega) rfl) rfl rfl rfl rfl ?_
          refine vpOps_pure (x := .v (.int .i64 (((ks.getD i default).values).getD m default))) (pure_load_rbox rfl rfl rfl) rfl rfl rfl rfl ?_
          refine vpOps_pure (x := .v (.int .i64 ((m : Nat) : Int))) (pAs rfl rfl rfl) rfl rfl rfl rfl ?_
          refine vpOps_pure (x := .v (.int .i64 (((ks.getD i default).values).getD m default))) (pAs rfl rfl rfl) rfl rfl rfl rfl ?_
          refine vpOps_nil ?_
          refine vRegD 11 ((47, .lv 6 []) :: (48, .v (.int .i64 (((ks.getD i default).values).getD m default))) :: (49, .v (.string (vword (((ks.getD i default).values).getD m default)))) :: (50, .pl 5 [⟨0, 2, 0⟩]) :: (51, .sh 1 (((ks.getD i default).next).map i16c)) :: (52, .v (.int .i64 ((m : Nat) : Int))) :: (53, .rbox [.v (.int .i16 (((ks.getD i default).next).getD m default))]) :: (54, .v (.int .i16 (((ks.getD i default).next).getD m default))) :: (55, .v (.int .i64 (((ks.getD i default).next).getD m default))) :: (56, .v (.string (itoaB (((ks.getD i default).next).getD m default)))) :: (57, .own 1 [[.v (.string (vword (((ks.getD i default).values).getD m default)))], [.v (.string (itoaB (((ks.getD i default).next).getD m default)))]]) :: []) (0 :: 0 :: 2 :: 0 :: 8 :: 0 :: 56 :: 120 :: 248 :: 510 :: 1022 :: 2047 :: 4095 :: []) (by kernel_rfl) rfl (by kernel_rfl) (by kernel_rfl) (by kernel_rfl) (by kernel_rfl) (by kernel_rfl) ⟨
              dPure rfl (pure_move_lv rfl),
              dPure rfl (pMv rfl rfl rfl),
              dPure rfl (pure_call (gs := [⟨.tmp 48, .v (.int .i64 (((ks.getD i default).values).getD m default)), none, none⟩]) (c_valueWord hG (((ks.getD i default).values).getD m default) (by first | assumption | omega)) rfl rfl trivial (by kernel_rfl) rfl rfl (gives_cons (gC rfl rfl) gives_nil) rfl (fun _ _ h => h.1) trivial),
              dPure rfl (pure_field_ref rfl rfl rfl rfl),
              dPure rfl (pure_load_pl rfl rfl rfl rfl rfl rfl rfl trivial rfl),
              dPure rfl (pMv rfl rfl rfl),
              dPure rfl (pIx (m := m) rfl rfl rfl (by first | rfl | omega) (by omega) rfl),
              dPure rfl (pure_load_rbox rfl rfl rfl),
              dPure rfl (pure_conv_in rfl rfl (in64 (by omega) (by omega))),
              dPure rfl (pure_call (gs := [⟨.tmp 55, .v (.int .i64 (((ks.getD i default).next).getD m default)), none, none⟩]) (c_Itoa hG (((ks.getD i default).next).getD m default) (by first | assumption | omega) (by first | assumption | omega)) rfl rfl trivial (by kernel_rfl) rfl rfl (gives_cons (gC rfl rfl) gives_nil) rfl (fun _ _ h => h.1) trivial),
              dPure rfl (pBs (cs := [.v (.string (vword (((ks.getD i default).values).getD m default))), .v (.string (itoaB (((ks.getD i default).next).getD m default)))]) rfl rfl rfl rfl rfl rfl rfl),
              trivial⟩ ?_
          refine vpOps_ghost (ghost_own (t := 47) rfl rfl rfl rfl) ?_
          refine vApp (f := strc) (xs := us) (ys := [vword (((ks.getD i default).values).getD m default), itoaB (((ks.getD i default).next).getD m default)]) (l := 2) rfl rfl rfl rfl rfl (srcOwn rfl rfl (fun _ => mvOkL_flat _ rfl)) rfl rfl (fun _ => rfl) (.inl ⟨_, rfl⟩) rfl rfl rfl (rfl) (by omega) (by omega) ?_
          refine vpOps_assign (x := .own 1 ((us ++ [vword (((ks.getD i default).values).getD m default), itoaB (((ks.getD i default).next).getD m default)]).map strc)) rfl rfl rfl rfl rfl rfl rfl ?_
          refine vpOps_nil ?_
          refine vp_region ?_
          refine vpOps_pure (x := .v (.int .i64 (((m : Nat) : Int) + 1))) (pure_add rfl rfl rfl (in64 (by omega) (by omega))) rfl rfl rfl rfl ?_
          refine vpOps_pure (x := .v (.int .i64 (((m : Nat) : Int) + 1))) (pMv rfl rfl rfl) rfl rfl rfl rfl ?_
          refine vpOps_nil ?_
          exact ⟨(m + 1, us ++ [vword (((ks.getD i default).values).getD m default), itoaB (((ks.getD i default).next).getD m default)]), (by first | omega | (dsimp only; omega)), ⟨(by omega), (by rw [awTo, ← hu]), (by intro w hw; rcases List.mem_append.1 hw with hw | hw; exact ht w hw; simp only [List.mem_cons, List.not_mem_nil, or_false] at hw; rcases hw with hw | hw; (rw [hw]; exact hvz); (rw [hw]; exact hnz)), (by rw [List.length_append]; simp only [List.length_cons, List.length_nil]; omega), trivial⟩, ⟨rfl, rfl, rfl, rfl, rfl, rfl, rfl, rfl, rfl, rfl, rfl, rfl, rfl, rfl, trivial⟩⟩
        · skip
          refine vp_exit ?_
          refine vp_region ?_
          refine vpOps_pure (x := .v (.string a)) (pMv rfl rfl rfl) rfl rfl rfl rfl ?_
          refine vpOps_pure (x := .lv 6 []) (pure_move_lv rfl) rfl rfl rfl rfl ?_
          have hjz := join_size 21 us ht
          refine vpOps_call (gs := [⟨.tmp 61, .sh 1 (us.map strc), none, some 6⟩, ⟨.const (.string (ByteArray.mk #[32])), .v (.string (ByteArray.mk #[32])), none, none⟩]) (c_Join us (by first | assumption | omega) (by first | assumption | omega)) rfl rfl rfl rfl rfl trivial (by kernel_rfl) rfl rfl (gives_cons (give_view (c := .own 1 (us.map strc)) rfl rfl rfl rfl (view_map (fun _ => rfl))) (gives_cons (gC rfl rfl) gives_nil)) rfl (fun _ _ h => .inr (by obtain ⟨h1, h2⟩ := h; subst h1; subst h2; exact ⟨by simp [PV.closed, PV.closedL, closedE_map], by simp [PV.closedL, PV.closed]⟩)) ?_
          rintro _ _ ⟨rfl, rfl⟩
          refine vpOps_pure (x := .v (.string ((joinB us (ByteArray.mk #[32])) ++ (ByteArray.mk #[10])))) (pure_str_add rfl rfl rfl (by first | omega | (simp only [ByteArray.size_append, l32, l10]; omega))) rfl rfl rfl rfl ?_
          refine vpOps_pure (x := .v (.string (a ++ ((joinB us (ByteArray.mk #[32])) ++ (ByteArray.mk #[10]))))) (pure_str_add rfl rfl rfl (by first | omega | (simp only [ByteArray.size_append, l32, l10]; omega))) rfl rfl rfl rfl ?_
          refine vpOps_pure (x := .v (.string (a ++ ((joinB us (ByteArray.mk #[32])) ++ (ByteArray.mk #[10]))))) (pAs rfl rfl rfl) rfl rfl rfl rfl ?_
          refine vpOps_nil ?_
          refine vp_region ?_
          refine vpOps_pure (x := .v (.int .i64 (((i : Nat) : Int) + 1))) (pure_add rfl rfl rfl (in64 (by omega) (by omega))) rfl rfl rfl rfl ?_
          refine vpOps_pure (x := .v (.int .i64 (((i : Nat) : Int) + 1))) (pMv rfl rfl rfl) rfl rfl rfl rfl ?_
          refine vpOps_nil ?_
          exact ⟨(i + 1, a ++ ((joinB us (ByteArray.mk #[32])) ++ (ByteArray.mk #[10]))), (by first | omega | (dsimp only; omega)), ⟨(by omega), (by rw [textI, ← ha, knotI, hu, show m = (ks.getD i default).values.length by omega]), (by simp only [ByteArray.size_append, l32, l10]; omega), trivial⟩, ⟨rfl, rfl, rfl, rfl, rfl, rfl, trivial⟩⟩
      · skip
        refine vp_skip ?_
        refine vp_seq ?_
        refine vp_seq ?_
        refine vp_region ?_
        refine vpOps_pure (x := .pl 5 [⟨0, 1, 0⟩]) (pure_field_ref rfl rfl rfl rfl) rfl rfl rfl rfl ?_
        refine vpOps_pure (x := .sh 1 (((ks.getD i default).values).map i64c)) (pure_load_pl rfl rfl rfl rfl rfl rfl rfl trivial rfl) rfl rfl rfl rfl ?_
        refine vpOps_pure (x := .v (.int .i64 ((((((ks.getD i default).values).length) : Nat) : Int)))) (pLen rfl rfl (List.length_map _)) rfl rfl rfl rfl ?_
        refine vpOps_pure (x := .v (.int .i64 0)) (pMv rfl rfl rfl) rfl rfl rfl rfl ?_
        refine vpOps_nil ?_
        refine vp_block ?_
        refine vLoop (α := Nat × List ByteArray) (fun (m, us) => (ks.getD i default).values.length - m) (fun (m, us) => (m ≤ (ks.getD i default).values.length) ∧ (us = awTo (ks.getD i default) (headW (ks.getD i default)) m) ∧ (∀ w ∈ us, w.size ≤ 21) ∧ (us.length ≤ 1048577 + 2 * m) ∧ True) (fun (m, us) => [(0, .sh 4 (ks.map knotc)), (2, .v (.string (ByteArray.mk #[]))), (3, .v (.string a)), (5, .box [.v (.int .i16 ((ks.getD i default).field)), .sh 1 (((ks.getD i default).values).map i64c), .sh 1 (((ks.getD i default).next).map i16c), .sh 1 (((ks.getD i default).cards).map i64c)]), (6, .own 1 (us.map strc)), (11, .sh 4 (ks.map knotc)), (12, .v (.int .i64 ((ks.length : Nat) : Int))), (13, .v (.int .i64 ((i : Nat) : Int))), (19, .sh 1 (((ks.getD i default).cards).map i64c)), (20, .v (.int .i64 ((((((ks.getD i default).cards).length) : Nat) : Int)))), (21, .v (.int .i64 ((j : Nat) : Int))), (40, .sh 1 (((ks.getD i default).values).map i64c)), (41, .v (.int .i64 ((((((ks.getD i default).values).length) : Nat) : Int)))), (42, .v (.int .i64 ((m : Nat) : Int)))]) (fun ⟨_, _⟩ => rfl) (fun ⟨_, _⟩ => rfl) (0, ws) ⟨(by omega), (by first | (show _ = headW _; rw [headW, if_pos (by assumption)]; done) | (show _ = headW _; rw [headW, if_neg (by omega), hw, show j = (ks.getD i default).cards.length by omega])), (by first | exact hs | (intro w hw; simp only [List.mem_cons, List.not_mem_nil, or_false] at hw; rcases hw with hw | hw; (rw [hw]; decide); (rw [hw]; exact itoaB_size (by omega) (by omega)))), (by first | omega | (simp only [List.length_cons, List.length_nil]; omega)), trivial⟩ ⟨rfl, rfl, rfl, rfl, rfl, rfl, rfl, rfl, rfl, rfl, rfl, rfl, rfl, rfl, trivial⟩ ?_
        rintro ⟨m, us⟩ ⟨hm, hu, ht, hul, -⟩
        have hEi := hE i (by omega)
        have hvj := getD_of hki.vs (by decide) m
        have hnj := getD_of hki.ns (by decide) m
        have hvz := vword_size hvj.1 hvj.2
        have hnz : (itoaB ((ks.getD i default).next.getD m default)).size ≤ 21 := itoaB_size (by omega) (by omega)
        refine vp_seq ?_
        refine vp_region ?_
        refine vpOps_pure (x := .v (.bool (decide (((m : Nat) : Int) < ((((((ks.getD i default).values).length) : Nat) : Int)))))) (pure_bin rfl rfl rfl rfl) rfl rfl rfl rfl ?_
        refine vpOps_nil ?_
        refine vp_seq ?_
        refine vIf rfl (fun h5 => ?_) (fun h5 => ?_)
        · skip
          refine vp_skip ?_
          refine vp_seq ?_
          refine vp_block ?_
          refine vp_seq ?_
          refine vp_region ?_
          refine vpOps_pure (x := .v (.int .i64 ((m : Nat) : Int))) (pMv rfl rfl rfl) rfl rfl rfl rfl ?_
          refine vpOps_pure (x := .rbox [.v (.int .i64 (((ks.getD i default).values).getD m default))]) (pIx (m := m) rfl rfl rfl (by first | rfl | omega) (by omega) rfl) rfl rfl rfl rfl ?_
          refine vpOps_pure (x := .v (.int .i64 (((ks.getD i default).values).getD m default))) (pure_load_rbox rfl rfl rfl) rfl rfl rfl rfl ?_
          refine vpOps_pure (x := .v (.int .i64 ((m : Nat) : Int))) (pAs rfl rfl rfl) rfl rfl rfl rfl ?_
          refine vpOps_pure (x := .v (.int .i64 (((ks.getD i default).values).getD m default))) (pAs rfl rfl rfl) rfl rfl rfl rfl ?_
          refine vpOps_nil ?_
          refine vRegD 11 ((47, .lv 6 []) :: (48, .v (.int .i64 (((ks.getD i default).values).getD m default))) :: (49, .v (.string (vword (((ks.getD i default).values).getD m default)))) :: (50, .pl 5 [⟨0, 2, 0⟩]) :: (51, .sh 1 (((ks.getD i default).next).map i16c)) :: (52, .v (.int .i64 ((m : Nat) : Int))) :: (53, .rbox [.v (.int .i16 (((ks.getD i default).next).getD m default))]) :: (54, .v (.int .i16 (((ks.getD i default).next).getD m default))) :: (55, .v (.int .i64 (((ks.getD i default).next).getD m default))) :: (56, .v (.string (itoaB (((ks.getD i default).next).getD m default)))) :: (57, .own 1 [[.v (.string (vword (((ks.getD i default).values).getD m default)))], [.v (.string (itoaB (((ks.getD i default).next).getD m default)))]]) :: []) (0 :: 0 :: 2 :: 0 :: 8 :: 0 :: 56 :: 120 :: 248 :: 510 :: 1022 :: 2047 :: 4095 :: []) (by kernel_rfl) rfl (by kernel_rfl) (by kernel_rfl) (by kernel_rfl) (by kernel_rfl) (by kernel_rfl) ⟨
              dPure rfl (pure_move_lv rfl),
              dPure rfl (pMv rfl rfl rfl),
              dPure rfl (pure_call (gs := [⟨.tmp 48, .v (.int .i64 (((ks.getD i default).values).getD m default)), none, none⟩]) (c_valueWord hG (((ks.getD i default).values).getD m default) (by first | assumption | omega)) rfl rfl trivial (by kernel_rfl) rfl rfl (gives_cons (gC rfl rfl) gives_nil) rfl (fun _ _ h => h.1) trivial),
              dPure rfl (pure_field_ref rfl rfl rfl rfl),
              dPure rfl (pure_load_pl rfl rfl rfl rfl rfl rfl rfl trivial rfl),
              dPure rfl (pMv rfl rfl rfl),
              dPure rfl (pIx (m := m) rfl rfl rfl (by first | rfl | omega) (by omega) rfl),
              dPure rfl (pure_load_rbox rfl rfl rfl),
              dPure rfl (pure_conv_in rfl rfl (in64 (by omega) (by omega))),
              dPure rfl (pure_call (gs := [⟨.tmp 55, .v (.int .i64 (((ks.getD i default).next).getD m default)), none, none⟩]) (c_Itoa hG (((ks.getD i default).next).getD m default) (by first | assumption | omega) (by first | assumption | omega)) rfl rfl trivial (by kernel_rfl) rfl rfl (gives_cons (gC rfl rfl) gives_nil) rfl (fun _ _ h => h.1) trivial),
              dPure rfl (pBs (cs := [.v (.string (vword (((ks.getD i default).values).getD m default))), .v (.string (itoaB (((ks.getD i default).next).getD m default)))]) rfl rfl rfl rfl rfl rfl rfl),
              trivial⟩ ?_
          refine vpOps_ghost (ghost_own (t := 47) rfl rfl rfl rfl) ?_
          refine vApp (f := strc) (xs := us) (ys := [vword (((ks.getD i default).values).getD m default), itoaB (((ks.getD i default).next).getD m default)]) (l := 2) rfl rfl rfl rfl rfl (srcOwn rfl rfl (fun _ => mvOkL_flat _ rfl)) rfl rfl (fun _ => rfl) (.inl ⟨_, rfl⟩) rfl rfl rfl (rfl) (by omega) (by omega) ?_
          refine vpOps_assign (x := .own 1 ((us ++ [vword (((ks.getD i default).values).getD m default), itoaB (((ks.getD i default).next).getD m default)]).map strc)) rfl rfl rfl rfl rfl rfl rfl ?_
          refine vpOps_nil ?_
          refine vp_region ?_
          refine vpOps_pure (x := .v (.int .i64 (((m : Nat) : Int) + 1))) (pure_add rfl rfl rfl (in64 (by omega) (by omega))) rfl rfl rfl rfl ?_
          refine vpOps_pure (x := .v (.int .i64 (((m : Nat) : Int) + 1))) (pMv rfl rfl rfl) rfl rfl rfl rfl ?_
          refine vpOps_nil ?_
          exact ⟨(m + 1, us ++ [vword (((ks.getD i default).values).getD m default), itoaB (((ks.getD i default).next).getD m default)]), (by first | omega | (dsimp only; omega)), ⟨(by omega), (by rw [awTo, ← hu]), (by intro w hw; rcases List.mem_append.1 hw with hw | hw; exact ht w hw; simp only [List.mem_cons, List.not_mem_nil, or_false] at hw; rcases hw with hw | hw; (rw [hw]; exact hvz); (rw [hw]; exact hnz)), (by rw [List.length_append]; simp only [List.length_cons, List.length_nil]; omega), trivial⟩, ⟨rfl, rfl, rfl, rfl, rfl, rfl, rfl, rfl, rfl, rfl, rfl, rfl, rfl, rfl, trivial⟩⟩
        · skip
          refine vp_exit ?_
          refine vp_region ?_
          refine vpOps_pure (x := .v (.string a)) (pMv rfl rfl rfl) rfl rfl rfl rfl ?_
          refine vpOps_pure (x := .lv 6 []) (pure_move_lv rfl) rfl rfl rfl rfl ?_
          have hjz := join_size 21 us ht
          refine vpOps_call (gs := [⟨.tmp 61, .sh 1 (us.map strc), none, some 6⟩, ⟨.const (.string (ByteArray.mk #[32])), .v (.string (ByteArray.mk #[32])), none, none⟩]) (c_Join us (by first | assumption | omega) (by first | assumption | omega)) rfl rfl rfl rfl rfl trivial (by kernel_rfl) rfl rfl (gives_cons (give_view (c := .own 1 (us.map strc)) rfl rfl rfl rfl (view_map (fun _ => rfl))) (gives_cons (gC rfl rfl) gives_nil)) rfl (fun _ _ h => .inr (by obtain ⟨h1, h2⟩ := h; subst h1; subst h2; exact ⟨by simp [PV.closed, PV.closedL, closedE_map], by simp [PV.closedL, PV.closed]⟩)) ?_
          rintro _ _ ⟨rfl, rfl⟩
          refine vpOps_pure (x := .v (.string ((joinB us (ByteArray.mk #[32])) ++ (ByteArray.mk #[10])))) (pure_str_add rfl rfl rfl (by first | omega | (simp only [ByteArray.size_append, l32, l10]; omega))) rfl rfl rfl rfl ?_
          refine vpOps_pure (x := .v (.string (a ++ ((joinB us (ByteArray.mk #[32])) ++ (ByteArray.mk #[10]))))) (pure_str_add rfl rfl rfl (by first | omega | (simp only [ByteArray.size_append, l32, l10]; omega))) rfl rfl rfl rfl ?_
          refine vpOps_pure (x := .v (.string (a ++ ((joinB us (ByteArray.mk #[32])) ++ (ByteArray.mk #[10]))))) (pAs rfl rfl rfl) rfl rfl rfl rfl ?_
          refine vpOps_nil ?_
          refine vp_region ?_
          refine vpOps_pure (x := .v (.int .i64 (((i : Nat) : Int) + 1))) (pure_add rfl rfl rfl (in64 (by omega) (by omega))) rfl rfl rfl rfl ?_
          refine vpOps_pure (x := .v (.int .i64 (((i : Nat) : Int) + 1))) (pMv rfl rfl rfl) rfl rfl rfl rfl ?_
          refine vpOps_nil ?_
          exact ⟨(i + 1, a ++ ((joinB us (ByteArray.mk #[32])) ++ (ByteArray.mk #[10]))), (by first | omega | (dsimp only; omega)), ⟨(by omega), (by rw [textI, ← ha, knotI, hu, show m = (ks.getD i default).values.length by omega]), (by simp only [ByteArray.size_append, l32, l10]; omega), trivial⟩, ⟨rfl, rfl, rfl, rfl, rfl, rfl, trivial⟩⟩
  · skip
    refine vp_exit ?_
    refine vp_seq ?_
    refine vp_region ?_
    refine vpOps_pure (x := .v (.string a)) (pMv rfl rfl rfl) rfl rfl rfl rfl ?_
    refine vpOps_pure (x := .v (.string a)) (pAs rfl rfl rfl) rfl rfl rfl rfl ?_
    refine vpOps_nil ?_
    refine vp_ret ?_
    exact ⟨[.v (.string a)], [2], (.cons (.tmp rfl rfl) .nil), rfl, ⟨(show (.v (.string a) : PV) = .v (.string (textI ks ks.length)) from (by rw [ha, show i = ks.length by omega])), rfl⟩⟩

/-- impl.TreeText -/
theorem c_implTreeText {G : World → Prop} (hG : ∀ w, G w → pow10Ok w) (ks : List Knot) (hk : ∀ k ∈ ks, k.ok) (hn : ks.length ≤ 1048576) : CallsV Tryd.prog G 7 [.sh 4 (ks.map knotc)] (fun r outs => r = .v (.string (if treeI ks then textI ks ks.length else (ByteArray.mk #[]))) ∧ outs = [.junk]) := by
  refine callsV_enter [] Tryd.func7 rfl rfl rfl ?_
  refine vp_seq ?_
  refine vp_region ?_
  refine vpOps_pure (x := .v (.string (ByteArray.mk #[]))) (pAs rfl rfl rfl) rfl rfl rfl rfl ?_
  refine vpOps_nil ?_
  refine vp_seq ?_
  refine vp_seq ?_
  refine vp_region ?_
  refine vpOps_pure (x := .sh 4 (ks.map knotc)) (pMv rfl rfl rfl) rfl rfl rfl rfl ?_
  refine vpOps_call (gs := [⟨.tmp 3, .sh 4 (ks.map knotc), none, none⟩]) (c_isTree ks (by first | assumption | omega | exact treeI_len (by assumption)) (by first | assumption | omega | exact treeI_len (by assumption))) rfl rfl rfl rfl rfl trivial (by kernel_rfl) rfl rfl (gives_cons (gC rfl rfl) gives_nil) rfl (fun _ _ _ => .inl rfl) ?_
  rintro _ _ ⟨rfl, rfl⟩
  refine vpOps_pure (x := .v (.bool (!decide (treeI ks)))) (pure_not rfl rfl) rfl rfl rfl rfl ?_
  refine vpOps_nil ?_
  refine vIfN rfl (fun h1 => ?_) (fun h1 => ?_)
  · skip
    refine vp_seq ?_
    refine vp_region ?_
    refine vpOps_pure (x := .v (.string (ByteArray.mk #[]))) (pAs rfl rfl rfl) rfl rfl rfl rfl ?_
    refine vpOps_nil ?_
    refine vp_ret ?_
    exact ⟨[.v (.string (ByteArray.mk #[]))], [2], (.cons (.tmp rfl rfl) .nil), rfl, ⟨(show (.v (.string (ByteArray.mk #[])) : PV) = .v (.string (if treeI ks then textI ks ks.length else (ByteArray.mk #[]))) from (by first | rw [if_pos (by assumption)] | rw [if_neg (by assumption)])), rfl⟩⟩
  · skip
    refine vp_skip ?_
    refine vp_seq ?_
    refine vp_region ?_
    refine vpOps_pure (x := .sh 4 (ks.map knotc)) (pMv rfl rfl rfl) rfl rfl rfl rfl ?_
    refine vpOps_call (gs := [⟨.tmp 6, .sh 4 (ks.map knotc), none, none⟩]) (c_treeText hG ks (by first | assumption | omega | exact treeI_len (by assumption)) (by first | assumption | omega | exact treeI_len (by assumption)) (by first | assumption | omega | exact treeI_len (by assumption))) rfl rfl rfl rfl rfl trivial (by kernel_rfl) rfl rfl (gives_cons (gC rfl rfl) gives_nil) rfl (fun _ _ _ => .inl rfl) ?_
    rintro _ _ ⟨rfl, rfl⟩
    refine vpOps_pure (x := .v (.string (textI ks ks.length))) (pAs rfl rfl rfl) rfl rfl rfl rfl ?_
    refine vpOps_nil ?_
    refine vp_ret ?_
    exact ⟨[.v (.string (textI ks ks.length))], [2], (.cons (.tmp rfl rfl) .nil), rfl, ⟨(show (.v (.string (textI ks ks.length)) : PV) = .v (.string (if treeI ks then textI ks ks.length else (ByteArray.mk #[]))) from (by first | rw [if_pos (by assumption)] | rw [if_neg (by assumption)])), rfl⟩⟩

end Go.Vr
/- What the law's size guard tells, in plain Lean. -/
namespace Go.Vr
open Go
set_option linter.unusedVariables false
/-- What any argument has. -/
structure Knot.wf (k : Knot) : Prop where
  f : -32768 ≤ k.field ∧ k.field ≤ 32767
  l : k.len
  vs : ∀ x ∈ k.values, -9223372036854775808 ≤ x ∧ x ≤ 9223372036854775807
  ns : ∀ x ∈ k.next, -32768 ≤ x ∧ x ≤ 32767
  cs : ∀ x ∈ k.cards, -9223372036854775808 ≤ x ∧ x ≤ 9223372036854775807
theorem szL_small {xs : List Int} {l : Int} (h : ¬ szL xs l < 0) : (xs.length : Int) ≤ l ∧ szL xs l ≤ l := by
  unfold szL at h ⊢
  split at h
  · omega
  · split <;> omega
theorem szK_small {k : Knot} {l : Int} (hl : l ≤ 1048576) (h : ¬ szK k l < 0) : (k.values.length ≤ 1048576 ∧ k.next.length ≤ 1048576 ∧ k.cards.length ≤ 1048576) ∧ szK k l ≤ l := by
  unfold szK at h ⊢
  split at h
  · omega
  · rename_i h1
    have a1 := szL_small h1
    split at h
    · omega
    · rename_i h2
      have a2 := szL_small h2
      split at h
      · omega
      · rename_i h3
        have a3 := szL_small h3
        rw [if_neg h1, if_neg h2, if_neg h3]
        omega
theorem szF_small : ∀ {ks : List Knot} {l : Int}, l ≤ 1048576 → ¬ szF ks l < 0 → ∀ k ∈ ks, k.values.length ≤ 1048576 ∧ k.next.length ≤ 1048576 ∧ k.cards.length ≤ 1048576
  | [], _, _, _, k, hk => by simp at hk
  | k' :: ks, l, hl, h, k, hk => by
    unfold szF at h
    split at h
    · omega
    · rename_i h1
      have a1 := szK_small hl h1
      rcases List.mem_cons.1 hk with e | hk
      · rw [e]; exact a1.1
      · exact szF_small (by omega) h k hk
theorem szS_small {ks : List Knot} (h : ¬ szS ks 1048576 < 0) : ks.length ≤ 1048576 ∧ ∀ k ∈ ks, k.values.length ≤ 1048576 ∧ k.next.length ≤ 1048576 ∧ k.cards.length ≤ 1048576 := by
  unfold szS at h
  split at h
  · omega
  · exact ⟨by omega, szF_small (by omega) h⟩
theorem ok_of_wf {ks : List Knot} (hw : ∀ k ∈ ks, k.wf) (h : ¬ szS ks 1048576 < 0) : ∀ k ∈ ks, k.ok := fun k hk =>
  have a := (szS_small h).2 k hk
  ⟨(hw k hk).f, a.1, a.2.1, a.2.2, (hw k hk).vs, (hw k hk).ns, (hw k hk).cs⟩
theorem viewE_map {α : Type} {f : α → List PV} (h : ∀ x, PV.viewL (f x) = f x) (xs : List α) : PV.viewE (xs.map f) = xs.map f := by
  have := view_map (n := 1) (xs := xs) h
  simpa [PV.view] using this
theorem view_knoto (k : Knot) : PV.viewL (knoto k) = knotc k := by
  simp only [knoto, knotc, PV.viewL, PV.view]
  rw [viewE_map (f := i64c) (fun _ => rfl), viewE_map (f := i16c) (fun _ => rfl), viewE_map (f := i64c) (fun _ => rfl)]
end Go.Vr
/- The two texts of a tree are the same, in plain Lean. -/
namespace Go.Vr
open Go
set_option linter.unusedVariables false

theorem bump1_get (s : List Int) (t : Int) (m : Nat) : (bump1 s t).getD m default = if m = t.toNat ∧ m < s.length then s.getD m default + 1 else s.getD m default := by
  unfold bump1
  rw [List.getD_eq_getElem?_getD, List.getElem?_set]
  by_cases h : t.toNat = m
  · subst h
    by_cases hl : t.toNat < s.length
    · simp [hl]
    · simp [hl]
  · rw [if_neg h, if_neg (fun hh => h hh.1.symm), List.getD_eq_getElem?_getD]
theorem bump1_len (s : List Int) (t : Int) : (bump1 s t).length = s.length := by simp [bump1]
/-- Two counts that differ in the first place alone. -/
def like (s u : List Int) : Prop := s.length = u.length ∧ ∀ m, 1 ≤ m → s.getD m default = u.getD m default
theorem bump_like : ∀ (ts : List Int) {s u : List Int}, (∀ t ∈ ts, 1 ≤ t) → like s u → like (bump s ts) (bump u ts) ∧ (bump u ts).getD 0 default = u.getD 0 default
  | [], s, u, _, h => ⟨h, rfl⟩
  | t :: ts, s, u, ht, h => by
    have h1 : like (bump1 s t) (bump1 u t) := ⟨by rw [bump1_len, bump1_len]; exact h.1, fun m hm => by rw [bump1_get, bump1_get, h.1, h.2 m hm]⟩
    have h2 := bump_like ts (fun x hx => ht x (by simp [hx])) h1
    have h3 := ht t (by simp)
    refine ⟨h2.1, h2.2.trans ?_⟩
    rw [bump1_get, if_neg (by omega)]
theorem kOk_knOk {ks : List Knot} {j : Nat} : kOk ks j ↔ knOk (ks.getD j default) j ks.length := Iff.rfl
theorem next_pos {ks : List Knot} {i : Nat} (h : kOk ks i) : ∀ t ∈ (ks.getD i default).next, 1 ≤ t := by
  intro t ht
  obtain ⟨j, hj, rfl⟩ := List.mem_iff_getElem.1 ht
  have hn := knOk_next h (by omega)
  have := arc_of hn hj
  have e : (ks.getD i default).next.getD j default = (ks.getD i default).next[j] := by rw [List.getD_eq_getElem?_getD, List.getElem?_eq_getElem hj]; rfl
  omega
theorem seen_like {ks : List Knot} (h0 : 1 ≤ ks.length) : ∀ i, (∀ j, j < i → kOk ks j) → like (seenI ks i) (seenTo ks i) ∧ (seenTo ks i).getD 0 default = 1
  | 0, _ => by
    refine ⟨⟨by simp [seenI, seenTo], fun m hm => ?_⟩, ?_⟩
    · simp only [seenI, seenTo]
      rw [List.getD_eq_getElem?_getD, List.getD_eq_getElem?_getD, List.getElem?_set, if_neg (by omega)]
    · simp only [seenTo]
      have hp : 0 < ks.length := by omega
      rw [List.getD_eq_getElem?_getD, List.getElem?_set]; simp [hp]
  | i + 1, h => by
    have ih := seen_like h0 i (fun j hj => h j (by omega))
    have hk := h i (by omega)
    have hb := bump_like (ks.getD i default).next (next_pos hk) ih.1
    simp only [seenI, seenTo]
    split
    · rename_i hf
      have : (ks.getD i default).next = [] := by
        unfold kOk at hk; rw [if_pos hf] at hk; exact hk.2.2
      rw [this]; exact ih
    · exact ⟨hb.1, hb.2.trans ih.2⟩
theorem treeI_iff (ks : List Knot) : treeI ks ↔ treeOk ks := by
  unfold treeI treeOk
  constructor
  · rintro ⟨h1, h2, h3⟩
    refine ⟨h1, h2, fun j hj => ?_⟩
    obtain ⟨hl, h0⟩ := seen_like (ks := ks) (by omega) ks.length (fun j hj => h2 j hj)
    rcases Nat.eq_zero_or_pos j with rfl | hp
    · exact h0
    · rw [← hl.2 j hp]
      have hlen : (seenI ks ks.length).length = ks.length := by
        have := hl.1
        have : ∀ i, (seenTo ks i).length = ks.length := by
          intro i
          induction i with
          | zero => simp [seenTo]
          | succ i ih =>
            simp only [seenTo]; split
            · exact ih
            · have : ∀ (ts s : List Int), (bump s ts).length = s.length := by
                intro ts; induction ts with
                | nil => intro s; rfl
                | cons t ts ih => intro s; exact (ih _).trans (bump1_len s t)
              rw [this]; exact ih
        rw [hl.1]; exact this _
      have := h3 (j - 1) (by rw [List.length_drop]; omega)
      rw [List.getD_eq_getElem?_getD, List.getElem?_drop, show 1 + (j - 1) = j by omega, ← List.getD_eq_getElem?_getD] at this
      exact this
  · rintro ⟨h1, h2, h3⟩
    refine ⟨h1, h2, fun m hm => ?_⟩
    obtain ⟨hl, h0⟩ := seen_like (ks := ks) (by omega) ks.length (fun j hj => h2 j hj)
    rw [List.getD_eq_getElem?_getD, List.getElem?_drop, ← List.getD_eq_getElem?_getD, hl.2 (1 + m) (by omega)]
    by_cases hb : 1 + m < ks.length
    · exact h3 _ hb
    · exfalso
      rw [List.length_drop, hl.1] at hm
      have : ∀ i, (seenTo ks i).length = ks.length := by
        intro i
        induction i with
        | zero => simp [seenTo]
        | succ i ih =>
          simp only [seenTo]; split
          · exact ih
          · have : ∀ (ts s : List Int), (bump s ts).length = s.length := by
              intro ts; induction ts with
              | nil => intro s; rfl
              | cons t ts ih => intro s; exact (ih _).trans (bump1_len s t)
            rw [this]; exact ih
      have := this ks.length
      omega

/-! ### the words -/
theorem dec_list (n : Nat) : (decimal n).data.toList = Lib.decDigits n := by
  induction n using Nat.strongRecOn with
  | _ n ih =>
    rw [decimal, Lib.decDigits]
    split
    · rename_i h
      rw [strOf_list]
      simp only [List.map_cons, List.map_nil]
      congr 2; omega
    · rename_i h
      have := ih (n / 10) (by omega)
      rw [ByteArray.data_append, Array.toList_append, this, strOf_list]
      simp only [List.map_cons, List.map_nil]
      congr 3
theorem itoaB_dec {v : Int} (h : 0 ≤ v) : itoaB v = decimal v.toNat := by
  apply ByteArray.ext
  apply Array.ext'
  rw [dec_list]
  show (Lib.itoa v).toArray.toList = _
  rw [Lib.itoa, if_neg (by omega)]
theorem vword_value {v : Int} (h : -2 ≤ v) : vword v = valueText v := by
  unfold vword valueText
  split
  · rfl
  · split
    · rfl
    · exact itoaB_dec (by omega)
theorem joinB_one (x sep : ByteArray) : joinB [x] sep = x := by
  apply ByteArray.ext; apply Array.ext'
  show (Lib.join _ _).toArray.toList = _
  simp [Lib.join_one]
theorem joinB_snoc (w : ByteArray) (ws : List ByteArray) (x sep : ByteArray) : joinB (w :: ws ++ [x]) sep = joinB (w :: ws) sep ++ (sep ++ x) := by
  apply ByteArray.ext; apply Array.ext'
  rw [ByteArray.data_append, ByteArray.data_append, Array.toList_append, Array.toList_append]
  show (Lib.join _ _).toArray.toList = (Lib.join _ _).toArray.toList ++ _
  simp [Lib.join_cons, Lib.joinTail]

def spB : ByteArray := ByteArray.mk #[32]
theorem cw_cons (k : Knot) : ∀ j, ∃ w ws, cwTo k j = w :: ws
  | 0 => ⟨_, _, rfl⟩
  | j + 1 => by obtain ⟨w, ws, h⟩ := cw_cons k j; exact ⟨w, ws ++ [itoaB (k.cards.getD j default)], by rw [cwTo, h]; rfl⟩
theorem cards_text {k : Knot} (acc : ByteArray) : ∀ j, (∀ i, i < j → 0 ≤ k.cards.getD i default) → cardsTo k (acc ++ ⟨#[108, 101, 97, 102]⟩) j = acc ++ joinB (cwTo k j) (ByteArray.mk #[32])
  | 0, _ => by rw [cardsTo, cwTo, joinB_one]
  | j + 1, h => by
    rw [cardsTo, cards_text acc j (fun i hi => h i (by omega)), cwTo]
    obtain ⟨w, ws, hc⟩ := cw_cons k j
    rw [hc, joinB_snoc, itoaB_dec (h j (by omega)), ByteArray.append_assoc]
theorem aw_cons (k : Knot) (w : ByteArray) (ws : List ByteArray) : ∀ j, ∃ us, awTo k (w :: ws) j = w :: us
  | 0 => ⟨_, rfl⟩
  | j + 1 => by obtain ⟨us, h⟩ := aw_cons k w ws j; exact ⟨us ++ [vword (k.values.getD j default), itoaB (k.next.getD j default)], by rw [awTo, h]; rfl⟩
theorem arcs_text {k : Knot} (acc : ByteArray) (hf : 0 ≤ k.field) : ∀ j, (∀ i, i < j → -2 ≤ k.values.getD i default ∧ 0 ≤ k.next.getD i default) → arcsTo k (acc ++ (⟨#[97, 115, 107, 32]⟩ ++ decimal k.field.toNat)) j = acc ++ joinB (awTo k [(ByteArray.mk #[97, 115, 107]), itoaB k.field] j) (ByteArray.mk #[32])
  | 0, _ => by
    rw [arcsTo, awTo, itoaB_dec hf]
    have := joinB_snoc (ByteArray.mk #[97, 115, 107]) [] (decimal k.field.toNat) (ByteArray.mk #[32])
    simp only [List.cons_append, List.nil_append, joinB_one] at this
    rw [this, ← ByteArray.append_assoc (a := ByteArray.mk #[97, 115, 107])]
    rfl
  | j + 1, h => by
    rw [arcsTo, arcs_text acc hf j (fun i hi => h i (by omega)), awTo]
    obtain ⟨us, hc⟩ := aw_cons k (ByteArray.mk #[97, 115, 107]) [itoaB k.field] j
    have hj := h j (by omega)
    rw [hc, show ((ByteArray.mk #[97, 115, 107]) :: us ++ [vword (k.values.getD j default), itoaB (k.next.getD j default)]) = ((ByteArray.mk #[97, 115, 107]) :: (us ++ [vword (k.values.getD j default)]) ++ [itoaB (k.next.getD j default)]) by simp]
    rw [joinB_snoc, ← List.cons_append, joinB_snoc, itoaB_dec hj.2, vword_value hj.1]
    simp only [ByteArray.append_assoc]
theorem knot_text {ks : List Knot} {i : Nat} (acc : ByteArray) (h : kOk ks i) : knotI acc (ks.getD i default) = knotT acc (ks.getD i default) := by
  unfold knotI knotT headW
  by_cases hf : (ks.getD i default).field < 0
  · rw [if_pos hf, if_neg (by omega), cards_text acc _ (fun j hj => (card_of h hf hj).1)]
    have hv : (ks.getD i default).values = [] := by
      unfold kOk at h
      split at h
      · exact h.2.1
      · have := h.1.1; omega
    rw [hv, List.length_nil, awTo, ByteArray.append_assoc]
  · rw [if_neg hf, if_pos (by omega), arcs_text acc (by omega) _ (fun j hj => by have := arc_all (ask_of h hf) hj; omega), ByteArray.append_assoc]
theorem text_same {ks : List Knot} : ∀ i, (∀ j, j < i → kOk ks j) → textI ks i = textTo ks i
  | 0, _ => rfl
  | i + 1, h => by rw [textI, textTo, text_same i (fun j hj => h j (by omega)), knot_text _ (h i (by omega))]
theorem texts_eq {ks : List Knot} (hk : ∀ k ∈ ks, k.ok) : (if treeI ks then textI ks ks.length else (ByteArray.mk #[])) = (if treeOk ks then textTo ks ks.length else ⟨#[]⟩) := by
  by_cases h : treeOk ks
  · rw [if_pos h, if_pos ((treeI_iff ks).2 h), text_same _ h.2.1]
  · rw [if_neg h, if_neg (fun hh => h ((treeI_iff ks).1 hh))]
end Go.Vr
/- Walks of the functions that the law reaches: what each gives, by value. -/
namespace Go.Vr
open Go Go.Proofs
set_option linter.unusedVariables false
set_option linter.unusedSimpArgs false

/-- laws.FnExactTreeText -/
theorem c_law {G : World → Prop} (hG : ∀ w, G w → pow10Ok w) (ks : List Knot) (hw : ∀ k ∈ ks, k.wf) (hn : ks.length ≤ 9223372036854775807) : CallsV Tryd.prog G 3 [.sh 4 (ks.map knotc)] (fun r outs => r = .v (.bool (true)) ∧ outs = [.junk]) := by
  refine callsV_enter [] Tryd.func3 rfl rfl rfl ?_
  refine vp_seq ?_
  refine vp_region ?_
  refine vpOps_pure (x := .v (.bool (false))) (pAs rfl rfl rfl) rfl rfl rfl rfl ?_
  refine vpOps_nil ?_
  refine vp_seq ?_
  refine vp_region ?_
  refine vpOps_pure (x := .v (.int .i64 1048576)) (pAs rfl rfl rfl) rfl rfl rfl rfl ?_
  refine vpOps_nil ?_
  refine vp_seq ?_
  refine vp_region ?_
  refine vpOps_pure (x := .sh 4 (ks.map knotc)) (pMv rfl rfl rfl) rfl rfl rfl rfl ?_
  refine vpOps_pure (x := .v (.int .i64 1048576)) (pMv rfl rfl rfl) rfl rfl rfl rfl ?_
  refine vpOps_call (gs := [⟨.tmp 7, .sh 4 (ks.map knotc), none, none⟩, ⟨.tmp 8, .v (.int .i64 1048576), none, none⟩]) (c_szKnotS ks 1048576 (by first | assumption | exact fun k hk => (hw k hk).l | exact ok_of_wf hw (by assumption) | exact (szS_small (by assumption)).1 | exact (szS_small (by assumption)).2 | exact fun k hk => (hw k hk).l | omega) (by first | assumption | exact fun k hk => (hw k hk).l | exact ok_of_wf hw (by assumption) | exact (szS_small (by assumption)).1 | exact (szS_small (by assumption)).2 | exact fun k hk => (hw k hk).l | omega) (by first | assumption | exact fun k hk => (hw k hk).l | exact ok_of_wf hw (by assumption) | exact (szS_small (by assumption)).1 | exact (szS_small (by assumption)).2 | exact fun k hk => (hw k hk).l | omega)) rfl rfl rfl rfl rfl trivial (by kernel_rfl) rfl rfl (gives_cons (gC rfl rfl) (gives_cons (gC rfl rfl) gives_nil)) rfl (fun _ _ _ => .inl rfl) ?_
  rintro _ _ ⟨rfl, rfl⟩
  refine vpOps_pure (x := .v (.int .i64 (szS ks 1048576))) (pAs rfl rfl rfl) rfl rfl rfl rfl ?_
  refine vpOps_nil ?_
  refine vp_seq ?_
  refine vp_seq ?_
  refine vp_region ?_
  refine vpOps_pure (x := .v (.int .i64 (szS ks 1048576))) (pMv rfl rfl rfl) rfl rfl rfl rfl ?_
  refine vpOps_pure (x := .v (.bool (decide ((szS ks 1048576) < 0)))) (pure_bin rfl rfl rfl rfl) rfl rfl rfl rfl ?_
  refine vpOps_nil ?_
  refine vIf rfl (fun h1 => ?_) (fun h1 => ?_)
  · skip
    refine vp_seq ?_
    refine vp_region ?_
    refine vpOps_pure (x := .v (.bool (true))) (pAs rfl rfl rfl) rfl rfl rfl rfl ?_
    refine vpOps_nil ?_
    refine vp_ret ?_
    exact ⟨[.v (.bool (true))], [2], (.cons (.tmp rfl rfl) .nil), rfl, ⟨(show (.v (.bool (true)) : PV) = .v (.bool (true)) from rfl), rfl⟩⟩
  · skip
    refine vp_skip ?_
    refine vp_seq ?_
    refine vp_region ?_
    refine vpOps_pure (x := .sh 4 (ks.map knotc)) (pMv rfl rfl rfl) rfl rfl rfl rfl ?_
    refine vpOps_call (gs := [⟨.tmp 12, .sh 4 (ks.map knotc), none, none⟩]) (c_toKnotS ks (by first | assumption | exact fun k hk => (hw k hk).l | exact ok_of_wf hw (by assumption) | exact (szS_small (by assumption)).1 | exact (szS_small (by assumption)).2 | exact fun k hk => (hw k hk).l | omega) (by first | assumption | exact fun k hk => (hw k hk).l | exact ok_of_wf hw (by assumption) | exact (szS_small (by assumption)).1 | exact (szS_small (by assumption)).2 | exact fun k hk => (hw k hk).l | omega)) rfl rfl rfl rfl rfl trivial (by kernel_rfl) rfl rfl (gives_cons (gC rfl rfl) gives_nil) rfl (fun _ _ _ => .inl rfl) ?_
    rintro _ _ ⟨rfl, rfl⟩
    refine vpOps_call (gs := [⟨.tmp 13, .sh 4 (ks.map knotc), none, some 13⟩]) (c_specTreeText ks (by first | assumption | exact fun k hk => (hw k hk).l | exact ok_of_wf hw (by assumption) | exact (szS_small (by assumption)).1 | exact (szS_small (by assumption)).2 | exact fun k hk => (hw k hk).l | omega) (by first | assumption | exact fun k hk => (hw k hk).l | exact ok_of_wf hw (by assumption) | exact (szS_small (by assumption)).1 | exact (szS_small (by assumption)).2 | exact fun k hk => (hw k hk).l | omega)) rfl rfl rfl rfl rfl trivial (by kernel_rfl) rfl rfl (gives_cons (give_view (c := .own 4 (ks.map knoto)) rfl rfl rfl rfl (view_map view_knoto)) gives_nil) rfl (fun _ _ h => .inr (by obtain ⟨h1, h2⟩ := h; subst h1; subst h2; exact ⟨by simp [PV.closed, PV.closedL, closedE_map], by simp [PV.closedL, PV.closed]⟩)) ?_
    rintro _ _ ⟨rfl, rfl⟩
    refine vpOps_pure (x := .v (.string (if treeOk ks then textTo ks ks.length else ⟨#[]⟩))) (pAs rfl rfl rfl) rfl rfl rfl rfl ?_
    refine vpOps_nil ?_
    refine vp_seq ?_
    refine vp_region ?_
    refine vpOps_pure (x := .sh 4 (ks.map knotc)) (pMv rfl rfl rfl) rfl rfl rfl rfl ?_
    refine vpOps_call (gs := [⟨.tmp 15, .sh 4 (ks.map knotc), none, none⟩]) (c_toKnotS ks (by first | assumption | exact fun k hk => (hw k hk).l | exact ok_of_wf hw (by assumption) | exact (szS_small (by assumption)).1 | exact (szS_small (by assumption)).2 | exact fun k hk => (hw k hk).l | omega) (by first | assumption | exact fun k hk => (hw k hk).l | exact ok_of_wf hw (by assumption) | exact (szS_small (by assumption)).1 | exact (szS_small (by assumption)).2 | exact fun k hk => (hw k hk).l | omega)) rfl rfl rfl rfl rfl trivial (by kernel_rfl) rfl rfl (gives_cons (gC rfl rfl) gives_nil) rfl (fun _ _ _ => .inl rfl) ?_
    rintro _ _ ⟨rfl, rfl⟩
    refine vpOps_assign (x := .own 4 (ks.map knoto)) rfl rfl rfl rfl rfl rfl rfl ?_
    refine vpOps_nil ?_
    refine vp_seq ?_
    refine vp_region ?_
    refine vpOps_pure (x := .lv 5 []) (pure_move_lv rfl) rfl rfl rfl rfl ?_
    refine vpOps_call (gs := [⟨.tmp 17, .sh 4 (ks.map knotc), none, some 5⟩]) (c_implTreeText hG ks (by first | assumption | exact fun k hk => (hw k hk).l | exact ok_of_wf hw (by assumption) | exact (szS_small (by assumption)).1 | exact (szS_small (by assumption)).2 | exact fun k hk => (hw k hk).l | omega) (by first | assumption | exact fun k hk => (hw k hk).l | exact ok_of_wf hw (by assumption) | exact (szS_small (by assumption)).1 | exact (szS_small (by assumption)).2 | exact fun k hk => (hw k hk).l | omega)) rfl rfl rfl rfl rfl trivial (by kernel_rfl) rfl rfl (gives_cons (give_view (c := .own 4 (ks.map knoto)) rfl rfl rfl rfl (view_map view_knoto)) gives_nil) rfl (fun _ _ h => .inr (by obtain ⟨h1, h2⟩ := h; subst h1; subst h2; exact ⟨by simp [PV.closed, PV.closedL, closedE_map], by simp [PV.closedL, PV.closed]⟩)) ?_
    rintro _ _ ⟨rfl, rfl⟩
    refine vpOps_pure (x := .v (.string (if treeI ks then textI ks ks.length else (ByteArray.mk #[])))) (pAs rfl rfl rfl) rfl rfl rfl rfl ?_
    refine vpOps_nil ?_
    refine vp_seq ?_
    refine vp_seq ?_
    refine vp_region ?_
    refine vpOps_pure (x := .v (.string (if treeI ks then textI ks ks.length else (ByteArray.mk #[])))) (pMv rfl rfl rfl) rfl rfl rfl rfl ?_
    refine vpOps_pure (x := .v (.string (if treeOk ks then textTo ks ks.length else ⟨#[]⟩))) (pMv rfl rfl rfl) rfl rfl rfl rfl ?_
    refine vpOps_pure (x := .v (.bool (!decide ((if treeI ks then textI ks ks.length else (ByteArray.mk #[])) = (if treeOk ks then textTo ks ks.length else ⟨#[]⟩))))) (pure_str_ne rfl rfl rfl) rfl rfl rfl rfl ?_
    refine vpOps_nil ?_
    refine vIfN rfl (fun h2 => ?_) (fun h2 => ?_)
    · skip
      refine vp_seq ?_
      refine vp_region ?_
      refine vpOps_pure (x := .v (.bool (false))) (pAs rfl rfl rfl) rfl rfl rfl rfl ?_
      refine vpOps_nil ?_
      refine vp_ret ?_
      exact ⟨[.v (.bool (false))], [2], (.cons (.tmp rfl rfl) .nil), rfl, ⟨(show (.v (.bool (false)) : PV) = .v (.bool (true)) from (by first | exact absurd (texts_eq (ok_of_wf hw (by assumption))) (by assumption) | exact absurd rfl (by assumption))), rfl⟩⟩
    · skip
      refine vp_skip ?_
      refine vp_seq ?_
      refine vp_seq ?_
      refine vp_region ?_
      refine vpOps_pure (x := .lv 5 []) (pure_move_lv rfl) rfl rfl rfl rfl ?_
      refine vpOps_pure (x := .sh 4 (ks.map knotc)) (pMv rfl rfl rfl) rfl rfl rfl rfl ?_
      refine vpOps_call (gs := [⟨.tmp 23, .sh 4 (ks.map knotc), none, none⟩]) (c_toKnotS ks (by first | assumption | exact fun k hk => (hw k hk).l | exact ok_of_wf hw (by assumption) | exact (szS_small (by assumption)).1 | exact (szS_small (by assumption)).2 | exact fun k hk => (hw k hk).l | omega) (by first | assumption | exact fun k hk => (hw k hk).l | exact ok_of_wf hw (by assumption) | exact (szS_small (by assumption)).1 | exact (szS_small (by assumption)).2 | exact fun k hk => (hw k hk).l | omega)) rfl rfl rfl rfl rfl trivial (by kernel_rfl) rfl rfl (gives_cons (gC rfl rfl) gives_nil) rfl (fun _ _ _ => .inl rfl) ?_
      rintro _ _ ⟨rfl, rfl⟩
      refine vpOps_call (gs := [⟨.tmp 22, .sh 4 (ks.map knotc), none, some 5⟩, ⟨.tmp 24, .sh 4 (ks.map knotc), none, some 24⟩]) (c_eqKnotS ks ks (by first | assumption | exact fun k hk => (hw k hk).l | exact ok_of_wf hw (by assumption) | exact (szS_small (by assumption)).1 | exact (szS_small (by assumption)).2 | exact fun k hk => (hw k hk).l | omega) (by first | assumption | exact fun k hk => (hw k hk).l | exact ok_of_wf hw (by assumption) | exact (szS_small (by assumption)).1 | exact (szS_small (by assumption)).2 | exact fun k hk => (hw k hk).l | omega)) rfl rfl rfl rfl rfl trivial (by kernel_rfl) rfl rfl (gives_cons (give_view (c := .own 4 (ks.map knoto)) rfl rfl rfl rfl (view_map view_knoto)) (gives_cons (give_view (c := .own 4 (ks.map knoto)) rfl rfl rfl rfl (view_map view_knoto)) gives_nil)) rfl (fun _ _ h => .inr (by obtain ⟨h1, h2⟩ := h; subst h1; subst h2; exact ⟨by simp [PV.closed, PV.closedL, closedE_map], by simp [PV.closedL, PV.closed]⟩)) ?_
      rintro _ _ ⟨rfl, rfl⟩
      refine vpOps_pure (x := .v (.bool (!decide (ks = ks)))) (pure_not rfl rfl) rfl rfl rfl rfl ?_
      refine vpOps_nil ?_
      refine vIfN rfl (fun h3 => ?_) (fun h3 => ?_)
      · skip
        refine vp_seq ?_
        refine vp_region ?_
        refine vpOps_pure (x := .v (.bool (false))) (pAs rfl rfl rfl) rfl rfl rfl rfl ?_
        refine vpOps_nil ?_
        refine vp_ret ?_
        exact ⟨[.v (.bool (false))], [2], (.cons (.tmp rfl rfl) .nil), rfl, ⟨(show (.v (.bool (false)) : PV) = .v (.bool (true)) from (by first | exact absurd (texts_eq (ok_of_wf hw (by assumption))) (by assumption) | exact absurd rfl (by assumption))), rfl⟩⟩
      · skip
        refine vp_skip ?_
        refine vp_seq ?_
        refine vp_region ?_
        refine vpOps_pure (x := .v (.bool (true))) (pAs rfl rfl rfl) rfl rfl rfl rfl ?_
        refine vpOps_nil ?_
        refine vp_ret ?_
        exact ⟨[.v (.bool (true))], [2], (.cons (.tmp rfl rfl) .nil), rfl, ⟨(show (.v (.bool (true)) : PV) = .v (.bool (true)) from rfl), rfl⟩⟩

end Go.Vr
