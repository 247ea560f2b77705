/- FnExactTreeText (its tied card): for every list of knots the law says true and its argument reads as before: the program's TreeText and the reference's return the same. Condition: the three tables of the library hold what the text lays (the card ties them). -/
import Derived.Test.YtmgjfbnleedadaaDoorPart2
import Derived.Test.YtmgjfbnleedadaaDoorCards
import Derived.Test.YtmgjfbnleedadaaDoorTie
import Derived.WalkKit
import Derived.ProofKit
import Derived.OpenShut
namespace Go.Proofs.YtmgjfbnleedadaaDoor.law
open Go Go.ChangeShapes Go.WideShapes Go.ChangeAt Go.RowKit Go.Vr

theorem own : ownKnob Tryd.prog.godebug = none := by kernel_rfl

theorem o31 : Opens Tryd.prog 31 (fun xs : List Int => [.sh 1 (xs.map i64c)]) (fun xs => xs.length ≤ maxLen ∧ ∀ a ∈ xs, -9223372036854775808 ≤ a ∧ a ≤ 9223372036854775807) :=
  opens_slice Tryd.underlying31 (by kernel_rfl) (by decide) (opens_num (-9223372036854775808) 9223372036854775807 Tryd.underlying2 rfl) (fun _ => rfl)
theorem o32 : Opens Tryd.prog 32 (fun xs : List Int => [.sh 1 (xs.map i16c)]) (fun xs => xs.length ≤ maxLen ∧ ∀ a ∈ xs, -32768 ≤ a ∧ a ≤ 32767) :=
  opens_slice Tryd.underlying32 (by kernel_rfl) (by decide) (opens_num (-32768) 32767 Tryd.underlying30 rfl) (fun _ => rfl)
theorem o34 : Opens Tryd.prog 34 knotc Knot.wf :=
  (opens_struct Tryd.underlying34 rfl (by kernel_rfl) (opensF_cons (n := 1) rfl (by kernel_rfl) (opens_num (-32768) 32767 Tryd.underlying30 rfl) rfl (opensF_cons (n := 1) rfl (by kernel_rfl) o31 rfl (opensF_cons (n := 1) rfl (by kernel_rfl) o32 rfl (opensF_cons (n := 1) rfl (by kernel_rfl) o31 rfl opensF_nil))))).map
    (fun a => ⟨a.1, a.2.1, a.2.2.1, a.2.2.2.1⟩) (fun _ => rfl) (fun a h => ⟨h.1, ⟨h.2.1.1, h.2.2.1.1, h.2.2.2.1.1⟩, h.2.1.2, h.2.2.1.2, h.2.2.2.1.2⟩)
theorem opens_arg : OpensArgs Tryd.prog Tryd.f3.params.toList (fun ks : List Knot => [.sh 4 (ks.map knotc)]) (fun ks => (∀ k ∈ ks, k.wf) ∧ ks.length ≤ 9223372036854775807) := by
  rw [Tryd.params3]
  exact (opensArgs_one (cells_slice Tryd.underlying22) (opens_slice Tryd.underlying22 (by kernel_rfl) (by decide) o34 (fun _ => rfl)) opensArgs_nil).map (fun a => a.1) (fun _ => rfl) (fun a h => ⟨h.1.2, h.1.1⟩)

/-- WHAT THE ROW's LIST GIVES. -/
theorem table {W : World} (h : laidMetH Tryd.prog Rows.fnExactTreeTextRow.laid W) : pow10Ok W :=
  tabIs_of_mem (l := Rows.fnExactTreeTextRow.laid) (g := 0) (t := 78) (e := 70) (n := 20) (by kernel_rfl) (by kernel_rfl) (by kernel_rfl) (by kernel_rfl) (by kernel_rfl) (by kernel_rfl) (.tail _ (.tail _ (.head _))) h

theorem contract (H : Type) (enc : TypeId × Value → H) (W : World) (base : Nat) (args : Array Value) (ds gs : List (DataW H)) (before : List MemPlace)
    (hval : ∀ (j : Nat) t v, Tryd.f3.params[j]? = some t → args[j]? = some v → Value.okWide Tryd.prog W .any base t v)
    (hW : DataW.Whole enc Tryd.prog Tryd.f3.params.toList Rows.fnExactTreeTextSpec.vars false W args.toList ds gs before) (hL : laidMetH Tryd.prog Rows.fnExactTreeTextRow.laid W) :
    Calls Tryd.prog 3 args W fun e W' => ∃ v, e = .returned v ∧ Rows.fnExactTreeTextSpec.post enc Tryd.prog Tryd.f3 false true false false W args v W' := by
  have hW' := hW
  obtain ⟨p, q, hA, hV, rfl, hfz, hnd⟩ := hW
  obtain ⟨ks, ⟨hk, hn⟩, hr⟩ := opens_arg.go enc W _ true .any base args.toList ds p (fun j t v h1 h2 => hval j t v (by simpa using h1) (by simpa using h2)) hA
  have hP := table hL
  have walk := CallsV.close (c_law (G := pow10Ok) (fun _ h => h) ks hk hn) (fun _ _ h => h.1) hr (fun w' h => tabIs_ext hP h)
  rw [Array.toArray_toList] at walk
  refine walk.mono fun e W' ⟨he, hb⟩ => ⟨_, he, ?_⟩
  refine post_true (t := 4) (by kernel_rfl) (by kernel_rfl) (by kernel_rfl) (by kernel_rfl) rfl ?_ hW' hb
  obtain ⟨v0, vs0, d0, ds0, p0, q0, hargs, rfl, rfl, h0, r0⟩ := trodAll_cons (by rw [Tryd.params3] at hA; exact hA)
  obtain ⟨rfl, rfl, rfl⟩ := trodAll_nil r0
  rfl

/-- A WORLD FOR THE WITNESS: the settled one, the tables holding what their initialisers lay. -/
noncomputable def laidWorld (os : Os) : World :=
  { World.holding Tryd.prog os ⟨#[], #[], []⟩ with heap := (((World.holding Tryd.prog os ⟨#[], #[], []⟩).heap.modify 0 (lay #[.int .u64 1, .int .u64 10, .int .u64 100, .int .u64 1000, .int .u64 10000, .int .u64 100000, .int .u64 1000000, .int .u64 10000000, .int .u64 100000000, .int .u64 1000000000, .int .u64 10000000000, .int .u64 100000000000, .int .u64 1000000000000, .int .u64 10000000000000, .int .u64 100000000000000, .int .u64 1000000000000000, .int .u64 10000000000000000, .int .u64 100000000000000000, .int .u64 1000000000000000000, .int .u64 10000000000000000000])).modify 2 (lay #[.int .u8 0, .int .u8 1, .int .u8 28, .int .u8 2, .int .u8 29, .int .u8 14, .int .u8 24, .int .u8 3, .int .u8 30, .int .u8 22, .int .u8 20, .int .u8 15, .int .u8 25, .int .u8 17, .int .u8 4, .int .u8 8, .int .u8 31, .int .u8 27, .int .u8 13, .int .u8 23, .int .u8 21, .int .u8 19, .int .u8 16, .int .u8 7, .int .u8 26, .int .u8 12, .int .u8 18, .int .u8 6, .int .u8 11, .int .u8 5, .int .u8 10, .int .u8 9])).modify 3 (lay #[.int .u8 0, .int .u8 1, .int .u8 56, .int .u8 2, .int .u8 57, .int .u8 49, .int .u8 28, .int .u8 3, .int .u8 61, .int .u8 58, .int .u8 42, .int .u8 50, .int .u8 38, .int .u8 29, .int .u8 17, .int .u8 4, .int .u8 62, .int .u8 47, .int .u8 59, .int .u8 36, .int .u8 45, .int .u8 43, .int .u8 51, .int .u8 22, .int .u8 53, .int .u8 39, .int .u8 33, .int .u8 30, .int .u8 24, .int .u8 18, .int .u8 12, .int .u8 5, .int .u8 63, .int .u8 55, .int .u8 48, .int .u8 27, .int .u8 60, .int .u8 41, .int .u8 37, .int .u8 16, .int .u8 46, .int .u8 35, .int .u8 44, .int .u8 21, .int .u8 52, .int .u8 32, .int .u8 23, .int .u8 11, .int .u8 54, .int .u8 26, .int .u8 40, .int .u8 15, .int .u8 34, .int .u8 20, .int .u8 31, .int .u8 10, .int .u8 25, .int .u8 14, .int .u8 19, .int .u8 9, .int .u8 13, .int .u8 8, .int .u8 7, .int .u8 6]) }
theorem laid_met (os : Os) : laidMet Tryd.prog Rows.fnExactTreeTextRow.laid ((laidWorld os).forCall (fun _ _ => 0) ⟨#[], #[.slice none 0 0], []⟩).memory :=
  laidMet_of_run' 8 (by kernel_rfl) (by kernel_rfl)
theorem reads (os : Os) {H : Type} (enc : TypeId × Value → H) : ∃ places, DataW.whole enc Tryd.prog ((laidWorld os).forCall (fun _ _ => 0) ⟨#[], #[.slice none 0 0], []⟩).memory Tryd.f3.params.toList Rows.fnExactTreeTextSpec.vars false #[Value.slice none 0 0].toList 8 = some ([.nil], [], places) :=
  ⟨[], by kernel_rfl⟩

set_option maxRecDepth 100000 in
/-- THE FIRST FORM's STEP. -/
theorem lifted (os : Os) (started : os.Started) (H : Type) (enc : TypeId × Value → H) (F : Stop.Interp) :
    ReturnsInHanded {} Tryd.checked os 3 .any ((OpenSpec.ofChange Rows.fnExactTreeTextSpec).preRow enc Tryd.prog Tryd.f3 Rows.fnExactTreeTextRow.domain false Rows.fnExactTreeTextRow.laid) (((OpenSpec.ofChange Rows.fnExactTreeTextSpec).at F).post enc Tryd.prog Tryd.f3 false true false false) := by
  obtain ⟨places, hx⟩ := reads os enc
  refine returnsInHanded_of_row (C := Tryd.checked) (s := OpenSpec.ofChange Rows.fnExactTreeTextSpec) own started (by kernel_rfl) Tryd.func3
    (witness_row_at (enc := enc) (C := Tryd.checked) false (laidWorld os) #[.slice none 0 0] rfl (by kernel_rfl) (by kernel_rfl) (by kernel_rfl)
      (OpenSpec.preRow_of_cond 8 hx (by kernel_rfl) (fun k hk => by cases hk) (by kernel_rfl) (laid_met os))) ?_
  intro W base args ds gs before hval hW _ _ _ hL _ _
  exact contract H enc W base args ds gs before hval hW hL

theorem said : Rows.FnExactTreeTextSaid :=
  OpenClaim.holds_of_cond 3 Tryd.f3 rfl rfl rfl rfl rfl rfl rfl ⟨rfl, rfl, rfl, rfl, rfl⟩ rfl rfl rfl rfl rfl (by kernel_rfl) Tryd.func3 (by kernel_rfl)
    (of_decide_eq_true (by kernel_rfl)) (by unfold Func.isWrapper; first | (rw [if_pos (by decide +kernel)]; kernel_rfl) | (rw [if_neg (by decide +kernel)]; exact ⟨rfl, rfl⟩))
    (fun os started H enc _ F => by rw [OpenClaim.pre_eq_preRow]; exact lifted os started H enc F)

/-- No parameter wants a stand-in; the program's own looks are off: what both cards ask. -/
theorem plain (f : FuncId) (fn : Func) (hf : Tryd.pinned.checked.prog.funcNamed "loop.example/g01261/laws.FnExactTreeText" = some f) (hfn : Tryd.pinned.checked.prog.funcs[f]? = some fn) :
    false = Tryd.pinned.checked.prog.looks [] ∧ ∀ (j : Nat) t, fn.params[j]? = some t → Tryd.pinned.checked.prog.wantsStandIn t = false := by
  obtain rfl : f = 3 := Option.some.inj ((show Tryd.prog.funcNamed "loop.example/g01261/laws.FnExactTreeText" = some 3 by kernel_rfl).symm.trans hf) |>.symm
  obtain rfl : fn = Tryd.f3 := (Option.some.inj (Tryd.func3.symm.trans hfn)).symm
  refine ⟨by kernel_rfl, fun j t ht => ?_⟩
  have h : ∀ t ∈ Tryd.f3.params, Tryd.prog.wantsStandIn t = false := by
    have : (Tryd.f3.params.toList.all fun t => !Tryd.prog.wantsStandIn t) = true := by kernel_rfl
    intro t ht
    have := List.all_eq_true.1 this t (by simpa using ht)
    simpa using this
  exact h t (Array.mem_of_getElem? ht)

/-- THE CARD. -/
theorem card : Rows.FnExactTreeTextCardSaid :=
  Claim7.holds_tied_plain_at .later [] _ _ _ _ said (fun _ h => by cases h) (by kernel_rfl) (fun _ h => by cases h) fnExactTreeText_row_tie rfl ⟨rfl, rfl⟩ (by kernel_rfl) rfl plain (by kernel_rfl)
end Go.Proofs.YtmgjfbnleedadaaDoor.law
