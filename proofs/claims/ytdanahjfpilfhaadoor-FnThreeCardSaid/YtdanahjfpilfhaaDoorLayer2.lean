/- A layer of laws by which a walk through code is told by what values stand for; it is of no program and has no condition. -/
import Derived.Test.YtdanahjfpilfhaaDoorLayer1
import Derived.KernelRfl
import Derived.Laws.BytesString
import Derived.Sort.Grow
import Derived.Deep.Draws
import Derived.Below
import Derived.ChangeArms
import Derived.OpenVars
import Derived.ChangeSame
import Derived.Deep.DeepHandedRow
import Derived.Lib.LaidTab
import Derived.WideShapes
import Derived.RowKit
import Derived.Laws.Small
import Derived.Laws.StructEq
import Derived.DeepKeys
import Derived.DeepKeys3
/- The value-level layer, part 15: the call rule. -/
namespace Go.Vr
open Go
set_option linter.unusedVariables false
set_option linter.unusedSimpArgs false

def callable (P : Program) (f : FuncId) : Bool :=
  match P.funcs[f]? with
  | some fn => fn.body.isSome && fn.name != "runtime.NumGoroutine"
  | none => false

theorem run_callFunc {P : Program} {f : FuncId} (h : callable P f = true) (args : Array Value) (w : World) : (callFunc f args).run P w = .ok (.enter f args) w := by
  unfold callable at h
  cases hf : P.funcs[f]? with
  | none => rw [hf] at h; simp at h
  | some fn =>
    rw [hf] at h
    simp only [Bool.and_eq_true, bne_iff_ne, ne_eq] at h
    have h1 : ¬ (fn.name == "runtime.NumGoroutine") = true := by simpa using h.2
    have h2 : ¬ fn.body.isNone = true := by
      cases hb : fn.body <;> simp_all
    simp only [callFunc, run_bind, run_program, hf]
    rw [if_neg h1, if_neg h2]
    rfl

theorem RepL_append' {w : World} {Z : Blocks} {xs ys : List PV} {vs us : List Value} {φ : List Nat} (h : RepL w Z xs vs φ) (h' : RepL w Z ys us []) : RepL w Z (xs ++ ys) (vs ++ us) φ :=
  RepL_append.2 ⟨vs, us, φ, [], rfl, by simp, h, h'⟩

section
variable {P : Program} {S : Sg} {Q : Exit → Env → Prop} {env env' : Env} {ops : Array Oper} {o : Oper} {rest : List Oper}

/-- What a call does to frame and world. -/
theorem Rel.call {Γ : Ctx} {a : Act} {w : World} {Z : Blocks} {F : Nat → List Nat} (hR : Rel Γ env a w Z F) {f : FuncId} {caps : List PV} {cv : List Value} {gs : List Arg} {post : PV → List PV → Prop} (hS : S.of Γ)
    (hcaps : RepL w Z caps cv []) (hcall : CallsV P S.G f (gs.map (·.x) ++ caps) post) (hg : ∀ g ∈ gs, GiveS env g) (hn : (rwRoots gs).Nodup) (hdis : ∀ r ∈ roRoots gs, r ∉ rwRoots gs) (hout : ∀ r outs, post r outs → roRoots gs = [] ∨ (r.closed ∧ PV.closedL outs)) :
    Calls P f ((gs.map fun g => a.eval g.z) ++ cv).toArray w fun e w' => ∃ r outs v, e = .returned v ∧ post r outs ∧ ∀ d a', (∀ q, d = some q → S.ok q = true ∧ q ∉ rwRoots gs ∧ a' = a.put (some q) v) → (d = none → a' = a) →
      ∃ Z' F', Rel Γ ((match d with | some q => [(q, r)] | none => []) ++ (backEnv gs outs ++ env)) a' w' Z' F' := by
  let Zs : Blocks := fun b => Z b ∨ ∃ r ∈ roRoots gs, b ∈ F r
  obtain ⟨φ, k1, k2, k3, k4⟩ := gather hR Zs (fun b hb => .inl hb) gs hg hn (fun r hr b hb => .inr ⟨r, hr, hb⟩)
  let Zf : Blocks := fun b => b < w.heap.size ∧ b ∉ φ
  have hφF : ∀ b ∈ φ, b < w.heap.size ∧ ¬ Z b ∧ ¬ Γ.Zf b := fun b hb => by
    obtain ⟨r, _, hb'⟩ := k3 b hb
    have := hR.blocks r b hb'
    exact ⟨this.1, this.2.1, this.2.2.1⟩
  have hZsf : ∀ b, Zs b → Zf b := by
    intro b hb
    rcases hb with hb | ⟨r, hr, hb⟩
    · exact ⟨hR.zlt b hb, fun h => (hφF b h).2.1 hb⟩
    · refine ⟨(hR.blocks r b hb).1, fun h => ?_⟩
      obtain ⟨r', hr', hb'⟩ := k3 b h
      exact hR.fdisj (i := r) (j := r') (fun e => hdis r hr (e ▸ hr')) hb hb'
  have hΓf : ∀ b, Γ.Zf b → Zf b := fun b hb => ⟨Nat.lt_of_lt_of_le (Γ.zflt b hb) hR.ext.size, fun h => (hφF b h).2.2 hb⟩
  refine (hcall w Zs Zf _ φ hZsf (fun b hb => hb.1) (RepL_append' k1 (RepL.mono (fun b hb => ⟨.inl hb, rfl⟩) _ _ _ (by simp) hcaps)) k2 (fun b hb => ⟨(hφF b hb).1, fun h => h.2 hb⟩) (fun w' hw' => ?_)).mono ?_
  · have := Γ.g w' (hR.ext.trans (hw'.anti hΓf))
    rw [hS.1] at this
    exact this
  · rintro e w' ⟨r, outs, v, ψ, Zs', rfl, hp, hE, hz1, hz2, hrep, hψn, hψ⟩
    refine ⟨r, outs, v, rfl, hp, ?_⟩
    intro d a' hd1 hd2
    simp only [RepL] at hrep
    obtain ⟨v', vs', ψr, ψo, hv, rfl, hr, ho⟩ := hrep
    simp only [List.cons.injEq] at hv
    obtain ⟨rfl, rfl⟩ := hv
    -- the outs of the arguments themselves
    have hlen := RepL.length _ _ _ ho
    have hoz : RepL w' Zs' (outs.take gs.length ++ outs.drop gs.length) ((gs.map fun g => a.eval g.z) ++ cv) ψo := by rw [List.take_append_drop]; exact ho
    obtain ⟨vs₁, vs₂, ψ₁, ψ₂, e1, rfl, o1, o2⟩ := RepL_append.1 hoz
    have hl1 := RepL.length _ _ _ o1
    have hle : gs.length ≤ outs.length := by have := hlen; simp at this; omega
    rw [List.length_take, Nat.min_eq_left hle] at hl1
    have e2 : vs₁ = gs.map fun g => a.eval g.z := by
      have := congrArg (List.take gs.length) e1
      rw [List.take_left' hl1, List.take_left' (by simp)] at this
      exact this.symm
    subst e2
    have hψ' := List.nodup_append.1 hψn
    have hψ₁n : ψ₁.Nodup := (List.nodup_append.1 hψ'.2.1).1
    -- the shared blocks behind the call
    obtain ⟨Z', hZ1, hZ2, hr', o1'⟩ : ∃ Z' : Blocks, (∀ b, Z b → Z' b ∧ Agree w w' b) ∧ (∀ b, Z' b → (Z b ∨ b ∈ φ ∨ w.heap.size ≤ b) ∧ b < w'.heap.size ∧ (Z' b → b ∉ ψr ∧ b ∉ ψ₁)) ∧ Rep w' Z' r v ψr ∧ RepL w' Z' (outs.take gs.length) (gs.map fun g => a.eval g.z) ψ₁ := by
      have hag : ∀ b, Z b → Agree w w' b := fun b hb => hE.agree b (hZsf b (.inl hb))
      rcases hout r outs hp with h0 | ⟨h1, h2⟩
      · refine ⟨Zs', fun b hb => ⟨hz1 b (.inl hb), hag b hb⟩, fun b hb => ⟨?_, (hz2 b hb).2, fun hb => ⟨fun h => (hψ b (by simp [h])).2.2.1 hb, fun h => (hψ b (by simp [h])).2.2.1 hb⟩⟩, hr, o1⟩
        rcases (hz2 b hb).1 with (h | ⟨r', hr', _⟩) | h
        · exact .inl h
        · rw [h0] at hr'; simp at hr'
        · exact .inr h
      · refine ⟨Z, fun b hb => ⟨hb, hag b hb⟩, fun b hb => ⟨.inl hb, Nat.lt_of_lt_of_le (hR.zlt b hb) hE.size, fun hb => ⟨fun h => (hψ b (by simp [h])).2.2.1 (hz1 b (.inl hb)), fun h => (hψ b (by simp [h])).2.2.1 (hz1 b (.inl hb))⟩⟩, Rep.closed _ _ _ h1 (fun _ _ => rfl) hr, ?_⟩
        refine RepL.closed _ _ _ ?_ (fun _ _ => rfl) o1
        have : ∀ (l : List PV) (n : Nat), PV.closedL l → PV.closedL (l.take n) := by
          intro l
          induction l with
          | nil => intro n h; simpa using h
          | cons c l ih => intro n h; cases n with
            | zero => trivial
            | succ n => exact ⟨h.1, ih n h.2⟩
        exact this _ _ h2
    obtain ⟨F₁, p1, p2, p3, p4⟩ := k4 w' Z' (outs.take gs.length) ψ₁ hZ1 (fun r₁ hr₁ b hb hbφ => ⟨hE.agree b ⟨(hR.blocks r₁ b hb).1, hbφ⟩, fun h => by
      have := (hψ b (by simp [h])).2.2.2
      rcases this with h' | h'
      · exact hbφ h'
      · have := (hR.blocks r₁ b hb).1; omega⟩) hψ₁n o1'
    have hback : ∀ (gs : List Arg) (outs : List PV), gs.length ≤ outs.length → backEnv gs (outs.take gs.length) = backEnv gs outs := by
      intro gs
      induction gs with
      | nil => intro outs _; cases outs <;> rfl
      | cons g gs ih =>
        intro outs h
        cases outs with
        | nil => simp at h
        | cons o outs =>
          simp only [List.length_cons, List.take_succ_cons, backEnv]
          rw [ih outs (by simpa using h)]
    rw [hback gs outs hle] at p1 p2
    have hrootag : ∀ i, i ∉ rwRoots gs → ∀ b ∈ F i, Agree w w' b := fun i hi b hb => hE.agree b ⟨(hR.blocks i b hb).1, fun h => by
      obtain ⟨r', hr', hb'⟩ := k3 b h
      exact hR.fdisj (i := i) (j := r') (fun e => hi (e ▸ hr')) hb hb'⟩
    have hZl : ∀ b, Z' b → b < w'.heap.size := fun b hb => (hZ2 b hb).2.1
    have hext : Ext Γ.Zf w w' := hE.anti hΓf
    have hblk : ∀ r₁ ∈ rwRoots gs, ∀ b ∈ F₁ r₁, (w.heap.size ≤ b ∨ ∃ t ∈ rwRoots gs, b ∈ F t) ∧ b < w'.heap.size ∧ ¬ Z' b ∧ ¬ Γ.Zf b := by
      intro r₁ hr₁ b hb
      rcases p4 r₁ hr₁ b hb with h | ⟨h, h'⟩
      · have := hψ b (by simp [h])
        refine ⟨?_, this.1, fun hz => ((hZ2 b hz).2.2 hz).2 h, fun hz => this.2.1 (hΓf b hz)⟩
        rcases this.2.2.2 with h5 | h5
        · obtain ⟨r', hr', hb'⟩ := k3 b h5
          exact .inr ⟨r', hr', hb'⟩
        · exact .inl h5
      · have := hR.blocks r₁ b h
        refine ⟨.inr ⟨r₁, hr₁, h⟩, Nat.lt_of_lt_of_le this.1 hE.size, fun hz => ?_, this.2.2.1⟩
        rcases (hZ2 b hz).1 with h5 | h5 | h5
        · exact this.2.1 h5
        · exact h' h5
        · omega
    have hrblk : ∀ b ∈ ψr, (w.heap.size ≤ b ∨ ∃ t ∈ rwRoots gs, b ∈ F t) ∧ b < w'.heap.size ∧ ¬ Z' b ∧ ¬ Γ.Zf b := by
      intro b h
      have := hψ b (by simp [h])
      refine ⟨?_, this.1, fun hz => ((hZ2 b hz).2.2 hz).1 h, fun hz => this.2.1 (hΓf b hz)⟩
      rcases this.2.2.2 with h5 | h5
      · obtain ⟨r', hr', hb'⟩ := k3 b h5
        exact .inr ⟨r', hr', hb'⟩
      · exact .inl h5
    have hrdis : ∀ b ∈ ψr, b ∉ ((rwRoots gs).map F₁).flatten := by
      intro b hb h
      obtain ⟨m, hm, hbm⟩ := List.mem_flatten.1 h
      obtain ⟨r₁, hr₁, rfl⟩ := List.mem_map.1 hm
      rcases p4 r₁ hr₁ b hbm with h5 | ⟨h5, h6⟩
      · exact hψ'.2.2 b hb b (List.mem_append_left _ h5) rfl
      · rcases (hψ b (by simp [hb])).2.2.2 with h7 | h7
        · exact h6 h7
        · have := (hR.blocks r₁ b h5).1; omega
    cases d with
    | none =>
      have ha := hd2 rfl
      subst ha
      refine ⟨Z', fun i => if i ∈ rwRoots gs then F₁ i else F i, ?_⟩
      simp only [List.nil_append]
      refine hR.update (backEnv gs outs) (by rw [p1]; exact hn) (fun e he => (p2 e he).fresh _) hR.defers hR.size hR.pins (fun _ _ => rfl) (by rw [p1]; intro i hi; simp only [if_neg hi]) (by rw [p1]; exact hrootag) hext hZ1
        (fun b hb => ?_) hZl ?_ ?_ ?_
      · rw [p1]
        rcases (hZ2 b hb).1 with h | h | h
        · exact .inl h
        · obtain ⟨r', hr', hb'⟩ := k3 b h; exact .inr (.inl ⟨r', hr', hb'⟩)
        · exact .inr (.inr h)
      · intro e he
        have : e.1 ∈ rwRoots gs := by rw [← p1]; exact List.mem_map.2 ⟨e, he, rfl⟩
        simp only [if_pos this]
        exact SlotRep.of_rep (p2 e he)
      · have : (backEnv gs outs).map (fun e => if e.1 ∈ rwRoots gs then F₁ e.1 else F e.1) = ((backEnv gs outs).map (·.1)).map F₁ := by
          rw [List.map_map]
          apply List.map_congr_left
          intro e he
          have : e.1 ∈ rwRoots gs := by rw [← p1]; exact List.mem_map.2 ⟨e, he, rfl⟩
          simp [this]
        rw [this, p1]; exact p3
      · rw [p1]
        intro e he b hb
        have : e.1 ∈ rwRoots gs := by rw [← p1]; exact List.mem_map.2 ⟨e, he, rfl⟩
        simp only [if_pos this] at hb
        exact hblk e.1 this b hb
    | some q =>
      obtain ⟨hok, hq, rfl⟩ := hd1 q rfl
      have hdN : q < a.tmps.size := by rw [hR.size, hS.2.1]; exact Sg.ok_lt hok
      refine ⟨Z', fun i => if i = q then ψr else if i ∈ rwRoots gs then F₁ i else F i, ?_⟩
      have hkeys : (((q, r) :: backEnv gs outs : Env).map (·.1)) = q :: rwRoots gs := by simp [p1]
      have hne : ∀ e ∈ backEnv gs outs, e.1 ∈ rwRoots gs ∧ e.1 ≠ q := fun e he => by
        have : e.1 ∈ rwRoots gs := by rw [← p1]; exact List.mem_map.2 ⟨e, he, rfl⟩
        exact ⟨this, fun h => hq (h ▸ this)⟩
      simp only [List.singleton_append]
      refine hR.update ((q, r) :: backEnv gs outs) (by rw [hkeys]; exact List.nodup_cons.2 ⟨hq, hn⟩) (fun e he => ?_) hR.defers (by simp [Act.put, hR.size]) (pins_put hS hR hok _)
        (by rw [hkeys]; intro i hi; simp only [List.mem_cons, not_or] at hi; exact Act.T_put_ne _ _ _ _ (Ne.symm hi.1)) (by rw [hkeys]; intro i hi; simp only [List.mem_cons, not_or] at hi; rw [if_neg hi.1, if_neg hi.2])
        (by rw [hkeys]; intro i hi; simp only [List.mem_cons, not_or] at hi; exact hrootag i hi.2) hext hZ1 (fun b hb => ?_) hZl ?_ ?_ ?_
      · simp only [List.mem_cons] at he
        rcases he with rfl | he
        · exact hr'.fresh _
        · exact (p2 e he).fresh _
      · rw [hkeys]
        rcases (hZ2 b hb).1 with h | h | h
        · exact .inl h
        · obtain ⟨r', hr', hb'⟩ := k3 b h; exact .inr (.inl ⟨r', by simp [hr'], hb'⟩)
        · exact .inr (.inr h)
      · intro e he
        simp only [List.mem_cons] at he
        rcases he with rfl | he
        · simp only [if_true]; rw [Act.T_put _ _ _ hdN]; exact SlotRep.of_rep hr'
        · have := hne e he
          simp only [if_neg this.2, if_pos this.1]
          rw [Act.T_put_ne _ _ _ _ (Ne.symm this.2)]
          exact SlotRep.of_rep (p2 e he)
      · have : (backEnv gs outs).map (fun e => if e.1 = q then ψr else if e.1 ∈ rwRoots gs then F₁ e.1 else F e.1) = ((backEnv gs outs).map (·.1)).map F₁ := by
          rw [List.map_map]
          apply List.map_congr_left
          intro e he
          have := hne e he
          simp [this.1, this.2]
        simp only [List.map_cons, if_true, this, p1, List.flatten_cons, List.nodup_append]
        exact ⟨hψ'.1, p3, fun b hb c hc hbc => hrdis b hb (hbc ▸ hc)⟩
      · rw [hkeys]
        intro e he b hb
        have lift : ((w.heap.size ≤ b ∨ ∃ t ∈ rwRoots gs, b ∈ F t) ∧ b < w'.heap.size ∧ ¬ Z' b ∧ ¬ Γ.Zf b) → ((w.heap.size ≤ b ∨ ∃ t ∈ q :: rwRoots gs, b ∈ F t) ∧ b < w'.heap.size ∧ ¬ Z' b ∧ ¬ Γ.Zf b) := by
          rintro ⟨h1, h2⟩
          exact ⟨h1.imp id (fun ⟨t, ht, h⟩ => ⟨t, by simp [ht], h⟩), h2⟩
        simp only [List.mem_cons] at he
        rcases he with rfl | he
        · simp only [if_true] at hb; exact lift (hrblk b hb)
        · have := hne e he
          simp only [if_neg this.2, if_pos this.1] at hb
          exact lift (hblk e.1 this.1 b hb)
end
end Go.Vr
/- The value-level layer, part 16: calls and regions whose order is open. -/
namespace Go.Vr
open Go
set_option linter.unusedVariables false
set_option linter.unusedSimpArgs false

section
variable {P : Program} {S : Sg} {Q : Exit → Env → Prop} {env env' : Env} {ops : Array Oper} {o : Oper} {rest : List Oper}

theorem run_call {Γ : Ctx} {a : Act} {w : World} {Z : Blocks} {F : Nat → List Nat} (hR : Rel Γ env a w Z F) {z : Operand} {f : FuncId} {caps : List PV} {zs : List Operand} {ats : Array TypeId} (ho : o.op = .call { callee := .value z, args := zs.toArray, argTypes := ats })
    (hz : opd env z = .clo f caps) (hcf : PV.flatL caps) (hf : callable P f = true) : ∃ cv, RepL w Z caps cv [] ∧ (execOp a.eval o).run P w = .ok (.enter f ((zs.map a.eval) ++ cv).toArray) w := by
  obtain ⟨cv, h1, h2⟩ : Rep w Z (.clo f caps) (a.eval z) [] := hR.flatOpd hz (by simp) hcf rfl
  refine ⟨cv, h2, ?_⟩
  have := run_callFunc hf ((zs.map a.eval) ++ cv).toArray w
  simp [execOp, ho, resolve, h1, Deferred.ofValue, invoke]
  simpa using this

/-- A call by its contract. -/
theorem vpOps_call {z : Operand} {f : FuncId} {caps : List PV} {gs : List Arg} {post : PV → List PV → Prop} {d : Nat} {zs : List Operand} {ats : Array TypeId} {args : List PV}
    (hcall : CallsV P S.G f args post) (ho : o.op = .call { callee := .value z, args := zs.toArray, argTypes := ats }) (hg : o.guard = none) (hd : o.dst = some d) (hok : S.ok d = true) (hz : opd env z = .clo f caps) (hcf : PV.flatL caps) (hf : callable P f = true)
    (hzs : gs.map (·.z) = zs) (hargs : gs.map (·.x) ++ caps = args) (hgive : ∀ g ∈ gs, GiveS env g) (hroots : (nodupB (rwRoots gs) && (roRoots gs).all (fun r => !(rwRoots gs).contains r) && !(rwRoots gs).contains d) = true)
    (hout : ∀ r outs, post r outs → roRoots gs = [] ∨ (r.closed ∧ PV.closedL outs)) (hk : ∀ r outs, post r outs → vpOps P S ops Q rest ((d, r) :: (backEnv gs outs ++ env))) : vpOps P S ops Q (o :: rest) env := by
  intro Γ a w Z F hS hR
  refine wpList_plain hg fun K hK => ?_
  subst hzs; subst hargs
  simp only [Bool.and_eq_true] at hroots
  obtain ⟨⟨r1, r2⟩, r3⟩ := hroots
  obtain ⟨cv, h1, h2⟩ := run_call hR ho hz hcf hf
  rw [List.map_map] at h2
  simp only [Oper.wp, h2, Oper.upon]
  have hr2 : ∀ r ∈ roRoots gs, r ∉ rwRoots gs := fun r hr => by
    have := List.all_eq_true.1 r2 r hr
    simpa using this
  have hc := hR.call hS h1 hcall hgive (nodupB_nodup r1) hr2 hout
  refine hc.mono ?_
  rintro e w' ⟨r, outs, v, rfl, hp, hfin⟩
  obtain ⟨Z', F', hR'⟩ := hfin (some d) (a.put (some d) v) (fun q hq => by cases hq; exact ⟨hok, by simpa using r3, rfl⟩) (by simp)
  refine hK _ _ ?_
  rw [hd]
  exact hk r outs hp Γ _ _ _ _ hS hR'

theorem vpOps_callNo {z : Operand} {f : FuncId} {caps : List PV} {gs : List Arg} {post : PV → List PV → Prop} {zs : List Operand} {ats : Array TypeId} {args : List PV}
    (hcall : CallsV P S.G f args post) (ho : o.op = .call { callee := .value z, args := zs.toArray, argTypes := ats }) (hg : o.guard = none) (hd : o.dst = none) (hz : opd env z = .clo f caps) (hcf : PV.flatL caps) (hf : callable P f = true)
    (hzs : gs.map (·.z) = zs) (hargs : gs.map (·.x) ++ caps = args) (hgive : ∀ g ∈ gs, GiveS env g) (hroots : (nodupB (rwRoots gs) && (roRoots gs).all (fun r => !(rwRoots gs).contains r)) = true)
    (hout : ∀ r outs, post r outs → roRoots gs = [] ∨ (r.closed ∧ PV.closedL outs)) (hk : ∀ r outs, post r outs → vpOps P S ops Q rest (backEnv gs outs ++ env)) : vpOps P S ops Q (o :: rest) env := by
  intro Γ a w Z F hS hR
  refine wpList_plain hg fun K hK => ?_
  subst hzs; subst hargs
  simp only [Bool.and_eq_true] at hroots
  obtain ⟨r1, r2⟩ := hroots
  obtain ⟨cv, h1, h2⟩ := run_call hR ho hz hcf hf
  rw [List.map_map] at h2
  simp only [Oper.wp, h2, Oper.upon]
  have hr2 : ∀ r ∈ roRoots gs, r ∉ rwRoots gs := fun r hr => by
    have := List.all_eq_true.1 r2 r hr
    simpa using this
  have hc := hR.call hS h1 hcall hgive (nodupB_nodup r1) hr2 hout
  refine hc.mono ?_
  rintro e w' ⟨r, outs, v, rfl, hp, hfin⟩
  obtain ⟨Z', F', hR'⟩ := hfin none a (by simp) (fun _ => rfl)
  refine hK _ _ ?_
  rw [hd]
  exact hk r outs hp Γ _ _ _ _ hS hR'

/-- A call that only looks: in a region whose order is open. -/
theorem pure_call {G : World → Prop} {z : Operand} {f : FuncId} {caps : List PV} {gs : List Arg} {x : PV} {zs : List Operand} {ats : Array TypeId} {args : List PV} {post : PV → List PV → Prop}
    (hcall : CallsV P G f args post) (ho : o.op = .call { callee := .value z, args := zs.toArray, argTypes := ats }) (hz : opd env z = .clo f caps) (hcf : PV.flatL caps) (hf : callable P f = true)
    (hzs : gs.map (·.z) = zs) (hargs : gs.map (·.x) ++ caps = args) (hgive : ∀ g ∈ gs, GiveS env g) (hroots : rwRoots gs = []) (hpost : ∀ r outs, post r outs → r = x) (hx : x.closed) : PureOp P G o env x := by
  intro Γ a w Z F K Q' hG hR hK
  subst hzs; subst hargs
  obtain ⟨cv, h1, h2⟩ := run_call hR ho hz hcf hf
  rw [List.map_map] at h2
  simp only [Oper.wp, h2, Oper.upon]
  let Zs : Blocks := fun b => Z b ∨ ∃ r ∈ roRoots gs, b ∈ F r
  obtain ⟨φ, k1, k2, k3, k4⟩ := gather hR Zs (fun b hb => .inl hb) gs hgive (by rw [hroots]; simp) (fun r hr b hb => .inr ⟨r, hr, hb⟩)
  have hφ : φ = [] := by
    cases φ with
    | nil => rfl
    | cons b φ => obtain ⟨r, hr, _⟩ := k3 b (by simp); rw [hroots] at hr; simp at hr
  subst hφ
  have hZsl : ∀ b, Zs b → b < w.heap.size := by
    intro b hb
    rcases hb with hb | ⟨r, _, hb⟩
    · exact hR.zlt b hb
    · exact (hR.blocks r b hb).1
  refine (hcall w Zs (fun b => b < w.heap.size) _ [] hZsl (fun b hb => hb) (RepL_append' k1 (RepL.mono (fun b hb => ⟨.inl hb, rfl⟩) _ _ _ (by simp) h1)) (by simp) (by simp) (fun w' hw' => ?_)).mono ?_
  · have := Γ.g w' (hR.ext.trans (hw'.anti fun b hb => Nat.lt_of_lt_of_le (Γ.zflt b hb) hR.ext.size))
    rw [hG] at this
    exact this
  · rintro e w' ⟨r, outs, v, ψ, Zs', rfl, hp, hE, hz1, hz2, hrep, hψn, hψ⟩
    have := hpost r outs hp
    subst this
    simp only [RepL] at hrep
    obtain ⟨v', vs', ψr, ψo, hv, rfl, hr, ho'⟩ := hrep
    simp only [List.cons.injEq] at hv
    obtain ⟨rfl, rfl⟩ := hv
    refine hK v w' ψr hE (List.nodup_append.1 hψn).1 (fun b hb => ?_) (SlotRep.of_rep (Rep.closed _ _ _ hx (fun _ _ => rfl) hr))
    have := hψ b (by simp [hb])
    rcases this.2.2.2 with h | h
    · simp at h
    · exact ⟨h, this.1⟩
end

/-! ### regions whose order is open -/
def direct (o : Oper) : List Nat := (o.after.toList.filter (Region.binds .any)).map (·.on)
def ancsGo : List Oper → List (List Nat) → List (List Nat)
  | [], acc => acc
  | o :: rest, acc => ancsGo rest (acc ++ [direct o ++ (direct o).flatMap fun j => acc.getD j []])
def ancs (ops : List Oper) : List (List Nat) := ancsGo ops []

theorem ancsGo_spec : ∀ (ops : List Oper) (acc : List (List Nat)) (S : Nat → Prop) (all : List Oper), all.drop acc.length = ops → (∀ i o, all[i]? = some o → S i → ∀ j ∈ direct o, S j) →
    (∀ i, i < acc.length → S i → ∀ j ∈ acc.getD i [], S j) → ∀ i, S i → ∀ j ∈ (ancsGo ops acc).getD i [], S j
  | [], acc, S, all, _, _, hacc => fun i hi j hj => by
    simp only [ancsGo] at hj
    rcases Nat.lt_or_ge i acc.length with h | h
    · exact hacc i h hi j hj
    · rw [List.getD_eq_getElem?_getD, List.getElem?_eq_none h] at hj; simp at hj
  | o :: rest, acc, S, all, hall, hS, hacc => by
    have ho : all[acc.length]? = some o := by
      have : (all.drop acc.length)[0]? = some o := by rw [hall]; rfl
      simpa using this
    refine ancsGo_spec rest _ S all ?_ hS ?_
    · simp only [List.length_append, List.length_singleton]
      rw [← List.drop_drop, hall]; rfl
    · intro i hi hSi j hj
      simp only [List.length_append, List.length_singleton] at hi
      by_cases h : i < acc.length
      · rw [List.getD_eq_getElem?_getD, List.getElem?_append_left h, ← List.getD_eq_getElem?_getD] at hj
        exact hacc i h hSi j hj
      · have hie : i = acc.length := by omega
        subst hie
        rw [List.getD_eq_getElem?_getD, List.getElem?_append_right (Nat.le_refl _)] at hj
        simp only [Nat.sub_self, List.getElem?_cons_zero, Option.getD_some, List.mem_append, List.mem_flatMap] at hj
        rcases hj with hj | ⟨k, hk, hj⟩
        · exact hS _ o ho hSi j hj
        · have hSk := hS _ o ho hSi k hk
          rcases Nat.lt_or_ge k acc.length with h' | h'
          · exact hacc k h' hSk j hj
          · rw [List.getD_eq_getElem?_getD, List.getElem?_eq_none h'] at hj; simp at hj
end Go.Vr
/- The value-level layer, part 17: regions whose order is open: pure operations first, in any order; then the others. -/
namespace Go.Vr
open Go
set_option linter.unusedVariables false
set_option linter.unusedSimpArgs false

def PV.root? : PV → Option Nat
  | .lv r _ => some r
  | .pl r _ => some r
  | _ => none

theorem fresh_of_root {x : PV} {d : Nat} (h : x.root? ≠ some d) : x.fresh [d] = x := by
  cases x <;> first
    | rfl
    | (rename_i r p
       have : ¬ r = d := fun e => h (by simp [PV.root?, e])
       simp [PV.fresh, this])
theorem fresh_nil (x : PV) : x.fresh [] = x := by cases x <;> rfl

/-- Fewer live entries. -/
theorem Rel.restrict {Γ : Ctx} {env env' : Env} {a : Act} {w : World} {Z : Blocks} {F : Nat → List Nat} (hR : Rel Γ env a w Z F)
    (h1 : ∀ e ∈ live env' [], e ∈ live env []) (h2 : ∀ e ∈ live env' [], ∀ r, e.2.root? = some r → (∃ e' ∈ live env [], e'.1 = r) → ∃ e' ∈ live env' [], e'.1 = r) :
    ∃ F', Rel Γ env' a w Z F' ∧ ∀ i b, b ∈ F' i → b ∈ F i := by
  let F' : Nat → List Nat := fun i => if i ∈ (live env' []).map (·.1) then F i else []
  have hF' : ∀ e ∈ live env' [], F' e.1 = F e.1 := fun e he => by
    simp only [F']; rw [if_pos (List.mem_map.2 ⟨e, he, rfl⟩)]
  refine ⟨F', ⟨hR.defers, hR.size, hR.pins, hR.ext, hR.zle, hR.zsub, hR.zlt, ?_, ?_, ?_, ?_⟩, ?_⟩
  · intro e he
    have hs := hR.slots e (h1 e he)
    rw [hF' e he]
    have hroot : ∀ r, e.2.root? = some r → ∀ y, y ∈ F r → y ∈ F' r := by
      intro r hr y hy
      have : ∃ e' ∈ live env [], e'.1 = r := by
        apply Classical.byContradiction; intro hn
        rw [hR.off r (fun e he hei => hn ⟨e, he, hei⟩)] at hy; simp at hy
      obtain ⟨e', he', rfl⟩ := h2 e he r hr this
      rw [hF' e' he']; exact hy
    cases hx : e.2 with
    | lv r p =>
      rw [hx] at hs
      obtain ⟨h0, hs⟩ := hs
      refine ⟨h0, ?_⟩
      rcases hs with hs | ⟨b, o, tr, g1, g2, g3⟩
      · exact .inl hs
      · exact .inr ⟨b, o, tr, g1, fun y hy => hroot r (by rw [hx]; rfl) y (g2 y hy), g3⟩
    | pl r p =>
      rw [hx] at hs
      obtain ⟨h0, b, o, tr, g1, g2, g3⟩ := hs
      exact ⟨h0, b, o, tr, g1, fun y hy => hroot r (by rw [hx]; rfl) y (g2 y hy), g3⟩
    | _ => rw [hx] at hs; exact hs
  · have : ∀ (l : Env), (l.map (·.1)).Nodup → (l.map fun e => F' e.1).flatten.Nodup := by
      intro l
      induction l with
      | nil => simp
      | cons c l ih =>
        intro h
        simp only [List.map_cons, List.nodup_cons] at h
        simp only [List.map_cons, List.flatten_cons, List.nodup_append]
        refine ⟨?_, ih h.2, ?_⟩
        · simp only [F']; split
          · exact hR.fnodup _
          · simp
        · intro b hb b' hb' hbb
          subst hbb
          obtain ⟨l', hl', hbl⟩ := List.mem_flatten.1 hb'
          obtain ⟨e', he', rfl⟩ := List.mem_map.1 hl'
          have hne : c.1 ≠ e'.1 := fun hce => h.1 (hce ▸ List.mem_map.2 ⟨e', he', rfl⟩)
          simp only [F'] at hb hbl
          split at hb
          · split at hbl
            · exact hR.fdisj hne hb hbl
            · simp at hbl
          · simp at hb
    exact this _ (live_nodup env' [])
  · intro i hi
    simp only [F']
    rw [if_neg]
    intro hm
    obtain ⟨e, he, hei⟩ := List.mem_map.1 hm
    exact hi e he hei
  · intro i b hb
    simp only [F'] at hb
    split at hb
    · exact hR.blocks i b hb
    · simp at hb
  · intro i b hb
    simp only [F'] at hb
    split at hb
    · exact hb
    · simp at hb

def boolOf : Value → Option Bool
  | .bool b => some b
  | _ => none
def ent (ds : List Nat) (xs : List PV) (i : Nat) : Nat × PV := (ds.getD i 0, xs.getD i .junk)
def ancList (as : List (List Nat)) (i : Nat) : List Nat := ((List.range i).reverse).filter fun j => (as.getD i []).contains j
def envFree (ds : List Nat) : Env → Bool
  | [] => true
  | (k, x) :: e => !ds.contains k && (match x.root? with | some r => !ds.contains r | none => true) && envFree ds e
def aliasOk (ds : List Nat) (as : List (List Nat)) : List PV → Nat → Bool
  | [], _ => true
  | x :: xs, j => (match x.root? with | some r => !ds.contains r || ((as.getD j []).any fun k => Nat.beq (ds.getD k 0) r && Nat.blt k j) | none => true) && aliasOk ds as xs (j + 1)

/-- Indices in an order in which they can have come up, the last one first. -/
inductive Came (as : List (List Nat)) (m : Nat) : List Nat → Prop
  | nil : Came as m []
  | cons {i : Nat} {l : List Nat} (hi : i < m) (hn : i ∉ l) (ha : ∀ j ∈ as.getD i [], j < i → j ∈ l) (h : Came as m l) : Came as m (i :: l)

theorem Came.lt {as : List (List Nat)} {m : Nat} {l : List Nat} (h : Came as m l) : ∀ i ∈ l, i < m := by
  induction h with
  | nil => simp
  | cons hi _ _ _ ih => intro j hj; simp only [List.mem_cons] at hj; rcases hj with rfl | hj; exact hi; exact ih j hj
theorem Came.nodup {as : List (List Nat)} {m : Nat} {l : List Nat} (h : Came as m l) : l.Nodup := by
  induction h with
  | nil => simp
  | cons _ hn _ _ ih => exact List.nodup_cons.2 ⟨hn, ih⟩
theorem Came.closed {as : List (List Nat)} {m : Nat} {l : List Nat} (h : Came as m l) : ∀ i ∈ l, ∀ j ∈ as.getD i [], j < i → j ∈ l := by
  induction h with
  | nil => simp
  | cons _ _ ha _ ih =>
    intro i hi j hj hji
    simp only [List.mem_cons] at hi
    rcases hi with rfl | hi
    · exact List.mem_cons_of_mem _ (ha j hj hji)
    · exact List.mem_cons_of_mem _ (ih i hi j hj hji)

theorem aliasOk_spec {ds : List Nat} {as : List (List Nat)} : ∀ (xs : List PV) (j : Nat), aliasOk ds as xs j = true → ∀ i (h : i < xs.length) r, xs[i].root? = some r → r ∉ ds ∨ ∃ k ∈ as.getD (j + i) [], k < j + i ∧ ds.getD k 0 = r
  | [], j, _, i, h, _, _ => by simp at h
  | x :: xs, j, hok, i, h, r, hr => by
    simp only [aliasOk, Bool.and_eq_true] at hok
    cases i with
    | zero =>
      have hr : x.root? = some r := hr
      have h1 := hok.1
      rw [hr] at h1
      simp only [Bool.or_eq_true, Bool.not_eq_true', List.any_eq_true, Bool.and_eq_true] at h1
      rcases h1 with h1 | ⟨k, h1, h2, h3⟩
      · exact .inl (by simpa using h1)
      · exact .inr ⟨k, by simpa using h1, by simpa using h3, by simpa using h2⟩
    | succ i =>
      have := aliasOk_spec xs (j + 1) hok.2 i (by simpa using h) r hr
      rwa [show j + 1 + i = j + (i + 1) by omega] at this

theorem envFree_live {ds : List Nat} : ∀ (e : Env) (s : List Nat), envFree ds e = true → ∀ b ∈ live e s, b.1 ∉ ds ∧ ∀ r, b.2.root? = some r → r ∉ ds
  | [], s, _, b, hb => by simp [live] at hb
  | (k, x) :: e, s, h, b, hb => by
    simp only [envFree, Bool.and_eq_true] at h
    simp only [live] at hb
    cases hc : s.contains k
    · rw [hc] at hb
      simp only [List.mem_cons] at hb
      rcases hb with rfl | hb
      · refine ⟨by simpa using h.1.1, fun r hr => ?_⟩
        have hx : x.root? = some r := by
          cases x <;> simp only [PV.fresh] at hr <;> first
            | exact hr
            | (split at hr <;> first | (simp [PV.root?] at hr; done) | exact hr)
        have h2 := h.1.2
        rw [hx] at h2
        simpa using h2
      · exact envFree_live e _ h.2 b hb
    · rw [hc] at hb; exact envFree_live e _ h.2 b hb

theorem nodup_len : ∀ {l r : List Nat}, l.Nodup → (∀ x ∈ l, x ∈ r) → l.length ≤ r.length
  | [], _, _, _ => Nat.zero_le _
  | a :: l, r, hn, hs => by
    rw [List.nodup_cons] at hn
    have ha := hs a (by simp)
    have := nodup_len (l := l) (r := r.erase a) hn.2 (fun x hx => (List.mem_erase_of_ne (fun e => hn.1 (by rw [← e]; exact hx))).2 (hs x (by simp [hx])))
    rw [List.length_erase_of_mem ha] at this
    have := List.length_pos_of_mem ha
    simp only [List.length_cons]
    omega

theorem nodup_inj {l : List Nat} (h : l.Nodup) {i j : Nat} (hi : i < l.length) (hj : j < l.length) (e : (some l[i]).getD 0 = (some l[j]).getD 0) : i = j := by
  have hp := List.pairwise_iff_getElem.1 h
  rcases Nat.lt_trichotomy i j with h' | h' | h'
  · exact absurd e (hp i j hi hj h')
  · exact h'
  · exact absurd e.symm (hp j i hj hi h')

theorem live_came {ds : List Nat} {xs : List PV} {as : List (List Nat)} {m : Nat} {env : Env} (hdn : ds.Nodup) (hdl : ds.length = m) (hxl : xs.length = m) (hfree : envFree ds env = true) (hal : aliasOk ds as xs 0 = true) {l : List Nat} (h : Came as m l) :
    live (l.map (ent ds xs) ++ env) [] = l.map (ent ds xs) ++ live env [] := by
  induction h with
  | nil => rfl
  | @cons i l hi hn ha h ih =>
    have hdi : ∀ j, j < m → ds.getD j 0 ∈ ds := fun j hj => by rw [List.getD_eq_getElem?_getD, List.getElem?_eq_getElem (by omega)]; exact List.getElem_mem _
    have hinj : ∀ j k, j < m → k < m → ds.getD j 0 = ds.getD k 0 → j = k := fun j k hj hk he => by
      rw [List.getD_eq_getElem?_getD, List.getD_eq_getElem?_getD, List.getElem?_eq_getElem (by omega), List.getElem?_eq_getElem (by omega)] at he
      exact nodup_inj hdn _ _ he
    simp only [List.map_cons, List.cons_append]
    show live ((ds.getD i 0, xs.getD i .junk) :: (l.map (ent ds xs) ++ env)) [] = _
    simp only [live, List.contains_nil, fresh_nil]
    congr 1
    have := live_append (l.map (ent ds xs) ++ env) [] [ds.getD i 0]
    rw [List.append_nil] at this
    rw [this, ih]
    have hkeep : ∀ b ∈ l.map (ent ds xs) ++ live env [], b.1 ≠ ds.getD i 0 ∧ b.2.root? ≠ some (ds.getD i 0) := by
      intro b hb
      rcases List.mem_append.1 hb with hb | hb
      · obtain ⟨j, hj, rfl⟩ := List.mem_map.1 hb
        have hjm := h.lt j hj
        refine ⟨fun e => hn (hinj j i hjm hi e ▸ hj), fun e => ?_⟩
        have hx : xs[j].root? = some (ds.getD i 0) := by
          have : (ent ds xs j).2 = xs[j] := by simp [ent, List.getElem?_eq_getElem (show j < xs.length by omega)]
          rw [← this]; exact e
        rcases aliasOk_spec xs 0 hal j (by omega) _ hx with h' | ⟨k, h1, h2, h3⟩
        · exact h' (hdi i hi)
        · simp only [Nat.zero_add] at h1 h2
          have hkl := h.closed j hj k h1 h2
          exact hn (hinj k i (by omega) hi h3 ▸ hkl)
      · have := envFree_live env [] hfree b hb
        exact ⟨fun e => this.1 (e ▸ hdi i hi), fun e => this.2 _ e (hdi i hi)⟩
    have hfil : ((l.map (ent ds xs) ++ live env []).filter fun a => ![ds.getD i 0].contains a.1) = l.map (ent ds xs) ++ live env [] := by
      rw [List.filter_eq_self]
      intro b hb
      have := (hkeep b hb).1
      simp; exact this
    rw [hfil]
    conv => rhs; rw [← List.map_id (l.map (ent ds xs) ++ live env [])]
    apply List.map_congr_left
    intro b hb
    have := fresh_of_root (hkeep b hb).2
    show (b.1, b.2.fresh [ds.getD i 0]) = b
    rw [this]

theorem came_ancList {as : List (List Nat)} {m : Nat} {l : List Nat} (h : Came as m l) {i : Nat} (hi : i < m) (ha : ∀ j ∈ as.getD i [], j < i → j ∈ l) (htr : ∀ j ∈ as.getD i [], ∀ k ∈ as.getD j [], k < j → k ∈ as.getD i []) :
    Came as m (ancList as i) := by
  unfold ancList
  have : ∀ n, n ≤ i → Came as m (((List.range n).reverse).filter fun j => (as.getD i []).contains j) := by
    intro n
    induction n with
    | zero => intro _; exact .nil
    | succ n ih =>
      intro hn
      rw [List.range_succ, List.reverse_append, List.reverse_singleton, List.singleton_append]
      by_cases hc : (as.getD i []).contains n = true
      · rw [List.filter_cons_of_pos hc]
        refine .cons (by omega) ?_ ?_ (ih (by omega))
        · intro h
          have := (List.mem_filter.1 h).1
          simp at this
        · intro j hj hjn
          refine List.mem_filter.2 ⟨by simpa using hjn, ?_⟩
          have := htr n (by simpa using hc) j hj hjn
          simpa using this
      · rw [List.filter_cons_of_neg hc]
        exact ih (by omega)
  exact this i (Nat.le_refl _)

def transOk (as : List (List Nat)) : Bool := as.all fun a => a.all fun j => (as.getD j []).all fun k => !Nat.blt k j || a.contains k
def chainOk (as : List (List Nat)) (m : Nat) : Nat → Nat → Bool
  | 0, _ => true
  | n + 1, k => (List.range k).all (fun j => (as.getD k []).contains j) && chainOk as m n (k + 1)
def fwdOk : List Oper → Nat → Bool
  | [], _ => true
  | o :: os, i => (direct o).all (Nat.blt · i) && fwdOk os (i + 1)
def dstsOk (S : Sg) (ds : List Nat) : List Oper → List Nat → Bool
  | [], [] => true
  | o :: os, d :: r => (match o.dst with | some d' => Nat.beq d' d | none => false) && S.ok d && dstsOk S ds os r
  | _, _ => false
/-- All that is asked of a region by its text alone: m pure operations, then a chain. -/
def drawOk (S : Sg) (ops : List Oper) (m : Nat) (ds : List Nat) (as : List (List Nat)) : Bool :=
  Nat.ble m ops.length && dstsOk S ds (ops.take m) ds && nodupB ds && chainOk as m (ops.length - m) m && fwdOk ops 0

theorem dstsOk_spec {S : Sg} {ds : List Nat} : ∀ (os : List Oper) (r : List Nat), dstsOk S ds os r = true → os.length = r.length ∧ ∀ i (h : i < os.length) (h' : i < r.length), os[i].dst = some r[i] ∧ S.ok r[i] = true
  | [], [], _ => ⟨rfl, fun i h => by simp at h⟩
  | o :: os, d :: r, h => by
    simp only [dstsOk, Bool.and_eq_true] at h
    obtain ⟨⟨h1, h3⟩, h4⟩ := h
    obtain ⟨g1, g2⟩ := dstsOk_spec os r h4
    refine ⟨by simp [g1], fun i hi hi' => ?_⟩
    cases i with
    | zero =>
      refine ⟨?_, h3⟩
      cases hd : o.dst with
      | none => rw [hd] at h1; simp at h1
      | some d' => rw [hd] at h1; have : d' = d := by simpa using h1
                   subst this; exact hd
    | succ i => exact g2 i (by simpa using hi) (by simpa using hi')
  | [], _ :: _, h => by simp [dstsOk] at h
  | _ :: _, [], h => by simp [dstsOk] at h

theorem chainOk_spec {as : List (List Nat)} {m : Nat} : ∀ (n k : Nat), chainOk as m n k = true → ∀ i, k ≤ i → i < k + n → ∀ j, j < i → j ∈ as.getD i []
  | 0, k, _, i, h1, h2, j, h3 => by omega
  | n + 1, k, h, i, h1, h2, j, h3 => by
    simp only [chainOk, Bool.and_eq_true] at h
    by_cases hik : i = k
    · subst hik
      have := List.all_eq_true.1 h.1 j (by simpa using h3)
      simpa using this
    · exact chainOk_spec n (k + 1) h.2 i (by omega) (by omega) j h3

section
variable {P : Program} {S : Sg} {Q : Exit → Env → Prop} {env : Env}

/-- The pure operations' duties, each where only what it waits for has come up. -/
def duty (P : Program) (G : World → Prop) (as : List (List Nat)) (ds : List Nat) (xs : List PV) (env : Env) (o : Oper) (i : Nat) : Prop :=
  match o.guard with
  | none => PureOp P G o ((ancList as i).map (ent ds xs) ++ env) (xs.getD i .junk)
  | some (j, want) => ∃ u, xs.getD j .junk = .v u ∧ (as.getD i []).contains j = true ∧ Nat.blt j i = true ∧
      ((u = .bool want ∧ PureOp P G o ((ancList as i).map (ent ds xs) ++ env) (xs.getD i .junk)) ∨ ((u = .bool (!want) ∨ u = undef) ∧ xs.getD i .junk = .v undef))
def pureAll (P : Program) (G : World → Prop) (as : List (List Nat)) (ds : List Nat) (xs : List PV) (env : Env) : List Oper → Nat → Prop
  | [], _ => True
  | o :: os, i => duty P G as ds xs env o i ∧ pureAll P G as ds xs env os (i + 1)

theorem pureAll_spec {G : World → Prop} {as : List (List Nat)} {ds : List Nat} {xs : List PV} : ∀ (os : List Oper) (k : Nat), pureAll P G as ds xs env os k → ∀ i (h : i < os.length), duty P G as ds xs env os[i] (k + i)
  | [], k, _, i, h => by simp at h
  | o :: os, k, h, i, hi => by
    simp only [pureAll] at h
    cases i with
    | zero => exact h.1
    | succ i =>
      have := pureAll_spec os (k + 1) h.2 i (by simpa using hi)
      rwa [show k + 1 + i = k + (i + 1) by omega] at this

theorem fwdOk_spec : ∀ (os : List Oper) (k : Nat), fwdOk os k = true → ∀ i (h : i < os.length), ∀ j ∈ direct os[i], j < k + i
  | [], k, _, i, h => by simp at h
  | o :: os, k, hok, i, h => by
    simp only [fwdOk, Bool.and_eq_true] at hok
    intro j hj
    cases i with
    | zero => have := List.all_eq_true.1 hok.1 j hj; simpa using this
    | succ i => have := fwdOk_spec os (k + 1) hok.2 i (by simpa using h) j hj; omega

/-- What is listed waits for nothing that is not. -/
def Cl (ops : List Oper) (listed : Array Bool) : Prop := ∀ i o, ops[i]? = some o → listed.getD i false = true → ∀ j ∈ direct o, listed.getD j false = true

theorem Cl.step {ops : List Oper} {listed : Array Bool} (h : Cl ops listed) {i : Nat} (hi : i ∈ Region.ready .any ops.toArray listed) : Cl ops (listed.setIfInBounds i true) := by
  obtain ⟨h1, o, ho, h2⟩ := mem_ready.1 hi
  have ho' : ops[i]? = some o := by simpa using ho
  intro i' o' hi' hl j hj
  by_cases hii : i = i'
  · subst hii
    rw [ho'] at hi'; cases hi'
    obtain ⟨e, he, rfl⟩ := List.mem_map.1 hj
    obtain ⟨he1, he2⟩ := List.mem_filter.1 he
    exact getD_set_true (h2 e (by simpa using he1) he2)
  · rw [getD_set_ne false hii] at hl
    exact getD_set_true (h i' o' hi' hl j hj)

theorem ready_unlisted {ops : List Oper} {listed : Array Bool} {i : Nat} (hi : i ∈ Region.ready .any ops.toArray listed) : i < ops.length ∧ listed.getD i false = false := by
  obtain ⟨h1, o, ho, _⟩ := mem_ready.1 hi
  refine ⟨by have := (Array.getElem?_eq_some_iff.1 ho).1; simpa using this, ?_⟩
  rw [Array.getD_eq_getD_getElem?] at h1 ⊢
  cases hg : listed[i]? with
  | none => rfl
  | some b => rw [hg] at h1; simpa using h1

theorem ready_ne {ops : List Oper} (hf : fwdOk ops 0 = true) {listed : Array Bool} (hsz : listed.size = ops.length) : ∀ i, i < ops.length → listed.getD i false = false → Region.ready .any ops.toArray listed ≠ [] := by
  intro i
  induction i using Nat.strongRecOn with
  | _ i ih =>
    intro hi hl
    by_cases hall : ∀ j ∈ direct ops[i], listed.getD j false = true
    · have : i ∈ Region.ready .any ops.toArray listed := by
        refine mem_ready.2 ⟨?_, ops[i], by simp [hi], fun e he hb => hall e.on (List.mem_map.2 ⟨e, List.mem_filter.2 ⟨by simpa using he, hb⟩, rfl⟩)⟩
        rw [Array.getD_eq_getD_getElem?] at hl ⊢
        have hlt : i < listed.size := by omega
        rw [Array.getElem?_eq_getElem hlt] at hl ⊢
        simpa using hl
      intro h; rw [h] at this; simp at this
    · have : ∃ j ∈ direct ops[i], listed.getD j false = false := by
        apply Classical.byContradiction; intro hn
        exact hall (fun j hj => by
          cases h : listed.getD j false
          · exact absurd ⟨j, hj, h⟩ hn
          · rfl)
      obtain ⟨j, hj, hjl⟩ := this
      have hji := fwdOk_spec ops 0 hf i hi j hj
      exact ih j (by omega) (by omega) hjl

theorem pigeon : ∀ (m : Nat) (l : List Nat), (∀ j, j < m → j ∈ l) → m ≤ l.length
  | 0, l, _ => by omega
  | m + 1, l, h => by
    have h1 := h m (by omega)
    have := pigeon m (l.erase m) (fun j hj => (List.mem_erase_of_ne (by omega)).2 (h j (by omega)))
    rw [List.length_erase_of_mem h1] at this
    have : 0 < l.length := List.length_pos_of_mem h1
    omega

theorem came_range (as : List (List Nat)) (m : Nat) : ∀ n, n ≤ m → Came as m (List.range n).reverse
  | 0, _ => .nil
  | n + 1, h => by
    rw [List.range_succ, List.reverse_append, List.reverse_singleton, List.singleton_append]
    exact .cons (by omega) (by simp) (fun j _ hj => by simpa using hj) (came_range as m n (by omega))

theorem SlotRep.monoF {w : World} {Z : Blocks} {T : Nat → Value} {F F' : Nat → List Nat} {x : PV} {v : Value} {φ : List Nat} (h : SlotRep w Z T F x v φ) (hF : ∀ i b, b ∈ F i → b ∈ F' i) : SlotRep w Z T F' x v φ := by
  cases x with
  | lv r p =>
    obtain ⟨h0, h | ⟨b, o, tr, g1, g2, g3⟩⟩ := h
    · exact ⟨h0, .inl h⟩
    · exact ⟨h0, .inr ⟨b, o, tr, g1, fun y hy => hF r y (g2 y hy), g3⟩⟩
  | pl r p =>
    obtain ⟨h0, b, o, tr, g1, g2, g3⟩ := h
    exact ⟨h0, b, o, tr, g1, fun y hy => hF r y (g2 y hy), g3⟩
  | _ => exact h

theorem vp_region_draw {id : Nat} {ops : List Oper} (m : Nat) (ds : List Nat) (xs : List PV) (hm : P.follows .mixedOrders = true) (as : List (List Nat)) (hcs : ∀ (T : Nat → Prop), (∀ i o, ops[i]? = some o → T i → ∀ j ∈ direct o, T j) → ∀ i, T i → ∀ j ∈ as.getD i [], T j) (htr : ∀ i, ∀ j ∈ as.getD i [], ∀ k ∈ as.getD j [], k < j → k ∈ as.getD i []) (hok : drawOk S ops m ds as = true) (hxl : Nat.beq xs.length m = true) (hdl : Nat.beq ds.length m = true) (hfree : envFree ds env = true) (hal : aliasOk ds as xs 0 = true)
    (hp : pureAll P S.G as ds xs env (ops.take m) 0) (h : vpOps P S ops.toArray Q (ops.drop m) (((List.range m).reverse).map (ent ds xs) ++ env)) : vp P S (.region id ops.toArray true) Q env := by
  intro Γ a w Z F hS hR
  simp only [drawOk, Bool.and_eq_true] at hok
  obtain ⟨⟨⟨⟨o1, o2⟩, o3⟩, o5⟩, o6⟩ := hok
  have hmn : m ≤ ops.length := Nat.le_of_ble_eq_true o1
  have hxl : xs.length = m := by simpa using hxl
  have hdl : ds.length = m := by simpa using hdl
  have hdn := nodupB_nodup o3
  obtain ⟨_, hds⟩ := dstsOk_spec _ _ o2
  have htl : (ops.take m).length = m := by simp [hmn]
  have hchain := chainOk_spec (ops.length - m) m o5
  refine wp_region_any hm ?_
  have hR0 : Rel Γ env a { w with drawn := w.drawn + 1 } Z F :=
    ⟨hR.defers, hR.size, hR.pins, ⟨hR.ext.os, hR.ext.tape, hR.ext.output, hR.ext.size, hR.ext.agree⟩, hR.zle, hR.zsub, hR.zlt, fun e he => by
      have := SlotRep.frame (w := w) (w' := { w with drawn := w.drawn + 1 }) (Z' := Z) (T' := Act.T a) (F' := F) (S := []) (fun _ _ => rfl) (fun _ _ => rfl) (fun _ _ _ _ => rfl) (fun b hb => ⟨hb, rfl⟩) (fun _ _ => rfl) (hR.slots e he)
      rwa [fresh_nil] at this, hR.nodup, hR.off, hR.blocks⟩
  rw [show ops.toArray.size = ops.length by simp]
  have hclosed : ∀ (listed : Array Bool), Cl ops listed → ∀ i, listed.getD i false = true → ∀ j ∈ as.getD i [], listed.getD j false = true :=
    fun listed hl => hcs (fun i => listed.getD i false = true) hl
  have hset : ∀ (listed : Array Bool) (i j : Nat), listed.size = ops.length → i < ops.length → ((listed.setIfInBounds i true).getD j false = true ↔ j = i ∨ listed.getD j false = true) := by
    intro listed i j hsz hi
    by_cases hij : i = j
    · subst hij; simp [hsz, hi]
    · rw [getD_set_ne false hij]; simp [Ne.symm hij]
  -- the chain behind the pure ones
  have tail : ∀ (fuel k : Nat) (listed : Array Bool) (a : Act) (w : World), k + fuel = ops.length → m ≤ k → listed.size = ops.length → Cl ops listed → (∀ i, listed.getD i false = true ↔ i < k) →
      wpList P ops.toArray (SimQ Γ Q) (ops.drop k) a w → wpAny P .any ops.toArray (SimQ Γ Q) fuel listed a w := by
    intro fuel
    induction fuel with
    | zero =>
      intro k listed a w hk hmk hsz hcl hl h
      have : k = ops.length := by omega
      subst this
      rw [List.drop_length] at h
      refine ⟨?_, h⟩
      apply List.eq_nil_iff_forall_not_mem.2
      intro i hi
      obtain ⟨h1, h2⟩ := ready_unlisted hi
      have := (hl i).2 h1
      rw [this] at h2; simp at h2
    | succ fuel ih =>
      intro k listed a w hk hmk hsz hcl hl h
      have hklt : k < ops.length := by omega
      have hku : listed.getD k false = false := by
        cases hc : listed.getD k false
        · rfl
        · have := (hl k).1 hc; omega
      rw [List.drop_eq_getElem_cons hklt] at h
      refine ⟨fun he => absurd he (ready_ne o6 hsz k hklt hku), fun i hi => ?_⟩
      obtain ⟨h1, h2⟩ := ready_unlisted hi
      have hik : i = k := by
        have hge : k ≤ i := by
          rcases Nat.lt_or_ge i k with h' | h'
          · have := (hl i).2 h'; rw [this] at h2; simp at h2
          · exact h'
        rcases Nat.lt_or_ge k i with h' | h'
        · exfalso
          have := hclosed _ (hcl.step hi) i ((hset listed i i hsz h1).2 (.inl rfl)) k (hchain i (by omega) (by omega) k h')
          rcases (hset listed i k hsz h1).1 this with h5 | h5
          · omega
          · rw [h5] at hku; simp at hku
        · omega
      subst hik
      have hnext : ∀ a w, wpList P ops.toArray (SimQ Γ Q) (ops.drop (i + 1)) a w → wpAny P .any ops.toArray (SimQ Γ Q) fuel (listed.setIfInBounds i true) a w := fun a w hw =>
        ih (i + 1) _ a w (by omega) (by omega) (by simp [hsz]) (hcl.step hi) (fun j => by
          rw [hset listed i j hsz h1, hl j]; omega) hw
      have ho : ops.toArray[i]? = some ops[i] := by simp [h1]
      simp only [wpOp, ho]
      simp only [wpList] at h
      split
      · rename_i hw
        rw [if_pos hw] at h
        exact h.imp (Oper.wp_mono hnext) (fun x => x)
      · rename_i hw
        rw [if_neg hw] at h
        exact hnext _ _ h
  -- the pure ones, in whatever order they come up
  have front : ∀ (fuel : Nat) (l : List Nat) (listed : Array Bool) (a : Act) (w : World) (F : Nat → List Nat), l.length + fuel = ops.length → Came as m l → listed.size = ops.length → Cl ops listed → (∀ i, listed.getD i false = true ↔ i ∈ l) →
      Rel Γ (l.map (ent ds xs) ++ env) a w Z F → wpAny P .any ops.toArray (SimQ Γ Q) fuel listed a w := by
    -- all of them have come up
    have full : ∀ (fuel : Nat) (l : List Nat) (listed : Array Bool) (a : Act) (w : World) (F : Nat → List Nat), l.length + fuel = ops.length → Came as m l → listed.size = ops.length → Cl ops listed → (∀ i, listed.getD i false = true ↔ i ∈ l) →
        Rel Γ (l.map (ent ds xs) ++ env) a w Z F → m ≤ l.length → wpAny P .any ops.toArray (SimQ Γ Q) fuel listed a w := by
      intro fuel l listed a w F hf hc hsz hcl hl hR hml
      have hmem : ∀ j, j < m → j ∈ l := by
        intro j hj
        apply Classical.byContradiction; intro hn
        have hsub : ∀ x ∈ l, x ∈ (List.range m).erase j := fun x hx => (List.mem_erase_of_ne (fun e => hn (by rw [← e]; exact hx))).2 (by simpa using hc.lt x hx)
        have := nodup_len hc.nodup hsub
        rw [List.length_erase_of_mem (by simpa using hj)] at this
        simp at this
        omega
      have hll : l.length = m := by
        have hsub : l.length ≤ (List.range m).length := nodup_len hc.nodup (fun x hx => by simpa using hc.lt x hx)
        simp at hsub
        omega
      have hlv := live_came hdn hdl hxl hfree hal hc
      have hlv' := live_came hdn hdl hxl hfree hal (came_range as m m (Nat.le_refl m))
      have hsame : ∀ e, e ∈ live ((List.range m).reverse.map (ent ds xs) ++ env) [] → e ∈ live (l.map (ent ds xs) ++ env) [] := by
        intro e he
        rw [hlv'] at he; rw [hlv]
        rcases List.mem_append.1 he with he | he
        · obtain ⟨j, hj, rfl⟩ := List.mem_map.1 he
          exact List.mem_append_left _ (List.mem_map.2 ⟨j, hmem j (by simpa using hj), rfl⟩)
        · exact List.mem_append_right _ he
      obtain ⟨F', hR', _⟩ := hR.restrict hsame (fun e he r hr ⟨e', he', hk⟩ => ⟨e', by
        rw [hlv] at he'; rw [hlv']
        rcases List.mem_append.1 he' with he' | he'
        · obtain ⟨j, hj, rfl⟩ := List.mem_map.1 he'
          exact List.mem_append_left _ (List.mem_map.2 ⟨j, by simpa using hc.lt j hj, rfl⟩)
        · exact List.mem_append_right _ he', hk⟩)
      exact tail fuel m listed a w (by omega) (Nat.le_refl m) hsz hcl (fun i => by rw [hl i]; exact ⟨hc.lt i, hmem i⟩) (h Γ a w Z F' hS hR')
    intro fuel
    induction fuel with
    | zero =>
      intro l listed a w F hf hc hsz hcl hl hR
      exact full 0 l listed a w F hf hc hsz hcl hl hR (by omega)
    | succ fuel ih =>
      intro l listed a w F hf hc hsz hcl hl hR
      by_cases hml : m ≤ l.length
      · exact full (fuel + 1) l listed a w F hf hc hsz hcl hl hR hml
      · have hun : ∃ j, j < m ∧ j ∉ l := by
          apply Classical.byContradiction; intro hn
          exact hml (pigeon m l (fun j hj => Classical.byContradiction fun h => hn ⟨j, hj, h⟩))
        obtain ⟨j₀, hj₀, hj₀l⟩ := hun
        have hj₀u : listed.getD j₀ false = false := by
          cases hc' : listed.getD j₀ false
          · rfl
          · exact absurd ((hl j₀).1 hc') hj₀l
        refine ⟨fun he => absurd he (ready_ne o6 hsz j₀ (by omega) hj₀u), fun i hi => ?_⟩
        obtain ⟨h1, h2⟩ := ready_unlisted hi
        have hil : i ∉ l := fun h => by rw [(hl i).2 h] at h2; simp at h2
        have hcl' := hcl.step hi
        have hanc : ∀ j ∈ as.getD i [], j ≠ i → j ∈ l := fun j hj hji => by
          have := hclosed _ hcl' i ((hset listed i i hsz h1).2 (.inl rfl)) j hj
          exact (hl j).1 (((hset listed i j hsz h1).1 this).resolve_left hji)
        have him : i < m := by
          rcases Nat.lt_or_ge i m with h' | h'
          · exact h'
          · exfalso
            exact hj₀l (hanc j₀ (hchain i h' (by omega) j₀ (by omega)) (by omega))
        have hc' : Came as m (i :: l) := .cons him hil (fun j hj hji => hanc j hj (by omega)) hc
        have ho : ops.toArray[i]? = some ops[i] := by simp [h1]
        have hd := hds i (by omega) (by omega)
        have hdo : ops[i].dst = some (ds.getD i 0) := by
          have := hd.1; simp only [List.getElem_take] at this
          rw [this, List.getD_eq_getElem?_getD, List.getElem?_eq_getElem (by omega)]; rfl
        have hoks : S.ok (ds.getD i 0) = true := by
          have := hd.2; rw [List.getD_eq_getElem?_getD, List.getElem?_eq_getElem (by omega)]; simpa using this
        have hpi := pureAll_spec (ops.take m) 0 hp i (by omega)
        simp only [List.getElem_take, Nat.zero_add] at hpi
        -- the frame as far as the operation looks
        have hca := came_ancList (m := m) hc him (fun j hj hji => hanc j hj (by omega)) (fun j hj k hk hkj => htr i j hj k hk hkj)
        have hlv := live_came hdn hdl hxl hfree hal hc
        have hlva := live_came hdn hdl hxl hfree hal hca
        have hsub : ∀ j ∈ ancList as i, j ∈ l := fun j hj => by
          have := List.mem_filter.1 hj
          have hji : j < i := by simpa using this.1
          exact hanc j (by simpa using this.2) (by omega)
        obtain ⟨F₁, hR₁, hF₁⟩ := hR.restrict (env' := (ancList as i).map (ent ds xs) ++ env) (fun e he => by
            rw [hlva] at he; rw [hlv]
            rcases List.mem_append.1 he with he | he
            · obtain ⟨j, hj, rfl⟩ := List.mem_map.1 he
              exact List.mem_append_left _ (List.mem_map.2 ⟨j, hsub j hj, rfl⟩)
            · exact List.mem_append_right _ he) (fun e he r hr ⟨e', he', hk⟩ => by
            rw [hlva] at he ⊢; rw [hlv] at he'
            have hdi : ∀ j, j < m → ds.getD j 0 ∈ ds := fun j hj => by rw [List.getD_eq_getElem?_getD, List.getElem?_eq_getElem (by omega)]; exact List.getElem_mem _
            rcases List.mem_append.1 he' with he' | he'
            · obtain ⟨k, hk', rfl⟩ := List.mem_map.1 he'
              have hkr : ds.getD k 0 = r := hk
              rcases List.mem_append.1 he with he | he
              · obtain ⟨j, hj, rfl⟩ := List.mem_map.1 he
                have hjm := hc.lt j (hsub j hj)
                have hx : xs[j].root? = some r := by
                  have : (ent ds xs j).2 = xs[j] := by simp [ent, List.getElem?_eq_getElem (show j < xs.length by omega)]
                  rw [← this]; exact hr
                rcases aliasOk_spec xs 0 hal j (by omega) r hx with h' | ⟨k₂, q1, q2, q3⟩
                · exact absurd (hkr ▸ hdi k (hc.lt k hk')) h'
                · simp only [Nat.zero_add] at q1 q2
                  exact ⟨ent ds xs k₂, List.mem_append_left _ (List.mem_map.2 ⟨k₂, hca.closed j hj k₂ q1 q2, rfl⟩), q3⟩
              · exact absurd (hkr ▸ hdi k (hc.lt k hk')) ((envFree_live env [] hfree e he).2 r hr)
            · exact ⟨e', List.mem_append_right _ he', hk⟩)
        simp only [wpOp, ho]
        have hxi : xs.getD i .junk = xs[i] := by rw [List.getD_eq_getElem?_getD, List.getElem?_eq_getElem (by omega)]; rfl
        have hfr : (xs.getD i .junk).fresh [ds.getD i 0] = xs.getD i .junk := by
          refine fresh_of_root fun e => ?_
          rw [hxi] at e
          rcases aliasOk_spec xs 0 hal i (by omega) _ e with h' | ⟨k, q1, q2, q3⟩
          · exact h' (by rw [List.getD_eq_getElem?_getD, List.getElem?_eq_getElem (by omega)]; exact List.getElem_mem _)
          · simp only [Nat.zero_add] at q1 q2
            rw [List.getD_eq_getElem?_getD, List.getD_eq_getElem?_getD, List.getElem?_eq_getElem (by omega), List.getElem?_eq_getElem (by omega)] at q3
            have := nodup_inj hdn _ _ q3
            omega
        have pure : PureOp P S.G ops[i] ((ancList as i).map (ent ds xs) ++ env) (xs.getD i .junk) → Region.wanted ops[i] (yielded ops.toArray a.tmps) = true → (if Region.wanted ops[i] (yielded ops.toArray a.tmps) = true then ops[i].wp P a w (wpAny P .any ops.toArray (SimQ Γ Q) fuel (listed.setIfInBounds i true)) (SimQ Γ Q) ∨ ops[i].asks P a w ∧ LetsOut (SimQ Γ Q) else wpAny P .any ops.toArray (SimQ Γ Q) fuel (listed.setIfInBounds i true) (a.put ops[i].dst undef) w) := by
          intro hpi hwant
          rw [if_pos hwant]
          left
          refine hpi Γ a w Z F₁ _ _ hS.1 hR₁ fun val w' φ hw hn hφ hr => ?_
          rw [hdo]
          obtain ⟨F', hR', _⟩ := hR.put hS hoks hfr hw hn hφ (hr.monoF hF₁)
          exact ih (i :: l) _ _ _ F' (by simp only [List.length_cons]; omega) hc' (by simp [hsz]) hcl' (fun j => by rw [hset listed i j hsz h1, hl j]; simp) hR'
        unfold duty at hpi
        cases hg : ops[i].guard with
        | none =>
          rw [hg] at hpi
          exact pure hpi (by simp [Region.wanted, hg])
        | some g =>
          obtain ⟨j, want⟩ := g
          rw [hg] at hpi
          obtain ⟨u, hu, hja, hji, hpi⟩ := hpi
          have hji : j < i := by simpa using hji
          have hjl : j ∈ l := hanc j (by simpa using hja) (by omega)
          have hjm := hc.lt j hjl
          have hjd : ops[j].dst = some (ds.getD j 0) := by
            have := (hds j (by omega) (by omega)).1; simp only [List.getElem_take] at this
            rw [this, List.getD_eq_getElem?_getD, List.getElem?_eq_getElem (by omega)]; rfl
          have hjok : S.ok (ds.getD j 0) = true := by
            have := (hds j (by omega) (by omega)).2; rw [List.getD_eq_getElem?_getD, List.getElem?_eq_getElem (by omega)]; simpa using this
          have hT : Act.T a (ds.getD j 0) = u := by
            have := hR.slots (ent ds xs j) (by rw [hlv]; exact List.mem_append_left _ (List.mem_map.2 ⟨j, hjl, rfl⟩))
            have he : (ent ds xs j).2 = .v u := hu
            rw [he] at this
            exact this.1
          have htl : ds.getD j 0 < a.tmps.size := by rw [hR.size, hS.2.1]; exact Sg.ok_lt hjok
          have hy : yielded ops.toArray a.tmps j = boolOf u := by
            have hT' : a.tmps[ds.getD j 0] = u := by
              simp only [Act.T, Array.getD, htl, dif_pos] at hT; exact hT
            have hoj : ops.toArray[j]? = some ops[j] := by simp [show j < ops.length by omega]
            simp only [yielded, hoj, Option.bind_some, hjd, htl, Array.getElem?_eq_getElem, hT']
            cases u <;> rfl
          rcases hpi with ⟨hub, hpi⟩ | ⟨hub, hxu⟩
          · exact pure hpi (by simp [Region.wanted, hg, hy, hub, boolOf])
          · have hnw : ¬ Region.wanted ops[i] (yielded ops.toArray a.tmps) = true := by
              rcases hub with hub | hub
              · simp [Region.wanted, hg, hy, hub, boolOf]
              · simp [Region.wanted, hg, hy, hub, boolOf, undef]
            rw [if_neg hnw, hdo]
            obtain ⟨F', hR', _⟩ := hR.put (x := xs.getD i .junk) (val := undef) (φ := []) hS hoks hfr (Ext.refl _ _) (by simp) (by simp) (by rw [hxu]; exact ⟨rfl, rfl⟩)
            exact ih (i :: l) _ _ _ F' (by simp only [List.length_cons]; omega) hc' (by simp [hsz]) hcl' (fun j => by rw [hset listed i j hsz h1, hl j]; simp) hR'
  have hfalse : ∀ i, (Array.replicate ops.length false).getD i false = false := by
    intro i
    rw [Array.getD_eq_getD_getElem?]
    by_cases hi : i < ops.length <;> simp [hi]
  exact front ops.length [] _ a _ F (by simp) .nil (by simp) (fun i o _ h => by rw [hfalse i] at h; simp at h) (fun i => by rw [hfalse i]; simp) hR0
end
end Go.Vr
/- The value-level layer, part 18: type facts by computation. -/
namespace Go.Vr
open Go
set_option linter.unusedVariables false

def fldOf (P : Program) (t f : Nat) : Option (Nat × TypeId × Nat) :=
  match P.underlying t with
  | some (.struct fs) => (fs[f]?).bind fun fd => ((P.info? fd.type).map (·.size)).map fun n => (fd.offset, fd.type, n)
  | _ => none
theorem Fld.of {P : Program} {t f off n : Nat} {ft : TypeId} (h : fldOf P t f = some (off, ft, n)) : Fld P t f off ft n := by
  unfold fldOf at h
  split at h
  · rename_i fs hu
    cases hf : fs[f]? with
    | none => rw [hf] at h; simp at h
    | some fd =>
      rw [hf] at h
      simp only [Option.bind_some, Option.map_eq_some_iff] at h
      obtain ⟨m, ⟨i, hi, hm⟩, he⟩ := h
      injection he with h1 h2
      injection h2 with h2 h3
      subst h1 h2 h3
      exact ⟨⟨fs, fd, hu, hf, rfl, rfl, by rw [hi]; simp [hm]⟩⟩
  · simp at h
def stOf (P : Program) (t : Nat) : Option (List (Nat × Nat)) :=
  match P.underlying t with
  | some (.struct fs) => match fs.toList.all fun f => (P.info? f.type).isSome with
    | true => some (fs.toList.map (fun f => (f.offset, ((P.info? f.type).map (·.size)).getD 0)))
    | false => none
  | _ => none
theorem StL.of {P : Program} {t : Nat} {offs : List (Nat × Nat)} (h : stOf P t = some offs) : StL P t offs := by
  unfold stOf at h
  split at h
  · rename_i fs hu
    split at h
    · rename_i ha
      injection h with h
      exact ⟨⟨fs, hu, h, fun f hf => List.all_eq_true.1 ha f hf⟩⟩
    · simp at h
  · simp at h
end Go.Vr
/- The value-level layer, part 19: the rules in the short form that the printer of walks uses. -/
namespace Go.Vr
open Go
set_option linter.unusedVariables false
set_option linter.unusedSimpArgs false

mutual
def mvOk : PV → Bool
  | .v _ => true
  | .sh _ _ => true
  | .rbox _ => true
  | .agg cs => mvOkL cs
  | .tup cs => mvOkL cs
  | .clo _ cs => mvOkL cs
  | _ => false
def mvOkL : List PV → Bool
  | [] => true
  | c :: cs => mvOk c && mvOkL cs
end
mutual
theorem mvOk_flat : ∀ (x : PV), mvOk x = true → x.flat
  | .v _, _ => trivial
  | .sh _ _, _ => trivial
  | .rbox _, _ => trivial
  | .agg cs, h => by simp only [PV.flat]; exact mvOkL_flat cs h
  | .tup cs, h => by simp only [PV.flat]; exact mvOkL_flat cs h
  | .clo _ cs, h => by simp only [PV.flat]; exact mvOkL_flat cs h
  | .junk, h => by simp [mvOk] at h
  | .own _ _, h => by simp [mvOk] at h
  | .box _, h => by simp [mvOk] at h
  | .lv _ _, h => by simp [mvOk] at h
  | .pl _ _, h => by simp [mvOk] at h
theorem mvOkL_flat : ∀ (x : List PV), mvOkL x = true → PV.flatL x
  | [], _ => trivial
  | c :: cs, h => by
    simp only [mvOkL, Bool.and_eq_true] at h
    exact ⟨mvOk_flat c h.1, mvOkL_flat cs h.2⟩
end
theorem mvOk_ne {x : PV} (h : mvOk x = true) : x ≠ .junk := by intro e; subst e; simp [mvOk] at h
theorem mvOk_al {x : PV} (h : mvOk x = true) : x.alias = false := by cases x <;> first | rfl | simp [mvOk] at h
theorem mvOk_whole {x : PV} (h : mvOk x = true) : x.whole = true := by cases x <;> first | rfl | simp [mvOk] at h

theorem in64 {n : Int} (h1 : -9223372036854775808 ≤ n) (h2 : n ≤ 9223372036854775807) : IntKind.i64.min ≤ n ∧ n ≤ IntKind.i64.max := i64_in h1 h2
theorem in32 {n : Int} (h1 : -2147483648 ≤ n) (h2 : n ≤ 2147483647) : IntKind.i32.min ≤ n ∧ n ≤ IntKind.i32.max := by
  simp [IntKind.min, IntKind.max, IntKind.signed, IntKind.bits]; omega
theorem in16 {n : Int} (h1 : -32768 ≤ n) (h2 : n ≤ 32767) : IntKind.i16.min ≤ n ∧ n ≤ IntKind.i16.max := by
  simp [IntKind.min, IntKind.max, IntKind.signed, IntKind.bits]; omega
theorem inu8 {n : Int} (h1 : 0 ≤ n) (h2 : n ≤ 255) : IntKind.u8.min ≤ n ∧ n ≤ IntKind.u8.max := by
  simp [IntKind.min, IntKind.max, IntKind.signed, IntKind.bits]; omega
theorem inu32 {n : Int} (h1 : 0 ≤ n) (h2 : n ≤ 4294967295) : IntKind.u32.min ≤ n ∧ n ≤ IntKind.u32.max := by
  simp [IntKind.min, IntKind.max, IntKind.signed, IntKind.bits]; omega
theorem inu64 {n : Int} (h1 : 0 ≤ n) (h2 : n ≤ 18446744073709551615) : IntKind.u64.min ≤ n ∧ n ≤ IntKind.u64.max := by
  simp [IntKind.min, IntKind.max, IntKind.signed, IntKind.bits]; omega

section pure
variable {P : Program} {G : World → Prop} {o : Oper} {env : Env} {x : PV}
theorem pMv {y : Operand} (ho : o.op = .move y) (h : opd env y = x) (hx : mvOk x = true) : PureOp P G o env x := pure_move ho h (mvOk_ne hx) (mvOk_flat _ hx) (mvOk_al hx)
theorem pAs {y : Operand} (ho : o.op = .assign y) (h : opd env y = x) (hx : mvOk x = true) : PureOp P G o env x := pure_assign ho h (mvOk_ne hx) (mvOk_flat _ hx) (mvOk_al hx)
theorem pPt {c y z : Operand} {b : Bool} (ho : o.op = .pick c y z) (hc : opd env c = .v (.bool b)) (hb : b = true) (hy : opd env y = x) (hx : mvOk x = true) : PureOp P G o env x := pure_pick_t ho hc hb hy (mvOk_ne hx) (mvOk_flat _ hx) (mvOk_al hx)
theorem pPf {c y z : Operand} {b : Bool} (ho : o.op = .pick c y z) (hc : opd env c = .v (.bool b)) (hb : b = false) (hz : opd env z = x) (hx : mvOk x = true) : PureOp P G o env x := pure_pick_f ho hc hb hz (mvOk_ne hx) (mvOk_flat _ hx) (mvOk_al hx)
theorem pLen {T e : TypeId} {n m l : Nat} [hT : Ty P T (.slice e) n] {y : Operand} {els : List (List PV)} (ho : o.op = .call { callee := .builtin .len, args := #[y], argTypes := #[T] }) (h : opd env y = .sh m els) (hl : els.length = l) : PureOp P G o env (.v (.int .i64 l)) := by
  subst hl; exact pure_len_sh ho h
theorem pLenR {T e : TypeId} {n m l : Nat} [hT : Ty P T (.slice e) n] {t r : Nat} {q : List Step} {root : PV} {els : List (List PV)} (ho : o.op = .call { callee := .builtin .len, args := #[.tmp t], argTypes := #[T] })
    (h : refOf env t = some (r, q)) (hr : env.get r = root) (hroot : root.alias = false) (hat : root.at q = some (.own m els)) (hl : els.length = l) : PureOp P G o env (.v (.int .i64 l)) := by
  subst hl; exact pure_len_ref ho h hr hroot hat
theorem pIx {α : Type} [Inhabited α] {f : α → List PV} {xs : List α} {m : Nat} {T e : TypeId} {nt n : Nat} {k : TK} [hT : Ty P T (.slice e) nt] [he : Ty P e k n] {y z : Operand} {kk : IntKind} {i : Int} {cs : List PV}
    (ho : o.op = .indexAddr T y z) (hy : opd env y = .sh n (xs.map f)) (hz : opd env z = .v (.int kk i)) (hi : i = (m : Int)) (hm : m < xs.length) (hc : f (xs.getD m default) = cs) : PureOp P G o env (.rbox cs) := by
  refine pure_index_sh ho hy hz (by omega) ?_
  subst hi; subst hc
  simp [hm]
theorem pIxS {T e : TypeId} {nt n m : Nat} {k : TK} [hT : Ty P T (.slice e) nt] [he : Ty P e k n] {y z : Operand} {kk : IntKind} {i : Int} {els : List (List PV)} {cs : List PV}
    (ho : o.op = .indexAddr T y z) (hy : opd env y = .sh n els) (hz : opd env z = .v (.int kk i)) (hi : i = (m : Int)) (hcs : els[m]? = some cs) : PureOp P G o env (.rbox cs) := by
  subst hi; exact pure_index_sh ho hy hz (by omega) hcs
theorem pIxR {T e : TypeId} {nt n m : Nat} {k : TK} [hT : Ty P T (.slice e) nt] [he : Ty P e k n] {t r : Nat} {q q' : List Step} {root : PV} {z : Operand} {kk : IntKind} {i : Int} {els : List (List PV)}
    (ho : o.op = .indexAddr T (.tmp t) z) (h : refOf env t = some (r, q)) (hr : env.get r = root) (hroot : root.alias = false) (hat : root.at q = some (.own n els)) (hz : opd env z = .v (.int kk i))
    (hi : i = (m : Int)) (h1 : m < els.length) (hq : q ++ [⟨m, 0, n⟩] = q') : PureOp P G o env (.pl r q') := by
  subst hi; subst hq; exact pure_index_ref ho h hr hroot hat hz (by omega) (by omega)
theorem pMk {T e : TypeId} {n nt bytes : Nat} {k : TK} {cs : List PV} [hT : Ty P T (.slice e) nt] [he : Ty P e k n] [hz : ZerC P e cs bytes] {y y' : Operand} {kk kk' : IntKind} {i : Int} {m : Nat} (ho : o.op = .makeSlice T y y') (hy : opd env y = .v (.int kk i)) (hy' : opd env y' = .v (.int kk' i))
    (hi : i = (m : Int)) (hb : m * bytes ≤ 70368744177664) (hm : m ≤ 70368744177664) (hn : Nat.blt 0 n = true) (hc : Nat.beq cs.length n = true) : PureOp P G o env (.own n (List.replicate m cs)) := by
  subst hi
  have := pure_make (P := P) (G := G) (cs := cs) ho hy hy' (by omega) (by rw [← Int.natCast_mul]; exact Int.ofNat_le.2 hb) (by exact Int.ofNat_le.2 hm) hn hc
  rwa [Int.toNat_natCast] at this
end pure

theorem not_t {b : Bool} (h : (!b) = true) : b = false := by cases b; rfl; exact absurd h (by decide)
theorem not_f {b : Bool} (h : (!b) = false) : b = true := by cases b; exact absurd h (by decide); rfl
theorem bnot_ne {b w : Bool} (h : b = w) (h' : b = !w) : False := by subst h; cases b <;> exact absurd h' (by decide)
section code
variable {P : Program} {S : Sg} {Q : Exit → Env → Prop} {env : Env} {x y c : Code}
theorem vIf {c : Operand} {φ : Prop} [Decidable φ] (hc : opd env c = .v (.bool (decide φ))) (ht : φ → vp P S x Q env) (hf : ¬ φ → vp P S y Q env) : vp P S (.cond c x y) Q env :=
  vp_cond hc (fun h => ht (of_decide_eq_true h)) (fun h => hf (of_decide_eq_false h))
theorem vIfN {c : Operand} {φ : Prop} [Decidable φ] (hc : opd env c = .v (.bool (!decide φ))) (ht : ¬ φ → vp P S x Q env) (hf : φ → vp P S y Q env) : vp P S (.cond c x y) Q env :=
  vp_cond hc (fun h => ht (of_decide_eq_false (not_t h))) (fun h => hf (of_decide_eq_true (not_f h)))
theorem vIfB {c : Operand} {b : Bool} (hc : opd env c = .v (.bool b)) (ht : b = true → vp P S x Q env) (hf : b = false → vp P S y Q env) : vp P S (.cond c x y) Q env := vp_cond hc ht hf
theorem vIfBN {c : Operand} {b : Bool} (hc : opd env c = .v (.bool (!b))) (ht : b = false → vp P S x Q env) (hf : b = true → vp P S y Q env) : vp P S (.cond c x y) Q env :=
  vp_cond hc (fun h => ht (not_t h)) (fun h => hf (not_f h))
theorem vIfT {c : Operand} {b : Bool} (hc : opd env c = .v (.bool b)) (hb : b = true) (ht : vp P S x Q env) : vp P S (.cond c x y) Q env :=
  vp_cond hc (fun _ => ht) (fun h => absurd (hb.symm.trans h) (by decide))
theorem vIfF {c : Operand} {b : Bool} (hc : opd env c = .v (.bool b)) (hb : b = false) (hf : vp P S y Q env) : vp P S (.cond c x y) Q env :=
  vp_cond hc (fun h => absurd (hb.symm.trans h) (by decide)) (fun _ => hf)
theorem vCut {α : Type} (Φ : α → Prop) (E : α → Env) (hk : ∀ a, keysOk (E a) = true) (ha : ∀ a, noAlias (E a) = true) (h1 : vp P S x (thenQ (fun e => ∃ a, Φ a ∧ Weak e (E a)) Q) env) (h2 : ∀ a, Φ a → vp P S y Q (E a)) : vp P S (.seq x y) Q env :=
  vp_seq (vp_mono h1 fun e env hq => by
    cases e with
    | normal => obtain ⟨a, h, hw⟩ := hq; exact vp_weak _ hw (hk a) (ha a) (h2 a h)
    | _ => exact hq)
theorem vLoop {α : Type} (μ : α → Nat) (Φ : α → Prop) (E : α → Env) (hk : ∀ a, keysOk (E a) = true) (ha : ∀ a, noAlias (E a) = true) (a : α) (h0 : Φ a) (hw : Weak env (E a))
    (round : ∀ a, Φ a → vp P S c (thenQ (fun e => ∃ a', μ a' < μ a ∧ Φ a' ∧ Weak e (E a')) Q) (E a)) : vp P S (.loop c) Q env := by
  refine vp_loop (fun n e => ∃ a, μ a = n ∧ Φ a ∧ Weak e (E a)) (μ a) ⟨a, rfl, h0, hw⟩ ?_
  rintro n e ⟨a, rfl, hΦ, hw⟩
  refine vp_weak _ hw (hk a) (ha a) (vp_mono (round a hΦ) fun ex env hq => ?_)
  cases ex with
  | normal => obtain ⟨a', h1, h2, h3⟩ := hq; exact ⟨μ a', h1, a', rfl, h2, h3⟩
  | _ => exact hq
end code

section ops
variable {P : Program} {S : Sg} {Q : Exit → Env → Prop} {env : Env} {ops : Array Oper} {o : Oper} {rest : List Oper}
theorem vRun {t d j : Nat} {b want : Bool} (hg : o.guard = some (j, want)) (hj : ((ops[j]?).bind (·.dst)) = some t) (hb : env.get t = .v (.bool b)) (hbw : b = want) (ht : Nat.blt t S.N = true)
    (hd : o.dst = some d) (hok : S.ok d = true) (h1 : vpOps P S ops Q ({ o with guard := none } :: rest) env) : vpOps P S ops Q (o :: rest) env :=
  vpOps_guard hg hj hb ht hd hok (fun _ => h1) (fun h => (bnot_ne hbw h).elim)
theorem vPass {t d j : Nat} {b want : Bool} (hg : o.guard = some (j, want)) (hj : ((ops[j]?).bind (·.dst)) = some t) (hb : env.get t = .v (.bool b)) (hbw : b = !want) (ht : Nat.blt t S.N = true)
    (hd : o.dst = some d) (hok : S.ok d = true) (h2 : vpOps P S ops Q rest ((d, .v undef) :: env)) : vpOps P S ops Q (o :: rest) env :=
  vpOps_guard hg hj hb ht hd hok (fun h => (bnot_ne h hbw).elim) (fun _ => h2)
end ops

theorem gives_nil {env : Env} : ∀ g ∈ ([] : List Arg), GiveS env g := by simp
theorem gives_cons {env : Env} {g : Arg} {gs : List Arg} (h : GiveS env g) (h' : ∀ g ∈ gs, GiveS env g) : ∀ g' ∈ g :: gs, GiveS env g' := by
  intro g' hg
  rcases List.mem_cons.1 hg with e | hg
  · rw [e]; exact h
  · exact h' _ hg
theorem gC {env : Env} {z : Operand} {x : PV} (h : opd env z = x) (hx : mvOk x = true) : GiveS env ⟨z, x, none, none⟩ := give_copy h (mvOk_whole hx) (mvOk_flat _ hx)
end Go.Vr
/- The value-level layer, part 20: lists that are filled, elements that are stored, variables that are read out whole. -/
namespace Go.Vr
open Go
set_option linter.unusedVariables false
set_option linter.unusedSimpArgs false

theorem not_of_t {b : Bool} (h : b = true) : (!b) = false := by subst h; rfl
theorem not_of_f {b : Bool} (h : b = false) : (!b) = true := by subst h; rfl

section lists
variable {α β : Type}
theorem row_map [Inhabited α] {f : α → List PV} {xs : List α} {m j n : Nat} (h : m < xs.length) : (PV.own n (xs.map f)).rowOf [⟨m, j, n⟩] = some (f (xs.getD m default)) := by
  have : Nat.beq n n = true := Nat.beq_refl n
  simp only [PV.rowOf, PV.row, this]
  simp [h]
theorem view_map {f g : α → List PV} {xs : List α} {n : Nat} (h : ∀ x, PV.viewL (f x) = g x) : (PV.own n (xs.map f)).view = .sh n (xs.map g) := by
  simp only [PV.view, PV.viewE_eq, List.map_map]
  congr 1
  apply List.map_congr_left
  intro x _
  simp only [Function.comp]
  rw [← h, PV.viewL_eq]
theorem closedE_map {f : α → List PV} (h : ∀ x, PV.closedL (f x)) : ∀ (xs : List α), PV.closedE (xs.map f)
  | [] => trivial
  | x :: xs => ⟨h x, closedE_map h xs⟩

/-- The first i elements have been put in; behind them z. -/
def fillTo (f : α → β) (z : β) (xs : List α) (i : Nat) : List β := (xs.take i).map f ++ List.replicate (xs.length - i) z
theorem fillTo_length (f : α → β) (z : β) (xs : List α) (i : Nat) (h : i ≤ xs.length) : (fillTo f z xs i).length = xs.length := by simp [fillTo]; omega
theorem fillTo_zero (f : α → β) (z : β) (xs : List α) : fillTo f z xs 0 = List.replicate xs.length z := by simp [fillTo]
theorem fillTo_set [Inhabited α] (f : α → β) (z : β) (xs : List α) {i : Nat} (h : i < xs.length) : (fillTo f z xs i).set i (f (xs.getD i default)) = fillTo f z xs (i + 1) := by
  unfold fillTo
  have h1 : ((xs.take i).map f).length = i := by simp; omega
  have h3 : xs.length - i = (xs.length - (i + 1)) + 1 := by omega
  rw [h3, List.replicate_succ, List.set_append_right _ _ (by omega), h1, Nat.sub_self, List.set_cons_zero]
  rw [List.take_add_one, List.map_append, List.append_assoc]
  congr 1
  simp [h]
theorem fillTo_done (f : α → β) (z : β) (xs : List α) {i : Nat} (h : ¬ i < xs.length) : fillTo f z xs i = xs.map f := by
  unfold fillTo
  rw [List.take_of_length_le (by omega), show xs.length - i = 0 by omega]; simp
theorem map_rep {f : α → List PV} {n : Nat} {a : α} {cs : List PV} (h : f a = cs) : List.replicate n cs = (List.replicate n a).map f := by simp [h]
end lists

section pure
variable {P : Program} {G : World → Prop} {o : Oper} {env : Env} {x : PV}
theorem pMkM {T e : TypeId} {n nt bytes : Nat} {k : TK} {cs : List PV} {els : List (List PV)} [hT : Ty P T (.slice e) nt] [he : Ty P e k n] [hz : ZerC P e cs bytes] {y y' : Operand} {kk kk' : IntKind} {i : Int} {m : Nat} (ho : o.op = .makeSlice T y y') (hy : opd env y = .v (.int kk i)) (hy' : opd env y' = .v (.int kk' i))
    (hi : i = (m : Int)) (hb : m * bytes ≤ 70368744177664) (hm : m ≤ 70368744177664) (hn : Nat.blt 0 n = true) (hc : Nat.beq cs.length n = true) (hE : List.replicate m cs = els) : PureOp P G o env (.own n els) := by
  subst hE; exact pMk ho hy hy' hi hb hm hn hc
end pure

section ops
variable {P : Program} {S : Sg} {Q : Exit → Env → Prop} {env : Env} {ops : Array Oper} {o : Oper} {rest : List Oper}
theorem vSt {α : Type} [Inhabited α] {f : α → List PV} {xs : List α} {x' : α} {T : TypeId} {k : TK} {n n' m j : Nat} [ht : Ty P T k n'] {y r : Nat} {z : Operand} {x : PV} {cells : List PV} (ho : o.op = .store T (.tmp y) z) (hg : o.guard = none) (hd : o.dst = none)
    (hy : plOf env y = some (r, [⟨m, j, n⟩])) (hr : env.get r = .own n (xs.map f)) (hz : opd env z = x) (hx : mvOk x = true) (hc : x.cellsL = cells) (hone : oneL cells = true)
    (hn : Nat.beq cells.length n' = true) (hm : m < xs.length) (hfit : j + cells.length ≤ (f (xs.getD m default)).length) (hput : putAt (f (xs.getD m default)) j cells = f x')
    (h : vpOps P S ops Q rest ((r, .own n ((xs.set m x').map f)) :: env)) : vpOps P S ops Q (o :: rest) env :=
  vpOps_store ho hg hd hy hr rfl (row_map hm) hz (mvOk_whole hx) (mvOk_flat _ hx) hc hone hn hfit (show (PV.own n (xs.map f)).setRow m _ = .own n ((xs.set m x').map f) by simp only [PV.setRow, lastJ, hput, List.map_set]) rfl h
theorem vStO {α : Type} [Inhabited α] {f : α → List PV} {xs : List α} {x' : α} {T : TypeId} {k : TK} {n n' m j : Nat} [ht : Ty P T k n'] {y r t : Nat} {x : PV} {cells : List PV} (ho : o.op = .store T (.tmp y) (.tmp t)) (hg : o.guard = none) (hd : o.dst = none)
    (hy : plOf env y = some (r, [⟨m, j, n⟩])) (hr : env.get r = .own n (xs.map f)) (hz : env.get t = x) (hx : x.whole = true) (hc : x.cellsL = cells) (hone : oneL cells = true) (htr : Nat.beq t r = false)
    (hn : Nat.beq cells.length n' = true) (hm : m < xs.length) (hfit : j + cells.length ≤ (f (xs.getD m default)).length) (hput : putAt (f (xs.getD m default)) j cells = f x')
    (h : vpOps P S ops Q rest ((r, .own n ((xs.set m x').map f)) :: (t, .junk) :: env)) : vpOps P S ops Q (o :: rest) env :=
  vpOps_store_own ho hg hd hy hr rfl (row_map hm) hz hx hc hone htr hn hfit (show (PV.own n (xs.map f)).setRow m _ = .own n ((xs.set m x').map f) by simp only [PV.setRow, lastJ, hput, List.map_set]) rfl h

/-- A variable is read out whole, with what it owns, and not used again. -/
theorem vpOps_loadMove {T : TypeId} {k : TK} {n : Nat} [ht : Ty P T k n] (hk : k.agg = true) {t d : Nat} {cs : List PV} (ho : o.op = .load T (.tmp t)) (hg : o.guard = none) (hd : o.dst = some d) (hok : S.ok d = true) (hdt : Nat.beq d t = false) (htb : env.get t = .box cs) (hn : Nat.beq cs.length n = true)
    (h : vpOps P S ops Q rest ((d, .agg cs) :: (t, .junk) :: env)) : vpOps P S ops Q (o :: rest) env := by
  intro Γ a w Z F hS hR
  refine wpList_plain hg fun K hK => ?_
  obtain ⟨b, vs, ψ, h1, h2, h3, h4, h5⟩ : Rep w Z (.box cs) (Act.T a t) (F t) := hR.rep htb rfl
  have hl := RepL.length _ _ _ h4
  have hn' : cs.length = n := by simpa using hn
  have hnd := hR.fnodup t
  rw [h2] at hnd
  obtain ⟨F', hR'⟩ := hR.take hS (d := d) (t := t) (x := .agg cs) (y := .junk) (val := .agg vs.toArray) (ψ := ψ) (φ := []) hok (Nat.ne_of_beq_eq_false hdt) ⟨vs, rfl, h4⟩ rfl (by simpa using (List.nodup_cons.1 hnd).2) (fun b hb => by rw [h2]; simp at hb; simp [hb])
  have hev : a.eval (.tmp t) = .pointer (some ⟨b, 0, none⟩) := h1
  have hrun := run_loadAt_agg (P := P) (t := T) (k := k) (n := n) hk (by rw [hl, hn'] : vs.length = n) h5
  simp only [Oper.wp, execOp, ho, hev, run_bind, hrun, run_pure, Oper.upon]
  refine hK _ _ ?_
  rw [hd]
  exact h Γ _ _ _ _ hS hR'
end ops
end Go.Vr
/- The value-level layer, part 21: regions with an open order, in the short form that the printer of walks uses. -/
namespace Go.Vr
open Go
set_option linter.unusedVariables false

def pushAll : List Nat → List PV → Env → Env
  | d :: ds, x :: xs, env => pushAll ds xs ((d, x) :: env)
  | _, _, env => env
theorem pushAll_append : ∀ (ds : List Nat) (xs : List PV) (d : Nat) (x : PV) (env : Env), ds.length = xs.length → pushAll (ds ++ [d]) (xs ++ [x]) env = (d, x) :: pushAll ds xs env
  | [], [], _, _, _, _ => rfl
  | d' :: ds, x' :: xs, d, x, env, h => pushAll_append ds xs d x _ (by simpa using h)
  | [], _ :: _, _, _, _, h => by simp at h
  | _ :: _, [], _, _, _, h => by simp at h
theorem pushAll_eq (ds : List Nat) (xs : List PV) (env : Env) (h : ds.length = xs.length) : ∀ m, m ≤ xs.length → pushAll (ds.take m) (xs.take m) env = ((List.range m).reverse).map (ent ds xs) ++ env
  | 0, _ => by simp [pushAll]
  | m + 1, hm => by
    have ih := pushAll_eq ds xs env h m (by omega)
    rw [List.take_add_one, List.take_add_one, List.range_succ, List.reverse_append, List.reverse_singleton, List.singleton_append, List.map_cons, List.cons_append, ← ih]
    rw [List.getElem?_eq_getElem (show m < ds.length by omega), List.getElem?_eq_getElem (show m < xs.length by omega)]
    simp only [Option.toList_some]
    rw [pushAll_append _ _ _ _ _ (by simp; omega)]
    congr 1
    simp [ent, List.getElem?_eq_getElem (show m < ds.length by omega), List.getElem?_eq_getElem (show m < xs.length by omega)]

/-- Of the entries those whose bit is set, the last one first. -/
def maskEnv : Nat → List (Nat × PV) → Env → Env
  | _, [], acc => acc
  | m, e :: es, acc => maskEnv (m / 2) es (match Nat.beq (m % 2) 1 with | true => e :: acc | false => acc)
theorem maskEnv_append : ∀ (es : List (Nat × PV)) (m : Nat) (a b : Env), maskEnv m es (a ++ b) = maskEnv m es a ++ b
  | [], _, _, _ => rfl
  | e :: es, m, a, b => by
    simp only [maskEnv]
    cases Nat.beq (m % 2) 1
    · exact maskEnv_append es _ a b
    · exact maskEnv_append es _ (e :: a) b

/-- The places of the bits that are set, the last one first. -/
def bitsOf : Nat → Nat → Nat → List Nat → List Nat
  | 0, _, _, acc => acc
  | n + 1, m, i, acc => bitsOf n (m / 2) (i + 1) (match Nat.beq (m % 2) 1 with | true => i :: acc | false => acc)
theorem mem_bitsOf : ∀ (n m i : Nat) (acc : List Nat) (j : Nat), j ∈ bitsOf n m i acc ↔ j ∈ acc ∨ (i ≤ j ∧ j < i + n ∧ Nat.testBit m (j - i) = true)
  | 0, m, i, acc, j => by simp [bitsOf]; omega
  | n + 1, m, i, acc, j => by
    simp only [bitsOf]
    rw [mem_bitsOf n (m / 2) (i + 1)]
    have hb : (Nat.beq (m % 2) 1 = true) ↔ Nat.testBit m 0 = true := by simp [Nat.testBit_zero]
    have hs : ∀ k, Nat.testBit (m / 2) k = Nat.testBit m (k + 1) := fun k => by rw [Nat.testBit_succ]
    cases hc : Nat.beq (m % 2) 1
    · have h0 : Nat.testBit m 0 = false := by cases h : Nat.testBit m 0; rfl; rw [hb.2 h] at hc; simp at hc
      constructor
      · rintro (h | ⟨h1, h2, h3⟩)
        · exact .inl h
        · refine .inr ⟨by omega, by omega, ?_⟩
          rw [hs, show j - (i + 1) + 1 = j - i by omega] at h3; exact h3
      · rintro (h | ⟨h1, h2, h3⟩)
        · exact .inl h
        · refine .inr ⟨?_, by omega, ?_⟩
          · rcases Nat.lt_or_ge i j with h | h
            · omega
            · rw [show j - i = 0 by omega, h0] at h3; simp at h3
          · rw [hs]
            have : i < j := by
              rcases Nat.lt_or_ge i j with h | h
              · exact h
              · rw [show j - i = 0 by omega, h0] at h3; simp at h3
            rw [show j - (i + 1) + 1 = j - i by omega]; exact h3
    · have h0 := hb.1 hc
      constructor
      · rintro (h | ⟨h1, h2, h3⟩)
        · rcases List.mem_cons.1 h with rfl | h
          · exact .inr ⟨by omega, by omega, by rw [Nat.sub_self]; exact h0⟩
          · exact .inl h
        · refine .inr ⟨by omega, by omega, ?_⟩
          rw [hs, show j - (i + 1) + 1 = j - i by omega] at h3; exact h3
      · rintro (h | ⟨h1, h2, h3⟩)
        · exact .inl (List.mem_cons_of_mem _ h)
        · rcases Nat.eq_or_lt_of_le h1 with h | h
          · exact .inl (by rw [h]; exact List.mem_cons_self)
          · refine .inr ⟨by omega, by omega, ?_⟩
            rw [hs, show j - (i + 1) + 1 = j - i by omega]; exact h3
/-- What is ahead of an operation whose direct forerunners are ds. -/
def maskOf (ms : List Nat) : List Nat → Nat
  | [] => 0
  | d :: ds => (2 ^ d ||| ms.getD d 0) ||| maskOf ms ds
theorem maskOf_bit {ms : List Nat} : ∀ (ds : List Nat) (j : Nat), Nat.testBit (maskOf ms ds) j = true ↔ ∃ d ∈ ds, j = d ∨ Nat.testBit (ms.getD d 0) j = true
  | [], j => by simp [maskOf]
  | d :: ds, j => by
    simp only [maskOf, Nat.testBit_or, Bool.or_eq_true, maskOf_bit ds j, Nat.testBit_two_pow, decide_eq_true_eq]
    constructor
    · rintro ((h | h) | ⟨d', h1, h2⟩)
      · exact ⟨d, by simp, .inl h.symm⟩
      · exact ⟨d, by simp, .inr h⟩
      · exact ⟨d', by simp [h1], h2⟩
    · rintro ⟨d', h1, h2⟩
      rcases List.mem_cons.1 h1 with rfl | h1
      · exact .inl (h2.imp (fun h => h.symm) id)
      · exact .inr ⟨d', h1, h2⟩
/-- The masks are those of the operations. -/
def masksOf (ms : List Nat) : List Oper → List Nat → Bool
  | [], [] => true
  | o :: os, m :: r => Nat.beq m (maskOf ms (direct o)) && masksOf ms os r
  | _, _ => false
theorem masksOf_spec {ms : List Nat} : ∀ (os : List Oper) (r : List Nat), masksOf ms os r = true → os.length = r.length ∧ ∀ i o, os[i]? = some o → r.getD i 0 = maskOf ms (direct o)
  | [], [], _ => ⟨rfl, fun i o h => by simp at h⟩
  | o :: os, m :: r, h => by
    simp only [masksOf, Bool.and_eq_true] at h
    obtain ⟨h1, h2⟩ := masksOf_spec os r h.2
    refine ⟨by simp [h1], fun i o' ho => ?_⟩
    cases i with
    | zero => simp at ho; subst ho; simpa using h.1
    | succ i => simpa using h2 i o' (by simpa using ho)
  | [], _ :: _, h => by simp [masksOf] at h
  | _ :: _, [], h => by simp [masksOf] at h
def asOf (n : Nat) (ms : List Nat) : List (List Nat) := ms.map fun m => bitsOf n m 0 []
section
variable {ms : List Nat} {ops : List Oper} {n : Nat}
theorem mem_asOf {i j : Nat} (h : j ∈ (asOf n ms).getD i []) : j < n ∧ Nat.testBit (ms.getD i 0) j = true := by
  unfold asOf at h
  rw [List.getD_eq_getElem?_getD, List.getElem?_map] at h
  cases hm : ms[i]? with
  | none => rw [hm] at h; simp at h
  | some m =>
    rw [hm] at h
    have := (mem_bitsOf n m 0 [] j).1 (by simpa using h)
    simp only [List.not_mem_nil, false_or, Nat.sub_zero, Nat.zero_add] at this
    rw [List.getD_eq_getElem?_getD, hm]
    exact ⟨this.2.1, this.2.2⟩
theorem asOf_mem {i j : Nat} (hj : j < n) (h : Nat.testBit (ms.getD i 0) j = true) : j ∈ (asOf n ms).getD i [] := by
  unfold asOf
  rw [List.getD_eq_getElem?_getD, List.getElem?_map]
  cases hm : ms[i]? with
  | none => rw [List.getD_eq_getElem?_getD, hm] at h; simp at h
  | some m =>
    rw [List.getD_eq_getElem?_getD, hm] at h
    simp only [Option.map_some, Option.getD_some] at h ⊢
    exact (mem_bitsOf n m 0 [] j).2 (.inr ⟨by omega, by omega, by simpa using h⟩)
theorem masks_out {i : Nat} (hl : ops.length = ms.length) (h : ¬ i < ops.length) (j : Nat) : Nat.testBit (ms.getD i 0) j = false := by
  rw [List.getD_eq_getElem?_getD, List.getElem?_eq_none (by omega)]; simp
theorem masks_closed (hm : masksOf ms ops ms = true) (hf : fwdOk ops 0 = true) (T : Nat → Prop) (hT : ∀ i o, ops[i]? = some o → T i → ∀ j ∈ direct o, T j) : ∀ i, T i → ∀ j, Nat.testBit (ms.getD i 0) j = true → T j := by
  obtain ⟨hl, hs⟩ := masksOf_spec ops ms hm
  intro i
  induction i using Nat.strongRecOn with
  | _ i ih =>
    intro hi j hj
    rcases Nat.lt_or_ge i ops.length with h | h
    · rw [hs i ops[i] (by simp [h])] at hj
      obtain ⟨d, h1, h2⟩ := (maskOf_bit _ _).1 hj
      have hd := hT i _ (by simp [h]) hi d h1
      rcases h2 with rfl | h2
      · exact hd
      · have := fwdOk_spec ops 0 hf i h d h1
        exact ih d (by omega) hd j h2
    · rw [masks_out hl (by omega)] at hj; simp at hj
theorem masks_trans (hm : masksOf ms ops ms = true) (hf : fwdOk ops 0 = true) : ∀ i j k, Nat.testBit (ms.getD i 0) j = true → Nat.testBit (ms.getD j 0) k = true → Nat.testBit (ms.getD i 0) k = true := by
  obtain ⟨hl, hs⟩ := masksOf_spec ops ms hm
  intro i
  induction i using Nat.strongRecOn with
  | _ i ih =>
    intro j k hj hk
    rcases Nat.lt_or_ge i ops.length with h | h
    · rw [hs i ops[i] (by simp [h])] at hj ⊢
      obtain ⟨d, h1, h2⟩ := (maskOf_bit _ _).1 hj
      refine (maskOf_bit _ _).2 ⟨d, h1, .inr ?_⟩
      rcases h2 with rfl | h2
      · exact hk
      · have := fwdOk_spec ops 0 hf i h d h1
        exact ih d (by omega) j k h2 hk
    · rw [masks_out hl (by omega)] at hj; simp at hj
end

def dutyM (P : Program) (G : World → Prop) (i : Nat) (es : List (Nat × PV)) (env : Env) (o : Oper) (x : PV) (m : Nat) : Prop :=
  match o.guard with
  | none => PureOp P G o (maskEnv m es env) x
  | some (j, want) => ∃ u, (es.getD j (0, .junk)).2 = .v u ∧ (Nat.testBit m j && Nat.blt j i) = true ∧ ((u = .bool want ∧ PureOp P G o (maskEnv m es env) x) ∨ ((u = .bool (!want) ∨ u = undef) ∧ x = .v undef))
section
variable {P : Program} {G : World → Prop} {i : Nat} {es : List (Nat × PV)} {env : Env} {o : Oper} {x : PV} {m : Nat}
theorem dPure (hg : o.guard = none) (h : PureOp P G o (maskEnv m es env) x) : dutyM P G i es env o x m := by unfold dutyM; rw [hg]; exact h
theorem dRun {j : Nat} {b want : Bool} (hg : o.guard = some (j, want)) (hu : (es.getD j (0, .junk)).2 = .v (.bool b)) (hb : b = want) (ha : (Nat.testBit m j && Nat.blt j i) = true) (h : PureOp P G o (maskEnv m es env) x) : dutyM P G i es env o x m := by
  unfold dutyM; rw [hg]; exact ⟨_, hu, ha, .inl ⟨congrArg Value.bool hb, h⟩⟩
theorem dPass {j : Nat} {b want : Bool} (hg : o.guard = some (j, want)) (hu : (es.getD j (0, .junk)).2 = .v (.bool b)) (hb : b = !want) (ha : (Nat.testBit m j && Nat.blt j i) = true) (hx : x = .v undef) : dutyM P G i es env o x m := by
  unfold dutyM; rw [hg]; exact ⟨_, hu, ha, .inr ⟨.inl (congrArg Value.bool hb), hx⟩⟩
theorem dSkip {j : Nat} {want : Bool} (hg : o.guard = some (j, want)) (hu : (es.getD j (0, .junk)).2 = .v undef) (ha : (Nat.testBit m j && Nat.blt j i) = true) (hx : x = .v undef) : dutyM P G i es env o x m := by
  unfold dutyM; rw [hg]; exact ⟨_, hu, ha, .inr ⟨.inr rfl, hx⟩⟩
end
def pureM (P : Program) (G : World → Prop) (es : List (Nat × PV)) (env : Env) : Nat → List Oper → List (Nat × PV) → List Nat → Prop
  | _, [], _, _ => True
  | i, o :: os, e :: ys, m :: ms => dutyM P G i es env o e.2 m ∧ pureM P G es env (i + 1) os ys ms
  | _, _, _, _ => False

theorem pureM_all {P : Program} {G : World → Prop} {es : List (Nat × PV)} {env : Env} {as : List (List Nat)} {n : Nat} {all : List Nat} (has : as = asOf n all) (hn : es.length ≤ n) : ∀ (os : List Oper) (i : Nat) (ys : List (Nat × PV)) (ms : List Nat), pureM P G es env i os ys ms → (∀ j (h : j < ys.length), es[i + j]? = some ys[j]) → (∀ j (h : j < ms.length), maskEnv ms[j] es [] = (ancList as (i + j)).map (ent (es.map (·.1)) (es.map (·.2)))) → (∀ j (h : j < ms.length), all.getD (i + j) 0 = ms[j]) → pureAll P G as (es.map (·.1)) (es.map (·.2)) env os i
  | [], _, _, _, _, _, _, _ => trivial
  | o :: os, i, e :: ys, m :: ms, h, hx, ha, hall => by
    obtain ⟨h1, h2⟩ := h
    have ex := hx 0 (by simp)
    have ea := ha 0 (by simp)
    have el := hall 0 (by simp)
    simp only [Nat.add_zero, List.getElem_cons_zero] at ex ea el
    refine ⟨?_, pureM_all has hn os (i + 1) ys ms h2 (fun j hj => by have := hx (j + 1) (by simp; omega); rwa [show i + (j + 1) = i + 1 + j by omega] at this) (fun j hj => by have := ha (j + 1) (by simp; omega); rwa [show i + (j + 1) = i + 1 + j by omega] at this) (fun j hj => by have := hall (j + 1) (by simp; omega); rwa [show i + (j + 1) = i + 1 + j by omega] at this)⟩
    have e1 : (es.map (·.2)).getD i .junk = e.2 := by simp [ex]
    have e2 : maskEnv m es env = (ancList as i).map (ent (es.map (·.1)) (es.map (·.2))) ++ env := by rw [← ea]; exact maskEnv_append es m [] env
    unfold dutyM at h1
    unfold duty
    rw [e1, ← e2]
    cases hg : o.guard with
    | none => rw [hg] at h1; exact h1
    | some g =>
      obtain ⟨j, want⟩ := g
      rw [hg] at h1
      obtain ⟨u, g1, g2, g3⟩ := h1
      simp only [Bool.and_eq_true] at g2
      have hje : j < es.length := by
        apply Classical.byContradiction; intro hge
        rw [List.getD_eq_getElem?_getD, List.getElem?_eq_none (by omega)] at g1; simp at g1
      refine ⟨u, ?_, ?_, g2.2, g3⟩
      rotate_left
      · rw [has]
        have := asOf_mem (n := n) (ms := all) (i := i) (j := j) (by omega) (by rw [el]; exact g2.1)
        simpa using this
      rw [← g1]
      simp only [List.getD_eq_getElem?_getD, List.getElem?_map]
      cases es[j]? <;> rfl
  | _ :: _, _, [], _, h, _, _, _ => by simp [pureM] at h
  | _ :: _, _, _ :: _, [], h, _, _, _ => by simp [pureM] at h

def masksOk (as : List (List Nat)) (es : List (Nat × PV)) : Nat → List Nat → Prop
  | _, [] => True
  | i, m :: ms => maskEnv m es [] = (ancList as i).map (ent (es.map (·.1)) (es.map (·.2))) ∧ masksOk as es (i + 1) ms
theorem masksOk_spec {as : List (List Nat)} {es : List (Nat × PV)} : ∀ (i : Nat) (ms : List Nat), masksOk as es i ms → ∀ j (h : j < ms.length), maskEnv ms[j] es [] = (ancList as (i + j)).map (ent (es.map (·.1)) (es.map (·.2)))
  | i, [], _, j, h => by simp at h
  | i, m :: ms, ⟨h1, h2⟩, j, h => by
    cases j with
    | zero => exact h1
    | succ j => have := masksOk_spec (i + 1) ms h2 j (by simpa using h); rwa [show i + 1 + j = i + (j + 1) by omega] at this
theorem maskEnv_bits (all : List (Nat × PV)) : ∀ (es : List (Nat × PV)) (m i : Nat) (acc : List Nat), (∀ j (h : j < es.length), all[i + j]? = some es[j]) → maskEnv m es (acc.map (ent (all.map (·.1)) (all.map (·.2)))) = (bitsOf es.length m i acc).map (ent (all.map (·.1)) (all.map (·.2)))
  | [], _, _, _, _ => rfl
  | e :: es, m, i, acc, h => by
    have h0 := h 0 (by simp)
    simp only [Nat.add_zero, List.getElem_cons_zero] at h0
    have he : ent (all.map (·.1)) (all.map (·.2)) i = e := by simp [ent, h0]
    have ht : ∀ j (h : j < es.length), all[i + 1 + j]? = some es[j] := fun j hj => by
      have := h (j + 1) (by simp; omega)
      rwa [show i + (j + 1) = i + 1 + j by omega] at this
    simp only [maskEnv, bitsOf, List.length_cons]
    cases Nat.beq (m % 2) 1
    · exact maskEnv_bits all es _ _ acc ht
    · have := maskEnv_bits all es (m / 2) (i + 1) (i :: acc) ht
      simp only [List.map_cons, he] at this
      exact this
def masksB (as : List (List Nat)) (n : Nat) : Nat → List Nat → Bool
  | _, [] => true
  | i, m :: ms => (bitsOf n m 0 []).beq (ancList as i) && masksB as n (i + 1) ms
theorem masksB_ok {as : List (List Nat)} {es : List (Nat × PV)} : ∀ (i : Nat) (ms : List Nat), masksB as es.length i ms = true → masksOk as es i ms
  | _, [], _ => trivial
  | i, m :: ms, h => by
    simp only [masksB, Bool.and_eq_true] at h
    refine ⟨?_, masksB_ok (i + 1) ms h.2⟩
    have := maskEnv_bits es es m 0 [] (fun j hj => by simp [hj])
    rw [List.map_nil] at this
    rw [this]
    congr 1
    exact eq_of_beq h.1

theorem vRegD {P : Program} {S : Sg} {Q : Exit → Env → Prop} {env : Env} {id : Nat} {ops : List Oper} (n : Nat) (es : List (Nat × PV)) (ms : List Nat) (hm : P.follows .mixedOrders = true) (hln : Nat.beq es.length n = true) (hok : drawOk S ops n (es.map (·.1)) (asOf ops.length ms) = true) (hms : masksOf ms ops ms = true) (hmb : masksB (asOf ops.length ms) n 0 (ms.take n) = true)
    (hfree : envFree (es.map (·.1)) env = true) (hal : aliasOk (es.map (·.1)) (asOf ops.length ms) (es.map (·.2)) 0 = true)
    (hp : pureM P S.G es env 0 (ops.take n) es (ms.take n)) (h : vpOps P S ops.toArray Q (ops.drop n) (pushAll (es.map (·.1)) (es.map (·.2)) env)) : vp P S (.region id ops.toArray true) Q env := by
  have hl : es.length = n := by simpa using hln
  have hf : fwdOk ops 0 = true := by
    simp only [drawOk, Bool.and_eq_true] at hok; exact hok.2
  have hle : n ≤ ops.length := by
    simp only [drawOk, Bool.and_eq_true] at hok; exact Nat.le_of_ble_eq_true hok.1.1.1.1
  subst hl
  refine vp_region_draw es.length (es.map (·.1)) (es.map (·.2)) hm (asOf ops.length ms) (fun T hT i hi j hj => masks_closed hms hf T hT i hi j (mem_asOf hj).2) (fun i j hj k hk _ => asOf_mem (mem_asOf hk).1 (masks_trans hms hf i j k (mem_asOf hj).2 (mem_asOf hk).2))
    hok (by simp) (by simp) hfree hal (pureM_all rfl hle _ 0 _ _ hp (fun j hj => by simp [hj]) (masksOk_spec 0 _ (masksB_ok 0 _ hmb)) (fun j hj => by
      have hj' : j < ms.length := by simp at hj; omega
      simp [hj'])) ?_
  have := pushAll_eq (es.map (·.1)) (es.map (·.2)) env (by simp) es.length (by simp)
  rw [List.take_of_length_le (by simp), List.take_of_length_le (by simp)] at this
  rwa [← this]
end Go.Vr
/- The value-level layer, part 22: stores into variables, in the short form. -/
namespace Go.Vr
open Go
set_option linter.unusedVariables false

section ops
variable {P : Program} {S : Sg} {Q : Exit → Env → Prop} {env : Env} {ops : Array Oper} {o : Oper} {rest : List Oper}
theorem vStB {T : TypeId} {k : TK} {n j : Nat} [ht : Ty P T k n] {y r : Nat} {z : Operand} {x : PV} {row cells row' : List PV} (ho : o.op = .store T (.tmp y) z) (hg : o.guard = none) (hd : o.dst = none)
    (hy : plOf env y = some (r, [⟨0, j, 0⟩])) (hr : env.get r = .box row) (hz : opd env z = x) (hx : mvOk x = true) (hc : x.cellsL = cells) (hone : oneL cells = true)
    (hn : Nat.beq cells.length n = true) (hfit : Nat.ble (j + cells.length) row.length = true) (hput : putAt row j cells = row')
    (h : vpOps P S ops Q rest ((r, .box row') :: env)) : vpOps P S ops Q (o :: rest) env :=
  vpOps_store ho hg hd hy hr rfl rfl hz (mvOk_whole hx) (mvOk_flat _ hx) hc hone hn (Nat.le_of_ble_eq_true hfit) (by subst hput; rfl) rfl h
theorem vStBO {T : TypeId} {k : TK} {n j : Nat} [ht : Ty P T k n] {y r t : Nat} {x : PV} {row cells row' : List PV} (ho : o.op = .store T (.tmp y) (.tmp t)) (hg : o.guard = none) (hd : o.dst = none)
    (hy : plOf env y = some (r, [⟨0, j, 0⟩])) (hr : env.get r = .box row) (hz : env.get t = x) (hx : x.whole = true) (hc : x.cellsL = cells) (hone : oneL cells = true) (htr : Nat.beq t r = false)
    (hn : Nat.beq cells.length n = true) (hfit : Nat.ble (j + cells.length) row.length = true) (hput : putAt row j cells = row')
    (h : vpOps P S ops Q rest ((r, .box row') :: (t, .junk) :: env)) : vpOps P S ops Q (o :: rest) env :=
  vpOps_store_own ho hg hd hy hr rfl rfl hz hx hc hone htr hn (Nat.le_of_ble_eq_true hfit) (by subst hput; rfl) rfl h
end ops
theorem putAt_full {row cells : List PV} (h : row.length = cells.length) : putAt row 0 cells = cells := by simp [putAt, h]
theorem dec_t {φ : Prop} [Decidable φ] (h : φ) : PV.v (.bool true) = .v (.bool (decide φ)) := by simp [h]
theorem dec_f {φ : Prop} [Decidable φ] (h : ¬ φ) : PV.v (.bool false) = .v (.bool (decide φ)) := by simp [h]
theorem dec_not {φ ψ : Prop} [Decidable φ] [Decidable ψ] (h : ¬ φ ↔ ψ) : PV.v (.bool (!decide φ)) = .v (.bool (decide ψ)) := by by_cases hp : φ <;> simp_all
theorem dec_i {φ ψ : Prop} [Decidable φ] [Decidable ψ] (h : φ ↔ ψ) : PV.v (.bool (decide φ)) = .v (.bool (decide ψ)) := by simp [h]
end Go.Vr
namespace Go.Vr
open Go
section
variable {P : Program} {S : Sg} {Q : Exit → Env → Prop} {env : Env} {ops : Array Oper} {o : Oper} {rest : List Oper}
theorem lohi_some {env : Env} {z : Operand} {i : Int} (h : ∃ k, opd env z = .v (.int k i)) : lohi env (some z) 0 = some i := by
  obtain ⟨k, h⟩ := h; simp [lohi, h]
theorem vSlLo {α : Type} {f : α → List PV} {xs : List α} {T e n m l : Nat} {i : Int} {kk : IntKind} [hT : Ty P T (.slice e) n] {k : TK} [he : Ty P e k m] {t d : Nat} {z : Operand} (ho : o.op = .slice T (.tmp t) (some z) none none) (hg : o.guard = none) (hd : o.dst = some d) (hok : S.ok d = true)
    (hdt : Nat.beq d t = false) (ht : env.get t = .own m (xs.map f)) (hz : opd env z = .v (.int kk i)) (hi : i = (l : Int)) (hl : l ≤ xs.length)
    (hk : vpOps P S ops Q rest ((d, .own m ((xs.drop l).map f)) :: (t, .junk) :: env)) : vpOps P S ops Q (o :: rest) env := by
  subst hi
  refine vpOps_slice (l := l) (h := ((xs.map f).length : Nat)) ho hg hd hok hdt ht (by simp [lohi, hz]) rfl (by omega) (by rw [List.length_map]; omega) (Int.le_refl _) ?_ hk
  rw [List.map_drop, Int.toNat_natCast, List.take_of_length_le (by simp; done)]
end
theorem pSlSh {α : Type} {P : Program} {G : World → Prop} {o : Oper} {env : Env} {f : α → List PV} {xs : List α} {T e n m l h : Nat} {i j : Int} [hT : Ty P T (.slice e) n] {k : TK} [he : Ty P e k m] {y : Operand} {lo hi : Option Operand} (ho : o.op = .slice T y lo hi none) (hy : opd env y = .sh m (xs.map f))
    (hl : lohi env lo 0 = some i) (hh : lohi env hi (xs.map f).length = some j) (hi' : i = (l : Int)) (hj' : j = (h : Int)) (h1 : l ≤ h) (h2 : h ≤ xs.length) : PureOp P G o env (.sh m (((xs.drop l).take (h - l)).map f)) := by
  subst hi' hj'
  refine pure_slice_sh (l := l) (h := h) ho hy hl hh (by omega) (by omega) (by simp; omega) ?_
  rw [List.map_take, List.map_drop, Int.toNat_natCast, show ((h : Int) - l).toNat = h - l by omega]
end Go.Vr
/- The value-level layer, part 23: bytes and strings. -/
namespace Go.Vr
open Go
set_option linter.unusedVariables false

def u8c (x : Int) : List PV := [.v (.int .u8 x)]
/-- The string of these bytes. -/
def strOf (xs : List Int) : ByteArray := xs.foldl (fun r n => r.push (UInt8.ofNat n.toNat)) ByteArray.empty
theorem strOf_go (xs : List Int) (s : ByteArray) : (xs.foldl (fun r n => r.push (UInt8.ofNat n.toNat)) s).data.toList = s.data.toList ++ xs.map fun x => UInt8.ofNat x.toNat := by
  induction xs generalizing s with
  | nil => simp
  | cons x xs ih => simp [ih]
theorem strOf_list (xs : List Int) : (strOf xs).data.toList = xs.map fun x => UInt8.ofNat x.toNat := by
  unfold strOf; rw [strOf_go]; simp
theorem strOf_size (xs : List Int) : (strOf xs).size = xs.length := by
  have := congrArg List.length (strOf_list xs)
  simpa using this

theorem RepE_u8 {w : World} {Z : Blocks} : ∀ {xs : List Int} {vss : List (List Value)} {φ : List Nat}, RepE w Z 1 (xs.map u8c) vss φ → vss.flatten = xs.map (Value.int .u8)
  | [], _, _, ⟨rfl, _⟩ => rfl
  | x :: xs, _, _, ⟨vs, vss', φ₁, φ₂, rfl, _, _, h, h'⟩ => by
    obtain ⟨v, vs', _, _, rfl, _, ⟨rfl, _⟩, ⟨rfl, _⟩⟩ := h
    simp [RepE_u8 h']

section
variable {P : Program} {G : World → Prop} {o : Oper} {env : Env}
theorem pConvStr {s d e : TypeId} {ns nd ne : Nat} [hs : Ty P s (.slice e) ns] [hd : Ty P d .str nd] [he : Ty P e (.int .u8) ne] {t r : Nat} {q : List Step} {root : PV} {xs : List Int} {els : List (List PV)} (ho : o.op = .convert s d (.tmp t)) (h : refOf env t = some (r, q)) (hr : env.get r = root) (hroot : root.alias = false)
    (hat : root.at q = some (.own 1 els)) (hE : els = xs.map u8c) : PureOp P G o env (.v (.string (strOf xs))) := .of_val fun Γ a w Z F _ hR => by
  subst hE
  obtain ⟨φ, h1, _⟩ := hR.ref h hr hroot (by intro e; subst e; cases q with
    | nil => simp [PV.at] at hat
    | cons s p => simp [PV.at, junk_rowOf] at hat) hat
  obtain ⟨d1, g1, g2⟩ := und_of_tk hs.k
  cases d1 <;> simp [tk] at g2
  rw [g2] at g1
  obtain ⟨d2, g3, g4⟩ := und_of_tk hd.k
  cases d2 <;> simp [tk] at g4
  obtain ⟨d3, g5, g6⟩ := und_of_tk he.k
  cases d3 <;> simp [tk] at g6
  rw [g6] at g5
  rcases h1 with ⟨h2, h3, _⟩ | ⟨b, o', cap, vss, ψ, h3, _, _, _, h5, h6⟩
  · have hx : xs = [] := by simpa using h2
    subst hx
    have hev : a.eval (.tmp t) = .slice none 0 0 := h3
    refine ⟨.string (strOf []), ?_, rfl, rfl⟩
    simp only [execOp, ho, hev, run_bind, run_convert_bytes_string w s d e none 0 0 g1 g5 g3]
    simp [Conv.bytesToString, strOf]
  · have hev : a.eval (.tmp t) = .slice (some ⟨b, o', none⟩) (xs.map u8c).length cap := h3
    refine ⟨.string (strOf xs), ?_, rfl, rfl⟩
    have hv := RepE_u8 h5
    rw [hv] at h6
    have hl := run_loadCells (P := P) _ h6
    rw [List.length_map] at hl
    have := run_bytesToString (P := P) w ⟨b, o', none⟩ (xs.map u8c).length cap xs (by rw [List.length_map]; exact hl)
    simp only [execOp, ho, hev, run_bind, run_convert_bytes_string w s d e (some ⟨b, o', none⟩) _ cap g1 g5 g3, this]
    rfl
theorem pQuoN {T T' : TypeId} {y z : Operand} {k : IntKind} {p q : Int} (ho : o.op = .binOp .quo T y z T') (hy : opd env y = .v (.int k p)) (hz : opd env z = .v (.int k q)) (h0 : 0 ≤ p) (hq : 0 < q) (h : k.min ≤ p / q ∧ p / q ≤ k.max) : PureOp P G o env (.v (.int k (p / q))) := by
  have := pure_quo (P := P) (G := G) ho hy hz (by omega)
  rwa [Int.tdiv_eq_ediv_of_nonneg h0, wrap_in h] at this
theorem pRemN {T T' : TypeId} {y z : Operand} {k : IntKind} {p q : Int} (ho : o.op = .binOp .rem T y z T') (hy : opd env y = .v (.int k p)) (hz : opd env z = .v (.int k q)) (h0 : 0 ≤ p) (hq : 0 < q) : PureOp P G o env (.v (.int k (p % q))) := by
  have := pure_rem (P := P) (G := G) ho hy hz (by omega)
  rwa [Int.tmod_eq_emod_of_nonneg h0] at this
end
/-- The decimal numeral. -/
def decimal (n : Nat) : ByteArray := if n < 10 then strOf [48 + ((n % 10 : Nat) : Int)] else decimal (n / 10) ++ strOf [48 + ((n % 10 : Nat) : Int)]
theorem decimal_lt {v : Int} (h0 : 0 ≤ v) (h : v < 10) : strOf [48 + v % 10] = decimal v.toNat := by
  rw [decimal, if_pos (by omega)]; congr 3; omega
theorem decimal_ge {v : Int} (h0 : 0 ≤ v) (h : ¬ v < 10) : decimal (v / 10).toNat ++ strOf [48 + v % 10] = decimal v.toNat := by
  conv => rhs; rw [decimal]
  rw [if_neg (by omega), show (v / 10).toNat = v.toNat / 10 by omega]; congr 4; omega
theorem decimal_size (k : Nat) : ∀ n, n < 10 ^ (k + 1) → (decimal n).size ≤ k + 1 := by
  induction k with
  | zero => intro n h; rw [decimal, if_pos (by simpa using h), strOf_size]; simp
  | succ k ih =>
    intro n h
    rw [decimal]
    split
    · rw [strOf_size]; simp
    · rw [ByteArray.size_append, strOf_size]
      have := ih (n / 10) (by rw [Nat.pow_succ] at h; omega)
      simp only [List.length_cons, List.length_nil]; omega
theorem decimal_20 {v : Int} (h : v ≤ 9223372036854775807) : (decimal v.toNat).size ≤ 20 := by
  have h10 : (10 : Nat) ^ (19 + 1) = 100000000000000000000 := by decide
  exact decimal_size 19 _ (by omega)

def flatsB : List (Nat × PV) → Bool
  | [] => true
  | p :: l => mvOk p.2 && flatsB l
theorem flatsB_ok : ∀ {l : List (Nat × PV)}, flatsB l = true → flatsOk l
  | [], _ => trivial
  | (_, x) :: l, h => by
    simp only [flatsB, Bool.and_eq_true] at h
    exact ⟨mvOk_flat _ h.1, flatsB_ok h.2⟩
theorem pBs {P : Program} {G : World → Prop} {o : Oper} {env : Env} {T e : TypeId} {m n nt bytes : Nat} {k : TK} {zs cs : List PV} {els : List (List PV)} [hT : Ty P T (.slice e) nt] [he : Ty P e k n] [hz : ZerC P e zs bytes] {parts : Array (Nat × Operand)} (ho : o.op = .buildSlice T m parts) (hf : flatsB (flatOpds env parts.toList) = true)
    (hn : Nat.beq zs.length n = true) (hn0 : Nat.blt 0 n = true) (hm : Nat.ble (m * n) 16777216 = true) (h : fillPV (fun i => some (i * n, n)) (List.replicate m zs).flatten (flatOpds env parts.toList) = some cs) (hE : chunk n m cs = els) : PureOp P G o env (.own n els) := by
  subst hE; exact pure_buildSlice ho (flatsB_ok hf) hn hn0 hm h
end Go.Vr
/- The value-level layer, part 24: append, in the short form. -/
namespace Go.Vr
open Go
set_option linter.unusedVariables false

section ops
variable {P : Program} {S : Sg} {Q : Exit → Env → Prop} {env : Env} {ops : Array Oper} {o : Oper} {rest : List Oper}
theorem vApp {α : Type} {f : α → List PV} {xs ys : List α} {l : Nat} {T T' e n nt bytes nt' : Nat} {k k' : TK} {zs : List PV} [hT : Ty P T (.slice e) nt] [he : Ty P e k n] [hz : ZerC P e zs bytes] [hT' : Ty P T' k' nt'] {t d : Nat} {z : Operand} {C : List Nat}
    (ho : o.op = .call { callee := .builtin .append, args := #[.tmp t, z], argTypes := #[T, T'] }) (hg : o.guard = none) (hd : o.dst = some d) (hok : S.ok d = true) (ht : env.get t = .own n (xs.map f)) (hsrc : Source P env z n (ys.map f) C)
    (hdt : Nat.beq d t = false) (hC : nodupB (t :: d :: C) = true) (hone : ∀ x, oneL (f x) = true) (hk' : (∃ e', k' = .slice e') ∨ k' = .str) (hn : Nat.beq zs.length n = true) (hn0 : Nat.blt 0 n = true) (hby : Nat.ble bytes 1048576 = true)
    (hl : ys.length = l) (hb : (xs.length + l) * bytes ≤ 70368744177664) (hm : xs.length + l ≤ 70368744177664)
    (h : vpOps P S ops Q rest ((d, .own n ((xs ++ ys).map f)) :: (t, .junk) :: (C.map (fun c => (c, PV.junk)) ++ env))) : vpOps P S ops Q (o :: rest) env := by
  subst hl
  refine vpOps_append ho hg hd hok ht hsrc hdt (nodupB_nodup hC) (one_map hone ys) hk' hn hn0 hby (by simpa using hb) (by simpa using hm) ?_
  rw [← List.map_append]; exact h
theorem srcOwn {α : Type} {f : α → List PV} {ys : List α} {t n : Nat} {els : List (List PV)} (h : env.get t = .own n els) (hE : els = ys.map f) (hf : ∀ x, PV.flatL (f x)) : Source P env (.tmp t) n (ys.map f) [] := by
  subst hE
  exact source_ref (t := t) (r := t) (q := []) (root := .own n (ys.map f)) (by simp [refOf, h]) h rfl rfl (flat_map hf ys)
theorem srcSh {α : Type} {f : α → List PV} {ys : List α} {z : Operand} {n : Nat} (h : opd env z = .sh n (ys.map f)) : Source P env z n (ys.map f) [] := source_sh h
end ops
end Go.Vr
/- The value-level layer, part 25: contracts of the library, told by value. -/
namespace Go.Vr
open Go Go.Sort
set_option linter.unusedVariables false

theorem quiet_grow (w : World) (k : Nat) (os : Array Obj) : Quiet w (grow (w.drewN k) os) := by
  refine ⟨rfl, rfl, rfl, by simp [grow, World.drewN], fun b hb => ?_⟩
  show (w.heap ++ os)[b]? = w.heap[b]?
  rw [Array.getElem?_append_left hb]

theorem RepL_imm {w : World} {Z : Blocks} : ∀ {xs vs : List Value} {φ : List Nat}, RepL w Z (xs.map .v) vs φ → vs = xs ∧ φ = []
  | [], _, _, ⟨rfl, rfl⟩ => ⟨rfl, rfl⟩
  | x :: xs, _, _, ⟨v, vs', φ₁, φ₂, h1, h2, ⟨h3, h4⟩, h⟩ => by
    obtain ⟨h5, h6⟩ := RepL_imm h
    subst h1 h2 h3 h4 h5 h6
    exact ⟨rfl, rfl⟩
theorem RepL_junk {w : World} {Z : Blocks} : ∀ (vs : List Value), RepL w Z (vs.map fun _ => .junk) vs []
  | [] => ⟨rfl, rfl⟩
  | v :: vs => ⟨v, vs, [], [], rfl, rfl, rfl, RepL_junk vs⟩

/-- Immediate arguments, an immediate result, and nothing that was there has turned. -/
theorem callsV_imm {P : Program} {G : World → Prop} {f : FuncId} {xs : List Value} {v : Value} (h : ∀ w, G w → Calls P f xs.toArray w fun e w' => e = .returned v ∧ Quiet w w') :
    CallsV P G f (xs.map .v) (fun r outs => r = .v v ∧ outs = xs.map fun _ => .junk) := by
  intro w Zs Zf vals φ hz hzl hrep hnd hφ hG
  obtain ⟨rfl, rfl⟩ := RepL_imm hrep
  refine (h w (hG w (Ext.refl _ _))).mono ?_
  rintro e w' ⟨rfl, hq⟩
  refine ⟨.v v, vals.map (fun _ => .junk), v, [], Zs, rfl, ⟨rfl, rfl⟩, hq.anti hzl, fun _ h => h, fun b hb => ⟨.inl hb, Nat.lt_of_lt_of_le (hzl b (hz b hb)) hq.size⟩, ?_, by simp, by simp⟩
  exact ⟨v, vals, [], [], rfl, rfl, ⟨rfl, rfl⟩, RepL_junk vals⟩
end Go.Vr
/- The value-level layer, part 26: from a contract by value to a row. -/
namespace Go.Vr
open Go Go.RowKit
set_option linter.unusedVariables false
/-- A contract over arguments that are only read, in a world that holds them: the result, and below the heap's end nothing has turned. -/
theorem CallsV.close {P : Program} {G : World → Prop} {f : FuncId} {args : List PV} {post : PV → List PV → Prop} {x : Value} (h : CallsV P G f args post) (hp : ∀ r outs, post r outs → r = .v x) {w : World} {vals : List Value}
    (hrep : RepL w (fun b => b < w.heap.size) args vals []) (hG : ∀ w', Ext (fun b => b < w.heap.size) w w' → G w') :
    Calls P f vals.toArray w fun e w' => e = .returned x ∧ Below w.heap.size w w' := by
  refine (h w (fun b => b < w.heap.size) (fun b => b < w.heap.size) vals [] (fun _ h => h) (fun _ h => h) hrep (by simp) (by simp) hG).mono ?_
  rintro e w' ⟨r, outs, v, ψ, Zs', rfl, hpo, hE, _, _, hR, _, _⟩
  obtain ⟨v', vs', φ₁, φ₂, h1, _, h2, _⟩ := hR
  have := hp _ _ hpo
  subst this
  obtain ⟨h3, _⟩ := h2
  have : v = v' := by injection h1
  refine ⟨by rw [this, h3], ⟨hE.os, hE.tape, hE.output, hE.size, hE.agree⟩⟩
end Go.Vr
/- The value-level layer, part 27: what an argument that can be read stands for. -/
namespace Go.Vr
open Go
set_option linter.unusedVariables false

/-- Whatever of type t can be read stands for some a, written by f. -/
structure Opens (P : Program) (t : TypeId) {α : Type} (f : α → List PV) (wf : α → Prop) : Prop where
  go : ∀ {H : Type} (enc : TypeId × Value → H) (w : World) (sp : Nat → Bool) (held : Bool) (fuel : Nat) (cs : List Value) (x : DataW H × List MemPlace), DataW.trod enc P w 0 sp held fuel t cs = some x → ∃ a, wf a ∧ RepL w (fun b => b < w.heap.size) (f a) cs []

theorem opens_int {P : Program} {t : TypeId} {k : IntKind} (ht : P.underlying t = some (.int k)) : Opens P t (fun x : Int => [.v (.int k x)]) (fun x => k.min ≤ x ∧ x ≤ k.max) := by
  refine ⟨?_⟩
  intro H enc w sp held fuel cs x h
  obtain ⟨n, rfl, _, hw⟩ := DataW.trod_int ht h
  refine ⟨n, ?_, ⟨_, _, [], [], rfl, rfl, ⟨rfl, rfl⟩, rfl, rfl⟩⟩
  simpa [Lit.wf] using hw

theorem mapM_some {α β : Type} (g : α → Option β) : ∀ (l : List α) (r : List β), l.mapM g = some r → r.length = l.length ∧ ∀ i (h : i < l.length) (h' : i < r.length), g l[i] = some r[i]
  | [], r, h => by simp at h; subst h; exact ⟨rfl, fun i h => by simp at h⟩
  | a :: l, r, h => by
    simp only [List.mapM_cons, Option.bind_eq_bind, Option.bind_eq_some_iff, Option.pure_def, Option.some.injEq] at h
    obtain ⟨b, hb, r', hr', rfl⟩ := h
    obtain ⟨h1, h2⟩ := mapM_some g l r' hr'
    refine ⟨by simp [h1], fun i h h' => ?_⟩
    cases i with
    | zero => exact hb
    | succ i => exact h2 i (by simpa using h) (by simpa using h')
theorem cell_block {w : World} {a : Addr} {v : Value} (h : w.cell? a = some v) : a.block < w.heap.size ∧ a.spot = none := by
  unfold World.cell? at h
  split at h
  · rename_i c _ _ hh
    refine ⟨(Array.getElem?_eq_some_iff.1 hh).1, ?_⟩
    split at h
    · simp at h
    · rename_i hs; cases hx : a.spot with
      | none => rfl
      | some s => rw [hx] at hs; simp at hs
  · simp at h

theorem cells_some {w : World} {a : Addr} {n : Nat} {cs : List Value} (h : w.cells? 0 a n = some cs) : cs.length = n ∧ ∀ j (hj : j < cs.length), w.cell? (a.add j) = some cs[j] := by
  unfold World.cells? at h
  rw [if_pos (Nat.zero_le _)] at h
  obtain ⟨h1, h2⟩ := mapM_some _ _ _ h
  simp only [List.length_range] at h1
  refine ⟨h1, fun j hj => ?_⟩
  have := h2 j (by simpa [h1] using hj) hj
  simpa using this
theorem add_add (a : Addr) (m n : Nat) : (a.add m).add n = a.add (m + n) := by
  simp only [Addr.add]
  by_cases hm : m = 0
  · subst hm; simp
  · by_cases hn : n = 0
    · subst hn; simp
    · simp [hm, hn, Nat.add_assoc]
theorem opens_slice {P : Program} {t e : TypeId} {α : Type} {f : α → List PV} {wf : α → Prop} {n : Nat} (ht : P.underlying t = some (.slice e)) (hn : P.cellsOf e = n) (hn0 : 0 < n) (h : Opens P e f wf) (hf : ∀ a, (f a).length = n) :
    Opens P t (fun xs : List α => [.sh n (xs.map f)]) (fun xs => xs.length ≤ maxLen ∧ ∀ a ∈ xs, wf a) := by
  refine ⟨?_⟩
  intro H enc w sp held fuel cs x hx
  rcases DataW.trod_slice ht hx with ⟨rfl, _⟩ | ⟨a, len, cap, elems, rest, m, _, rfl, _, _, hl, hm, hlen, hel, _, _⟩
  · exact ⟨[], ⟨Nat.zero_le _, by simp⟩, ⟨_, _, [], [], rfl, rfl, ⟨rfl, .inl ⟨rfl, none, 0, rfl⟩⟩, rfl, rfl⟩⟩
  · have key : ∀ k, k ≤ len → ∃ (as : List α) (vss : List (List Value)), as.length = k ∧ (∀ a ∈ as, wf a) ∧ RepE w (fun b => b < w.heap.size) n (as.map f) vss [] ∧ vss.flatten.length = k * n ∧ ∀ j (hj : j < vss.flatten.length), w.cell? (a.add j) = some vss.flatten[j] := by
      intro k
      induction k with
      | zero => intro _; exact ⟨[], [], rfl, by simp, ⟨rfl, rfl⟩, by simp, fun j hj => by simp at hj⟩
      | succ k ih =>
        intro hk
        obtain ⟨as, vss, h1, h2, h3, h4, h5⟩ := ih (by omega)
        have he := hel k (by omega)
        rw [List.getElem?_eq_getElem (by omega), Option.bind_eq_some_iff] at he
        obtain ⟨ci, hc, ht'⟩ := he
        obtain ⟨a', hw, hr⟩ := h.go enc w sp held m ci _ ht'
        rw [hn] at hc
        obtain ⟨c1, c2⟩ := cells_some hc
        have hci : ci.length = n := c1
        refine ⟨as ++ [a'], vss ++ [ci], by simp [h1], ?_, ?_, ?_, ?_⟩
        · intro b hb
          rcases List.mem_append.1 hb with hb | hb
          · exact h2 b hb
          · simp at hb; rw [hb]; exact hw
        · rw [List.map_append]
          exact RepE_append.2 ⟨vss, [ci], [], [], rfl, rfl, h3, ⟨ci, [], [], [], rfl, rfl, hf a', hr, rfl, rfl⟩⟩
        · simp only [List.flatten_append, List.length_append, h4, List.flatten_cons, List.flatten_nil, List.append_nil, hci]
          rw [Nat.add_mul, Nat.one_mul]
        · intro j hj
          simp only [List.flatten_append, List.flatten_cons, List.flatten_nil, List.append_nil] at hj ⊢
          by_cases hjk : j < vss.flatten.length
          · rw [List.getElem_append_left hjk]; exact h5 j hjk
          · rw [List.getElem_append_right (by omega)]
            have hj' : j < vss.flatten.length + ci.length := by rw [← List.length_append]; exact hj
            have := c2 (j - vss.flatten.length) (by omega)
            rw [← this]
            have hjk' : k * n ≤ j := by rw [← h4]; omega
            have e : (a.add (k * n)).add (j - vss.flatten.length) = a.add j := by
              rw [h4, add_add, show k * n + (j - k * n) = j by omega]
            rw [e]
    obtain ⟨as, vss, h1, h2, h3, h4, h5⟩ := key len (Nat.le_refl _)
    refine ⟨as, ⟨by omega, h2⟩, ⟨_, _, [], [], rfl, rfl, ⟨rfl, ?_⟩, rfl, rfl⟩⟩
    by_cases h0 : len = 0
    · left
      have : as = [] := List.length_eq_zero_iff.1 (by omega)
      exact ⟨by rw [this]; rfl, some a, cap, by rw [h0]⟩
    · right
      have hp : 0 < vss.flatten.length := by rw [h4]; exact Nat.mul_pos (by omega) hn0
      have hb := cell_block (h5 0 hp)
      have hs : a.spot = none := hb.2
      obtain ⟨ab, ao, asp⟩ := a
      simp only at hs
      subst hs
      refine ⟨ab, ao, cap, vss, by rw [List.length_map, h1], hb.1, h3, fun j hj => ?_, by rw [List.length_map]; omega⟩
      have := h5 j hj
      rwa [addr_add] at this
end Go.Vr
/- The value-level layer, part 28: arguments opened in order; what a law's row asks behind its call. -/
namespace Go.Vr
open Go Go.RowKit Go.ChangeShapes Go.WideShapes Go.WideElems
set_option linter.unusedVariables false
set_option linter.unusedSimpArgs false

theorem opens_num {P : Program} {t : TypeId} {k : IntKind} (lo hi : Int) (ht : P.underlying t = some (.int k)) (h : (k.min, k.max) = (lo, hi)) : Opens P t (fun x : Int => [.v (.int k x)]) (fun x => lo ≤ x ∧ x ≤ hi) := by
  cases h
  exact opens_int ht
/-- For a witness's world. -/
def lay (cs : Array Value) : Obj → Obj
  | .cells _ t frozen => .cells cs t frozen
  | o => o

theorem opens_string {P : Program} {t : TypeId} (ht : P.underlying t = some .string) : Opens P t (fun s : ByteArray => [.v (.string s)]) (fun s => s.size ≤ maxLen) := by
  refine ⟨?_⟩
  intro H enc w sp held fuel cs x h
  obtain ⟨s, rfl, _, hw⟩ := DataW.trod_string ht h
  exact ⟨s, hw, ⟨_, _, [], [], rfl, rfl, ⟨rfl, rfl⟩, rfl, rfl⟩⟩
theorem opens_bool {P : Program} {t : TypeId} (ht : P.underlying t = some .bool) : Opens P t (fun b : Bool => [.v (.bool b)]) (fun _ => True) := by
  refine ⟨?_⟩
  intro H enc w sp held fuel cs x h
  obtain ⟨b, rfl, _⟩ := DataW.trod_bool ht h
  exact ⟨b, trivial, ⟨_, _, [], [], rfl, rfl, ⟨rfl, rfl⟩, rfl, rfl⟩⟩

/-- The fields from offset o on. -/
structure OpensF (P : Program) (N : Nat) (fs : List Field) (o : Nat) {α : Type} (f : α → List PV) (wf : α → Prop) : Prop where
  go : ∀ {H : Type} (enc : TypeId × Value → H) (w : World) (sp : Nat → Bool) (held : Bool) (fuel : Nat) (cs : List Value), cs.length = N →
    (∀ (i : Nat) (g : Field), fs[i]? = some g → ∃ x, DataW.trod enc P w 0 sp held fuel g.type ((cs.drop g.offset).take (P.cellsOf g.type)) = some x) →
    ∃ a, wf a ∧ RepL w (fun b => b < w.heap.size) (f a) (cs.drop o) []
theorem opensF_nil {P : Program} {N : Nat} : OpensF P N [] N (fun _ : Unit => []) (fun _ => True) := by
  refine ⟨?_⟩
  intro H enc w sp held fuel cs hl _
  refine ⟨(), trivial, ?_, rfl⟩
  rw [List.drop_eq_nil_iff]; omega
theorem opensF_cons {P : Program} {N o n o' : Nat} {g : Field} {fs : List Field} {α β : Type} {f : α → List PV} {wf : α → Prop} {f' : β → List PV} {wf' : β → Prop}
    (ho : g.offset = o) (hn : P.cellsOf g.type = n) (h : Opens P g.type f wf) (ho' : o + n = o') (h' : OpensF P N fs o' f' wf') :
    OpensF P N (g :: fs) o (fun a : α × β => f a.1 ++ f' a.2) (fun a => wf a.1 ∧ wf' a.2) := by
  refine ⟨?_⟩
  intro H enc w sp held fuel cs hl hf
  obtain ⟨x, hx⟩ := hf 0 g rfl
  obtain ⟨a, ha, hr⟩ := h.go enc w sp held fuel _ x hx
  obtain ⟨b, hb, hr'⟩ := h'.go enc w sp held fuel cs hl (fun i g' hi => hf (i + 1) g' (by simpa using hi))
  refine ⟨(a, b), ⟨ha, hb⟩, ?_⟩
  rw [ho, hn] at hr
  have e : cs.drop o = (cs.drop o).take n ++ cs.drop o' := by
    rw [← ho', ← List.drop_drop, List.take_append_drop]
  rw [e]
  exact RepL_append.2 ⟨_, _, [], [], rfl, rfl, hr, hr'⟩
theorem opens_struct {P : Program} {t : TypeId} {fs : Array Field} {fl : List Field} {N : Nat} {α : Type} {f : α → List PV} {wf : α → Prop} (ht : P.underlying t = some (.struct fs)) (hfl : fs.toList = fl) (hN : P.cellsOf t = N) (h : OpensF P N fl 0 f wf) :
    Opens P t f wf := by
  refine ⟨?_⟩
  intro H enc w sp held fuel cs x hx
  obtain ⟨xs, n, rfl, _, hl, hxl, hg⟩ := DataW.trod_struct ht hx
  obtain ⟨a, ha, hr⟩ := h.go enc w sp held n cs (by rw [hl, hN]) (fun i g hi => by
    have hi' : fs[i]? = some g := by rw [← hfl] at hi; simpa using hi
    have h1 := hg i g hi'
    have h2 : i < xs.length := by rw [hxl]; exact (Array.getElem?_eq_some_iff.1 hi').1
    exact ⟨xs[i], by rw [h1]; simp [h2]⟩)
  exact ⟨a, ha, by simpa using hr⟩
theorem Opens.map {P : Program} {t : TypeId} {α β : Type} {f : α → List PV} {wf : α → Prop} {f' : β → List PV} {wf' : β → Prop} (m : α → β) (h : Opens P t f wf) (h1 : ∀ a, f' (m a) = f a) (h2 : ∀ a, wf a → wf' (m a)) : Opens P t f' wf' := by
  refine ⟨?_⟩
  intro H enc w sp held fuel cs x hx
  obtain ⟨a, ha, hr⟩ := h.go enc w sp held fuel cs x hx
  exact ⟨m a, h2 a ha, by rw [h1]; exact hr⟩

/-! ### the arguments of a call -/
structure OpensArgs (P : Program) (ts : List TypeId) {α : Type} (f : α → List PV) (wf : α → Prop) : Prop where
  go : ∀ {H : Type} (enc : TypeId × Value → H) (w : World) (sp : Nat → Bool) (held : Bool) (r : Reach) (b0 : Nat) (vs : List Value) (ds : List (DataW H)) (ps : List MemPlace),
    (∀ (j : Nat) t v, ts[j]? = some t → vs[j]? = some v → Value.okWide P w r b0 t v) → DataW.TrodAll enc P w 0 sp held ts vs ds ps →
    ∃ a, wf a ∧ RepL w (fun b => b < w.heap.size) (f a) vs []
theorem opensArgs_nil {P : Program} : OpensArgs P [] (fun _ : Unit => []) (fun _ => True) := by
  refine ⟨?_⟩
  intro H enc w sp held r b0 vs ds ps _ h
  obtain ⟨rfl, rfl, rfl⟩ := trodAll_nil h
  exact ⟨(), trivial, rfl, rfl⟩
/-- A parameter that is one cell. -/
theorem opensArgs_one {P : Program} {t : TypeId} {ts : List TypeId} {α β : Type} {g : α → PV} {wf : α → Prop} {f' : β → List PV} {wf' : β → Prop} (hc : ∀ {w : World} {r : Reach} {b0 : Nat} {v : Value}, Value.okWide P w r b0 t v → v.cells.toList = [v])
    (h : Opens P t (fun a => [g a]) wf) (h' : OpensArgs P ts f' wf') : OpensArgs P (t :: ts) (fun a : α × β => g a.1 :: f' a.2) (fun a => wf a.1 ∧ wf' a.2) := by
  refine ⟨?_⟩
  intro H enc w sp held r b0 vs ds ps hv ht
  obtain ⟨v, vs', d, ds', p, q, rfl, rfl, rfl, ⟨fuel, h1⟩, h2⟩ := trodAll_cons ht
  obtain ⟨b, hb, hr⟩ := h'.go enc w sp held r b0 vs' ds' q (fun j t v h3 h4 => hv (j + 1) t v (by simpa using h3) (by simpa using h4)) h2
  rw [hc (hv 0 t v rfl rfl)] at h1
  obtain ⟨a, ha, v1, vs1, φ1, φ2, e1, e2, h3, h4, h5⟩ := h.go enc w sp held fuel _ _ h1
  simp only [List.cons.injEq] at e1
  obtain ⟨rfl, rfl⟩ := e1
  refine ⟨(a, b), ⟨ha, hb⟩, v, vs', φ1, [], rfl, ?_, h3, hr⟩
  simp only [h5] at e2
  simpa using e2
/-- A struct. -/
theorem opensArgs_agg {P : Program} {t : TypeId} {ts : List TypeId} {fs : Array Field} {α β : Type} {f : α → List PV} {wf : α → Prop} {f' : β → List PV} {wf' : β → Prop} (hu : P.underlying t = some (.struct fs))
    (h : Opens P t f wf) (h' : OpensArgs P ts f' wf') : OpensArgs P (t :: ts) (fun a : α × β => .agg (f a.1) :: f' a.2) (fun a => wf a.1 ∧ wf' a.2) := by
  refine ⟨?_⟩
  intro H enc w sp held r b0 vs ds ps hv ht
  obtain ⟨v, vs', d, ds', p, q, rfl, rfl, rfl, ⟨fuel, h1⟩, h2⟩ := trodAll_cons ht
  obtain ⟨b, hb, hr⟩ := h'.go enc w sp held r b0 vs' ds' q (fun j t v h3 h4 => hv (j + 1) t v (by simpa using h3) (by simpa using h4)) h2
  obtain ⟨cs, rfl, _⟩ := okWide_struct hu (hv 0 t v rfl rfl)
  obtain ⟨a, ha, h3⟩ := h.go enc w sp held fuel _ _ h1
  refine ⟨(a, b), ⟨ha, hb⟩, _, vs', [], [], rfl, rfl, ?_, hr⟩
  exact ⟨cs.toList, rfl, h3⟩
theorem OpensArgs.map {P : Program} {ts : List TypeId} {α β : Type} {f : α → List PV} {wf : α → Prop} {f' : β → List PV} {wf' : β → Prop} (m : α → β) (h : OpensArgs P ts f wf) (h1 : ∀ a, f' (m a) = f a) (h2 : ∀ a, wf a → wf' (m a)) : OpensArgs P ts f' wf' := by
  refine ⟨?_⟩
  intro H enc w sp held r b0 vs ds ps hv ht
  obtain ⟨a, ha, hr⟩ := h.go enc w sp held r b0 vs ds ps hv ht
  exact ⟨m a, h2 a ha, by rw [h1]; exact hr⟩

theorem cells_int {P : Program} {t : TypeId} {k : IntKind} (ht : P.underlying t = some (.int k)) {w : World} {r : Reach} {b0 : Nat} {v : Value} (h : Value.okWide P w r b0 t v) : v.cells.toList = [v] := by
  obtain ⟨n, rfl⟩ := okWide_int ht h; rfl
theorem cells_bool {P : Program} {t : TypeId} (ht : P.underlying t = some .bool) {w : World} {r : Reach} {b0 : Nat} {v : Value} (h : Value.okWide P w r b0 t v) : v.cells.toList = [v] := by
  obtain ⟨n, rfl⟩ := okWide_bool ht h; rfl
theorem cells_string {P : Program} {t : TypeId} (ht : P.underlying t = some .string) {w : World} {r : Reach} {b0 : Nat} {v : Value} (h : Value.okWide P w r b0 t v) : v.cells.toList = [v] := by
  obtain ⟨n, rfl⟩ := okWide_string ht h; rfl
theorem cells_slice {P : Program} {t e : TypeId} (ht : P.underlying t = some (.slice e)) {w : World} {r : Reach} {b0 : Nat} {v : Value} (h : Value.okWide P w r b0 t v) : v.cells.toList = [v] := by
  obtain ⟨a, n, c, rfl⟩ := okWide_slice ht h; rfl

/-! ### behind the call -/
/-- One closed fact a parameter list: each type can be read and is a row of the table. -/
def rowedTs (P : Program) (ts : List TypeId) : Bool := ts.all fun t => P.readableRec t && decide (t < P.types.size)

theorem Below.trodAll {H : Type} {enc : TypeId × Value → H} {P : Program} (hl : laidOutB P = true) {W W' : World} (hb : Below W.heap.size W W') {sp : Nat → Bool} :
    ∀ {ts : List TypeId} {vs : List Value} {ds : List (DataW H)} {ps : List MemPlace}, rowedTs P ts = true → (∀ p ∈ ps, sp p.block = true) → DataW.TrodAll enc P W 0 (fun _ => true) true ts vs ds ps → DataW.TrodAll enc P W' 0 sp true ts vs ds ps
  | [], _, _, _, _, _, h => by
    obtain ⟨rfl, rfl, rfl⟩ := trodAll_nil h
    exact rfl
  | t :: ts, _, _, _, hr, hs, h => by
    have hlt := h.lt
    obtain ⟨v, vs', d, ds', p, q, rfl, rfl, rfl, ⟨fuel, h1⟩, h2⟩ := trodAll_cons h
    simp only [rowedTs, List.all_cons, Bool.and_eq_true, decide_eq_true_eq] at hr
    refine ⟨p, q, ⟨fuel, ?_⟩, Below.trodAll hl hb (by simpa [rowedTs] using hr.2) (fun x hx => hs x (by simp [hx])) h2, rfl⟩
    exact DataW.trod_stays (kids_book hl hr.1.1) (book_sized hr.1.1) (fun h => by cases h) ⟨hr.1.2, book_self t⟩ h1 (fun x hx => hb.same (hlt x (by simp [hx]))) (fun x hx => hs x (by simp [hx]))

/-- WHAT A LAW's ROW ASKS: it says true, and below the heap's end nothing has turned. -/
theorem post_true {H : Type} {enc : TypeId × Value → H} {P : Program} {f : Func} {s : ChangeSpec} {W W' : World} {args : Array Value} {ds gs : List (DataW H)} {before : List MemPlace} {t : TypeId}
    (hl : laidOutB P = true) (hr : rowedTs P f.params.toList = true) (hres : f.resultTypes = #[t]) (ht : P.underlying t = some .bool) (hv : s.vars = [])
    (hs : s.fn H ds = { results := [.lit (.bool true)], args := ds })
    (hW : DataW.Whole enc P f.params.toList s.vars false W args.toList ds gs before) (hb : Below W.heap.size W W') :
    s.post enc P f false true false false W args (.bool true) W' := by
  have hW' := hW
  obtain ⟨p, q, hA, hV, rfl, _, _⟩ := hW
  rw [hv] at hV
  have hpq := hW'.lt
  cases gs with
  | cons a l => exact hV.elim
  | nil =>
  obtain rfl : q = [] := hV
  have hfn : (s.fn H (ds ++ [])) = { results := [.lit (.bool true)], args := ds } := by rw [List.append_nil]; exact hs
  refine ⟨ds, [], p ++ [], [], p, [], hW', ?_, ?_, ?_, ?_, fun h => by cases h⟩
  · rw [hfn, hres]
    exact ⟨[], [], ⟨1, by simp [DataW.trod, ht, Value.resultList, Value.cells]⟩, rfl, rfl⟩
  · rw [hfn]
    exact Below.trodAll hl hb hr (fun x hx => by simpa using hpq x (by simp [hx])) hA
  · rw [hfn, hv]; exact rfl
  · exact hb.frame _
/-! ### tables that a row lists -/
theorem laid_get {P : Program} {W : World} : ∀ {l : List (String × DataW Unit)} {ps : List MemPlace} {name : String} {d : DataW Unit}, DataW.LaidVars P W l ps → (name, d) ∈ l →
    ∃ g t cs fuel p, P.globalNamed name = some g ∧ (P.globals[g]?).map (·.type) = some t ∧ W.var? P name = some cs ∧ DataW.trod (fun _ => ()) P W 0 (fun _ => true) false fuel t cs.toList = some (d, p)
  | [], _, _, _, _, h => by simp at h
  | (n, e) :: r, ps, name, d, hl, h => by
    obtain ⟨g, t, cs, fuel, p, q, h1, h2, h3, h4, h5, _⟩ := hl
    rcases List.mem_cons.1 h with h | h
    · cases h
      exact ⟨g, t, cs, fuel, p, h1, h2, h3, h4⟩
    · exact laid_get h5 h
/-- A table of the list, wherever it stands on it. -/
theorem tabIs_of_mem {P : Program} {W : World} {name : String} {k : IntKind} {zs : List Int} {l : List (String × DataW Unit)} {g : Nat} {t e : TypeId} {n : Nat}
    (hg : P.globalNamed name = some g) (hty : (P.globals[g]?).map (·.type) = some t) (ht : P.underlying t = some (.array n e)) (he : P.underlying e = some (.int k)) (hce : P.cellsOf e = 1) (hct : P.cellsOf t = n)
    (hm : (name, Lib.tabData k zs) ∈ l) (h : laidMet P l W) : Lib.TabIs P W name k zs := by
  obtain ⟨ps, hl, _⟩ := h
  obtain ⟨g', t', cs, fuel, p, hg', ht', hvar, hd⟩ := laid_get hl hm
  obtain rfl := Option.some.inj (hg.symm.trans hg')
  obtain rfl := Option.some.inj (hty.symm.trans ht')
  unfold Lib.TabIs
  rw [hvar, ← Lib.cells_of_tab ht he hce hct hd]
theorem tabIs_ext {P : Program} {W W' : World} {name : String} {k : IntKind} {zs : List Int} (h : Lib.TabIs P W name k zs) (he : Ext (fun b => b < W.heap.size) W W') : Lib.TabIs P W' name k zs := by
  unfold Lib.TabIs at h ⊢
  rw [← h]
  unfold World.var? at h ⊢
  cases hg : P.globalNamed name with
  | none => rfl
  | some g =>
    rw [hg] at h
    simp only [Option.bind_some] at h ⊢
    have hl : g < W.heap.size := by
      cases hh : W.heap[g]? with
      | none => rw [hh] at h; cases h
      | some o => exact (Array.getElem?_eq_some_iff.1 hh).1
    have := he.agree g hl
    unfold Agree at this
    rw [this]
end Go.Vr
/- The value-level layer, part 29: unsigned numbers as naturals; bits; equality of bools. -/
namespace Go.Vr
open Go
set_option linter.unusedVariables false
set_option linter.unusedSimpArgs false

/-- p without the bits of q. -/
def natLess (p q : Nat) : Nat := p ^^^ (p &&& q)
theorem natLess_bit (p q i : Nat) : (natLess p q).testBit i = (p.testBit i && !q.testBit i) := by
  unfold natLess
  rw [Nat.testBit_xor, Nat.testBit_and]
  cases p.testBit i <;> cases q.testBit i <;> rfl
theorem natLess_lt {p q n : Nat} (h : p < 2 ^ n) : natLess p q < 2 ^ n := by
  apply Nat.lt_pow_two_of_testBit
  intro i hi
  rw [natLess_bit, Nat.testBit_lt_two_pow (Nat.lt_of_lt_of_le h (Nat.pow_le_pow_right (by decide) hi))]
  rfl

theorem u64_ofInt (p : Nat) : BitVec.ofInt 64 (p : Int) = BitVec.ofNat 64 p := by
  apply BitVec.eq_of_toNat_eq
  simp [BitVec.toNat_ofInt]
theorem u64_wrap {n : Nat} (h : n < 18446744073709551616) : IntKind.wrap .u64 (n : Int) = (n : Int) := by
  simp [IntKind.wrap, IntKind.signed, IntKind.bits]; omega

section pure
variable {P : Program} {G : World → Prop} {o : Oper} {env : Env} {x : PV}
theorem pAnd64 {T T' : TypeId} {y z : Operand} {p q : Nat} (ho : o.op = .binOp .and T y z T') (hy : opd env y = .v (.int .u64 p)) (hz : opd env z = .v (.int .u64 q)) (hp : p < 18446744073709551616) (hq : q < 18446744073709551616) :
    PureOp P G o env (.v (.int .u64 ((p &&& q : Nat) : Int))) := pure_bin ho hy hz (by
  show some (Value.int .u64 (IntKind.wrap .u64 ((BitVec.ofInt 64 (p : Int) &&& BitVec.ofInt 64 (q : Int)).toNat : Nat))) = _
  rw [u64_ofInt, u64_ofInt, BitVec.toNat_and, BitVec.toNat_ofNat, BitVec.toNat_ofNat, Nat.mod_eq_of_lt hp, Nat.mod_eq_of_lt hq, u64_wrap (Nat.and_lt_two_pow (n := 64) p hq)])
theorem pOr64 {T T' : TypeId} {y z : Operand} {p q : Nat} (ho : o.op = .binOp .or T y z T') (hy : opd env y = .v (.int .u64 p)) (hz : opd env z = .v (.int .u64 q)) (hp : p < 18446744073709551616) (hq : q < 18446744073709551616) :
    PureOp P G o env (.v (.int .u64 ((p ||| q : Nat) : Int))) := pure_bin ho hy hz (by
  show some (Value.int .u64 (IntKind.wrap .u64 ((BitVec.ofInt 64 (p : Int) ||| BitVec.ofInt 64 (q : Int)).toNat : Nat))) = _
  rw [u64_ofInt, u64_ofInt, BitVec.toNat_or, BitVec.toNat_ofNat, BitVec.toNat_ofNat, Nat.mod_eq_of_lt hp, Nat.mod_eq_of_lt hq, u64_wrap (Nat.or_lt_two_pow (n := 64) hp hq)])
theorem pXor64 {T T' : TypeId} {y z : Operand} {p q : Nat} (ho : o.op = .binOp .xor T y z T') (hy : opd env y = .v (.int .u64 p)) (hz : opd env z = .v (.int .u64 q)) (hp : p < 18446744073709551616) (hq : q < 18446744073709551616) :
    PureOp P G o env (.v (.int .u64 ((p ^^^ q : Nat) : Int))) := pure_bin ho hy hz (by
  show some (Value.int .u64 (IntKind.wrap .u64 ((BitVec.ofInt 64 (p : Int) ^^^ BitVec.ofInt 64 (q : Int)).toNat : Nat))) = _
  rw [u64_ofInt, u64_ofInt, BitVec.toNat_xor, BitVec.toNat_ofNat, BitVec.toNat_ofNat, Nat.mod_eq_of_lt hp, Nat.mod_eq_of_lt hq, u64_wrap (Nat.xor_lt_two_pow (n := 64) hp hq)])
theorem pLess64 {T T' : TypeId} {y z : Operand} {p q : Nat} (ho : o.op = .binOp .andNot T y z T') (hy : opd env y = .v (.int .u64 p)) (hz : opd env z = .v (.int .u64 q)) (hp : p < 18446744073709551616) (hq : q < 18446744073709551616) :
    PureOp P G o env (.v (.int .u64 ((natLess p q : Nat) : Int))) := pure_bin ho hy hz (by
  show some (Value.int .u64 (IntKind.wrap .u64 ((BitVec.ofInt 64 (p : Int) &&& ~~~ BitVec.ofInt 64 (q : Int)).toNat : Nat))) = _
  have e : (BitVec.ofInt 64 (p : Int) &&& ~~~ BitVec.ofInt 64 (q : Int)).toNat = natLess p q := by
    rw [u64_ofInt, u64_ofInt]
    apply Nat.eq_of_testBit_eq
    intro i
    rw [natLess_bit, BitVec.toNat_and, Nat.testBit_and, BitVec.toNat_ofNat, Nat.mod_eq_of_lt hp, BitVec.testBit_toNat, BitVec.getLsbD_not, BitVec.getLsbD_ofNat]
    by_cases hi : i < 64
    · simp [hi]
    · have hpi : p.testBit i = false := Nat.testBit_lt_two_pow (Nat.lt_of_lt_of_le (show p < 2 ^ 64 from hp) (Nat.pow_le_pow_right (by decide) (by omega)))
      simp [hpi]
  rw [e, u64_wrap (natLess_lt (n := 64) hp)])
theorem pShr64 {T T' : TypeId} {y z : Operand} {k : IntKind} {p : Nat} {q : Int} {s : Nat} (ho : o.op = .binOp .shr T y z T') (hy : opd env y = .v (.int .u64 p)) (hz : opd env z = .v (.int k q)) (hs : q = (s : Int)) (h64 : s ≤ 64) :
    PureOp P G o env (.v (.int .u64 ((p / 2 ^ s : Nat) : Int))) := by
  have := pure_shr (P := P) (G := G) ho hy hz (by omega)
  have e : (p : Int).fdiv (2 ^ (min q.toNat IntKind.u64.bits)) = ((p / 2 ^ s : Nat) : Int) := by
    have : min q.toNat IntKind.u64.bits = s := by simp [IntKind.bits]; omega
    rw [this, Int.fdiv_eq_ediv_of_nonneg _ (Int.pow_nonneg (by decide))]
    simp
  rwa [e] at this
theorem pShl64 {T T' : TypeId} {y z : Operand} {k : IntKind} {p : Nat} {q : Int} {s : Nat} (ho : o.op = .binOp .shl T y z T') (hy : opd env y = .v (.int .u64 p)) (hz : opd env z = .v (.int k q)) (hs : q = (s : Int)) (h64 : s ≤ 64) :
    PureOp P G o env (.v (.int .u64 ((p * 2 ^ s % 18446744073709551616 : Nat) : Int))) := by
  have := pure_shl (P := P) (G := G) ho hy hz (by omega)
  have e : IntKind.wrap .u64 ((p : Int) * 2 ^ (min q.toNat IntKind.u64.bits)) = ((p * 2 ^ s % 18446744073709551616 : Nat) : Int) := by
    have : min q.toNat IntKind.u64.bits = s := by simp [IntKind.bits]; omega
    rw [this]
    simp [IntKind.wrap, IntKind.signed, IntKind.bits]
  rwa [e] at this
theorem pQuoNat {T T' : TypeId} {y z : Operand} {k : IntKind} {p q : Nat} (ho : o.op = .binOp .quo T y z T') (hy : opd env y = .v (.int k p)) (hz : opd env z = .v (.int k q)) (hq : 0 < q) (hw : k.min ≤ ((p / q : Nat) : Int) ∧ ((p / q : Nat) : Int) ≤ k.max) :
    PureOp P G o env (.v (.int k ((p / q : Nat) : Int))) := by
  have := pure_quo (P := P) (G := G) ho hy hz (by omega)
  have e : k.wrap ((p : Int).tdiv q) = ((p / q : Nat) : Int) := by
    rw [← Int.ofNat_tdiv, wrap_in hw]
  rwa [e] at this
theorem pRemNat {T T' : TypeId} {y z : Operand} {k : IntKind} {p q : Nat} (ho : o.op = .binOp .rem T y z T') (hy : opd env y = .v (.int k p)) (hz : opd env z = .v (.int k q)) (hq : 0 < q) :
    PureOp P G o env (.v (.int k ((p % q : Nat) : Int))) := by
  have := pure_rem (P := P) (G := G) ho hy hz (by omega)
  rwa [← Int.ofNat_tmod] at this

theorem run_eqGuard_bool {op : BinOp} {T : TypeId} {y z : Operand} {p q : Bool} (w : World) : (eqGuard op T y z (.bool p) (.bool q)).run P w = .ok () w := by
  unfold eqGuard
  split <;> simp
theorem pBoolNe {T T' : TypeId} {n : Nat} [ht : Ty P T .bool n] {y z : Operand} {p q : Bool} (ho : o.op = .binOp .neq T y z T') (hy : opd env y = .v (.bool p)) (hz : opd env z = .v (.bool q)) : PureOp P G o env (.v (.bool (p != q))) :=
  .of_val fun Γ a w Z F _ hR => ⟨.bool (p != q), by
    obtain ⟨d, hd, he⟩ := und_of_tk ht.1
    have hd' : P.underlying T = some .bool := by cases d <;> simp [tk] at he; exact hd
    have : (p != q) = !(p == q) := rfl
    simp [execOp, ho, hR.imm_eval hy, hR.imm_eval hz, run_eqGuard_bool, run_neq_bool w T p q hd', this], rfl, rfl⟩
theorem pBoolEq {T T' : TypeId} {n : Nat} [ht : Ty P T .bool n] {y z : Operand} {p q : Bool} (ho : o.op = .binOp .eql T y z T') (hy : opd env y = .v (.bool p)) (hz : opd env z = .v (.bool q)) : PureOp P G o env (.v (.bool (p == q))) :=
  .of_val fun Γ a w Z F _ hR => ⟨.bool (p == q), by
    obtain ⟨d, hd, he⟩ := und_of_tk ht.1
    have hd' : P.underlying T = some .bool := by cases d <;> simp [tk] at he; exact hd
    simp [execOp, ho, hR.imm_eval hy, hR.imm_eval hz, run_eqGuard_bool, run_eql_bool w T p q hd'], rfl, rfl⟩
end pure
end Go.Vr
/- The value-level layer, part 30: equality of structs and arrays whose cells are numbers, texts and bools. -/
namespace Go.Vr
open Go
set_option linter.unusedVariables false
set_option linter.unusedSimpArgs false

inductive CK where
  | i (k : IntKind)
  | s
  | b
  | o
  deriving DecidableEq
def ckOf : Value → CK
  | .int k _ => .i k
  | .string _ => .s
  | .bool _ => .b
  | _ => .o
def kindsOf (us : List Value) : List CK := us.map ckOf
def mkv (agg : Bool) (us : List Value) : Value := match agg with | true => .agg us.toArray | false => us.headD undef

structure EqK (P : Program) (d : Nat) (t : TypeId) (agg : Bool) (ks : List CK) : Prop where
  k : ∀ w, (isAgg t).run P w = .ok agg w
  n : (P.info? t).map (·.size) = some ks.length
  one : agg = false → ks.length = 1
  eq : ∀ w us vs, kindsOf us = ks → kindsOf vs = ks → ∃ r : Bool, (Op.equalIn d t (mkv agg us) (mkv agg vs)).run P w = .ok r w ∧ (r = true ↔ us = vs)

section
variable {P : Program}
theorem len_kinds {us : List Value} {ks : List CK} (h : kindsOf us = ks) : us.length = ks.length := by rw [← h]; simp [kindsOf]
theorem kinds_one {us : List Value} {c : CK} (h : kindsOf us = [c]) : ∃ v, us = [v] ∧ ckOf v = c := by
  cases us with
  | nil => simp [kindsOf] at h
  | cons v us => cases us with
    | nil => exact ⟨v, rfl, by simpa [kindsOf] using h⟩
    | cons _ _ => simp [kindsOf] at h

theorem eqK_int {d : Nat} {t : TypeId} {k : IntKind} [ht : Ty P t (.int k) 1] : EqK P (d + 1) t false [.i k] := by
  obtain ⟨e, he, hk⟩ := und_of_tk ht.1
  have hu : P.underlying t = some (.int k) := by cases e <;> simp [tk] at hk; subst hk; exact he
  refine ⟨fun w => run_isAgg ht.1 w, ht.2, fun _ => rfl, ?_⟩
  intro w us vs h1 h2
  obtain ⟨u, rfl, g1⟩ := kinds_one h1
  obtain ⟨v, rfl, g2⟩ := kinds_one h2
  cases u <;> simp only [ckOf, CK.i.injEq, reduceCtorEq] at g1
  cases v <;> simp only [ckOf, CK.i.injEq, reduceCtorEq] at g2
  subst g2
  rename_i a k2 b
  subst g1
  refine ⟨a == b, ?_, by simp⟩
  simp [Op.equalIn, run_underlying' hu, mkv]
theorem eqK_str {d : Nat} {t : TypeId} [ht : Ty P t .str 1] : EqK P (d + 1) t false [.s] := by
  obtain ⟨e, he, hk⟩ := und_of_tk ht.1
  have hu : P.underlying t = some .string := by cases e <;> simp [tk] at hk; exact he
  refine ⟨fun w => run_isAgg ht.1 w, ht.2, fun _ => rfl, ?_⟩
  intro w us vs h1 h2
  obtain ⟨u, rfl, g1⟩ := kinds_one h1
  obtain ⟨v, rfl, g2⟩ := kinds_one h2
  cases u <;> simp only [ckOf, reduceCtorEq] at g1
  cases v <;> simp only [ckOf, reduceCtorEq] at g2
  rename_i a b
  refine ⟨decide (a = b), ?_, by simp⟩
  have := run_equalIn_string w d t a b hu
  rw [bytes_eq] at this
  simpa [mkv] using this
theorem eqK_bool {d : Nat} {t : TypeId} [ht : Ty P t .bool 1] : EqK P (d + 1) t false [.b] := by
  obtain ⟨e, he, hk⟩ := und_of_tk ht.1
  have hu : P.underlying t = some .bool := by cases e <;> simp [tk] at hk; exact he
  refine ⟨fun w => run_isAgg ht.1 w, ht.2, fun _ => rfl, ?_⟩
  intro w us vs h1 h2
  obtain ⟨u, rfl, g1⟩ := kinds_one h1
  obtain ⟨v, rfl, g2⟩ := kinds_one h2
  cases u <;> simp only [ckOf, reduceCtorEq] at g1
  cases v <;> simp only [ckOf, reduceCtorEq] at g2
  rename_i a b
  refine ⟨a == b, ?_, by simp⟩
  simp [Op.equalIn, run_underlying' hu, mkv]

theorem EqK.part {d : Nat} {t : TypeId} {agg : Bool} {ks : List CK} (h : EqK P d t agg ks) (w : World) (xs : Array Value) (off : Nat) (us rest : List Value) (hx : xs.toList.drop off = us ++ rest) (hk : kindsOf us = ks) :
    (part t xs off).run P w = .ok (mkv agg us) w := by
  have hl := len_kinds hk
  cases agg with
  | true =>
    have e : xs.extract off (off + ks.length) = us.toArray := by
      apply Array.toList_inj.1
      rw [Array.toList_extract, List.extract_eq_take_drop, hx, ← hl]
      simp
    simp [Go.part, h.k w, run_sizeOf h.n w, mkv, e]
  | false =>
    have h1 := h.one rfl
    obtain ⟨u, rfl⟩ := List.length_eq_one_iff.1 (hl.trans h1)
    have e : xs[off]? = some u := by
      have : (xs.toList.drop off)[0]? = some u := by rw [hx]; rfl
      simpa using this
    simp [Go.part, h.k w, mkv, e]

inductive FieldsK (P : Program) (d : Nat) : List Field → Nat → List CK → Prop
  | nil {o : Nat} : FieldsK P d [] o []
  | cons {f : Field} {fs : List Field} {o : Nat} {agg : Bool} {ks ks' : List CK} (hn : (f.name == "_") = false) (ho : f.offset = o) (h : EqK P d f.type agg ks) (h' : FieldsK P d fs (o + ks.length) ks') : FieldsK P d (f :: fs) o (ks ++ ks')

theorem kinds_append {us : List Value} {ks ks' : List CK} (h : kindsOf us = ks ++ ks') : ∃ a b, us = a ++ b ∧ kindsOf a = ks ∧ kindsOf b = ks' := by
  refine ⟨us.take ks.length, us.drop ks.length, (List.take_append_drop _ _).symm, ?_, ?_⟩
  · unfold kindsOf at *; rw [List.map_take, h]; simp
  · unfold kindsOf at *; rw [List.map_drop, h]; simp

theorem run_eqFields {d : Nat} {fs : List Field} {o : Nat} {ks : List CK} (h : FieldsK P d fs o ks) : ∀ (w : World) (xs ys : Array Value), kindsOf (xs.toList.drop o) = ks → kindsOf (ys.toList.drop o) = ks →
    ∃ r : Bool, (Op.eqFields d xs ys fs).run P w = .ok r w ∧ (r = true ↔ xs.toList.drop o = ys.toList.drop o) := by
  induction h with
  | nil =>
    intro w xs ys h1 h2
    have l1 := len_kinds h1; have l2 := len_kinds h2
    refine ⟨true, by simp [Op.eqFields], ?_⟩
    rw [List.length_eq_zero_iff.1 l1, List.length_eq_zero_iff.1 l2]; simp
  | @cons f fs o agg ks ks' hn ho h h' ih =>
    intro w xs ys h1 h2
    obtain ⟨a, b, e1, k1, k2⟩ := kinds_append h1
    obtain ⟨a', b', e2, k1', k2'⟩ := kinds_append h2
    have hb : xs.toList.drop (o + ks.length) = b := by rw [← List.drop_drop, e1, ← len_kinds k1]; simp
    have hb' : ys.toList.drop (o + ks.length) = b' := by rw [← List.drop_drop, e2, ← len_kinds k1']; simp
    obtain ⟨r, q1, q2⟩ := h.eq w a a' k1 k1'
    obtain ⟨r', q3, q4⟩ := ih w xs ys (by rw [hb]; exact k2) (by rw [hb']; exact k2')
    rw [hb, hb'] at q4
    have hne : f.name ≠ "_" := by simpa using hn
    have p1 := h.part w xs o a b e1 k1
    have p2 := h.part w ys o a' b' e2 k1'
    refine ⟨r && r', ?_, ?_⟩
    · simp only [Op.eqFields, hne, ne_eq, not_false_eq_true, if_true, run_bind, ho, p1, p2, q1]
      cases r
      · simp
      · simpa using q3
    · rw [Bool.and_eq_true, q2, q4, e1, e2]
      constructor
      · rintro ⟨rfl, rfl⟩; rfl
      · intro h; exact List.append_inj h (by rw [len_kinds k1, len_kinds k1'])

theorem eqK_struct {d : Nat} {t : TypeId} {n : Nat} [ht : Ty P t .st n] {fs : Array Field} {ks : List CK} (hu : P.underlying t = some (.struct fs)) (hs : P.stoodInHeld t = false) (h : FieldsK P d fs.toList 0 ks) (hn : ks.length = n) : EqK P (d + 1) t true ks := by
  refine ⟨fun w => run_isAgg ht.1 w, by rw [hn]; exact ht.2, fun h => by simp at h, ?_⟩
  intro w us vs h1 h2
  obtain ⟨r, q1, q2⟩ := run_eqFields h w us.toArray vs.toArray (by simpa using h1) (by simpa using h2)
  refine ⟨r, ?_, by simpa using q2⟩
  have hfs : P.fieldsOf t = fs := by simp [Program.fieldsOf, hu]
  show (Op.equalIn (d + 1) t (.agg us.toArray) (.agg vs.toArray)).run P w = _
  rw [run_equalIn_struct w d t _ _ (by rw [hfs]; exact hu) hs, hfs]
  exact q1

theorem run_eqItems {d : Nat} {e : TypeId} {agg : Bool} {ks : List CK} (h : EqK P d e agg ks) (w : World) (xs ys : Array Value) : ∀ (m i : Nat), kindsOf (xs.toList.drop (i * ks.length)) = (List.replicate m ks).flatten → kindsOf (ys.toList.drop (i * ks.length)) = (List.replicate m ks).flatten →
    ∃ r : Bool, (Op.eqItems d e ks.length xs ys (List.range' i m)).run P w = .ok r w ∧ (r = true ↔ xs.toList.drop (i * ks.length) = ys.toList.drop (i * ks.length))
  | 0, i, h1, h2 => by
    have l1 : xs.toList.drop (i * ks.length) = [] := List.length_eq_zero_iff.1 (by rw [len_kinds h1]; simp)
    have l2 : ys.toList.drop (i * ks.length) = [] := List.length_eq_zero_iff.1 (by rw [len_kinds h2]; simp)
    refine ⟨true, by simp [Op.eqItems], ?_⟩
    rw [l1, l2]; simp
  | m + 1, i, h1, h2 => by
    rw [List.replicate_succ, List.flatten_cons] at h1 h2
    obtain ⟨a, b, e1, k1, k2⟩ := kinds_append h1
    obtain ⟨a', b', e2, k1', k2'⟩ := kinds_append h2
    have hi : (i + 1) * ks.length = i * ks.length + ks.length := by rw [Nat.add_mul, Nat.one_mul]
    have hb : xs.toList.drop ((i + 1) * ks.length) = b := by rw [hi, ← List.drop_drop, e1, ← len_kinds k1]; simp
    have hb' : ys.toList.drop ((i + 1) * ks.length) = b' := by rw [hi, ← List.drop_drop, e2, ← len_kinds k1']; simp
    obtain ⟨r, q1, q2⟩ := h.eq w a a' k1 k1'
    obtain ⟨r', q3, q4⟩ := run_eqItems h w xs ys m (i + 1) (by rw [hb]; exact k2) (by rw [hb']; exact k2')
    rw [hb, hb'] at q4
    have p1 := h.part w xs _ a b e1 k1
    have p2 := h.part w ys _ a' b' e2 k1'
    refine ⟨r && r', ?_, ?_⟩
    · rw [List.range'_succ]
      simp only [Op.eqItems, run_bind, p1, p2, q1]
      cases r
      · simp
      · simpa using q3
    · rw [Bool.and_eq_true, q2, q4, e1, e2]
      constructor
      · rintro ⟨rfl, rfl⟩; rfl
      · intro h; exact List.append_inj h (by rw [len_kinds k1, len_kinds k1'])
theorem eqK_arr {d : Nat} {t e : TypeId} {m n : Nat} [ht : Ty P t (.arr m e) n] {agg : Bool} {ks : List CK} (h : EqK P d e agg ks) (hn : m * ks.length = n) : EqK P (d + 1) t true (List.replicate m ks).flatten := by
  obtain ⟨e', he, hk⟩ := und_of_tk ht.1
  have hu : P.underlying t = some (.array m e) := by cases e' <;> simp [tk] at hk; obtain ⟨rfl, rfl⟩ := hk; exact he
  refine ⟨fun w => run_isAgg ht.1 w, by rw [show (List.replicate m ks).flatten.length = n by simpa using hn]; exact ht.2, fun h => by simp at h, ?_⟩
  intro w us vs h1 h2
  obtain ⟨i, hi⟩ : ∃ i, P.info? e = some i := by
    cases hc : P.info? e with
    | none => have := h.n; rw [hc] at this; simp at this
    | some i => exact ⟨i, rfl⟩
  have hc : P.cellsOf e = ks.length := by
    have := h.n; rw [hi] at this; simp at this; simp [Program.cellsOf, hi, this]
  obtain ⟨r, q1, q2⟩ := run_eqItems h w us.toArray vs.toArray m 0 (by simpa using h1) (by simpa using h2)
  refine ⟨r, ?_, by simpa using q2⟩
  show (Op.equalIn (d + 1) t (.agg us.toArray) (.agg vs.toArray)).run P w = _
  rw [run_equalIn_array w d _ _ hu hi, hc, List.range_eq_range']
  exact q1

theorem fK {d : Nat} {f : Field} {fs : List Field} {o : Nat} {agg : Bool} {ks ks' kk : List CK} (hn : (f.name == "_") = false) (ho : f.offset = o) (h : EqK P d f.type agg ks) (h' : FieldsK P d fs (o + ks.length) ks') (e : ks ++ ks' = kk) : FieldsK P d (f :: fs) o kk := e ▸ .cons hn ho h h'
theorem eqA {d : Nat} {t e : TypeId} {m n : Nat} [ht : Ty P t (.arr m e) n] {agg : Bool} {ks kk : List CK} (h : EqK P d e agg ks) (hn : m * ks.length = n) (hk : (List.replicate m ks).flatten = kk) : EqK P (d + 1) t true kk := hk ▸ eqK_arr h hn
/-- The type can be compared, cell by cell. -/
class EqL (P : Program) (t : TypeId) (ks : outParam (List CK)) : Prop where
  d : ∃ d, d ≤ 9990 ∧ ∀ d', EqK P (d' + d) t true ks
  g : P.eqGuardType P.depth t = false

variable {G : World → Prop} {o : Oper} {env : Env} {x : PV}
theorem agg_opd {Γ : Ctx} {a : Act} {w : World} {Z : Blocks} {F : Nat → List Nat} (hR : Rel Γ env a w Z F) {y : Operand} {us : List Value} (h : opd env y = .agg (us.map .v)) (hf : PV.flatL (us.map PV.v)) : a.eval y = .agg us.toArray := by
  obtain ⟨vs, h1, h2⟩ : Rep w Z (.agg (us.map .v)) (a.eval y) [] := hR.flatOpd h (by simp) hf rfl
  obtain ⟨h3, _⟩ : vs = us ∧ True := by
    have key : ∀ (us vs : List Value) (φ : List Nat), RepL w Z (us.map .v) vs φ → vs = us := by
      intro us
      induction us with
      | nil => rintro vs φ ⟨rfl, _⟩; rfl
      | cons u us ih =>
        rintro vs φ ⟨v, vs', φ₁, φ₂, rfl, _, ⟨rfl, _⟩, h⟩
        rw [ih _ _ h]
    exact ⟨key us vs [] h2, trivial⟩
  rw [h1, h3]
theorem flatL_v : ∀ (us : List Value), PV.flatL (us.map PV.v)
  | [] => trivial
  | u :: us => ⟨trivial, flatL_v us⟩
theorem pEqAgg {T T' : TypeId} {ks : List CK} [hT : EqL P T ks] {y z : Operand} (us vs : List Value) {φ : Prop} [Decidable φ] {cs ds : List PV} (ho : o.op = .binOp .eql T y z T') (hy : opd env y = .agg cs) (hz : opd env z = .agg ds) (hc : cs = us.map .v) (hd : ds = vs.map .v) (h1 : kindsOf us = ks) (h2 : kindsOf vs = ks) (h : us = vs ↔ φ) :
    PureOp P G o env (.v (.bool (decide φ))) :=
  .of_val fun Γ a w Z F _ hR => ⟨.bool (decide φ), by
    subst hc hd
    obtain ⟨d, hd, he⟩ := hT.d
    obtain ⟨r, q1, q2⟩ := (he (10000 - d)).eq w us vs h1 h2
    rw [show 10000 - d + d = 10000 by omega] at q1
    have hr : r = decide φ := by
      cases r
      · exact (decide_eq_false (fun hp => by have := q2.2 (h.2 hp); simp at this)).symm
      · exact (decide_eq_true (h.1 (q2.1 rfl))).symm
    have q : (Op.equal T (.agg us.toArray) (.agg vs.toArray)).run P w = .ok (decide φ) w := by rw [← hr]; exact q1
    simp [execOp, ho, agg_opd hR hy (flatL_v us), agg_opd hR hz (flatL_v vs), run_eqGuard_agg w _ T y z us.toArray vs.toArray hT.g, binOp, q], rfl, rfl⟩
theorem pNeAgg {T T' : TypeId} {ks : List CK} [hT : EqL P T ks] {y z : Operand} (us vs : List Value) {φ : Prop} [Decidable φ] {cs ds : List PV} (ho : o.op = .binOp .neq T y z T') (hy : opd env y = .agg cs) (hz : opd env z = .agg ds) (hc : cs = us.map .v) (hd : ds = vs.map .v) (h1 : kindsOf us = ks) (h2 : kindsOf vs = ks) (h : us = vs ↔ φ) :
    PureOp P G o env (.v (.bool (!decide φ))) :=
  .of_val fun Γ a w Z F _ hR => ⟨.bool (!decide φ), by
    subst hc hd
    obtain ⟨d, hd, he⟩ := hT.d
    obtain ⟨r, q1, q2⟩ := (he (10000 - d)).eq w us vs h1 h2
    rw [show 10000 - d + d = 10000 by omega] at q1
    have hr : r = decide φ := by
      cases r
      · exact (decide_eq_false (fun hp => by have := q2.2 (h.2 hp); simp at this)).symm
      · exact (decide_eq_true (h.1 (q2.1 rfl))).symm
    have q : (Op.equal T (.agg us.toArray) (.agg vs.toArray)).run P w = .ok (decide φ) w := by rw [← hr]; exact q1
    simp [execOp, ho, agg_opd hR hy (flatL_v us), agg_opd hR hz (flatL_v vs), run_eqGuard_agg w _ T y z us.toArray vs.toArray hT.g, binOp, q], rfl, rfl⟩
end
end Go.Vr
/- The value-level layer, part 31: regions whose order is open, with calls in between that change what is lent to them: phase by phase. -/
namespace Go.Vr
open Go
set_option linter.unusedVariables false
set_option linter.unusedSimpArgs false

/-- Rel on fewer live entries, with what is known of the footprints. -/
theorem Rel.restrict' {Γ : Ctx} {env env' : Env} {a : Act} {w : World} {Z : Blocks} {F : Nat → List Nat} (hR : Rel Γ env a w Z F)
    (h1 : ∀ e ∈ live env' [], e ∈ live env []) (h2 : ∀ e ∈ live env' [], ∀ r, e.2.root? = some r → (∃ e' ∈ live env [], e'.1 = r) → ∃ e' ∈ live env' [], e'.1 = r) :
    ∃ F', Rel Γ env' a w Z F' ∧ (∀ i b, b ∈ F' i → b ∈ F i) ∧ ∀ e ∈ live env' [], F' e.1 = F e.1 := by
  obtain ⟨F₁, hR₁, hF₁⟩ := hR.restrict h1 h2
  let F' : Nat → List Nat := fun i => if i ∈ (live env' []).map (·.1) then F i else []
  have hF' : ∀ e ∈ live env' [], F' e.1 = F e.1 := fun e he => by
    simp only [F']; rw [if_pos (List.mem_map.2 ⟨e, he, rfl⟩)]
  have hsub : ∀ i b, b ∈ F' i → b ∈ F i := by
    intro i b hb
    simp only [F'] at hb
    split at hb
    · exact hb
    · simp at hb
  refine ⟨F', ⟨hR.defers, hR.size, hR.pins, hR.ext, hR.zle, hR.zsub, hR.zlt, ?_, ?_, ?_, ?_⟩, hsub, hF'⟩
  · intro e he
    have hs := hR.slots e (h1 e he)
    rw [hF' e he]
    have hroot : ∀ r, e.2.root? = some r → ∀ y, y ∈ F r → y ∈ F' r := by
      intro r hr y hy
      have : ∃ e' ∈ live env [], e'.1 = r := by
        apply Classical.byContradiction; intro hn
        rw [hR.off r (fun e he hei => hn ⟨e, he, hei⟩)] at hy; simp at hy
      obtain ⟨e', he', rfl⟩ := h2 e he r hr this
      rw [hF' e' he']; exact hy
    cases hx : e.2 with
    | lv r p =>
      rw [hx] at hs
      obtain ⟨h0, hs⟩ := hs
      refine ⟨h0, ?_⟩
      rcases hs with hs | ⟨b, o, tr, g1, g2, g3⟩
      · exact .inl hs
      · exact .inr ⟨b, o, tr, g1, fun y hy => hroot r (by rw [hx]; rfl) y (g2 y hy), g3⟩
    | pl r p =>
      rw [hx] at hs
      obtain ⟨h0, b, o, tr, g1, g2, g3⟩ := hs
      exact ⟨h0, b, o, tr, g1, fun y hy => hroot r (by rw [hx]; rfl) y (g2 y hy), g3⟩
    | _ => rw [hx] at hs; exact hs
  · have : ∀ (l : Env), (l.map (·.1)).Nodup → (l.map fun e => F' e.1).flatten.Nodup := by
      intro l
      induction l with
      | nil => simp
      | cons c l ih =>
        intro h
        simp only [List.map_cons, List.nodup_cons] at h
        simp only [List.map_cons, List.flatten_cons, List.nodup_append]
        refine ⟨?_, ih h.2, ?_⟩
        · simp only [F']; split
          · exact hR.fnodup _
          · simp
        · intro b hb b' hb' hbb
          subst hbb
          obtain ⟨l', hl', hbl⟩ := List.mem_flatten.1 hb'
          obtain ⟨e', he', rfl⟩ := List.mem_map.1 hl'
          have hne : c.1 ≠ e'.1 := fun hce => h.1 (hce ▸ List.mem_map.2 ⟨e', he', rfl⟩)
          exact hR.fdisj hne (hsub _ _ hb) (hsub _ _ hbl)
    exact this _ (live_nodup env' [])
  · intro i hi
    simp only [F']
    rw [if_neg]
    intro hm
    obtain ⟨e, he, hei⟩ := List.mem_map.1 hm
    exact hi e he hei
  · intro i b hb
    exact hR.blocks i b (hsub i b hb)

section
variable {P : Program} {S : Sg} {Q : Exit → Env → Prop}

def vpAny (P : Program) (S : Sg) (ops : List Oper) (Q : Exit → Env → Prop) (l : List Nat) (env : Env) : Prop :=
  ∀ Γ a w Z F fuel (listed : Array Bool), S.of Γ → Rel Γ env a w Z F → l.length + fuel = ops.length → listed.size = ops.length → Cl ops listed → (∀ i, listed.getD i false = true ↔ i ∈ l) → wpAny P .any ops.toArray (SimQ Γ Q) fuel listed a w

def Goes (P : Program) (ops : List Oper) (Qx : Exit → Act → World → Prop) (o : Oper) (a : Act) (w : World) (K : Act → World → Prop) : Prop :=
  if Region.wanted o (yielded ops.toArray a.tmps) = true then o.wp P a w K Qx ∨ o.asks P a w ∧ LetsOut Qx else K (a.put o.dst undef) w

/-- What is told of the region by its text. -/
structure DR (S : Sg) (ops : List Oper) (m : Nat) (ds : List Nat) (as : List (List Nat)) : Prop where
  mn : m ≤ ops.length
  dl : ds.length = m
  dn : ds.Nodup
  dst : ∀ i (h : i < ops.length), i < m → ops[i].dst = some (ds.getD i 0) ∧ S.ok (ds.getD i 0) = true
  chain : ∀ i, m ≤ i → i < ops.length → ∀ j, j < i → j ∈ as.getD i []
  fwd : fwdOk ops 0 = true
  cs : ∀ (T : Nat → Prop), (∀ i o, ops[i]? = some o → T i → ∀ j ∈ direct o, T j) → ∀ i, T i → ∀ j ∈ as.getD i [], T j
  tr : ∀ i, ∀ j ∈ as.getD i [], ∀ k ∈ as.getD j [], k < j → k ∈ as.getD i []
  back : ∀ i j, j ∈ as.getD i [] → i < j → False

variable {ops : List Oper} {m : Nat} {ds : List Nat} {as : List (List Nat)} {xs : List PV} {base env : Env} {l : List Nat}

theorem set_iff {listed : Array Bool} {n : Nat} {i j : Nat} (hsz : listed.size = n) (hi : i < n) : ((listed.setIfInBounds i true).getD j false = true ↔ j = i ∨ listed.getD j false = true) := by
  by_cases hij : i = j
  · subst hij; simp [hsz, hi]
  · rw [getD_set_ne false hij]; simp [Ne.symm hij]

theorem vpAny_step (D : DR S ops m ds as) (hln : l.Nodup) (hlt : ∀ i ∈ l, i < ops.length) (hl : ∃ j, j < ops.length ∧ j ∉ l)
    (h : ∀ i (hi : i < ops.length), i ∉ l → (∀ j ∈ as.getD i [], j ≠ i → j ∈ l) → ∀ Γ a w Z F, S.of Γ → Rel Γ env a w Z F → ∀ (K : Act → World → Prop),
      (∀ env' a' w' Z' F', vpAny P S ops Q (i :: l) env' → Rel Γ env' a' w' Z' F' → K a' w') → Goes P ops (SimQ Γ Q) ops[i] a w K) : vpAny P S ops Q l env := by
  intro Γ a w Z F fuel listed hS hR hf hsz hcl hlm
  obtain ⟨j₀, hj₀, hj₀l⟩ := hl
  have hj₀u : listed.getD j₀ false = false := by
    cases hc' : listed.getD j₀ false
    · rfl
    · exact absurd ((hlm j₀).1 hc') hj₀l
  have hne := ready_ne D.fwd hsz j₀ hj₀ hj₀u
  cases fuel with
  | zero =>
    exfalso
    have hsub : ∀ x ∈ l, x ∈ (List.range ops.length).erase j₀ := fun x hx => (List.mem_erase_of_ne (fun e => hj₀l (by rw [← e]; exact hx))).2 (by simpa using hlt x hx)
    have := nodup_len hln hsub
    rw [List.length_erase_of_mem (by simpa using hj₀)] at this
    simp at this
    omega
  | succ fuel =>
    refine ⟨fun he => absurd he hne, fun i hi => ?_⟩
    obtain ⟨h1, h2⟩ := ready_unlisted hi
    have hil : i ∉ l := fun h => by rw [(hlm i).2 h] at h2; simp at h2
    have hcl' := hcl.step hi
    have hanc : ∀ j ∈ as.getD i [], j ≠ i → j ∈ l := fun j hj hji => by
      have hc := D.cs (fun k => (listed.setIfInBounds i true).getD k false = true) hcl' i ((set_iff hsz h1).2 (.inl rfl)) j hj
      exact (hlm j).1 (((set_iff hsz h1).1 hc).resolve_left hji)
    have ho : ops.toArray[i]? = some ops[i] := by simp [h1]
    have := h i h1 hil hanc Γ a w Z F hS hR (wpAny P .any ops.toArray (SimQ Γ Q) fuel (listed.setIfInBounds i true)) (fun env' a' w' Z' F' hv hR' =>
      hv Γ a' w' Z' F' fuel _ hS hR' (by simp only [List.length_cons]; omega) (by simp [hsz]) hcl' (fun j => by rw [set_iff hsz h1, hlm j]; simp))
    simp only [wpOp, ho]
    exact this

/-- The frame as far as an operation looks. -/
theorem anc_rel (D : DR S ops m ds as) (hxl : xs.length = m) (hfree : envFree ds base = true) (hal : aliasOk ds as xs 0 = true) (hc : Came as m l) {i : Nat} (him : i < m) (hanc : ∀ j ∈ as.getD i [], j ≠ i → j ∈ l)
    {Γ : Ctx} {a : Act} {w : World} {Z : Blocks} {F : Nat → List Nat} (hR : Rel Γ (l.map (ent ds xs) ++ base) a w Z F) :
    ∃ F', Rel Γ ((ancList as i).map (ent ds xs) ++ base) a w Z F' ∧ (∀ i b, b ∈ F' i → b ∈ F i) ∧ ∀ e ∈ live ((ancList as i).map (ent ds xs) ++ base) [], F' e.1 = F e.1 := by
  have hca := came_ancList (m := m) hc him (fun j hj hji => hanc j hj (by omega)) (fun j hj k hk hkj => D.tr i j hj k hk hkj)
  have hlv := live_came D.dn D.dl hxl hfree hal hc
  have hlva := live_came D.dn D.dl hxl hfree hal hca
  have hsub : ∀ j ∈ ancList as i, j ∈ l := fun j hj => by
    have := List.mem_filter.1 hj
    have hji : j < i := by simpa using this.1
    exact hanc j (by simpa using this.2) (by omega)
  exact hR.restrict' (env' := (ancList as i).map (ent ds xs) ++ base) (fun e he => by
    rw [hlva] at he; rw [hlv]
    rcases List.mem_append.1 he with he | he
    · obtain ⟨j, hj, rfl⟩ := List.mem_map.1 he
      exact List.mem_append_left _ (List.mem_map.2 ⟨j, hsub j hj, rfl⟩)
    · exact List.mem_append_right _ he) (fun e he r hr ⟨e', he', hk⟩ => by
    rw [hlva] at he ⊢; rw [hlv] at he'
    have hdi : ∀ j, j < m → ds.getD j 0 ∈ ds := fun j hj => by rw [List.getD_eq_getElem?_getD, List.getElem?_eq_getElem (by rw [D.dl]; exact hj)]; exact List.getElem_mem _
    rcases List.mem_append.1 he' with he' | he'
    · obtain ⟨k, hk', rfl⟩ := List.mem_map.1 he'
      have hkr : ds.getD k 0 = r := hk
      rcases List.mem_append.1 he with he | he
      · obtain ⟨j, hj, rfl⟩ := List.mem_map.1 he
        have hjm := hc.lt j (hsub j hj)
        have hx : xs[j].root? = some r := by
          have : (ent ds xs j).2 = xs[j] := by simp [ent, List.getElem?_eq_getElem (show j < xs.length by omega)]
          rw [← this]; exact hr
        rcases aliasOk_spec xs 0 hal j (by omega) r hx with h' | ⟨k₂, q1, q2, q3⟩
        · exact absurd (hkr ▸ hdi k (hc.lt k hk')) h'
        · simp only [Nat.zero_add] at q1 q2
          exact ⟨ent ds xs k₂, List.mem_append_left _ (List.mem_map.2 ⟨k₂, hca.closed j hj k₂ q1 q2, rfl⟩), q3⟩
      · exact absurd (hkr ▸ hdi k (hc.lt k hk')) ((envFree_live base [] hfree e he).2 r hr)
    · exact ⟨e', List.mem_append_right _ he', hk⟩)

theorem dst_in (D : DR S ops m ds as) {j : Nat} (hj : j < m) : ds.getD j 0 ∈ ds := by
  rw [List.getD_eq_getElem?_getD, List.getElem?_eq_getElem (by rw [D.dl]; exact hj)]; exact List.getElem_mem _
theorem dst_inj (D : DR S ops m ds as) {j k : Nat} (hj : j < m) (hk : k < m) (he : ds.getD j 0 = ds.getD k 0) : j = k := by
  have := D.dl
  rw [List.getD_eq_getElem?_getD, List.getD_eq_getElem?_getD, List.getElem?_eq_getElem (by omega), List.getElem?_eq_getElem (by omega)] at he
  exact nodup_inj D.dn _ _ he

/-- A pure operation comes up. -/
theorem goes_pure (D : DR S ops m ds as) (hxl : xs.length = m) (hfree : envFree ds base = true) (hal : aliasOk ds as xs 0 = true) (hc : Came as m l) {i : Nat} (hi : i < ops.length) (him : i < m) (hil : i ∉ l) (hanc : ∀ j ∈ as.getD i [], j ≠ i → j ∈ l)
    (hpi : duty P S.G as ds xs base ops[i] i) {Γ : Ctx} {a : Act} {w : World} {Z : Blocks} {F : Nat → List Nat} (hS : S.of Γ) (hR : Rel Γ (l.map (ent ds xs) ++ base) a w Z F) {Qx : Exit → Act → World → Prop} {K : Act → World → Prop}
    (hK : ∀ a' w' Z' F', Rel Γ ((i :: l).map (ent ds xs) ++ base) a' w' Z' F' → K a' w') : Goes P ops Qx ops[i] a w K := by
  have hlv := live_came D.dn D.dl hxl hfree hal hc
  obtain ⟨F₁, hR₁, hF₁, _⟩ := anc_rel D hxl hfree hal hc him hanc hR
  have hxi : xs.getD i .junk = xs[i] := by rw [List.getD_eq_getElem?_getD, List.getElem?_eq_getElem (by omega)]; rfl
  have hfr : (xs.getD i .junk).fresh [ds.getD i 0] = xs.getD i .junk := by
    refine fresh_of_root fun e => ?_
    rw [hxi] at e
    rcases aliasOk_spec xs 0 hal i (by omega) _ e with h' | ⟨k, q1, q2, q3⟩
    · exact h' (dst_in D him)
    · simp only [Nat.zero_add] at q1 q2
      have := dst_inj D (by omega) him q3
      omega
  obtain ⟨hdo, hoks⟩ := D.dst i hi him
  unfold Goes
  have pure : PureOp P S.G ops[i] ((ancList as i).map (ent ds xs) ++ base) (xs.getD i .junk) → Region.wanted ops[i] (yielded ops.toArray a.tmps) = true → (if Region.wanted ops[i] (yielded ops.toArray a.tmps) = true then ops[i].wp P a w K Qx ∨ ops[i].asks P a w ∧ LetsOut Qx else K (a.put ops[i].dst undef) w) := by
    intro hpi hwant
    rw [if_pos hwant]
    left
    refine hpi Γ a w Z F₁ _ _ hS.1 hR₁ fun val w' φ hw hn hφ hr => ?_
    rw [hdo]
    obtain ⟨F', hR', _⟩ := hR.put hS hoks hfr hw hn hφ (hr.monoF hF₁)
    exact hK _ _ Z F' hR'
  unfold duty at hpi
  cases hg : ops[i].guard with
  | none =>
    rw [hg] at hpi
    exact pure hpi (by simp [Region.wanted, hg])
  | some g =>
    obtain ⟨j, want⟩ := g
    rw [hg] at hpi
    obtain ⟨u, hu, hja, hji, hpi⟩ := hpi
    have hji : j < i := by simpa using hji
    have hjl : j ∈ l := hanc j (by simpa using hja) (by omega)
    have hjm := hc.lt j hjl
    obtain ⟨hjd, hjok⟩ := D.dst j (by omega) hjm
    have hT : Act.T a (ds.getD j 0) = u := by
      have := hR.slots (ent ds xs j) (by rw [hlv]; exact List.mem_append_left _ (List.mem_map.2 ⟨j, hjl, rfl⟩))
      have he : (ent ds xs j).2 = .v u := hu
      rw [he] at this
      exact this.1
    have htl : ds.getD j 0 < a.tmps.size := by rw [hR.size, hS.2.1]; exact Sg.ok_lt hjok
    have hy : yielded ops.toArray a.tmps j = boolOf u := by
      have hT' : a.tmps[ds.getD j 0] = u := by
        simp only [Act.T, Array.getD, htl, dif_pos] at hT; exact hT
      have hoj : ops.toArray[j]? = some ops[j] := by simp [show j < ops.length by omega]
      simp only [yielded, hoj, Option.bind_some, hjd, htl, Array.getElem?_eq_getElem, hT']
      cases u <;> rfl
    rcases hpi with ⟨hub, hpi⟩ | ⟨hub, hxu⟩
    · exact pure hpi (by simp [Region.wanted, hg, hy, hub, boolOf])
    · have hnw : ¬ Region.wanted ops[i] (yielded ops.toArray a.tmps) = true := by
        rcases hub with hub | hub
        · simp [Region.wanted, hg, hy, hub, boolOf]
        · simp [Region.wanted, hg, hy, hub, boolOf, undef]
      rw [if_neg hnw, hdo]
      obtain ⟨F', hR', _⟩ := hR.put (x := xs.getD i .junk) (val := undef) (φ := []) hS hoks hfr (Ext.refl _ _) (by simp) (by simp) (by rw [hxu]; exact ⟨rfl, rfl⟩)
      exact hK _ _ Z F' hR'

/-! ### a call in between -/
theorem GiveS.up {env env' : Env} {g : Arg} (h : GiveS env' g)
    (hup : ∀ Γ a w Z F, Rel Γ env a w Z F → ∃ F', Rel Γ env' a w Z F' ∧ (∀ i b, b ∈ F' i → b ∈ F i) ∧ ∀ e ∈ live env' [], F' e.1 = F e.1)
    (hr : ∀ r back, g.rw = some (r, back) → ∃ e ∈ live env' [], e.1 = r) : GiveS env g := by
  intro Γ a w Z F hR
  obtain ⟨F', hR', hF, hF2⟩ := hup Γ a w Z F hR
  obtain ⟨φx, h1, h2⟩ := h Γ a w Z F' hR'
  refine ⟨φx, Rep.mono (fun b hb => ⟨?_, rfl⟩) _ _ _ (fun _ _ => rfl) h1, ?_⟩
  · rcases hb with hb | ⟨r, hr1, hr2⟩
    · exact .inl hb
    · exact .inr ⟨r, hr1, hF _ _ hr2⟩
  · cases hg : g.rw with
    | none => rw [hg] at h2; exact h2
    | some p =>
      obtain ⟨r, back⟩ := p
      rw [hg] at h2
      obtain ⟨h3, ρ, h4, h5⟩ := h2
      obtain ⟨e, he, rfl⟩ := hr r back hg
      exact ⟨h3, ρ, by rw [← hF2 e he]; exact h4, h5⟩

theorem call_wp {o : Oper} {z : Operand} {f : FuncId} {caps : List PV} {gs : List Arg} {post : PV → List PV → Prop} {d : Nat} {zs : List Operand} {ats : Array TypeId} {args : List PV}
    (hcall : CallsV P S.G f args post) (ho : o.op = .call { callee := .value z, args := zs.toArray, argTypes := ats }) (hd : o.dst = some d) (hok : S.ok d = true) (hz : opd env z = .clo f caps) (hcf : PV.flatL caps) (hf : callable P f = true)
    (hzs : gs.map (·.z) = zs) (hargs : gs.map (·.x) ++ caps = args) (hgive : ∀ g ∈ gs, GiveS env g) (hroots : (nodupB (rwRoots gs) && (roRoots gs).all (fun r => !(rwRoots gs).contains r) && !(rwRoots gs).contains d) = true)
    (hout : ∀ r outs, post r outs → roRoots gs = [] ∨ (r.closed ∧ PV.closedL outs))
    {Γ : Ctx} {a : Act} {w : World} {Z : Blocks} {F : Nat → List Nat} (hS : S.of Γ) (hR : Rel Γ env a w Z F) {K : Act → World → Prop} {Qx : Exit → Act → World → Prop}
    (hK : ∀ r outs, post r outs → ∀ a' w' Z' F', Rel Γ ((d, r) :: (backEnv gs outs ++ env)) a' w' Z' F' → K a' w') : o.wp P a w K Qx := by
  subst hzs; subst hargs
  simp only [Bool.and_eq_true] at hroots
  obtain ⟨⟨r1, r2⟩, r3⟩ := hroots
  obtain ⟨cv, h1, h2⟩ := run_call hR ho hz hcf hf
  rw [List.map_map] at h2
  simp only [Oper.wp, h2, Oper.upon]
  have hr2 : ∀ r ∈ roRoots gs, r ∉ rwRoots gs := fun r hr => by
    have := List.all_eq_true.1 r2 r hr
    simpa using this
  have hc := hR.call hS h1 hcall hgive (nodupB_nodup r1) hr2 hout
  refine hc.mono ?_
  rintro e w' ⟨r, outs, v, rfl, hp, hfin⟩
  obtain ⟨Z', F', hR'⟩ := hfin (some d) (a.put (some d) v) (fun q hq => by cases hq; exact ⟨hok, by simpa using r3, rfl⟩) (by simp)
  rw [hd]
  exact hK r outs hp _ _ _ _ hR'

theorem live_noAlias : ∀ (E X : Env) (s : List Nat), (E.map (·.1)).Nodup → (∀ e ∈ E, e.1 ∉ s) → (∀ e ∈ E, e.2.alias = false) → live (E ++ X) s = E ++ live X (E.map (·.1) ++ s)
  | [], X, s, _, _, _ => rfl
  | (k, x) :: E, X, s, hn, hs, ha => by
    simp only [List.map_cons, List.nodup_cons] at hn
    have hk : s.contains k = false := by simpa using hs (k, x) (by simp)
    have hx : x.fresh s = x := by have := ha (k, x) (by simp); cases x <;> first | rfl | simp [PV.alias] at this
    simp only [List.cons_append, live, hk, hx]
    rw [live_noAlias E X (k :: s) hn.2 (fun e he => by
      simp only [List.mem_cons, not_or]
      exact ⟨fun h => hn.1 (List.mem_map.2 ⟨e, he, h⟩), hs e (by simp [he])⟩) (fun e he => ha e (by simp [he]))]
    rw [live_congr X (s := E.map (·.1) ++ k :: s) (t := (k :: E.map (·.1)) ++ s) (fun y => by simp; constructor <;> (rintro (h | h | h) <;> simp [h]))]
    rfl
theorem mem_live_over {E X : Env} (hn : (E.map (·.1)).Nodup) (ha : ∀ e ∈ E, e.2.alias = false) (e : Nat × PV) : e ∈ live (E ++ X) [] ↔ e ∈ E ∨ ∃ x, (e.1, x) ∈ live X [] ∧ e.1 ∉ E.map (·.1) ∧ e.2 = x.fresh (E.map (·.1)) := by
  rw [live_noAlias E X [] hn (by simp) ha, live_append, List.mem_append]
  refine or_congr Iff.rfl ?_
  constructor
  · intro h
    obtain ⟨c, h1, rfl⟩ := List.mem_map.1 h
    obtain ⟨h1, h2⟩ := List.mem_filter.1 h1
    exact ⟨c.2, h1, by simpa using h2, rfl⟩
  · rintro ⟨x, h1, h2, h3⟩
    refine List.mem_map.2 ⟨(e.1, x), List.mem_filter.2 ⟨h1, by simpa using h2⟩, ?_⟩
    obtain ⟨a, b⟩ := e
    simp only at h3 ⊢
    rw [h3]

/-- Behind the call the entries stand in another order. -/
theorem behind_rel (D : DR S ops m ds as) {xs' : List PV} {B : Env} {r : PV} {q : Nat} (hq : q < m) (hql : q ∉ l) (hqa : ∀ j ∈ as.getD q [], j ≠ q → j ∈ l) (hxl : xs.length = m) (hxl' : xs'.length = m) (hfree : envFree ds base = true) (hfree' : envFree ds (B ++ base) = true) (hal : aliasOk ds as xs 0 = true) (hal' : aliasOk ds as xs' 0 = true) (hc : Came as m l)
    (hB : (B.map (·.1)).Nodup) (hBa : ∀ e ∈ B, e.2.alias = false) (hr : r.alias = false) (hxq : xs'.getD q .junk = r) (hx : ∀ j ∈ l, xs'.getD j .junk = (xs.getD j .junk).fresh (B.map (·.1)))
    {Γ : Ctx} {a : Act} {w : World} {Z : Blocks} {F : Nat → List Nat} (hR : Rel Γ ((ds.getD q 0, r) :: (B ++ (l.map (ent ds xs) ++ base))) a w Z F) :
    ∃ F', Rel Γ ((q :: l).map (ent ds xs') ++ (B ++ base)) a w Z F' := by
  have hBds : ∀ e ∈ B, e.1 ∉ ds := fun e he => by
    have h1 : e ∈ live (B ++ base) [] := (mem_live_over hB hBa e).2 (.inl he)
    exact (envFree_live _ _ hfree' e h1).1
  have hlv := live_came D.dn D.dl hxl hfree hal hc
  have hc' : Came as m (q :: l) := .cons hq hql (fun j hj hji => hqa j hj (by omega)) hc
  have hlv' := live_came D.dn D.dl hxl' hfree' hal' hc'
  let E : Env := (ds.getD q 0, r) :: B
  have hEn : (E.map (·.1)).Nodup := by
    refine List.nodup_cons.2 ⟨fun h => ?_, hB⟩
    obtain ⟨e, he, h2⟩ := List.mem_map.1 h
    exact hBds e he (h2 ▸ dst_in D hq)
  have hEa : ∀ e ∈ E, e.2.alias = false := by
    intro e he
    rcases List.mem_cons.1 he with rfl | he
    · exact hr
    · exact hBa e he
  have hsrc : ∀ e, e ∈ live ((ds.getD q 0, r) :: (B ++ (l.map (ent ds xs) ++ base))) [] ↔ e ∈ E ∨ ∃ x, (e.1, x) ∈ l.map (ent ds xs) ++ live base [] ∧ e.1 ∉ E.map (·.1) ∧ e.2 = x.fresh (E.map (·.1)) := by
    intro e
    rw [← hlv]
    exact mem_live_over (E := E) hEn hEa e
  have hnd : ∀ j, j ∈ l → ds.getD j 0 ∉ E.map (·.1) := by
    intro j hj h
    rcases List.mem_cons.1 h with h | h
    · exact hql (dst_inj D (hc.lt j hj) hq h ▸ hj)
    · obtain ⟨e, he, h2⟩ := List.mem_map.1 h
      exact hBds e he (h2 ▸ dst_in D (hc.lt j hj))
  have hfreshj : ∀ j ∈ l, (xs.getD j .junk).fresh (E.map (·.1)) = (xs.getD j .junk).fresh (B.map (·.1)) := by
    intro j hj
    have hjm := hc.lt j hj
    cases hro : (xs.getD j .junk).root? with
    | none => cases hxj : xs.getD j .junk <;> first | rfl | (rw [hxj] at hro; simp [PV.root?] at hro)
    | some ρ =>
      have hne : ρ ≠ ds.getD q 0 := by
        intro he
        have hxj : xs[j].root? = some ρ := by
          have : xs.getD j .junk = xs[j] := by rw [List.getD_eq_getElem?_getD, List.getElem?_eq_getElem (by omega)]; rfl
          rw [← this]; exact hro
        rcases aliasOk_spec xs 0 hal j (by omega) ρ hxj with h' | ⟨k, q1, q2, q3⟩
        · exact h' (he ▸ dst_in D hq)
        · simp only [Nat.zero_add] at q1 q2
          have hkq := dst_inj D (by omega) hq (q3.trans he)
          subst hkq
          exact hql (hc.closed j hj k q1 q2)
      have hcon : (E.map (·.1)).contains ρ = (B.map (·.1)).contains ρ := by
        show ((ds.getD q 0) :: B.map (·.1)).contains ρ = _
        rw [List.contains_cons]
        have : (ρ == ds.getD q 0) = false := by simpa using hne
        rw [this, Bool.false_or]
      cases hxj : xs.getD j .junk <;> rw [hxj] at hro <;> simp only [PV.root?, Option.some.injEq, reduceCtorEq] at hro <;> subst hro <;> simp only [PV.fresh, hcon]
  have hfreshb : ∀ e ∈ live base [], e.2.fresh (E.map (·.1)) = e.2.fresh (B.map (·.1)) := by
    intro e he
    cases hro : e.2.root? with
    | none => cases hxj : e.2 <;> first | rfl | (rw [hxj] at hro; simp [PV.root?] at hro)
    | some ρ =>
      have hne : ρ ≠ ds.getD q 0 := fun h => (envFree_live base [] hfree e he).2 ρ hro (h ▸ dst_in D hq)
      have hcon : (E.map (·.1)).contains ρ = (B.map (·.1)).contains ρ := by
        show ((ds.getD q 0) :: B.map (·.1)).contains ρ = _
        rw [List.contains_cons]
        have : (ρ == ds.getD q 0) = false := by simpa using hne
        rw [this, Bool.false_or]
      cases hxj : e.2 <;> rw [hxj] at hro <;> simp only [PV.root?, Option.some.injEq, reduceCtorEq] at hro <;> subst hro <;> simp only [PV.fresh, hcon]
  have hentq : ent ds xs' q = (ds.getD q 0, r) := by simp only [ent, hxq]
  have hentj : ∀ j ∈ l, ent ds xs' j = (ds.getD j 0, (xs.getD j .junk).fresh (B.map (·.1))) := fun j hj => by simp only [ent, hx j hj]
  have hbase : ∀ e, e ∈ live (B ++ base) [] ↔ e ∈ B ∨ ∃ x, (e.1, x) ∈ live base [] ∧ e.1 ∉ B.map (·.1) ∧ e.2 = x.fresh (B.map (·.1)) := fun e => mem_live_over hB hBa e
  obtain ⟨F', hR', _⟩ := hR.restrict' (env' := (q :: l).map (ent ds xs') ++ (B ++ base)) (fun e he => by
      rw [hlv'] at he
      rw [hsrc]
      rcases List.mem_append.1 he with he | he
      · obtain ⟨j, hj, rfl⟩ := List.mem_map.1 he
        rcases List.mem_cons.1 hj with rfl | hj
        · rw [hentq]; exact .inl (List.mem_cons_self)
        · rw [hentj j hj]
          exact .inr ⟨xs.getD j .junk, List.mem_append_left _ (List.mem_map.2 ⟨j, hj, rfl⟩), hnd j hj, (hfreshj j hj).symm⟩
      · rcases (hbase e).1 he with he | ⟨x, h1, h2, h3⟩
        · exact .inl (List.mem_cons_of_mem _ he)
        · refine .inr ⟨x, List.mem_append_right _ h1, fun h => ?_, by rw [h3]; exact (hfreshb _ h1).symm⟩
          rcases List.mem_cons.1 h with h | h
          · exact (envFree_live base [] hfree _ h1).1 (h ▸ dst_in D hq)
          · exact h2 h) (fun e he ρ hρ ⟨e', he', hk⟩ => by
      rw [hlv']
      rw [hsrc] at he'
      rcases he' with he' | ⟨x, h1, h2, _⟩
      · rcases List.mem_cons.1 he' with rfl | he'
        · exact ⟨ent ds xs' q, List.mem_append_left _ (List.mem_map.2 ⟨q, by simp, rfl⟩), hk⟩
        · exact ⟨e', List.mem_append_right _ ((hbase e').2 (.inl he')), hk⟩
      · rcases List.mem_append.1 h1 with h1 | h1
        · obtain ⟨j, hj, he⟩ := List.mem_map.1 h1
          have : e'.1 = ds.getD j 0 := (congrArg Prod.fst he).symm
          exact ⟨ent ds xs' j, List.mem_append_left _ (List.mem_map.2 ⟨j, by simp [hj], rfl⟩), this.symm.trans hk⟩
        · exact ⟨(e'.1, x.fresh (B.map (·.1))), List.mem_append_right _ ((hbase _).2 (.inr ⟨x, h1, fun h => h2 (List.mem_cons_of_mem _ h), rfl⟩)), hk⟩)
  exact ⟨F', hR'⟩
end
end Go.Vr
/- The value-level layer, part 32: regions whose order is open, phase by phase, in the form that the printer uses. -/
namespace Go.Vr
open Go
set_option linter.unusedVariables false
set_option linter.unusedSimpArgs false
section
variable {P : Program} {S : Sg} {Q : Exit → Env → Prop} {ops : List Oper} {m : Nat} {ds : List Nat} {as : List (List Nat)} {xs : List PV} {base env : Env} {l : List Nat}

/-- All pure ones have come up: the rest is a chain. -/
theorem vpAny_tail (D : DR S ops m ds as) (hl : ∀ i, i ∈ l ↔ i < m) (hll : l.length = m) (h : vpOps P S ops.toArray Q (ops.drop m) env) : vpAny P S ops Q l env := by
  have hset : ∀ (listed : Array Bool) (i j : Nat), listed.size = ops.length → i < ops.length → ((listed.setIfInBounds i true).getD j false = true ↔ j = i ∨ listed.getD j false = true) := fun listed i j hsz hi => set_iff hsz hi
  intro Γ a w Z F fuel listed hS hR hf hsz hcl hlm
  have tail : ∀ (fuel k : Nat) (listed : Array Bool) (a : Act) (w : World), k + fuel = ops.length → m ≤ k → listed.size = ops.length → Cl ops listed → (∀ i, listed.getD i false = true ↔ i < k) →
      wpList P ops.toArray (SimQ Γ Q) (ops.drop k) a w → wpAny P .any ops.toArray (SimQ Γ Q) fuel listed a w := by
    intro fuel
    induction fuel with
    | zero =>
      intro k listed a w hk hmk hsz hcl hl h
      have : k = ops.length := by omega
      subst this
      rw [List.drop_length] at h
      refine ⟨?_, h⟩
      apply List.eq_nil_iff_forall_not_mem.2
      intro i hi
      obtain ⟨h1, h2⟩ := ready_unlisted hi
      have := (hl i).2 h1
      rw [this] at h2; simp at h2
    | succ fuel ih =>
      intro k listed a w hk hmk hsz hcl hl h
      have hklt : k < ops.length := by omega
      have hku : listed.getD k false = false := by
        cases hc : listed.getD k false
        · rfl
        · have := (hl k).1 hc; omega
      rw [List.drop_eq_getElem_cons hklt] at h
      refine ⟨fun he => absurd he (ready_ne D.fwd hsz k hklt hku), fun i hi => ?_⟩
      obtain ⟨h1, h2⟩ := ready_unlisted hi
      have hik : i = k := by
        have hge : k ≤ i := by
          rcases Nat.lt_or_ge i k with h' | h'
          · have := (hl i).2 h'; rw [this] at h2; simp at h2
          · exact h'
        rcases Nat.lt_or_ge k i with h' | h'
        · exfalso
          have := D.cs (fun i => (listed.setIfInBounds _ true).getD i false = true) (hcl.step hi) i ((hset listed i i hsz h1).2 (.inl rfl)) k (D.chain i (by omega) (by omega) k h')
          rcases (hset listed i k hsz h1).1 this with h5 | h5
          · omega
          · rw [h5] at hku; simp at hku
        · omega
      subst hik
      have hnext : ∀ a w, wpList P ops.toArray (SimQ Γ Q) (ops.drop (i + 1)) a w → wpAny P .any ops.toArray (SimQ Γ Q) fuel (listed.setIfInBounds i true) a w := fun a w hw =>
        ih (i + 1) _ a w (by omega) (by omega) (by simp [hsz]) (hcl.step hi) (fun j => by
          rw [hset listed i j hsz h1, hl j]; omega) hw
      have ho : ops.toArray[i]? = some ops[i] := by simp [h1]
      simp only [wpOp, ho]
      simp only [wpList] at h
      split
      · rename_i hw
        rw [if_pos hw] at h
        exact h.imp (Oper.wp_mono hnext) (fun x => x)
      · rename_i hw
        rw [if_neg hw] at h
        exact hnext _ _ h
  exact tail fuel m listed a w (by omega) (Nat.le_refl m) hsz hcl (fun i => by rw [hlm i, hl i]) (h Γ a w Z F hS hR)

def Ph (P : Program) (S : Sg) (ops : List Oper) (Q : Exit → Env → Prop) (m : Nat) (ds : List Nat) (as : List (List Nat)) (xs : List PV) (base : Env) (done rem : List Nat) : Prop :=
  ∀ l, Came as m l → (∀ d ∈ done, d ∈ l) → (∀ d ∈ rem, d ∉ l) → vpAny P S ops Q l (l.map (ent ds xs) ++ base)

theorem ph_last (D : DR S ops m ds as) {done : List Nat} (hxl : xs.length = m) (hfree : envFree ds base = true) (hal : aliasOk ds as xs 0 = true)
    (hp : ∀ i (hi : i < ops.length), i < m → (∀ d ∈ done, i ≠ d ∧ i ∉ as.getD d []) → duty P S.G as ds xs base ops[i] i)
    (h : vpOps P S ops.toArray Q (ops.drop m) (((List.range m).reverse).map (ent ds xs) ++ base)) : Ph P S ops Q m ds as xs base done [] := by
  -- all of them have come up
  have full : ∀ l, Came as m l → m ≤ l.length → vpAny P S ops Q l (l.map (ent ds xs) ++ base) := by
    intro l hc hml
    have hmem : ∀ j, j < m → j ∈ l := by
      intro j hj
      apply Classical.byContradiction; intro hn
      have hsub : ∀ x ∈ l, x ∈ (List.range m).erase j := fun x hx => (List.mem_erase_of_ne (fun e => hn (by rw [← e]; exact hx))).2 (by simpa using hc.lt x hx)
      have := nodup_len hc.nodup hsub
      rw [List.length_erase_of_mem (by simpa using hj)] at this
      simp at this
      omega
    have hll : l.length = m := by
      have hsub : l.length ≤ (List.range m).length := nodup_len hc.nodup (fun x hx => by simpa using hc.lt x hx)
      simp at hsub
      omega
    have hlv := live_came D.dn D.dl hxl hfree hal hc
    have hlv' := live_came D.dn D.dl hxl hfree hal (came_range as m m (Nat.le_refl m))
    have hg : vpAny P S ops Q l (((List.range m).reverse).map (ent ds xs) ++ base) := vpAny_tail D (fun i => ⟨hc.lt i, hmem i⟩) hll h
    intro Γ a w Z F fuel listed hS hR hf hsz hcl hlm
    have hsame : ∀ e, e ∈ live ((List.range m).reverse.map (ent ds xs) ++ base) [] → e ∈ live (l.map (ent ds xs) ++ base) [] := by
      intro e he
      rw [hlv'] at he; rw [hlv]
      rcases List.mem_append.1 he with he | he
      · obtain ⟨j, hj, rfl⟩ := List.mem_map.1 he
        exact List.mem_append_left _ (List.mem_map.2 ⟨j, hmem j (by simpa using hj), rfl⟩)
      · exact List.mem_append_right _ he
    obtain ⟨F', hR', _⟩ := hR.restrict hsame (fun e he r hr ⟨e', he', hk⟩ => ⟨e', by
      rw [hlv] at he'; rw [hlv']
      rcases List.mem_append.1 he' with he' | he'
      · obtain ⟨j, hj, rfl⟩ := List.mem_map.1 he'
        exact List.mem_append_left _ (List.mem_map.2 ⟨j, by simpa using hc.lt j hj, rfl⟩)
      · exact List.mem_append_right _ he', hk⟩)
    exact hg Γ a w Z F' fuel listed hS hR' hf hsz hcl hlm
  have key : ∀ n l, n + l.length = m → Came as m l → (∀ d ∈ done, d ∈ l) → vpAny P S ops Q l (l.map (ent ds xs) ++ base) := by
    intro n
    induction n with
    | zero => intro l hn hc _; exact full l hc (by omega)
    | succ n ih =>
      intro l hn hc hd
      have hun : ∃ j, j < m ∧ j ∉ l := by
        apply Classical.byContradiction; intro hne
        have := pigeon m l (fun j hj => Classical.byContradiction fun h => hne ⟨j, hj, h⟩)
        omega
      obtain ⟨j₀, hj₀, hj₀l⟩ := hun
      refine vpAny_step D hc.nodup (fun i hi => Nat.lt_of_lt_of_le (hc.lt i hi) D.mn) ⟨j₀, Nat.lt_of_lt_of_le hj₀ D.mn, hj₀l⟩ ?_
      intro i hi hil hanc Γ a w Z F hS hR K hK
      have him : i < m := by
        rcases Nat.lt_or_ge i m with h' | h'
        · exact h'
        · exact absurd (hanc j₀ (D.chain i h' hi j₀ (by omega)) (by omega)) hj₀l
      refine goes_pure D hxl hfree hal hc hi him hil hanc (hp i hi him fun d hdd => ⟨fun e => hil (e ▸ hd d hdd), fun ha => ?_⟩) hS hR fun a' w' Z' F' hR' =>
        hK _ a' w' Z' F' (ih (i :: l) (by simp only [List.length_cons]; omega) (.cons him hil (fun j hj hji => hanc j hj (by omega)) hc) (fun d hdd => List.mem_cons_of_mem _ (hd d hdd))) hR'
      by_cases hid : i < d
      · exact hil (hc.closed d (hd d hdd) i ha hid)
      · rcases Nat.lt_or_ge d i with h' | h'
        · -- what comes ahead of d stands ahead of it
          have := hc.closed
          exact absurd ha (by
            intro ha
            have hdl := hd d hdd
            exact (D.back d i ha h').elim)
        · have : i = d := by omega
          exact hil (this ▸ hd d hdd)
  intro l hc hd _
  have hle : l.length ≤ m := by
    have hsub : l.length ≤ (List.range m).length := nodup_len hc.nodup (fun x hx => by simpa using hc.lt x hx)
    simpa using hsub
  exact key (m - l.length) l (by omega) hc hd

theorem ph_step (D : DR S ops m ds as) {done rem : List Nat} {q : Nat} (hxl : xs.length = m) (hfree : envFree ds base = true) (hal : aliasOk ds as xs 0 = true)
    (hq : q < m) (hqo : q < ops.length) (hqg : ops[q].guard = none) (hrem : ∀ d ∈ rem, d ≠ q ∧ q ∈ as.getD d [])
    (hp : ∀ i (hi : i < ops.length), i < m → (∀ d ∈ done, i ≠ d ∧ i ∉ as.getD d []) → i ≠ q → q ∉ as.getD i [] → duty P S.G as ds xs base ops[i] i)
    {f : FuncId} {gs : List Arg} {post : PV → List PV → Prop} {ats : Array TypeId} {args : List PV}
    (hcall : CallsV P S.G f args post) (ho : ops[q].op = .call { callee := .value (.func f), args := (gs.map (·.z)).toArray, argTypes := ats }) (hf : callable P f = true) (hargs : gs.map (·.x) = args)
    (hgive : ∀ g ∈ gs, GiveS ((ancList as q).map (ent ds xs) ++ base) g) (hlive : ∀ g ∈ gs, ∀ r back, g.rw = some (r, back) → ∃ e ∈ live ((ancList as q).map (ent ds xs) ++ base) [], e.1 = r)
    (hroots : (nodupB (rwRoots gs) && (roRoots gs).all (fun r => !(rwRoots gs).contains r) && !(rwRoots gs).contains (ds.getD q 0)) = true)
    (hout : ∀ r outs, post r outs → roRoots gs = [] ∨ (r.closed ∧ PV.closedL outs))
    (H : ∀ r outs, post r outs → ∃ xs', xs'.length = m ∧ xs'.getD q .junk = r ∧ (∀ j, j < m → j ≠ q → q ∉ as.getD j [] → xs'.getD j .junk = (xs.getD j .junk).fresh ((backEnv gs outs).map (·.1))) ∧ r.alias = false ∧ ((backEnv gs outs).map (·.1)).Nodup ∧ (∀ e ∈ backEnv gs outs, e.2.alias = false) ∧
      envFree ds (backEnv gs outs ++ base) = true ∧ aliasOk ds as xs' 0 = true ∧ Ph P S ops Q m ds as xs' (backEnv gs outs ++ base) (q :: done) rem) : Ph P S ops Q m ds as xs base done (q :: rem) := by
  have key : ∀ n l, n + l.length = m → Came as m l → (∀ d ∈ done, d ∈ l) → (∀ d ∈ q :: rem, d ∉ l) → vpAny P S ops Q l (l.map (ent ds xs) ++ base) := by
    intro n
    induction n with
    | zero =>
      intro l hn hc _ hr
      exfalso
      have hsub : ∀ x ∈ l, x ∈ (List.range m).erase q := fun x hx => (List.mem_erase_of_ne (fun e => hr q (by simp) (by rw [← e]; exact hx))).2 (by simpa using hc.lt x hx)
      have := nodup_len hc.nodup hsub
      rw [List.length_erase_of_mem (by simpa using hq)] at this
      simp at this
      omega
    | succ n ih =>
      intro l hn hc hd hr
      have hql : q ∉ l := hr q (by simp)
      refine vpAny_step D hc.nodup (fun i hi => Nat.lt_of_lt_of_le (hc.lt i hi) D.mn) ⟨q, hqo, hql⟩ ?_
      intro i hi hil hanc Γ a w Z F hS hR K hK
      have him : i < m := by
        rcases Nat.lt_or_ge i m with h' | h'
        · exact h'
        · exact absurd (hanc q (D.chain i h' hi q (by omega)) (by omega)) hql
      by_cases hiq : i = q
      · subst hiq
        unfold Goes
        rw [if_pos (by simp [Region.wanted, hqg])]
        left
        obtain ⟨hdo, hoks⟩ := D.dst i hi him
        have hup : ∀ Γ a w Z F, Rel Γ (l.map (ent ds xs) ++ base) a w Z F → ∃ F', Rel Γ ((ancList as i).map (ent ds xs) ++ base) a w Z F' ∧ (∀ i b, b ∈ F' i → b ∈ F i) ∧ ∀ e ∈ live ((ancList as i).map (ent ds xs) ++ base) [], F' e.1 = F e.1 :=
          fun Γ a w Z F hR => anc_rel D hxl hfree hal hc him hanc hR
        refine call_wp (env := l.map (ent ds xs) ++ base) hcall ho hdo hoks (caps := []) rfl trivial hf rfl (by rw [List.append_nil]; exact hargs) (fun g hg => (hgive g hg).up hup (hlive g hg)) hroots hout hS hR ?_
        intro r outs hpo a' w' Z' F' hR'
        obtain ⟨xs', e1, e2, e3, e4, e5, e6, e7, e8, e9⟩ := H r outs hpo
        obtain ⟨F'', hR''⟩ := behind_rel D him hql hanc hxl e1 hfree e7 hal e8 hc e5 e6 e4 e2 (fun j hj => e3 j (hc.lt j hj) (fun e => hql (e ▸ hj)) (fun hqj => by
          by_cases hlt : i < j
          · exact hql (hc.closed j hj i hqj hlt)
          · rcases Nat.lt_or_ge j i with h' | h'
            · exact D.back j i hqj h'
            · exact hql ((show i = j by omega) ▸ hj))) hR'
        exact hK _ a' w' Z' F'' (e9 (i :: l) (.cons him hil (fun j hj hji => hanc j hj (by omega)) hc) (fun d hdd => by
          rcases List.mem_cons.1 hdd with rfl | hdd
          · simp
          · exact List.mem_cons_of_mem _ (hd d hdd)) (fun d hdd h => by
          rcases List.mem_cons.1 h with h | h
          · exact (hrem d hdd).1 h
          · exact hr d (by simp [hdd]) h)) hR''
      · have hqi : q ∉ as.getD i [] := fun h => hql (hanc q h (fun e => hiq e.symm))
        refine goes_pure D hxl hfree hal hc hi him hil hanc (hp i hi him (fun d hdd => ⟨fun e => hil (e ▸ hd d hdd), fun ha => ?_⟩) hiq hqi) hS hR fun a' w' Z' F' hR' =>
          hK _ a' w' Z' F' (ih (i :: l) (by simp only [List.length_cons]; omega) (.cons him hil (fun j hj hji => hanc j hj (by omega)) hc) (fun d hdd => List.mem_cons_of_mem _ (hd d hdd)) (fun d hdd h => by
            rcases List.mem_cons.1 h with h | h
            · rcases List.mem_cons.1 hdd with rfl | hdd
              · exact hiq h.symm
              · exact hqi (h ▸ (hrem d hdd).2)
            · exact hr d hdd h)) hR'
        by_cases hid : i < d
        · exact hil (hc.closed d (hd d hdd) i ha hid)
        · rcases Nat.lt_or_ge d i with h' | h'
          · exact (D.back d i ha h').elim
          · exact hil ((show i = d by omega) ▸ hd d hdd)
  intro l hc hd hr
  have hle : l.length ≤ m := by
    have hsub : l.length ≤ (List.range m).length := nodup_len hc.nodup (fun x hx => by simpa using hc.lt x hx)
    simpa using hsub
  exact key (m - l.length) l (by omega) hc hd hr

theorem ph_region {id : Nat} (D : DR S ops m ds as) (hm : P.follows .mixedOrders = true) {rem : List Nat} (h : Ph P S ops Q m ds as xs base [] rem) : vp P S (.region id ops.toArray true) Q base := by
  intro Γ a w Z F hS hR
  refine wp_region_any hm ?_
  have hR0 : Rel Γ base a { w with drawn := w.drawn + 1 } Z F :=
    ⟨hR.defers, hR.size, hR.pins, ⟨hR.ext.os, hR.ext.tape, hR.ext.output, hR.ext.size, hR.ext.agree⟩, hR.zle, hR.zsub, hR.zlt, fun e he => by
      have := SlotRep.frame (w := w) (w' := { w with drawn := w.drawn + 1 }) (Z' := Z) (T' := Act.T a) (F' := F) (S := []) (fun _ _ => rfl) (fun _ _ => rfl) (fun _ _ _ _ => rfl) (fun b hb => ⟨hb, rfl⟩) (fun _ _ => rfl) (hR.slots e he)
      rwa [fresh_nil] at this, hR.nodup, hR.off, hR.blocks⟩
  rw [show ops.toArray.size = ops.length by simp]
  have hfalse : ∀ i, (Array.replicate ops.length false).getD i false = false := by
    intro i
    rw [Array.getD_eq_getD_getElem?]
    by_cases hi : i < ops.length <;> simp [hi]
  exact h [] .nil (by simp) (by simp) Γ a _ Z F ops.length _ hS hR0 (by simp) (by simp) (fun i o _ h => by rw [hfalse i] at h; simp at h) (fun i => by rw [hfalse i]; simp)

/-! ### the printer's form -/
theorem masks_lt {ms : List Nat} (hm : masksOf ms ops ms = true) (hf : fwdOk ops 0 = true) : ∀ i j, Nat.testBit (ms.getD i 0) j = true → j < i := by
  obtain ⟨hl, hs⟩ := masksOf_spec ops ms hm
  intro i
  induction i using Nat.strongRecOn with
  | _ i ih =>
    intro j hj
    rcases Nat.lt_or_ge i ops.length with h | h
    · rw [hs i ops[i] (by simp [h])] at hj
      obtain ⟨d, h1, h2⟩ := (maskOf_bit _ _).1 hj
      have hd := fwdOk_spec ops 0 hf i h d h1
      rcases h2 with rfl | h2
      · omega
      · have := ih d (by omega) j h2; omega
    · rw [masks_out hl (by omega)] at hj; simp at hj

/-- The static facts in one closed test. -/
def drB (S : Sg) (ops : List Oper) (n : Nat) (ds : List Nat) (ms : List Nat) : Bool := Nat.beq ds.length n && drawOk S ops n ds (asOf ops.length ms) && masksOf ms ops ms && masksB (asOf ops.length ms) n 0 (ms.take n)
theorem drB_dr {n : Nat} {ms : List Nat} (h : drB S ops n ds ms = true) : DR S ops n ds (asOf ops.length ms) := by
  simp only [drB, Bool.and_eq_true, drawOk] at h
  obtain ⟨⟨⟨h1, ⟨⟨⟨o1, o2⟩, o3⟩, o5⟩, o6⟩, h3⟩, h4⟩ := h
  have hmn := Nat.le_of_ble_eq_true o1
  have hdl : ds.length = n := by simpa using h1
  obtain ⟨_, hds⟩ := dstsOk_spec _ _ o2
  have htl : (ops.take n).length = n := by simp [hmn]
  refine ⟨hmn, hdl, nodupB_nodup o3, ?_, fun i h1 h2 => chainOk_spec (ops.length - n) n o5 i h1 (by omega), o6, fun T hT i hi j hj => masks_closed h3 o6 T hT i hi j (mem_asOf hj).2, fun i j hj k hk _ => asOf_mem (mem_asOf hk).1 (masks_trans h3 o6 i j k (mem_asOf hj).2 (mem_asOf hk).2), fun i j hj hij => by
    have := masks_lt h3 o6 i j (mem_asOf hj).2; omega⟩
  intro i hi him
  have hd := hds i (by omega) (by omega)
  refine ⟨?_, ?_⟩
  · have := hd.1; simp only [List.getElem_take] at this
    rw [this, List.getD_eq_getElem?_getD, List.getElem?_eq_getElem (by omega)]; rfl
  · have := hd.2; rw [List.getD_eq_getElem?_getD, List.getElem?_eq_getElem (by omega)]; simpa using this

def PhM (P : Program) (S : Sg) (ops : List Oper) (Q : Exit → Env → Prop) (n : Nat) (ms : List Nat) (es : List (Nat × PV)) (base : Env) (done rem : List Nat) : Prop :=
  drB S ops n (es.map (·.1)) ms = true → Ph P S ops Q n (es.map (·.1)) (asOf ops.length ms) (es.map (·.2)) base done rem

/-- Duties of those that are not passed over. -/
def pureMS (P : Program) (G : World → Prop) (es : List (Nat × PV)) (env : Env) : Nat → List Oper → List (Nat × PV) → List Nat → List Bool → Prop
  | _, [], _, _, _ => True
  | i, o :: os, e :: ys, m :: ms, b :: bs => (match b with | true => True | false => dutyM P G i es env o e.2 m) ∧ pureMS P G es env (i + 1) os ys ms bs
  | _, _, _, _, _ => False
theorem pureMS_all {G : World → Prop} {es : List (Nat × PV)} {n : Nat} {all : List Nat} (has : as = asOf n all) (hn : es.length ≤ n) : ∀ (os : List Oper) (i : Nat) (ys : List (Nat × PV)) (ms : List Nat) (bs : List Bool), pureMS P G es env i os ys ms bs → (∀ j (h : j < ys.length), es[i + j]? = some ys[j]) → (∀ j (h : j < ms.length), maskEnv ms[j] es [] = (ancList as (i + j)).map (ent (es.map (·.1)) (es.map (·.2)))) → (∀ j (h : j < ms.length), all.getD (i + j) 0 = ms[j]) →
    ∀ j (hj : j < os.length), bs.getD j true = false → duty P G as (es.map (·.1)) (es.map (·.2)) env os[j] (i + j)
  | [], _, _, _, _, _, _, _, _, j, hj, _ => by simp at hj
  | o :: os, i, e :: ys, m :: ms, b :: bs, h, hx, ha, hall, j, hj, hb => by
    obtain ⟨h1, h2⟩ := h
    cases j with
    | succ j =>
      have := pureMS_all has hn os (i + 1) ys ms bs h2 (fun j hj => by have := hx (j + 1) (by simp; omega); rwa [show i + (j + 1) = i + 1 + j by omega] at this) (fun j hj => by have := ha (j + 1) (by simp; omega); rwa [show i + (j + 1) = i + 1 + j by omega] at this) (fun j hj => by have := hall (j + 1) (by simp; omega); rwa [show i + (j + 1) = i + 1 + j by omega] at this) j (by simpa using hj) (by simpa using hb)
      rwa [show i + 1 + j = i + (j + 1) by omega] at this
    | zero =>
      have hb : b = false := by simpa using hb
      subst hb
      have h1 : dutyM P G i es env o e.2 m := h1
      have hp : pureM P G es env i [o] [e] [m] := ⟨h1, trivial⟩
      have := pureM_all has hn [o] i [e] [m] hp (fun j hj => by
        have hj0 : j = 0 := by simpa using hj
        subst hj0; exact hx 0 (by simp)) (fun j hj => by
        have hj0 : j = 0 := by simpa using hj
        subst hj0; exact ha 0 (by simp)) (fun j hj => by
        have hj0 : j = 0 := by simpa using hj
        subst hj0; exact hall 0 (by simp))
      exact this.1
  | _ :: _, _, [], _, _, h, _, _, _, _, _, _ => by simp [pureMS] at h
  | _ :: _, _, _ :: _, [], _, h, _, _, _, _, _, _ => by simp [pureMS] at h
  | _ :: _, _, _ :: _, _ :: _, [], h, _, _, _, _, _, _ => by simp [pureMS] at h

/-- Which ones may be passed over. -/
def skOk (ms done : List Nat) (q : Option Nat) : Nat → List Bool → Bool
  | _, [] => true
  | i, b :: bs => (!b || done.contains i || (done.any fun d => Nat.testBit (ms.getD d 0) i) || (match q with | some q => Nat.beq i q || Nat.testBit (ms.getD i 0) q | none => false)) && skOk ms done q (i + 1) bs
theorem skOk_spec {ms done : List Nat} {q : Option Nat} : ∀ (i : Nat) (bs : List Bool), skOk ms done q i bs = true → ∀ j, bs.getD j true = true → j < bs.length → i + j ∈ done ∨ (∃ d ∈ done, Nat.testBit (ms.getD d 0) (i + j) = true) ∨ ∃ q', q = some q' ∧ (i + j = q' ∨ Nat.testBit (ms.getD (i + j) 0) q' = true)
  | _, [], _, j, _, h => by simp at h
  | i, b :: bs, h, j, hj, hl => by
    simp only [skOk, Bool.and_eq_true] at h
    cases j with
    | succ j =>
      have := skOk_spec (i + 1) bs h.2 j (by simpa using hj) (by simpa using hl)
      rwa [show i + 1 + j = i + (j + 1) by omega] at this
    | zero =>
      have hb : b = true := by simpa using hj
      subst hb
      have h1 := h.1
      simp only [Bool.not_true, Bool.false_or, Bool.or_eq_true, List.any_eq_true] at h1
      rcases h1 with (h1 | ⟨d, h1, h2⟩) | h1
      · exact .inl (by simpa using h1)
      · exact .inr (.inl ⟨d, h1, h2⟩)
      · cases q with
        | none => simp at h1
        | some q =>
          simp only [Bool.or_eq_true] at h1
          exact .inr (.inr ⟨q, rfl, h1.imp (fun h => by simpa using h) id⟩)

theorem vRegP {id : Nat} (n : Nat) (es : List (Nat × PV)) (ms : List Nat) (rem : List Nat) (hm : P.follows .mixedOrders = true) (hd : drB S ops n (es.map (·.1)) ms = true) (h : PhM P S ops Q n ms es base [] rem) : vp P S (.region id ops.toArray true) Q base :=
  ph_region (drB_dr hd) hm (h hd)

theorem duties {n : Nat} {ms : List Nat} {es : List (Nat × PV)} {done : List Nat} {q : Option Nat} {sk : List Bool} (hd : drB S ops n (es.map (·.1)) ms = true) (hsk : skOk ms done q 0 sk = true) (hskl : Nat.beq sk.length n = true)
    (hp : pureMS P S.G es base 0 (ops.take n) es (ms.take n) sk) (i : Nat) (hi : i < ops.length) (him : i < n) (h1 : ∀ d ∈ done, i ≠ d ∧ i ∉ (asOf ops.length ms).getD d []) (h2 : ∀ q', q = some q' → i ≠ q' ∧ q' < ops.length ∧ q' ∉ (asOf ops.length ms).getD i []) :
    duty P S.G (asOf ops.length ms) (es.map (·.1)) (es.map (·.2)) base ops[i] i := by
  have D := drB_dr hd
  simp only [drB, Bool.and_eq_true] at hd
  obtain ⟨⟨⟨d1, _⟩, d3⟩, d4⟩ := hd
  obtain ⟨hml, _⟩ := masksOf_spec ops ms d3
  have hel : es.length = n := by simpa using d1
  have hskl : sk.length = n := by simpa using hskl
  have hmn := D.mn
  have hb : sk.getD i true = false := by
    cases hc : sk.getD i true
    · rfl
    · exfalso
      rcases skOk_spec 0 sk hsk i hc (by omega) with h | ⟨d, h, h'⟩ | ⟨q', rfl, h⟩
      · rw [Nat.zero_add] at h; exact (h1 i h).1 rfl
      · rw [Nat.zero_add] at h'; exact (h1 d h).2 (asOf_mem hi h')
      · rw [Nat.zero_add] at h
        obtain ⟨g1, g2, g3⟩ := h2 q' rfl
        rcases h with h | h
        · exact g1 h
        · exact g3 (asOf_mem g2 h)
  have := pureMS_all (as := asOf ops.length ms) (env := base) rfl (by omega) (ops.take n) 0 es (ms.take n) sk hp (fun j hj => by simp [hj]) (masksOk_spec 0 _ (masksB_ok 0 _ (by rw [hel]; exact d4))) (fun j hj => by
    have hj' : j < ms.length := by simp at hj; omega
    simp [hj']) i (by simp; omega) hb
  simpa using this

theorem phLast {n : Nat} {ms : List Nat} {es : List (Nat × PV)} {done : List Nat} (sk : List Bool) (hsk : skOk ms done none 0 sk = true) (hskl : Nat.beq sk.length n = true) (hfree : envFree (es.map (·.1)) base = true) (hal : aliasOk (es.map (·.1)) (asOf ops.length ms) (es.map (·.2)) 0 = true)
    (hp : pureMS P S.G es base 0 (ops.take n) es (ms.take n) sk) (h : vpOps P S ops.toArray Q (ops.drop n) (pushAll (es.map (·.1)) (es.map (·.2)) base)) : PhM P S ops Q n ms es base done [] := by
  intro hd
  have D := drB_dr hd
  have hel : es.length = n := by simpa using D.dl
  refine ph_last D (by simpa using hel) hfree hal (fun i hi him h1 => duties hd hsk hskl hp i hi him h1 (fun q' h => by cases h)) ?_
  have := pushAll_eq (es.map (·.1)) (es.map (·.2)) base (by simp) n (by simp; omega)
  rw [List.take_of_length_le (by simp; omega), List.take_of_length_le (by simp; omega)] at this
  rwa [← this]

def freshL (R : List Nat) (q : Nat) : List Nat → Nat → List (Nat × PV) → List (Nat × PV) → List (Nat × PV)
  | m :: ms, i, e :: es, e' :: es' => (match Nat.testBit m q || Nat.beq i q with | true => e' | false => (e.1, e.2.fresh R)) :: freshL R q ms (i + 1) es es'
  | _, _, _, _ => []
theorem freshL_spec {R : List Nat} {q : Nat} : ∀ (ms : List Nat) (i : Nat) (es es' : List (Nat × PV)), freshL R q ms i es es' = es' → es'.length = es.length → ∀ j, j < es.length → j < ms.length → i + j ≠ q → Nat.testBit (ms.getD j 0) q = false → (es'.map (·.2)).getD j PV.junk = PV.fresh R ((es.map (·.2)).getD j PV.junk)
  | [], _, _, _, _, _, j, _, h, _, _ => by simp at h
  | m :: ms, i, [], _, _, _, j, h, _, _, _ => by simp at h
  | m :: ms, i, e :: es, [], _, hl, _, _, _, _, _ => by simp at hl
  | m :: ms, i, e :: es, e' :: es', h, hl, j, hj, hjm, hne, hb => by
    simp only [freshL, List.cons.injEq] at h
    cases j with
    | zero =>
      have hc : (Nat.testBit m q || Nat.beq i q) = false := by
        have h1 : Nat.testBit m q = false := by simpa using hb
        have h2 : Nat.beq i q = false := by
          cases hc : Nat.beq i q
          · rfl
          · exact absurd (Nat.eq_of_beq_eq_true hc) (by simpa using hne)
        rw [h1, h2]; rfl
      rw [hc] at h
      have h1 := h.1
      simp [← h1]
    | succ j =>
      have := freshL_spec ms (i + 1) es es' h.2 (by simpa using hl) j (by simpa using hj) (by simpa using hjm) (by omega) (by simpa using hb)
      simpa using this

/-- Is a root that is lent to the call still there? -/
def rwLive (env : Env) : List Nat → Prop
  | [] => True
  | r :: rs => (match env.get r with | .junk => False | _ => True) ∧ rwLive env rs
theorem rwLive_spec {env : Env} : ∀ {rs : List Nat}, rwLive env rs → ∀ r ∈ rs, ∃ e ∈ live env [], e.1 = r
  | [], _, r, h => by simp at h
  | r' :: rs, h, r, hr => by
    rcases List.mem_cons.1 hr with rfl | hr
    · rcases get_live env r with hg | hg
      · have := h.1; rw [hg] at this; exact this.elim
      · exact ⟨_, hg, rfl⟩
    · exact rwLive_spec h.2 r hr
theorem rwRoots_mem {gs : List Arg} {g : Arg} {r : Nat} {back : PV → PV} (hg : g ∈ gs) (h : g.rw = some (r, back)) : r ∈ rwRoots gs := by
  induction gs with
  | nil => simp at hg
  | cons a gs ih =>
    simp only [rwRoots]
    rcases List.mem_cons.1 hg with rfl | hg
    · rw [h]; simp
    · have := ih hg
      split <;> simp_all

theorem phCall {n : Nat} {ms : List Nat} {es : List (Nat × PV)} {done rem : List Nat} (q : Nat) (sk : List Bool) {o : Oper} (hoq : ops[q]? = some o) (hqn : Nat.blt q n = true) (hqg : o.guard = none) (hrem : (rem.all fun d => !Nat.beq d q && Nat.testBit (ms.getD d 0) q) = true)
    (hsk : skOk ms done (some q) 0 sk = true) (hskl : Nat.beq sk.length n = true) (hfree : envFree (es.map (·.1)) base = true) (hal : aliasOk (es.map (·.1)) (asOf ops.length ms) (es.map (·.2)) 0 = true)
    (hp : pureMS P S.G es base 0 (ops.take n) es (ms.take n) sk) {f : FuncId} {gs : List Arg} {post : PV → List PV → Prop} {ats : Array TypeId} {args : List PV}
    (hcall : CallsV P S.G f args post) (ho : o.op = .call { callee := .value (.func f), args := (gs.map (·.z)).toArray, argTypes := ats }) (hf : callable P f = true) (hargs : gs.map (·.x) = args)
    (hgive : ∀ g ∈ gs, GiveS (maskEnv (ms.getD q 0) es base) g) (hlive : rwLive (maskEnv (ms.getD q 0) es base) (rwRoots gs))
    (hroots : (nodupB (rwRoots gs) && (roRoots gs).all (fun r => !(rwRoots gs).contains r) && !(rwRoots gs).contains ((es.map (·.1)).getD q 0)) = true)
    (hout : ∀ r outs, post r outs → roRoots gs = [] ∨ (r.closed ∧ PV.closedL outs))
    (H : ∀ r outs, post r outs → ∃ es' B, backEnv gs outs = B ∧ es'.map (·.1) = es.map (·.1) ∧ (es'.map (·.2)).getD q .junk = r ∧ freshL (B.map (·.1)) q ms 0 es es' = es' ∧ r.alias = false ∧ nodupB (B.map (·.1)) = true ∧ noAlias B = true ∧
      envFree (es.map (·.1)) (B ++ base) = true ∧ aliasOk (es.map (·.1)) (asOf ops.length ms) (es'.map (·.2)) 0 = true ∧ PhM P S ops Q n ms es' (B ++ base) (q :: done) rem) : PhM P S ops Q n ms es base done (q :: rem) := by
  intro hd
  have D := drB_dr hd
  have hel : es.length = n := by simpa using D.dl
  have hqn' : q < n := by simpa using hqn
  obtain ⟨hqo, rfl⟩ := List.getElem?_eq_some_iff.1 hoq
  have hd' := hd
  simp only [drB, Bool.and_eq_true] at hd'
  obtain ⟨⟨⟨_, _⟩, d3⟩, d4⟩ := hd'
  obtain ⟨hml, _⟩ := masksOf_spec ops ms d3
  have hmn := D.mn
  have hmk : maskEnv (ms.getD q 0) es base = (ancList (asOf ops.length ms) q).map (ent (es.map (·.1)) (es.map (·.2))) ++ base := by
    have := masksOk_spec 0 _ (masksB_ok (as := asOf ops.length ms) (es := es) 0 (ms.take n) (by rw [hel]; exact d4)) q (by simp; omega)
    rw [Nat.zero_add] at this
    have e : (ms.take n)[q]'(by simp; omega) = ms.getD q 0 := by
      rw [List.getElem_take, List.getD_eq_getElem?_getD, List.getElem?_eq_getElem (by omega)]; rfl
    rw [e] at this
    have h2 := maskEnv_append es (ms.getD q 0) [] base
    rw [List.nil_append] at h2
    rw [h2, this]
  rw [hmk] at hgive hlive
  refine ph_step D (by simpa using hel) hfree hal hqn' hqo hqg (fun d hdd => ?_) (fun i hi him h1 h2 h3 => duties hd hsk hskl hp i hi him h1 (fun q' h => by cases h; exact ⟨h2, hqo, h3⟩)) hcall ho hf hargs hgive (fun g hg r back hb => rwLive_spec hlive r (rwRoots_mem hg hb)) hroots hout ?_
  · have := List.all_eq_true.1 hrem d hdd
    simp only [Bool.and_eq_true, Bool.not_eq_true'] at this
    exact ⟨fun e => by subst e; simp at this, asOf_mem hqo this.2⟩
  · intro r outs hpo
    obtain ⟨es', B, hB, e1, e2, e3, e4, e5, e6, e7, e8, e9⟩ := H r outs hpo
    subst hB
    have hel' : es'.length = n := by have := congrArg List.length e1; simp at this; omega
    refine ⟨es'.map (·.2), by simpa using hel', e2, fun j hj hjq hqj => ?_, e4, nodupB_nodup e5, noAlias_mem e6, e7, e8, ?_⟩
    · refine freshL_spec ms 0 es es' e3 (by omega) j (by omega) (by omega) (by omega) ?_
      cases hc : Nat.testBit (ms.getD j 0) q
      · rfl
      · exact absurd (asOf_mem hqo hc) hqj
    · have := e9 (by rw [e1]; exact hd)
      rwa [e1] at this
end
end Go.Vr
/- The value-level layer, part 33: what is built out of owned parts; arrays by a known place. -/
namespace Go.Vr
open Go
set_option linter.unusedVariables false
set_option linter.unusedSimpArgs false

section pure
variable {P : Program} {G : World → Prop} {o : Oper} {env : Env} {x : PV}
theorem pIxAB {T e : TypeId} {nt n m l : Nat} {k : TK} [hT : Ty P T (.arr m e) nt] [he : Ty P e k n] {y z : Operand} {kk : IntKind} {i : Int} {cs ds : List PV}
    (ho : o.op = .indexAddr T y z) (hy : opd env y = .rbox cs) (hz : opd env z = .v (.int kk i)) (hi : i = (l : Int)) (h1 : Nat.blt l m = true) (hd : cs.drop (l * n) = ds) : PureOp P G o env (.rbox ds) := by
  subst hi
  exact pure_index_arr_rbox ho hy hz (by omega) (by have : l < m := (by simpa using h1); omega) hd
theorem pIxAR {T e : TypeId} {nt n m l j : Nat} {k : TK} [hT : Ty P T (.arr m e) nt] [he : Ty P e k n] {t r : Nat} {cs : List PV} {z : Operand} {kk : IntKind} {i : Int}
    (ho : o.op = .indexAddr T (.tmp t) z) (h : refOf env t = some (r, [])) (hr : env.get r = .box cs) (hz : opd env z = .v (.int kk i)) (hi : i = (l : Int)) (h1 : Nat.blt l m = true) (hj : l * n = j) : PureOp P G o env (.pl r [⟨0, j, 0⟩]) := by
  subst hi hj
  exact pure_index_arr_ref ho h hr hz (by omega) (by have : l < m := (by simpa using h1); omega)
theorem pIxAP {T e : TypeId} {nt n m l : Nat} {k : TK} [hT : Ty P T (.arr m e) nt] [he : Ty P e k n] {t r : Nat} {q q' : List Step} {z : Operand} {kk : IntKind} {i : Int}
    (ho : o.op = .indexAddr T (.tmp t) z) (h : env.get t = .pl r q) (hz : opd env z = .v (.int kk i)) (hi : i = (l : Int)) (h1 : Nat.blt l m = true) (hq : setJ q (lastJ q + l * n) = q') : PureOp P G o env (.pl r q') := by
  subst hi
  exact pure_index_arr_pl ho h hz (by omega) (by have : l < m := (by simpa using h1); omega) hq

theorem run_part_agg {t : TypeId} {k : TK} {n : Nat} [ht : Ty P t k n] (hk : k.agg = true) (cs : Array Value) (off : Nat) (w : World) : (part t cs off).run P w = .ok (.agg (cs.extract off (off + n))) w := by
  simp [Go.part, run_isAgg ht.1, hk, run_sizeOf ht.2]
theorem pFldA {T f off n : Nat} {ft : TypeId} [hf : Fld P T f off ft n] {k : TK} {n' : Nat} [ht : Ty P ft k n'] (hk : k.agg = true) {y : Operand} {cs ds : List PV} (ho : o.op = .field T y f) (hy : opd env y = .agg cs) (hfl : PV.flatL cs) (hc : (cs.drop off).take n' = ds) (hl : Nat.ble (off + n') cs.length = true) : PureOp P G o env (.agg ds) :=
  .of_val fun Γ a w Z F _ hR => by
    have h1' : Rep w Z (.agg cs) (a.eval y) [] := hR.flatOpd hy (by simp) hfl rfl
    obtain ⟨vs, h2, h3⟩ := h1'
    obtain ⟨fs, fd, g1, g2, g3, g4, g5⟩ := hf.h
    subst g4 hc
    have hll := RepL.length _ _ _ h3
    have hl' := Nat.le_of_ble_eq_true hl
    refine ⟨.agg (vs.toArray.extract off (off + n')), ?_, (vs.drop off).take n', ?_, ?_⟩
    · simp [execOp, ho, h2, Instr.field, run_underlying' g1, g2, g3, run_part_agg hk, asAgg]
    · congr 1
      apply Array.toList_inj.1
      rw [Array.toList_extract, List.extract_eq_take_drop]
      simp
    · have hs : cs = cs.take off ++ ((cs.drop off).take n' ++ cs.drop (off + n')) := by
        rw [← List.drop_drop, List.take_append_drop, List.take_append_drop]
      rw [hs] at h3
      obtain ⟨v1, v2, φ1, φ2, rfl, e, q1, q2⟩ := RepL_append.1 h3
      obtain ⟨v3, v4, φ3, φ4, rfl, rfl, q3, q4⟩ := RepL_append.1 q2
      have z : φ3 = [] := by
        have := congrArg List.length e; simp at this
        exact List.length_eq_zero_iff.1 (by omega)
      subst z
      have k1 := RepL.length _ _ _ q1
      have k3 := RepL.length _ _ _ q3
      rw [List.length_take, Nat.min_eq_left (by omega)] at k1
      rw [List.length_take, List.length_drop, Nat.min_eq_left (by omega)] at k3
      rw [List.drop_left' k1, List.take_left' k3]
      exact q3
end pure

/-! ### owned parts -/
theorem fill_own {w : World} {Z : Blocks} {place : Nat → Option (Nat × Nat)} : ∀ (ps : List (Nat × PV)) (vs : List (Nat × Value)) (ψs : List (List Nat)) (cs ds : List PV) (us : Array Value) (φ : List Nat), RepL w Z cs us.toList φ →
    ps.map (·.1) = vs.map (·.1) → ψs.length = ps.length → (∀ i (h : i < ps.length) (h' : i < vs.length), Rep w Z ps[i].2 vs[i].2 (ψs.getD i [])) → fillPV place cs ps = some ds →
    ∃ us' φ' ρ, Instr.fill place us vs = some us' ∧ RepL w Z ds us'.toList φ' ∧ (φ' ++ ρ).Perm (φ ++ ψs.flatten)
  | [], [], ψs, cs, ds, us, φ, h, _, hl, _, hf => by
    simp only [fillPV, Option.some.injEq] at hf
    subst hf
    have : ψs = [] := List.length_eq_zero_iff.1 hl
    subst this
    exact ⟨us, φ, [], rfl, h, by simp⟩
  | [], _ :: _, _, _, _, _, _, _, hk, _, _, _ => by simp at hk
  | _ :: _, [], _, _, _, _, _, _, hk, _, _, _ => by simp at hk
  | _ :: _, _ :: _, [], _, _, _, _, _, _, hl, _, _ => by simp at hl
  | (i, x) :: ps, (i', v) :: vs, ψ :: ψs, cs, ds, us, φ, h, hk, hl, hr, hf => by
    simp only [List.map_cons, List.cons.injEq] at hk
    obtain ⟨rfl, hk⟩ := hk
    simp only [fillPV] at hf
    cases hp : place i with
    | none => simp [hp] at hf
    | some os =>
      obtain ⟨off, size⟩ := os
      rw [hp] at hf
      simp only at hf
      cases hc : (Nat.beq x.cellsL.length size && Nat.ble (off + size) cs.length && x.whole)
      · rw [hc] at hf; simp at hf
      · rw [hc] at hf
        simp only [Bool.and_eq_true] at hc
        obtain ⟨⟨c1, c2⟩, c3⟩ := hc
        have c1 : x.cellsL.length = size := by simpa using c1
        have c2 : off + size ≤ cs.length := Nat.le_of_ble_eq_true c2
        have h0 := (hr 0 (by simp) (by simp)).cells c3
        have h0 : RepL w Z x.cellsL v.cells.toList ψ := by simpa using h0
        have hl0 := RepL.length _ _ _ h0
        have hlu := RepL.length _ _ _ h
        have hs : cs = cs.take off ++ ((cs.drop off).take size ++ cs.drop (off + size)) := by
          rw [← List.drop_drop, List.take_append_drop, List.take_append_drop]
        have h' := h
        rw [hs] at h'
        obtain ⟨vs₁, vs₂, φ₁, φ₂, e1, rfl, l1, l2⟩ := RepL_append.1 h'
        obtain ⟨vs₃, vs₄, φ₃, φ₄, rfl, rfl, l3, l4⟩ := RepL_append.1 l2
        have k1 := RepL.length _ _ _ l1
        rw [List.length_take, Nat.min_eq_left (by omega)] at k1
        have k3 := RepL.length _ _ _ l3
        rw [List.length_take, List.length_drop, Nat.min_eq_left (by omega)] at k3
        have hrow : RepL w Z (putAt cs off x.cellsL) (us.toList.take off ++ (v.cells.toList ++ us.toList.drop (off + size))) (φ₁ ++ (ψ ++ φ₄)) := by
          refine RepL_append.2 ⟨_, _, φ₁, ψ ++ φ₄, rfl, rfl, by rw [e1, List.take_left' k1]; exact l1, RepL_append.2 ⟨_, _, ψ, φ₄, rfl, rfl, h0, ?_⟩⟩
          rw [e1, ← List.append_assoc, List.drop_left' (by simp; omega), c1]
          exact l4
        obtain ⟨us', φ', ρ, f1, f2, f3⟩ := fill_own ps vs ψs _ ds (us.toList.take off ++ (v.cells.toList ++ us.toList.drop (off + size))).toArray _ (by simpa using hrow) hk (by simpa using hl) (fun j hj hj' => by simpa using hr (j + 1) (Nat.succ_lt_succ hj) (Nat.succ_lt_succ hj')) hf
        refine ⟨us', φ', ρ ++ φ₃, ?_, f2, ?_⟩
        · rw [fill_step hp (by have := hl0; simp at this; omega) (by rw [← Array.length_toList, hlu]; exact c2)]
          exact f1
        · rw [← List.append_assoc, List.flatten_cons]
          refine (List.Perm.append_right φ₃ f3).trans ?_
          simp only [List.append_assoc]
          refine List.Perm.append_left φ₁ ?_
          refine (List.perm_append_comm_assoc ψ φ₄ _).trans ?_
          refine List.Perm.trans ?_ (List.perm_append_comm_assoc φ₄ φ₃ _)
          refine List.Perm.append_left φ₄ ?_
          rw [← List.append_assoc]
          exact List.perm_append_comm

/-- The slot whose blocks the part takes over. -/
def ownOf (C : List Nat) : Operand → List Nat
  | .tmp t => match C.contains t with | true => [t] | false => []
  | _ => []
def partsOk (env : Env) (C : List Nat) : List (Nat × Operand) → Prop
  | [] => True
  | (_, y) :: r => (match ownOf C y with | [] => (opd env y).flat | _ => True) ∧ partsOk env C r

section
variable {P : Program} {S : Sg} {Q : Exit → Env → Prop} {env env' : Env} {ops : Array Oper} {o : Oper} {rest : List Oper}

theorem parts_rep {Γ : Ctx} {a : Act} {w : World} {Z : Blocks} {F : Nat → List Nat} (hR : Rel Γ env a w Z F) (C : List Nat) : ∀ (l : List (Nat × Operand)), partsOk env C l → (∀ p ∈ flatOpds env l, p.2.whole = true) →
    (flatOpds env l).map (·.1) = (l.map fun p => (p.1, a.eval p.2)).map (·.1) ∧ (l.map fun p => (ownOf C p.2).flatMap F).length = (flatOpds env l).length ∧
      ∀ i (h : i < (flatOpds env l).length) (h' : i < (l.map fun p => (p.1, a.eval p.2)).length), Rep w Z (flatOpds env l)[i].2 (l.map fun p => (p.1, a.eval p.2))[i].2 ((l.map fun p => (ownOf C p.2).flatMap F).getD i [])
  | [], _, _ => ⟨rfl, rfl, fun i h => by simp [flatOpds] at h⟩
  | (i, y) :: r, hf, hw => by
    simp only [flatOpds, partsOk] at hf hw
    obtain ⟨h1, h2, h3⟩ := parts_rep hR C r hf.2 (fun p hp => hw p (by simp [hp]))
    have hx : (opd env y).whole = true := hw (i, opd env y) (by simp)
    refine ⟨by simp only [flatOpds, List.map_cons, h1], by simp only [flatOpds, List.map_cons, List.length_cons, h2], ?_⟩
    intro j hj hj'
    cases j with
    | zero =>
      have key : Rep w Z (opd env y) (a.eval y) ((ownOf C y).flatMap F) := by
        have flat : (opd env y).flat → Rep w Z (opd env y) (a.eval y) [] := fun hfl => hR.flatOpd rfl (by intro e; have e : opd env y = .junk := e; rw [e] at hx; simp [PV.whole] at hx) hfl (whole_alias hx)
        cases y with
        | tmp t =>
          have hf1 := hf.1
          simp only [ownOf] at hf1 ⊢
          cases hc : C.contains t
          · rw [hc] at hf1
            exact flat hf1
          · simp only [List.flatMap_cons, List.flatMap_nil, List.append_nil]
            exact hR.rep rfl hx
        | const v => exact flat hf.1
        | global g => exact flat hf.1
        | func f => exact flat hf.1
      simpa [flatOpds] using key
    | succ j =>
      simp only [flatOpds, List.map_cons, List.getElem_cons_succ, List.getD_cons_succ]
      exact h3 j (by simpa [flatOpds] using hj) (by simpa using hj')

theorem parts_flat {F : Nat → List Nat} {C : List Nat} : ∀ (l : List (Nat × Operand)), (l.map fun p => (ownOf C p.2).flatMap F).flatten = ((l.map fun p => ownOf C p.2).flatten).flatMap F
  | [] => rfl
  | p :: l => by simp [parts_flat l]

/-- Slot d gets a value that takes over what the slots of C own. -/
theorem Rel.takeC {Γ : Ctx} {a : Act} {w w' : World} {Z : Blocks} {F : Nat → List Nat} (hS : S.of Γ) (hR : Rel Γ env a w Z F) {d : Nat} {C : List Nat} {x : PV} {val : Value} {φ : List Nat} (hd : S.ok d = true) (hC : (d :: C).Nodup)
    (hw : Quiet w w') (hx : Rep w' Z x val φ) (hn : φ.Nodup) (hs : ∀ b ∈ φ, (w.heap.size ≤ b ∧ b < w'.heap.size) ∨ ∃ c ∈ C, b ∈ F c) : ∃ F', Rel Γ ((d, x) :: (C.map (fun c => (c, PV.junk)) ++ env)) (a.put (some d) val) w' Z F' := by
  have hdN : d < a.tmps.size := by rw [hR.size, hS.2.1]; exact Sg.ok_lt hd
  have hdC : d ∉ C := (List.nodup_cons.1 hC).1
  have hkeys : ((((d, x) :: C.map (fun c => (c, PV.junk))) : Env).map (·.1)) = d :: C := by
    simp only [List.map_cons, List.map_map]
    congr 1
    exact List.map_id' C
  have hag : ∀ b, b < w.heap.size → Agree w w' b := hw.agree
  refine ⟨fun i => if i = d then φ else if i ∈ C then [] else F i, hR.update (a' := a.put (some d) val) (w' := w') (Z' := Z) ((d, x) :: C.map (fun c => (c, PV.junk)))
    (by rw [hkeys]; exact hC)
    (by
      intro e he
      simp only [List.mem_cons, List.mem_map] at he
      rcases he with rfl | ⟨c, _, rfl⟩
      · exact hx.fresh _
      · rfl)
    hR.defers (by simp [Act.put, hR.size]) (pins_put hS hR hd _)
    (by rw [hkeys]; intro i hi; simp only [List.mem_cons, not_or] at hi; exact Act.T_put_ne _ _ _ _ (Ne.symm hi.1))
    (by rw [hkeys]; intro i hi; simp only [List.mem_cons, not_or] at hi; rw [if_neg hi.1, if_neg hi.2])
    (by intro i hi b hb; exact hag b (hR.blocks i b hb).1)
    (hw.anti fun b hb => Nat.lt_of_lt_of_le (Γ.zflt b hb) hR.ext.size)
    (fun b hb => ⟨hb, hag b (hR.zlt b hb)⟩) (fun b hb => .inl hb) (fun b hb => Nat.lt_of_lt_of_le (hR.zlt b hb) hw.size) ?_ ?_ ?_⟩
  · intro e he
    simp only [List.mem_cons, List.mem_map] at he
    rcases he with rfl | ⟨c, hc, rfl⟩
    · simp only [if_true]; rw [Act.T_put _ _ _ hdN]; exact SlotRep.of_rep hx
    · have : c ≠ d := fun e => hdC (e ▸ hc)
      simp only [if_neg this, hc, if_true]; rfl
  · have : (C.map (fun c => (c, PV.junk))).map (fun e : Nat × PV => if e.1 = d then φ else if e.1 ∈ C then [] else F e.1) = C.map (fun _ => []) := by
      rw [List.map_map]
      apply List.map_congr_left
      intro c hc
      have : c ≠ d := fun e => hdC (e ▸ hc)
      simp [this, hc]
    simp only [List.map_cons, if_true, this, List.flatten_cons]
    have : (C.map (fun _ => ([] : List Nat))).flatten = [] := by simp
    rw [this, List.append_nil]
    exact hn
  · rw [hkeys]
    intro e he b hb
    have hb' : b ∈ φ := by
      simp only [List.mem_cons, List.mem_map] at he
      rcases he with rfl | ⟨c, hc, rfl⟩
      · simpa using hb
      · have : c ≠ d := fun e => hdC (e ▸ hc)
        simp [this, hc] at hb
    rcases hs b hb' with ⟨h1, h2⟩ | ⟨c, hc, h1⟩
    · exact ⟨.inl h1, h2, fun hz => by have := hR.zlt b hz; omega, fun hz => by have := Γ.zflt b hz; have := hR.ext.size; omega⟩
    · have := hR.blocks c b h1
      exact ⟨.inr ⟨c, by simp [hc], h1⟩, Nat.lt_of_lt_of_le this.1 hw.size, this.2.1, this.2.2.1⟩

theorem own_nodup {Γ : Ctx} {a : Act} {w : World} {Z : Blocks} {F : Nat → List Nat} (hR : Rel Γ env a w Z F) : ∀ {C : List Nat}, C.Nodup → (C.flatMap F).Nodup
  | [], _ => by simp
  | c :: C, h => by
    rw [List.nodup_cons] at h
    rw [List.flatMap_cons, List.nodup_append]
    refine ⟨hR.fnodup c, own_nodup hR h.2, ?_⟩
    intro b hb b' hb' e
    subst e
    obtain ⟨c', hc', hb'⟩ := List.mem_flatMap.1 hb'
    exact hR.fdisj (fun e => by subst e; exact h.1 hc') hb hb'

/-- A slice literal with owned parts. -/
theorem vpOps_buildSliceOwn {T e : TypeId} {m n nt bytes d : Nat} {k : TK} {zs cs : List PV} {els : List (List PV)} (C : List Nat) [hT : Ty P T (.slice e) nt] [he : Ty P e k n] [hz : ZerC P e zs bytes] {parts : Array (Nat × Operand)} (ho : o.op = .buildSlice T m parts) (hg : o.guard = none) (hd : o.dst = some d) (hok : S.ok d = true)
    (hC : nodupB (d :: C) = true) (hCp : (parts.toList.map fun p => ownOf C p.2).flatten = C) (hf : partsOk env C parts.toList)
    (hn : Nat.beq zs.length n = true) (hn0 : Nat.blt 0 n = true) (hm : Nat.ble (m * n) 16777216 = true) (h : fillPV (fun i => some (i * n, n)) (List.replicate m zs).flatten (flatOpds env parts.toList) = some cs) (hE : m = 1 ∧ [cs] = els)
    (hk : vpOps P S ops Q rest ((d, .own n els) :: (C.map (fun c => (c, PV.junk)) ++ env))) : vpOps P S ops Q (o :: rest) env := by
  intro Γ a w Z F hS hR
  refine wpList_plain hg fun K hK => ?_
  obtain ⟨rfl, rfl⟩ := hE
  obtain ⟨z, h1, h2⟩ := hz.h
  obtain ⟨d1, g1, g2⟩ := und_of_tk hT.k
  cases d1 <;> simp [tk] at g2
  rw [g2] at g1
  have hn' : zs.length = n := by simpa using hn
  have hn0' : 0 < n := by simpa using hn0
  have hm' : ¬ 1 * n > 16777216 := by have := Nat.le_of_ble_eq_true hm; omega
  have hzl := RepL.length _ _ _ (h2 w Z)
  have hzn : z.cells.size = n := by simpa [hn'] using hzl
  obtain ⟨k1, k2, k3⟩ := parts_rep hR C parts.toList hf (fillPV_whole _ _ _ h)
  obtain ⟨zarr, hzarr⟩ : ∃ zarr, zarr = (Array.range (1 * n)).map (fun i => z.cells[i % z.cells.size]!) := ⟨_, rfl⟩
  have hzz : RepL w Z (List.replicate 1 zs).flatten zarr.toList [] := by
    rw [hzarr, zeros_eq z.cells 1 n hzn hn0']
    simpa using h2 w Z
  obtain ⟨us, φ', ρ, f1, f2, f3⟩ := fill_own _ _ _ _ _ zarr [] hzz k1 k2 k3 h
  rw [List.nil_append, parts_flat, hCp] at f3
  have hCn := nodupB_nodup hC
  have hnd : (φ' ++ ρ).Nodup := f3.nodup_iff.2 (own_nodup hR (List.nodup_cons.1 hCn).2)
  have hmem : ∀ b ∈ φ', ∃ c ∈ C, b ∈ F c := fun b hb => List.mem_flatMap.1 (f3.subset (List.mem_append_left _ hb))
  have hcl : cs.length = n := by rw [fillPV_length _ _ _ h]; simp [hn']
  have hul := RepL.length _ _ _ f2
  have hrun : (execOp a.eval o).run P w = .ok (.value (.slice (some ⟨w.heap.size, 0, none⟩) 1 1)) (w.alloc (.cells us e)) := by
    have hnew : (newRow e us).run P w = .ok ⟨w.heap.size, 0, none⟩ (w.alloc (.cells us e)) := rfl
    have h0 : ¬ 1 * n = 0 := by omega
    simp only [execOp, ho, run_bind, Instr.buildSlice, run_underlying' g1, run_sizeOf he.n, run_pure, if_neg hm', if_neg h0, run_zeroValue h1]
    rw [← hzarr]
    simp [f1, hnew]
  simp only [Oper.wp, hrun, Oper.upon]
  refine hK _ _ ?_
  rw [hd]
  have hold : ∀ b ∈ φ', b < w.heap.size := fun b hb => by
    obtain ⟨c, _, hc⟩ := hmem b hb
    exact (hR.blocks c b hc).1
  obtain ⟨F', hR'⟩ := hR.takeC hS (d := d) (C := C) (x := .own n [cs]) (val := .slice (some ⟨w.heap.size, 0, none⟩) 1 1) (φ := w.heap.size :: φ') hok hCn (quiet_alloc w (.cells us e))
    (.inr ⟨w.heap.size, 0, 1, [us.toList], φ', rfl, rfl, Nat.le_refl _, Room_alloc w us e (1 * n) (by have := hul; simp at this; omega), ⟨us.toList, [], φ', [], rfl, by simp, hcl, RepL.mono (fun b hb => ⟨hb, heap_push_agree w _ b (hR.zlt b hb)⟩) _ _ _ (fun b hb => heap_push_agree w _ b (hold b hb)) f2, rfl, rfl⟩, by simpa using cellsAt_alloc w us e⟩)
    (List.nodup_cons.2 ⟨fun hb => by have := hold _ hb; omega, (List.nodup_append.1 hnd).1⟩)
    (fun b hb => by
      rcases List.mem_cons.1 hb with rfl | hb
      · exact .inl ⟨Nat.le_refl _, by simp⟩
      · exact .inr (hmem b hb))
  exact hk Γ _ _ Z F' hS hR'

/-- A struct literal with owned parts. -/
theorem vpOps_buildOwn {T : TypeId} {d : Nat} {offs : List (Nat × Nat)} {zs cs : List PV} {bytes : Nat} (C : List Nat) [hs : StL P T offs] [hz : ZerC P T zs bytes] {parts : Array (Nat × Operand)} (ho : o.op = .build T parts) (hg : o.guard = none) (hd : o.dst = some d) (hok : S.ok d = true)
    (hC : nodupB (d :: C) = true) (hCp : (parts.toList.map fun p => ownOf C p.2).flatten = C) (hf : partsOk env C parts.toList) (h : fillPV (fun i => offs[i]?) zs (flatOpds env parts.toList) = some cs)
    (hk : vpOps P S ops Q rest ((d, .agg cs) :: (C.map (fun c => (c, PV.junk)) ++ env))) : vpOps P S ops Q (o :: rest) env := by
  intro Γ a w Z F hS hR
  refine wpList_plain hg fun K hK => ?_
  obtain ⟨z, h1, h2⟩ := hz.h
  obtain ⟨fs, g1, g2, g3⟩ := hs.h
  obtain ⟨k1, k2, k3⟩ := parts_rep hR C parts.toList hf (fillPV_whole _ _ _ h)
  obtain ⟨us, φ', ρ, f1, f2, f3⟩ := fill_own _ _ _ _ _ z.cells [] (h2 w Z) k1 k2 k3 h
  rw [List.nil_append, parts_flat, hCp] at f3
  have hCn := nodupB_nodup hC
  have hnd : (φ' ++ ρ).Nodup := f3.nodup_iff.2 (own_nodup hR (List.nodup_cons.1 hCn).2)
  have hmem : ∀ b ∈ φ', ∃ c ∈ C, b ∈ F c := fun b hb => List.mem_flatMap.1 (f3.subset (List.mem_append_left _ hb))
  have hm : (fs.mapM fun f => do pure (f.offset, ← sizeOf f.type) : Sem (Array (Nat × Nat))).run P w = .ok offs.toArray w := by
    rw [Array.mapM_eq_mapM_toList]
    have := run_places w fs.toList g3
    rw [g2] at this
    show ((fs.toList.mapM fun f => do pure (f.offset, ← sizeOf f.type) : Sem (List (Nat × Nat))) >>= fun l => pure l.toArray).run P w = _
    rw [run_bind, this]
    rfl
  have hrun : (execOp a.eval o).run P w = .ok (.value (.agg us)) w := by
    simp only [execOp, ho, run_bind, Instr.build, run_zeroValue h1, run_underlying' g1, hm, run_pure]
    simp [f1]
  simp only [Oper.wp, hrun, Oper.upon]
  refine hK _ _ ?_
  rw [hd]
  obtain ⟨F', hR'⟩ := hR.takeC hS (d := d) (C := C) (x := .agg cs) (val := .agg us) (φ := φ') hok hCn (Ext.refl _ _) ⟨us.toList, by simp, f2⟩ (List.nodup_append.1 hnd).1 (fun b hb => .inr (hmem b hb))
  exact hk Γ _ _ Z F' hS hR'

/-- A variable out of a value that is owned. -/
theorem vpOps_boxOwn {t : TypeId} {d u : Nat} {x : PV} {cs : List PV} (ho : o.op = .box t (.tmp u)) (hg : o.guard = none) (hd : o.dst = some d) (hok : S.ok d = true) (hdu : nodupB [d, u] = true) (hu : env.get u = x) (hx : x.whole = true) (hc : x.cellsL = cs)
    (hk : vpOps P S ops Q rest ((d, .box cs) :: (u, .junk) :: env)) : vpOps P S ops Q (o :: rest) env := by
  intro Γ a w Z F hS hR
  refine wpList_plain hg fun K hK => ?_
  subst hc
  have h1 := hR.rep hu hx
  have hrun : (execOp a.eval o).run P w = .ok (.value (.pointer (some ⟨w.heap.size, 0, none⟩))) (w.alloc (.cells (Act.T a u).cells t)) := by
    have : a.eval (.tmp u) = Act.T a u := rfl
    simp [execOp, ho, Instr.box, run_newVar, this]
  simp only [Oper.wp, hrun, Oper.upon]
  refine hK _ _ ?_
  rw [hd]
  have hold : ∀ b ∈ F u, b < w.heap.size := fun b hb => (hR.blocks u b hb).1
  obtain ⟨F', hR'⟩ := hR.takeC hS (d := d) (C := [u]) (x := .box x.cellsL) (val := .pointer (some ⟨w.heap.size, 0, none⟩)) (φ := w.heap.size :: F u) hok (nodupB_nodup hdu) (quiet_alloc w _)
    (box_new (h1.cells hx) hold hR.zlt)
    (List.nodup_cons.2 ⟨fun hb => by have := hold _ hb; omega, hR.fnodup u⟩)
    (fun b hb => by
      rcases List.mem_cons.1 hb with rfl | hb
      · exact .inl ⟨Nat.le_refl _, by simp⟩
      · exact .inr ⟨u, by simp, hb⟩)
  exact hk Γ _ _ Z F' hS hR'
end
end Go.Vr
/- The value-level layer, part 34: short rules for the printer: strings, arrays, closures. -/
namespace Go.Vr
open Go
set_option linter.unusedVariables false
set_option linter.unusedSimpArgs false
section pure
variable {P : Program} {G : World → Prop} {o : Oper} {env : Env} {x : PV}
theorem pIxStr {T : TypeId} {n m : Nat} [hT : Ty P T .str n] {y z : Operand} {s : ByteArray} {k : IntKind} {i : Int} (ho : o.op = .index T y z) (hy : opd env y = .v (.string s)) (hz : opd env z = .v (.int k i)) (hi : i = (m : Int)) (h : m < s.size) : PureOp P G o env (.v (.int .u8 (sb s m))) := by
  subst hi
  exact pure_index_str ho hy hz (by omega) (by omega)
theorem pIxAgg {T e : TypeId} {nt n m l : Nat} {k : TK} [hT : Ty P T (.arr m e) nt] [he : Ty P e k n] {y z : Operand} {cs : List PV} {kk : IntKind} {i : Int} (ho : o.op = .index T y z) (hy : opd env y = .agg cs) (hz : opd env z = .v (.int kk i)) (hf : PV.flatL cs) (hk : k.agg = false)
    (hi : i = (l : Int)) (hc : cs[l * n]? = some x) (hl : Nat.blt l m = true) : PureOp P G o env x := by
  subst hi
  exact pure_index_agg hk ho hy hf hz (by omega) (by have : l < m := (by simpa using hl); omega) hc
theorem mvOkL_all {cs : List PV} (h : mvOkL cs = true) : ∀ c ∈ cs, mvOk c = true := by
  induction cs with
  | nil => intro c hc; simp at hc
  | cons a l ih =>
    simp only [mvOkL, Bool.and_eq_true] at h
    intro c hc
    rcases List.mem_cons.1 hc with rfl | hc
    · exact h.1
    · exact ih h.2 c hc
theorem pMkF {f : FuncId} {ys : Array Operand} {caps : List PV} (ho : o.op = .makeFunc (.func f) #[] ys) (h : ys.toList.map (opd env) = caps) (hc : mvOkL caps = true) : PureOp P G o env (.clo f caps) :=
  pure_makeFunc ho h fun c hcc => ⟨mvOk_flat _ (mvOkL_all hc c hcc), mvOk_al (mvOkL_all hc c hcc), mvOk_ne (mvOkL_all hc c hcc)⟩
/-- A part of a text. -/
def subB (s : ByteArray) (l h : Nat) : ByteArray := s.extract l h
theorem pSlStr {T : TypeId} {n l h : Nat} [hT : Ty P T .str n] {y : Operand} {lo hi : Option Operand} {s : ByteArray} {i j : Int} (ho : o.op = .slice T y lo hi none) (hy : opd env y = .v (.string s)) (hl : lohi env lo 0 = some i) (hh : lohi env hi s.size = some j)
    (hi' : i = (l : Int)) (hj' : j = (h : Int)) (h1 : l ≤ h) (h2 : h ≤ s.size) : PureOp P G o env (.v (.string (s.extract l h))) := by
  have := pure_slice_str (P := P) (G := G) ho hy hl hh (by omega) (by omega) (by omega)
  rw [hi', hj', Int.toNat_natCast, Int.toNat_natCast] at this
  exact this
theorem pQuoP {T T' : TypeId} {y z : Operand} {k : IntKind} {p q : Int} (ho : o.op = .binOp .quo T y z T') (hy : opd env y = .v (.int k p)) (hz : opd env z = .v (.int k q)) (h0 : 0 ≤ p) (hq : 0 < q) (h : p ≤ k.max) : PureOp P G o env (.v (.int k (p / q))) :=
  pQuoN ho hy hz h0 hq ⟨Int.le_trans (by cases k <;> decide) (Int.ediv_nonneg h0 (by omega)), Int.le_trans (Int.ediv_le_self q h0) h⟩
theorem pEqI {k : IntKind} {a b : Int} (h : PureOp P G o env (.v (.int k a))) (e : a = b) : PureOp P G o env (.v (.int k b)) := e ▸ h
end pure
theorem ini8 {n : Int} (h1 : -128 ≤ n) (h2 : n ≤ 127) : IntKind.i8.min ≤ n ∧ n ≤ IntKind.i8.max := by
  simp [IntKind.min, IntKind.max, IntKind.signed, IntKind.bits]; omega
theorem inu16 {n : Int} (h1 : 0 ≤ n) (h2 : n ≤ 65535) : IntKind.u16.min ≤ n ∧ n ≤ IntKind.u16.max := by
  simp [IntKind.min, IntKind.max, IntKind.signed, IntKind.bits]; omega
theorem u64_nat (e : Int) : ∃ n : Nat, IntKind.wrap .u64 e = (n : Int) ∧ n < 18446744073709551616 := by
  refine ⟨(IntKind.wrap .u64 e).toNat, ?_, ?_⟩
  · simp [IntKind.wrap, IntKind.signed, IntKind.bits]; omega
  · simp [IntKind.wrap, IntKind.signed, IntKind.bits]; omega
/-- A nil slice is read as an empty one. -/
theorem ghost_nil_sh {env : Env} {k n : Nat} (hk : env.get k = .v (.slice none 0 0)) : Ghost env ((k, .own n []) :: env) := ghost_nil hk
theorem give_nil {env : Env} {n : Nat} {z : Operand} (h : opd env z = .v (.slice none 0 0)) : GiveS env ⟨z, .sh n [], none, none⟩ := by
  intro Γ a w Z F hR
  have := hR.imm_eval h
  exact ⟨[], ⟨rfl, .inl ⟨rfl, none, 0, this⟩⟩, rfl⟩
end Go.Vr
/- The value-level layer, part 35: tables of bools (arrays of many cells); parts of texts. -/
namespace Go.Vr
open Go
set_option linter.unusedVariables false
set_option linter.unusedSimpArgs false
def boolv (b : Bool) : PV := .v (.bool b)
theorem mvB : ∀ bs : List Bool, mvOkL (bs.map boolv) = true
  | [] => rfl
  | b :: bs => by simp [mvOkL, mvOk, boolv, mvB bs]
theorem viewB (bs : List Bool) : PV.viewL (bs.map boolv) = bs.map boolv := by
  rw [PV.viewL_eq, List.map_map]; rfl
theorem oneB : ∀ bs : List Bool, oneL (bs.map boolv) = true
  | [] => rfl
  | b :: bs => by simp only [List.map_cons, oneL, oneB bs, Bool.and_true]; rfl
theorem closedB : ∀ bs : List Bool, PV.closedL (bs.map boolv)
  | [] => trivial
  | b :: bs => ⟨trivial, closedB bs⟩
theorem dropB {bs : List Bool} {c : Nat} (h : c < bs.length) : (bs.map boolv).drop c = boolv (bs.getD c false) :: (bs.map boolv).drop (c + 1) := by
  rw [List.drop_eq_getElem_cons (by simpa using h)]
  simp [h]
theorem RepL_rep {w : World} {Z : Blocks} (n : Nat) (v : Value) : RepL w Z (List.replicate n (.v v)) (Value.agg (Array.replicate n v)).cells.toList [] := by
  have := RepL_v (w := w) (Z := Z) (List.replicate n v)
  simpa [Value.cells] using this
section pure
variable {P : Program} {G : World → Prop} {o : Oper} {env : Env}
theorem pIxBool {T e : TypeId} {nt : Nat} [hT : Ty P T (.arr 256 e) nt] [he : Ty P e .bool 1] {y z : Operand} {kk : IntKind} {i : Int} {bs : List Bool} (ho : o.op = .indexAddr T y z) (hy : opd env y = .rbox (bs.map boolv)) (hz : opd env z = .v (.int kk i)) (hl : bs.length = 256) (h0 : 0 ≤ i ∧ i < 256) :
    PureOp P G o env (.rbox (boolv (bs.getD i.toNat false) :: (bs.map boolv).drop (i.toNat + 1))) :=
  pure_index_arr_rbox ho hy hz h0.1 h0.2 (by rw [Nat.mul_one]; exact dropB (by omega))
theorem pIxBoolB {T e : TypeId} {nt : Nat} [hT : Ty P T (.arr 256 e) nt] [he : Ty P e .bool 1] {t r : Nat} {z : Operand} {kk : IntKind} {i : Int} {cs : List PV} (ho : o.op = .indexAddr T (.tmp t) z) (h : refOf env t = some (r, [])) (hr : env.get r = .box cs) (hz : opd env z = .v (.int kk i)) (h0 : 0 ≤ i ∧ i < 256) :
    PureOp P G o env (.pl r [⟨0, i.toNat, 0⟩]) := by
  have := pure_index_arr_ref (P := P) (G := G) ho h hr hz h0.1 h0.2
  rwa [Nat.mul_one] at this
theorem pLdBools {t : TypeId} {k : TK} [Ty P t k 256] {y r : Nat} {bs : List Bool} (ho : o.op = .load t (.tmp y)) (h : plOf env y = some (r, [⟨0, 0, 0⟩])) (hr : env.get r = .box (bs.map boolv)) (hk : k.agg = true) (hl : bs.length = 256) : PureOp P G o env (.agg (bs.map boolv)) :=
  pure_load_pl_agg hk ho h hr rfl rfl (by show ((bs.map boolv).drop 0).take 256 = _; rw [List.drop_zero, List.take_of_length_le (by simp; omega)]) (by simp [hl]) (mvOkL_flat _ (mvB bs))
end pure
section ops
variable {P : Program} {S : Sg} {Q : Exit → Env → Prop} {env : Env} {ops : Array Oper} {o : Oper} {rest : List Oper}
theorem vStBool {T : TypeId} [ht : Ty P T .bool 1] {y r j : Nat} {z : Operand} {bs : List Bool} {b : Bool} (ho : o.op = .store T (.tmp y) z) (hg : o.guard = none) (hd : o.dst = none) (hy : plOf env y = some (r, [⟨0, j, 0⟩])) (hr : env.get r = .box (bs.map boolv)) (hz : opd env z = .v (.bool b)) (hj : j < bs.length)
    (h : vpOps P S ops Q rest ((r, .box ((bs.set j b).map boolv)) :: env)) : vpOps P S ops Q (o :: rest) env :=
  vpOps_store (cells := [.v (.bool b)]) ho hg hd hy hr rfl rfl hz rfl trivial rfl rfl rfl (by show j + 1 ≤ _; rw [List.length_map]; exact hj) (by
    show PV.box (putAt (bs.map boolv) j [.v (.bool b)]) = _
    rw [putAt_one _ _ _ (by simpa using hj), List.map_set]; rfl) rfl h
theorem vStBools {T : TypeId} {k : TK} [ht : Ty P T k 256] {y r : Nat} {z : Operand} {bs : List Bool} {cs : List PV} (ho : o.op = .store T (.tmp y) z) (hg : o.guard = none) (hd : o.dst = none) (hy : plOf env y = some (r, [⟨0, 0, 0⟩])) (hr : env.get r = .box cs) (hz : opd env z = .agg (bs.map boolv)) (hl : bs.length = 256) (hcl : cs.length = 256)
    (h : vpOps P S ops Q rest ((r, .box (bs.map boolv)) :: env)) : vpOps P S ops Q (o :: rest) env :=
  vpOps_store (cells := bs.map boolv) ho hg hd hy hr rfl rfl hz rfl (mvOkL_flat _ (mvB bs)) rfl (oneB bs) (by simp [hl]) (by show 0 + _ ≤ _; simp [hl, hcl]) (by
    show PV.box (putAt cs 0 (bs.map boolv)) = _
    rw [putAt_full (by simp [hl, hcl])]) rfl h
end ops

/-! ### parts of texts -/
theorem ext_all (s : ByteArray) : s.extract 0 s.size = s := ByteArray.extract_zero_size
theorem sb_ext {s : ByteArray} {a b i : Nat} (h : a + i < b) (hb : b ≤ s.size) : sb (s.extract a b) i = sb s (a + i) := by
  unfold sb
  congr 1
  simp only [ByteArray.data_extract, Array.toList_extract, List.extract_eq_take_drop, List.getD_eq_getElem?_getD]
  rw [List.getElem?_take, if_pos (by omega), List.getElem?_drop]
theorem ext_ext {s : ByteArray} {a b c d : Nat} (h : a + d ≤ b) : (s.extract a b).extract c d = s.extract (a + c) (a + d) := by
  rw [ByteArray.extract_extract]; congr 1; omega
theorem sb_ext0 {s : ByteArray} {k i : Nat} (h : i < k) (hb : k ≤ s.size) : sb (s.extract 0 k) i = sb s i := by rw [sb_ext (by omega) hb, Nat.zero_add]
theorem sb_extk {s : ByteArray} {k : Nat} (h : k < s.size) : sb (s.extract k s.size) 0 = sb s k := by rw [sb_ext (by omega) (Nat.le_refl _), Nat.add_zero]
theorem ext_size {s : ByteArray} {a b : Nat} (h : a ≤ b) (hb : b ≤ s.size) : (s.extract a b).size = b - a := by
  rw [ByteArray.size_extract]; omega
end Go.Vr
