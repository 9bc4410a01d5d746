/- A part of the proof: an abstract machine over the model's code, and the walks that use it. No condition. -/
import Derived.Test.YtbalfnofcfgpeaaWk

set_option linter.unusedVariables false
set_option linter.unusedSimpArgs false

/- For every list of instructions that were done and every description, PipeApart returns true and its arguments read as before. No condition. -/
namespace Go.Proofs.Ytbalfnofcfgpeaa.pipeApart
open Go.ChangeShapes Go.WideShapes Go.ChangeAt Go.RowKit
set_option linter.unusedVariables false
set_option maxRecDepth 100000

theorem own : ownKnob Try.prog.godebug = none := by kernel_rfl

theorem contract (H : Type) (enc : TypeId × Value → H) (W : World) (base : Nat) (args : Array Value) (ds gs : List (DataW H)) (before : List MemPlace)
    (hval : ∀ (j : Nat) t v, Try.f3.params[j]? = some t → args[j]? = some v → Value.okWide Try.prog W .any base t v)
    (hW : DataW.Whole enc Try.prog Try.f3.params.toList Rows.pipeApartSpec.vars false W args.toList ds gs before) :
    Calls Try.prog 3 args W fun e W' => ∃ v, e = .returned v ∧ Rows.pipeApartSpec.post enc Try.prog Try.f3 false true false false W args v W' := by
  have hW' := hW
  have hlt := hW.lt
  obtain ⟨p, q, hA0, hV, rfl, hfz, hnd⟩ := hW
  have hA : DataW.TrodAll enc Try.prog W 0 (fun _ => true) true Try.f3.params.toList args.toList ds p := hA0
  rw [Try.params3] at hA hval
  obtain ⟨v0, vs0, d0, ds0, p0, q0, hargs, rfl, rfl, h0, r0⟩ := trodAll_cons hA
  obtain ⟨v1, vs1, d1, ds1, p1, q1, rfl, rfl, rfl, h1, r1⟩ := trodAll_cons r0
  obtain ⟨rfl, rfl, rfl⟩ := trodAll_nil r1
  obtain rfl : args = #[v0, v1] := by cases args; simp_all
  obtain ⟨rfl, rfl⟩ := trodVars_none hV
  have k0 := hval 0 22 v0 rfl rfl
  have k1 := hval 1 24 v1 rfl rfl
  obtain ⟨f0, h0'⟩ := h0
  obtain ⟨f1, h1'⟩ := h1
  obtain ⟨e0, fit0, rl0⟩ := AM.trod_fit (P := Try.prog) 5 22 (by decide +kernel) _ _ _ h0'
  obtain ⟨e1, fit1, rl1⟩ := AM.trod_fit (P := Try.prog) 5 24 (by decide +kernel) _ _ _ h1'
  obtain ⟨x, es, rfl, hx⟩ := AM.fit_list fit0
  obtain ⟨m, d, l, t, rfl⟩ := AM.fit_desc fit1
  have hr0 : AM.DRel (· < W.heap.size) W x v0 := by
    have hc : v0.cells = #[v0] := by
      unfold Value.okWide at k0
      rw [Try.underlying22] at k0
      simp only [Cell.okWide, Cell.ok, Try.underlying22] at k0
      cases v0 <;> first | rfl | simp at k0
    rw [hc] at rl0
    exact (rl0.2 0 x v0 rfl rfl).1
  have hr1 : AM.DRel (· < W.heap.size) W (AM.encDesc m d l t) v1 := by
    unfold Value.okWide at k1
    rw [Try.underlying24] at k1
    obtain ⟨cs, rfl, -, -⟩ := k1
    exact .agg _ cs.toList rl1.1.symm fun i d u hd hu => (rl1.2 i d u hd hu).1
  have hs := (AM.pipeApart_spec es m d l t).args (ar := [AM.Arg.d x, AM.Arg.d (AM.encDesc m d l t)]) ⟨hx, AM.leD_refl _, trivial⟩
  have hc := AM.law_calls (ds := [x, AM.encDesc m d l t]) hs W [v0, v1] rfl (fun k dd v hk hv => by
    match k with
    | 0 => simp at hk hv; subst hk; subst hv; exact hr0
    | 1 => simp at hk hv; subst hk; subst hv; exact hr1
    | k + 2 => simp at hk)
  refine hc.mono fun e W' ⟨he, hb⟩ => ⟨.bool true, he, ?_⟩
  simp only [List.append_nil] at hW' hlt
  have hl0 : ∀ y ∈ p0, y.block < W.heap.size := fun y hy => hlt y (by simp [hy])
  have hl1 : ∀ y ∈ p1, y.block < W.heap.size := fun y hy => hlt y (by simp [hy])
  have t0 := hb.trod (by kernel_rfl) (by kernel_rfl) (by decide +kernel) (t := 22) ⟨f0, h0'⟩ hl0
  have t1 := hb.trod (by kernel_rfl) (by kernel_rfl) (by decide +kernel) (t := 24) ⟨f1, h1'⟩ hl1
  refine ⟨_, _, _, [], p0 ++ (p1 ++ []), [], hW', ?_, ?_, ?_, ?_, fun h => by simp at h⟩
  · exact trodAll_cons_mk (shut_bool Try.underlying4 _) trodAll_mk0
  · exact trodAll_cons_mk t0 (trodAll_cons_mk t1 trodAll_mk0)
  · rfl
  · exact hb.frame _

theorem lifted (os : Os) (started : os.Started) (H : Type) (enc : TypeId × Value → H) :
    ReturnsInHanded {} Try.checked os 3 .any (Rows.pipeApartSpec.pre6 enc Try.prog Try.f3 Rows.pipeApartRow.domain false) (Rows.pipeApartSpec.post enc Try.prog Try.f3 false true false false) := by
  refine returnsInHanded_of_change (C := Try.checked) own started (by kernel_rfl) Try.func3
    (ChangeSpec.witness6 (enc := enc) (C := Try.checked) false ⟨#[], #[.slice none 0 0, .agg #[.int .i64 0, .int .i64 0, .int .i64 0, .int .i64 0]], []⟩ 8 (by kernel_rfl) (by kernel_rfl) (by kernel_rfl) (by kernel_rfl)) ?_
  intro W base args ds gs before hval hW _ _
  exact contract H enc W base args ds gs before hval hW

theorem over : Rows.pipeApartRow.holds Try.pinned (OpenSpec.ofChange Rows.pipeApartSpec) :=
  OpenClaim.holds_of_wide 3 Try.f3 rfl rfl rfl rfl rfl rfl rfl ⟨rfl, rfl, rfl, rfl, rfl⟩ rfl rfl rfl rfl rfl (by kernel_rfl) Try.func3 (by kernel_rfl)
    (of_decide_eq_true (by kernel_rfl)) (by unfold Func.isWrapper; first | (rw [if_pos (by decide +kernel)]; kernel_rfl) | (rw [if_neg (by decide +kernel)]; exact ⟨rfl, rfl⟩))
    (fun os started H enc _ => lifted os started H enc)

theorem proved : Rows.PipeApartSaid :=
  over
#print axioms proved
end Go.Proofs.Ytbalfnofcfgpeaa.pipeApart
