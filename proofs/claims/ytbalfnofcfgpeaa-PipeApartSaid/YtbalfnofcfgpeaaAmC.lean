/- A part of the proof: an abstract machine over the model's code, and the walks that use it. No condition. -/
import Derived.Test.YtbalfnofcfgpeaaAmB
import Derived.Control
import Derived.Orders
import Derived.Deep.Slices
import Derived.Carry
import Derived.ChangeSame

set_option linter.unusedVariables false
set_option linter.unusedSimpArgs false

/- AM: every operation. -/
namespace AM
open Go

theorem put_und_none {a : Act} {v : Value} : a.put none v = a := rfl

theorem freezeOps_ok {cx : Cx} {a : Act} {w : World} : ∀ (l : List Operand) (g : G) (st : St), Sat cx g st a w → ∃ g', Sat cx g' (freezeOps cx.N l st) a w
  | [], g, st, h => ⟨g, h⟩
  | x :: r, g, st, h => by
    simp only [freezeOps]
    cases hx : toData st (ev cx.N st x) with
    | none => exact freezeOps_ok r g st h
    | some p =>
      obtain ⟨d, st1⟩ := p
      obtain ⟨g1, -, -, -, h4⟩ := toData_ok st _ g _ d st1 h (ev_rel h x) hx
      exact freezeOps_ok r g1 st1 h4

theorem opK_ok {P : Program} {cx : Cx} {g : G} {st : St} {a : Act} {w : World} (h : Sat cx g st a w) (o : Oper) {K : St → Prop} {Kp : D → St → Prop} (hK : opK P cx.N st o.op o.dst K Kp)
    {next : Act → World → Prop} {Q : Exit → Act → World → Prop} (hn : ∀ (g' : G) (st' : St) (a' : Act) (w' : World), Sat cx g' st' a' w' → K st' → next a' w')
    (hp : ∀ (g' : G) (st' : St) (d : D) (v : Value) (w' : World), Sat cx g' st' a w' → DRel g'.I w' d v → Kp d st' → Q (.panic [{ v, recovered := false }]) a w') : o.wp P a w next Q := by
  have quietly2 : ∀ (g : G) (st : St), Sat cx g st a w → resK cx.N st o.dst K (quiet P cx.N st o.op) → o.wp P a w next Q := fun g st h hr => by
    unfold resK at hr
    split at hr
    · rename_i v hq
      obtain ⟨u, w', h1, h2⟩ := quiet_ok h o hq (fun p hp => by simp at hp)
      obtain ⟨g', st', h3, h4⟩ := place_ok h h2 hr
      unfold Oper.wp; rw [h1]
      exact hn _ _ _ _ h3 h4
    · rename_i c v hq
      obtain ⟨u, w', h1, h2⟩ := quiet_ok h o hq (fun p hp => by cases hp; exact hr.1)
      obtain ⟨g', st', h3, h4⟩ := place_ok h h2 hr.2
      unfold Oper.wp; rw [h1]
      exact hn _ _ _ _ h3 h4
    · exact hr.elim
  have quietly : resK cx.N st o.dst K (quiet P cx.N st o.op) → o.wp P a w next Q := quietly2 g st h
  obtain ⟨dst, op, ty, pos, aft, gd⟩ := o
  dsimp only at hK quietly quietly2
  unfold opK at hK
  split at hK
  · rename_i x
    obtain ⟨g', st', h1, h2⟩ := assignK_ok h (ev_rel h x) hK
    exact hn _ _ _ _ h1 h2
  · rename_i t x
    obtain ⟨u', w', h1, g', st', h2, h3⟩ := boxK_ok (P := P) h (ev_rel h x) t hK
    unfold Oper.wp
    simp only [execOp, Sem.run_bind, h1, Result.andThen_ok]
    exact hn _ _ _ _ h2 h3
  · rename_i t x y
    split at hK
    · obtain ⟨w', h1, g', st', h2, h3⟩ := storeK_ok h t (ev_rel h x) (ev_rel h y) hK
      unfold Oper.wp
      simp only [execOp, Sem.run_bind, h1, Result.andThen_ok]
      exact hn _ _ _ _ h2 h3
    · exact hK.elim
  · rename_i t m k x
    split at hK
    · obtain ⟨w', h1, g', st', h2, h3⟩ := mapUpdK_ok h t (ev_rel h m) (ev_rel h k) (ev_rel h x) hK
      unfold Oper.wp
      simp only [execOp, Sem.run_bind, h1, Result.andThen_ok]
      exact hn _ _ _ _ h2 h3
    · exact hK.elim
  · rename_i t m k x
    split at hK
    · obtain ⟨w', h1, g', st', h2, h3⟩ := mapUpdK_ok h t (ev_rel h m) (ev_rel h k) (ev_rel h x) hK
      unfold Oper.wp
      simp only [execOp, Sem.run_bind, h1, Result.andThen_ok]
      exact hn _ _ _ _ h2 h3
    · exact hK.elim
  · rename_i t m i ok
    unfold lookK at hK
    split at hK
    · rename_i u c k n hm hi
      split at hK
      · rename_i k2 look hma
        obtain ⟨r, rfl, hK⟩ := hK
        refine quietly ?_
        show resK cx.N st dst K (lookupF P st t (ev cx.N st m) (ev cx.N st i) ok)
        rw [hm, hi, lookupC_eq P st t u c k n ok hma]
        exact hK
      · exact hK.elim
    · exact quietly hK
  · rename_i t n parts
    obtain ⟨g1, h1⟩ := freezeOps_ok (parts.toList.map (·.2)) g st h
    exact quietly2 _ _ h1 hK
  · rename_i t parts
    obtain ⟨g1, h1⟩ := freezeOps_ok (parts.toList.map (·.2)) g st h
    exact quietly2 _ _ h1 hK
  · rename_i bop t x y un
    split at hK
    · rename_i n b hq
      obtain ⟨r, hr, hc⟩ := eqNil_run x y hq (ev_rel h x) (ev_rel h y)
      have hpl : placeK cx.N st dst (.d (.bool r)) K := by
        rcases hc with rfl | ⟨hn0, rfl⟩
        · exact hK.1
        · exact hK.2 hn0
      obtain ⟨g', st', h3, h4⟩ := place_ok h (Made.of (.d _ _ (.bool r))) hpl
      unfold Oper.wp
      have : (execOp a.eval { dst, op := .binOp bop t x y un, type := ty, pos, after := aft, guard := gd }).run P w = .ok (.value (.bool r)) w := by
        have hr' : (do eqGuard bop t x y (a.eval x) (a.eval y); binOp bop t (a.eval x) (a.eval y)).run P w = .ok (.bool r) w := hr
        simp only [execOp, Sem.run_bind] at hr' ⊢
        rw [hr']; rfl
      rw [this]
      exact hn _ _ _ _ h3 h4
    · exact quietly hK
  · rename_i x
    split at hK
    · rename_i t d hx
      have hr := ev_rel h x
      rw [hx] at hr
      generalize hu : a.eval x = u at hr
      cases hr with
      | d _ _ hr =>
      have hr' := hr
      cases hr with
      | ifc _ _ v hv =>
      unfold Oper.wp
      simp only [execOp, hu, Instr.panic]
      exact hp _ _ _ _ _ h hr' hK
    · exact hK.elim
  · rename_i c
    obtain ⟨callee, args, argTypes⟩ := c
    dsimp only at hK
    split at hK
    · rename_i f
      unfold callK at hK
      split at hK
      · rename_i fid caps hf
        split at hK
        · rename_i l st1 hl
          split at hK
          · rename_i ar har
            cases hap : apartB (lentOf l) with
            | false => simp [hap] at hK
            | true =>
              simp only [hap, cond_true] at hK
              obtain ⟨post, hs, -, hpost⟩ := hK
              obtain ⟨he1, he2⟩ := evs_rel h args.toList
              -- what the function value is
              have hfv : ∃ cu : List Value, a.eval f = .func (.func fid) #[] ⟨cu⟩ ∧ cu.length = caps.length ∧ ∀ (i : Nat) (x : AV) (u : Value), caps[i]? = some x → cu[i]? = some u → ValR g w x u := by
                have hr := ev_rel h f
                unfold calleeOf at hf
                split at hf
                · rename_i f' hev
                  rw [hev] at hr
                  simp only [Option.some.injEq, Prod.mk.injEq] at hf
                  obtain ⟨rfl, rfl⟩ := hf
                  generalize a.eval f = u at hr
                  cases hr with
                  | d _ _ hr => cases hr; exact ⟨[], rfl, rfl, fun i x u hi _ => by simp at hi⟩
                · rename_i f' caps' hev
                  rw [hev] at hr
                  simp only [Option.some.injEq, Prod.mk.injEq] at hf
                  obtain ⟨rfl, rfl⟩ := hf
                  generalize a.eval f = u at hr
                  cases hr with
                  | clo _ _ us hl hr => exact ⟨us, rfl, hl, hr⟩
                · simp at hf
              obtain ⟨cu, hcu, hcl, hcr⟩ := hfv
              obtain ⟨g1, h1, h2, h3, h4, h5⟩ := lend_ok (evs cx.N st args.toList ++ caps) (args.toList.map a.eval ++ cu) g st l st1 h (by simp [he1, hcl]) (fun i x u hi hu => by
                rcases Nat.lt_or_ge i (evs cx.N st args.toList).length with hlt | hge
                · rw [List.getElem?_append_left hlt] at hi
                  rw [List.getElem?_append_left (by simp [← he1]; exact hlt)] at hu
                  exact he2 i x u hi hu
                · rw [List.getElem?_append_right hge] at hi
                  rw [List.getElem?_append_right (by simp [← he1]; exact hge)] at hu
                  simp only [List.length_map, ← he1] at hu
                  exact hcr _ x u hi hu) hl
              have hcall := calls_ok h3 h4 h5 har hap hs (dst := dst) hpost
              have hrun : (execOp a.eval { dst, op := .call ⟨.value f, args, argTypes⟩, type := ty, pos, after := aft, guard := gd }).run P w = .ok (.enter fid ⟨args.toList.map a.eval ++ cu⟩) w := by
                have harr : (#[] : Array Value) ++ args.map a.eval ++ ⟨cu⟩ = ⟨args.toList.map a.eval ++ cu⟩ := by apply Array.ext'; simp
                simp only [execOp, resolve, hcu, Deferred.ofValue, pure_bind, invoke]
                rw [harr]
                exact hs.1 _ _
              unfold Oper.wp
              rw [hrun, Oper.upon_enter]
              refine hcall.mono fun e w' he => ?_
              cases e with
              | returned v => obtain ⟨g', st', h6, h7⟩ := he; exact hn _ _ _ _ h6 h7
              | panicked c => obtain ⟨g', st', d, v, rfl, h6, h7, h8⟩ := he; exact hp _ _ _ _ _ h7 h6 h8
              | outgrown => exact he.elim
          · exact hK.elim
        · exact hK.elim
      · exact hK.elim
    · split at hK
      · rename_i x y t t2 ha ht
        have ha' : args = #[x, y] := Array.ext' (by simpa using ha)
        have ht' : argTypes = #[t, t2] := Array.ext' (by simpa using ht)
        subst ha'; subst ht'
        unfold appendK at hK
        split at hK
        · rename_i c v how hv
          obtain ⟨u, w', h1, g', st', h2, h3⟩ := append_ok (P := P) (ty := ty) h t t2 (ev_rel h x) (ev_rel h y) hv hK.1 dst K hK.2
          unfold Oper.wp
          have : (execOp a.eval { dst, op := .call ⟨.builtin .append, #[x, y], #[t, t2]⟩, type := ty, pos, after := aft, guard := gd }).run P w = .ok (.value u) w' := by
            simp [execOp, resolve, invoke, builtin, h1]
          rw [this]
          exact hn _ _ _ _ h2 h3
        · exact hK.elim
      · exact hK.elim
    · exact quietly hK
  · exact quietly hK

end AM

/- AM: regions that draw their order. -/
namespace AM
open Go

theorem undef_rel {I : Nat → Prop} {w : World} : DRel I w (.tup []) undef := .tup [] [] rfl (fun i d u hi => by simp at hi)

def Weak (s st : St) : Prop := ∀ u, s u = .d .und ∨ s u = st u

theorem Sat.weak {cx : Cx} {g : G} {st s : St} {a : Act} {w : World} (h : Sat cx g st a w) (hs : Weak s st) : Sat cx g s a w :=
  h.step g s a w (fun _ => False) rfl h.defers (fun u _ => ⟨(hs u).symm.imp (fun h => ⟨h, fun _ _ _ => rfl⟩) id, rfl⟩) (fun _ h => h.elim) (fun _ h => h.elim) (fun _ _ _ => rfl) (fun _ h => h)
    (fun _ _ => rfl) (fun _ _ _ _ hc hb => ⟨rfl, (owns_lt h hc hb).2⟩) (fun _ _ _ _ h => h.elim) (fun _ _ _ h => h.elim) h.stays h.grows h.frame (fun _ h => h.elim) (Still.refl _)

theorem mask_weak (row : Row) (st : St) : Weak (mask row st) st := fun u => by
  rw [mask_eq]
  dsimp only
  cases memB u row.hidD || memB u row.hidT <;> simp only [cond_true, cond_false]
  · cases saysOf row.hidD (st u) || saysInOf row.hidT (st u) <;> simp
  · simp

theorem isDst_iff {dst : Option Nat} {u : Nat} : isDst dst u = true ↔ dst = some u := by
  cases dst with
  | none => simp [isDst]
  | some d => simp only [isDst, Option.some.injEq]; exact ⟨Nat.eq_of_beq_eq_true, fun h => by subst h; exact Nat.beq_refl d⟩

theorem memB_iff {t : Nat} : ∀ {l : List Nat}, memB t l = true ↔ t ∈ l
  | [] => by simp [memB]
  | u :: r => by
    simp only [memB, Bool.or_eq_true, List.mem_cons, memB_iff (l := r)]
    exact or_congr ⟨fun h => (Nat.eq_of_beq_eq_true h).symm, fun h => by subst h; exact Nat.beq_refl _⟩ Iff.rfl

theorem outOf_says (t : Nat) (x : AV) : (outOf x).says t = false ∧ (outOf x).saysIn t = false := by cases x <;> exact ⟨rfl, rfl⟩

theorem placeK_weak {N : Nat} {st s : St} {dst : Option Nat} {v : AV} {K : St → Prop} (hd : dstOk N dst = true) (h1 : ∀ u, isDst dst u = false → s u = .d .und ∨ (s u = st u ∧ saysDst dst (st u) = false))
    (h2 : ∀ u, isDst dst u = true → s u = v) (hK : K s) : placeK N st dst v (fun st' => ∃ s, Weak s st' ∧ K s) := by
  rw [placeK_eq]
  unfold place0
  split
  · exact ⟨s, fun u => (h1 u rfl).imp id (fun h => h.1), hK⟩
  · rename_i t
    have ht : Nat.blt t N = true := hd
    have hup : Weak s (upd t v st) := fun u => by
      rw [get_upd]
      by_cases hu : t = u
      · right; rw [if_pos hu]; exact h2 u (isDst_iff.mpr (by rw [hu]))
      · rw [if_neg hu]
        refine (h1 u ?_).imp id (fun h => h.1)
        cases hx : isDst (some t) u with
        | false => rfl
        | true => exact absurd (by simpa using isDst_iff.mp hx) hu
    have hown : ∀ v', v' = v → Weak s (St.own st t v') := fun v' hv' u => by
      rw [own_get]
      by_cases hu : t = u
      · right; rw [if_pos hu, hv']; exact h2 u (isDst_iff.mpr (by rw [hu]))
      · rw [if_neg hu]
        have hx : isDst (some t) u = false := by
          cases hx : isDst (some t) u with
          | false => rfl
          | true => exact absurd (by simpa using isDst_iff.mp hx) hu
        rcases h1 u hx with h3 | ⟨h3, h4⟩
        · exact .inl h3
        · right
          have h4 : (st u).says t = false := h4
          rw [h4]
          simpa using h3
    simp only [ht, cond_true]
    split <;> first | exact ⟨s, hown _ rfl, hK⟩ | exact ⟨s, hup, hK⟩

theorem ne_isDst {t u : Nat} (h : isDst (some t) u = false) : t ≠ u := fun he => by subst he; simp [isDst] at h

/-- an effect that touches nothing else -/
theorem eff_plain {dst : Option Nat} {v : AV} {ups : List (Nat × AV)} {touch : List Nat} {st : St} (hu : ups = []) (u : Nat) (hd : isDst dst u = false) :
    eff dst v ups touch st u = .d .und ∨ (eff dst v ups touch st u = st u ∧ saysDst dst (st u) = false) := by
  subst hu
  rw [eff_eq]
  dsimp only
  rw [hd]
  cases memB u touch with
  | true => left; rfl
  | false =>
    cases hs : saysDst dst (st u) with
    | true => left; rfl
    | false =>
      cases saysInOf touch (st u) with
      | true => left; rfl
      | false => right; exact ⟨rfl, rfl⟩

theorem eff_dst {dst : Option Nat} {v : AV} {ups : List (Nat × AV)} {touch : List Nat} {st : St} (u : Nat) (hd : isDst dst u = true) : eff dst v ups touch st u = v := by
  rw [eff_eq]; dsimp only; rw [hd]; rfl

theorem guardB_ok {cx : Cx} {g : G} {st : St} {a : Act} {w : World} (h : Sat cx g st a w) {ops : Array Oper} {o : Oper} {b : Bool} (hg : guardB cx.N ops.toList st o = some b) :
    Region.wanted o (yielded ops a.tmps) = b := by
  unfold guardB at hg
  unfold Region.wanted
  cases hgd : o.guard with
  | none => rw [hgd] at hg; simpa using hg
  | some gw =>
    obtain ⟨gi, want⟩ := gw
    rw [hgd] at hg
    dsimp only at hg ⊢
    cases hog : ops.toList[gi]? with
    | none => rw [hog] at hg; simp at hg
    | some og =>
      rw [hog] at hg
      dsimp only at hg
      cases hdst : og.dst with
      | none => rw [hdst] at hg; simp at hg
      | some t =>
        rw [hdst] at hg
        dsimp only at hg
        cases htN : Nat.blt t cx.N with
        | false => rw [htN] at hg; simp at hg
        | true =>
          rw [htN] at hg
          simp only [cond_true] at hg
          have ht : t < cx.N := Nat.blt_eq.mp htN
          split at hg
          · rename_i bb hbb
            have hs := h.slot t ht
            rw [hbb] at hs
            have hs : ValR g w (.d (.bool bb)) (a.tmps.getD t undef) := hs
            have hval : a.tmps.getD t undef = .bool bb := by
              generalize a.tmps.getD t undef = u at hs
              cases hs with
              | d _ _ hs => cases hs; rfl
            have htm : a.tmps[t]? = some (.bool bb) := by
              have hlt : t < a.tmps.size := by rw [h.size]; exact ht
              rw [Array.getD_eq_getD_getElem?] at hval
              simp only [hlt, getElem?_pos, Option.getD_some] at hval ⊢
              rw [hval]
            have hy : yielded ops a.tmps gi = some bb := by
              have hog' : ops[gi]? = some og := by simpa using hog
              simp [yielded, hog', hdst, htm]
            rw [hy]
            simp only [Option.some.injEq] at hg
            subst hg
            cases bb <;> cases want <;> rfl
          · rename_i hbb
            simp only [Option.some.injEq] at hg
            subst hg
            have hs := h.slot t ht
            rw [hbb] at hs
            have hs : ValR g w (.d (.tup [])) (a.tmps.getD t undef) := hs
            have hval : a.tmps.getD t undef = .tuple ⟨[]⟩ := by
              generalize a.tmps.getD t undef = u at hs
              cases hs with
              | d _ _ hs =>
                cases hs with
                | tup _ us hl _ =>
                  have : us = [] := List.length_eq_zero_iff.mp hl
                  rw [this]
            have htm : a.tmps[t]? = some (.tuple ⟨[]⟩) := by
              have hlt : t < a.tmps.size := by rw [h.size]; exact ht
              rw [Array.getD_eq_getD_getElem?] at hval
              simp only [hlt, getElem?_pos, Option.getD_some] at hval ⊢
              rw [hval]
            have hy : yielded ops a.tmps gi = none := by
              have hog' : ops[gi]? = some og := by simpa using hog
              simp [yielded, hog', hdst, htm]
            rw [hy]
            rfl
          · simp at hg

theorem sliceAt_mono {s st : St} (hw : Weak s st) {t : Nat} {c : Option Nat} {r : Nat × Nat × (Nat → D)} (h : sliceAt s t c = some r) : sliceAt st t c = some r := by
  rcases hw t with h1 | h1
  · cases c <;> simp [sliceAt, h1] at h
  · cases c <;> simp only [sliceAt, h1] at h ⊢ <;> exact h

theorem srcOf_mono {s st : St} (hw : Weak s st) {k : Nat} {y : AV} {r : Nat × (Nat → D)} (h : srcOf s k y = some r) : srcOf st k y = some r := by
  unfold srcOf at h ⊢
  split at h
  · exact h
  · exact h
  · exact h
  · split at h
    · rename_i hs; rw [sliceAt_mono hw hs]; exact h
    · simp at h
  · simp at h

theorem appendV_mono {P : Program} {s st : St} (hw : Weak s st) {t t2 : TypeId} {x y : AV} {r : Prop × AV × Option (Nat × Option Nat)} (h : appendV P s t t2 x y = some r) : appendV P st t t2 x y = some r := by
  unfold appendV at h ⊢
  split at h
  · rename_i k bytes hn he
    try simp only [hn, he]
    split at h
    · rename_i m g hs
      rw [srcOf_mono hw hs]
      dsimp only
      split at h
      · exact h
      · split at h
        · rename_i hs2; rw [sliceAt_mono hw hs2]; exact h
        · simp at h
      · simp at h
    · simp at h
  · simp at h

theorem argsOf_mono {s st : St} (hw : Weak s st) : ∀ (l : List (D × Option (Nat × Nat))) (ar : List Arg), argsOf s l = some ar → argsOf st l = some ar
  | [], ar, h => h
  | (d, none) :: r, ar, h => by
    simp only [argsOf] at h ⊢
    cases hr : argsOf s r with
    | none => simp [hr] at h
    | some ar' => rw [argsOf_mono hw r ar' hr]; simpa [hr] using h
  | (d, some (t, j)) :: r, ar, h => by
    simp only [argsOf] at h ⊢
    cases hst : s t <;> cases hr : argsOf s r <;> simp only [hst, hr] at h <;> try (simp at h; done)
    rename_i cs ar'
    rcases hw t with h1 | h1
    · rw [h1] at hst; simp at hst
    · rw [← h1, hst, argsOf_mono hw r ar' hr]; exact h

theorem lendPure_ok {g : G} {w : World} : ∀ (xs : List AV) (us : List Value) (l : List (D × Option (Nat × Nat))), us.length = xs.length →
    (∀ (i : Nat) (x : AV) (u : Value), xs[i]? = some x → us[i]? = some u → ValR g w x u) → lendPure xs = some l →
    l.length = us.length ∧ ∀ (i : Nat) (x : D × Option (Nat × Nat)) (u : Value), l[i]? = some x → us[i]? = some u → LentR g w x u
  | [], us, l, hl, hu, he => by simp [lendPure] at he; subst he; exact ⟨by simpa using hl.symm, fun i x u hi _ => by simp at hi⟩
  | x :: r, [], l, hl, hu, he => by simp at hl
  | x :: r, u :: us, l, hl, hu, he => by
    have hx := hu 0 x u rfl rfl
    have rest : ∀ l0 e, lendPure r = some l0 → LentR g w e u → l = e :: l0 → l.length = (u :: us).length ∧ ∀ (i : Nat) (x : D × Option (Nat × Nat)) (u' : Value), l[i]? = some x → (u :: us)[i]? = some u' → LentR g w x u' := by
      intro l0 e h1 h2 h3
      obtain ⟨h4, h5⟩ := lendPure_ok r us l0 (by simpa using hl) (fun i x u hi hu' => hu (i + 1) x u (by simpa using hi) (by simpa using hu')) h1
      subst h3
      refine ⟨by simp [h4], fun i x u' hi hu' => ?_⟩
      cases i with
      | zero => simp at hi hu'; subst hi; subst hu'; exact h2
      | succ i => exact h5 i x u' (by simpa using hi) (by simpa using hu')
    cases x with
    | ref t j =>
      simp only [lendPure] at he
      cases hr : lendPure r with
      | none => simp [hr] at he
      | some l0 => simp [hr] at he; exact rest l0 (.und, some (t, j)) hr hx he.symm
    | d x =>
      simp only [lendPure] at he
      cases hr : lendPure r with
      | none => simp [hr] at he
      | some l0 =>
        simp [hr] at he
        cases hx with
        | d _ _ hx => exact rest l0 (x, none) hr hx he.symm
    | _ => simp [lendPure] at he

theorem allIn_mem {touch : List Nat} : ∀ {l : List Nat}, allIn touch l = true → ∀ t ∈ l, memB t touch = true
  | [], _, t, ht => by simp at ht
  | u :: r, h, t, ht => by
    simp only [allIn, Bool.and_eq_true] at h
    rcases List.mem_cons.mp ht with rfl | ht
    · exact h.1
    · exact allIn_mem h.2 t ht

theorem lentAt_lentOf : ∀ (l : List (D × Option (Nat × Nat))) (k t : Nat), lentAt l k = some t → t ∈ lentOf l
  | [], k, t, h => by simp [lentAt] at h
  | (d, none) :: r, 0, t, h => by simp [lentAt] at h
  | (d, some (t', j)) :: r, 0, t, h => by simp [lentAt] at h; subst h; simp [lentOf]
  | (d, none) :: r, k + 1, t, h => by simpa [lentOf] using lentAt_lentOf r k t (by simpa [lentAt] using h)
  | (d, some (t', j)) :: r, k + 1, t, h => by simp only [lentOf]; exact List.mem_cons_of_mem _ (lentAt_lentOf r k t (by simpa [lentAt] using h))

theorem saysInOf_mem {touch : List Nat} {t : Nat} {v : AV} (h : saysInOf touch v = false) (ht : memB t touch = true) : v.saysIn t = false := by
  induction touch with
  | nil => simp [memB] at ht
  | cons u r ih =>
    simp only [saysInOf, Bool.or_eq_false_iff] at h
    rw [memB_iff, List.mem_cons] at ht
    rcases ht with rfl | ht
    · exact h.1
    · exact ih h.2 (memB_iff.mpr ht)

theorem saysOf_mem {ds : List Nat} {t : Nat} {v : AV} (h : saysOf ds v = false) (ht : memB t ds = true) : v.says t = false := by
  induction ds with
  | nil => simp [memB] at ht
  | cons u r ih =>
    simp only [saysOf, Bool.or_eq_false_iff] at h
    rw [memB_iff, List.mem_cons] at ht
    rcases ht with rfl | ht
    · exact h.1
    · exact ih h.2 (memB_iff.mpr ht)

theorem lookU_says (u t : Nat) : ∀ (l : List (Nat × AV)), (lookU u l).says t = false ∧ (lookU u l).saysIn t = false
  | [] => ⟨rfl, rfl⟩
  | (t', v) :: r => by
    simp only [lookU]
    cases Nat.beq t' u with
    | true => exact outOf_says t v
    | false => exact lookU_says u t r

/-- boxes that come back -/
theorem upsOf_ok {st : St} : ∀ (l : List (D × Option (Nat × Nat))) (outs : List AV) (ups : List (Nat × AV)), apartB (lentOf l) = true → upsOf l outs = some ups →
    ∃ st2, back st l outs = some st2 ∧ (∀ u, u ∈ lentOf l → st2 u = lookU u ups) ∧ (∀ u, u ∉ lentOf l → lookU u ups = .d .und) ∧ ∀ u, u ∉ lentOf l → (∀ t ∈ lentOf l, (st u).saysIn t = false) → st2 u = st u
  | [], [], ups, _, h => by simp [upsOf] at h; subst h; exact ⟨st, rfl, by simp [lentOf], fun _ _ => rfl, fun _ _ _ => rfl⟩
  | [], _ :: _, ups, _, h => by simp [upsOf] at h
  | (d, none) :: r, [], ups, _, h => by simp [upsOf] at h
  | (d, some (t, j)) :: r, [], ups, _, h => by simp [upsOf] at h
  | (d, none) :: r, o :: os, ups, ha, h => by
    simp only [upsOf] at h
    obtain ⟨st2, h1, h2, h3, h4⟩ := upsOf_ok (st := st) r os ups (by simpa [lentOf] using ha) h
    exact ⟨st2, by simpa [back] using h1, by simpa [lentOf] using h2, by simpa [lentOf] using h3, by simpa [lentOf] using h4⟩
  | (d, some (t, j)) :: r, o :: os, ups, ha, h => by
    simp only [lentOf, apartB, Bool.and_eq_true] at ha
    cases o <;> simp only [upsOf] at h <;> try (simp at h; done)
    rename_i cs
    cases hr : upsOf r os with
    | none => simp [hr] at h
    | some l0 =>
      simp only [hr, Option.some.injEq] at h
      subst h
      obtain ⟨st2, h1, h2, h3, h4⟩ := upsOf_ok (st := st) r os l0 ha.2 hr
      have hbe : ∀ x, Nat.beq t x = true ↔ t = x := fun x => ⟨Nat.eq_of_beq_eq_true, fun h => by subst h; exact Nat.beq_refl _⟩
      refine ⟨upd t (.obox cs) (killIn t st2), by simp [back, h1], fun u hu => ?_, fun u hu => ?_, fun u hu hs => ?_⟩
      · rw [get_upd]
        by_cases he : t = u
        · subst he; simp [lookU, outOf]
        · rw [if_neg he, get_killIn]
          have hur : u ∈ lentOf r := by simpa [lentOf, Ne.symm he] using hu
          have : Nat.beq t u = false := by cases hb : Nat.beq t u with | false => rfl | true => exact absurd ((hbe u).mp hb) he
          simp only [lookU, this, cond_false]
          rw [h2 u hur]
          split
          · rename_i hsi
            exfalso
            have := (lookU_says u t l0).2
            rw [this] at hsi; simp at hsi
          · rfl
      · have he : t ≠ u := fun he => hu (by subst he; simp [lentOf])
        have hur : u ∉ lentOf r := fun h => hu (by simp [lentOf, h])
        have : Nat.beq t u = false := by cases hb : Nat.beq t u with | false => rfl | true => exact absurd ((hbe u).mp hb) he
        simp only [lookU, this, cond_false]
        exact h3 u hur
      · have he : t ≠ u := fun he => hu (by subst he; simp [lentOf])
        have hur : u ∉ lentOf r := fun h => hu (by simp [lentOf, h])
        have hst2 := h4 u hur (fun t' ht' => hs t' (by simp [lentOf, ht']))
        rw [get_upd, if_neg he, get_killIn, hst2, hs t (by simp [lentOf])]
        simp

end AM

/- AM: regions that draw their order: an operation beside others. -/
namespace AM
open Go

theorem eff_weak {dst : Option Nat} {v : AV} {ups : List (Nat × AV)} {touch : List Nat} {st st2 : St} (h1 : ∀ u, memB u touch = true → lookU u ups = .d .und ∨ lookU u ups = st2 u)
    (h2 : ∀ u, memB u touch = false → saysInOf touch (st u) = false → st2 u = st u) (u : Nat) (hd : isDst dst u = false) :
    eff dst v ups touch st u = .d .und ∨ (eff dst v ups touch st u = st2 u ∧ saysDst dst (st2 u) = false) := by
  rw [eff_eq]
  dsimp only
  rw [hd]
  cases ht : memB u touch with
  | true =>
    simp only [cond_true, cond_false]
    rcases h1 u ht with h3 | h3
    · exact .inl h3
    · right
      refine ⟨h3, ?_⟩
      rw [← h3]
      cases dst with
      | none => rfl
      | some d => exact (lookU_says u d ups).1
  | false =>
    simp only [cond_false]
    cases hs : saysDst dst (st u) with
    | true => left; rfl
    | false =>
      cases hsi : saysInOf touch (st u) with
      | true => left; rfl
      | false =>
        right
        rw [h2 u ht hsi]
        exact ⟨rfl, hs⟩

/-- an operation, whatever was done beside it -/
theorem rowK_ok {P : Program} {cx : Cx} {g : G} {st : St} {a : Act} {w : World} (h : Sat cx g st a w) {ops : Array Oper} {i : Nat} {o : Oper} (hi : ops[i]? = some o) {row : Row} {K : St → Prop}
    (hK : rowK P cx.N ops.toList o row st K) {next : Act → World → Prop} {Q : Exit → Act → World → Prop} (hn : ∀ (g' : G) (st' : St) (a' : Act) (w' : World), Sat cx g' st' a' w' → K st' → next a' w') :
    wpOp P ops Q i next a w := by
  have hm : Sat cx g (mask row st) a w := h.weak (mask_weak row st)
  have hw : Weak (mask row st) st := mask_weak row st
  unfold rowK at hK
  cases hd : dstOk cx.N o.dst with
  | false => simp [hd] at hK
  | true =>
    simp only [hd, cond_true] at hK
    unfold wpOp
    rw [hi]
    dsimp only
    cases hg : guardB cx.N ops.toList (mask row st) o with
    | none => simp [hg, guarded, doesK] at hK
    | some b =>
      rw [guardB_ok hm hg]
      rw [hg] at hK
      have hnw : ∀ {g' : G} {st' : St} {a' : Act} {w' : World}, Sat cx g' st' a' w' → (∃ s, Weak s st' ∧ K s) → next a' w' := fun hs ⟨s, h1, h2⟩ => hn _ _ _ _ (hs.weak h1) h2
      cases b with
      | false =>
        simp only [guarded, doesK, condK, forceA_eq] at hK
        simp only [Bool.false_eq_true, if_false]
        cases hc : saysOf row.hidD (.d (.tup [])) || saysInOf row.hidT (.d (.tup [])) with
        | true => simp [hc] at hK
        | false =>
          simp only [hc, cond_false] at hK
          obtain ⟨g', st', h1, h2⟩ := place_ok h (Made.of (.d _ undef undef_rel)) (placeK_weak hd (eff_plain rfl) (fun u hu => eff_dst u hu) hK)
          exact hnw h1 h2
      | true =>
        simp only [if_true, guarded] at hK ⊢
        left
        have quietly : doesK P row o.dst st K (ofRes (quiet P cx.N (mask row st) o.op)) → o.wp P a w next Q := fun hr => by
          unfold ofRes at hr
          cases hq : quiet P cx.N (mask row st) o.op with
          | none => simp [hq, doesK] at hr
          | some p =>
            obtain ⟨c, v⟩ := p
            simp only [hq, doesK, forceA_eq] at hr
            have hc : (∀ p, c = some p → p) ∧ cond (saysOf row.hidD v || saysInOf row.hidT v) False (K (eff o.dst v [] row.touch st)) := by
              cases c with
              | none => exact ⟨fun p hp => by simp at hp, hr⟩
              | some p => exact ⟨fun p' hp => by cases hp; exact hr.1, hr.2⟩
            obtain ⟨hc, hk⟩ := hc
            obtain ⟨u, w', h1, h2⟩ := quiet_ok hm o hq hc
            cases hcc : saysOf row.hidD v || saysInOf row.hidT v with
            | true => simp [hcc] at hk
            | false =>
              simp only [hcc, cond_false] at hk
              obtain ⟨g', st', h3, h4⟩ := place_ok h h2 (placeK_weak hd (eff_plain rfl) (fun u hu => eff_dst u hu) hk)
              unfold Oper.wp; rw [h1]
              exact hnw h3 h4
        obtain ⟨dst, op, ty, pos, aft, gd⟩ := o
        dsimp only at hK quietly hd
        unfold doesOf at hK
        split at hK
        · rename_i c
          obtain ⟨callee, args, argTypes⟩ := c
          dsimp only at hK
          split at hK
          · rename_i f
            split at hK
            · rename_i fid caps hf
              split at hK
              · rename_i l hl
                split at hK
                · rename_i ar har
                  cases hap : apartB (lentOf l) && allIn row.touch (lentOf l) with
                  | false => simp [hap, doesK] at hK
                  | true =>
                    simp only [hap, cond_true, doesK] at hK
                    obtain ⟨hap, hall⟩ := (Bool.and_eq_true _ _).mp hap
                    obtain ⟨post, hs, -, hpost⟩ := hK
                    obtain ⟨he1, he2⟩ := evs_rel hm args.toList
                    have hfv : ∃ cu : List Value, a.eval f = .func (.func fid) #[] ⟨cu⟩ ∧ cu.length = caps.length ∧ ∀ (i : Nat) (x : AV) (u : Value), caps[i]? = some x → cu[i]? = some u → ValR g w x u := by
                      have hr := ev_rel hm f
                      unfold calleeOf at hf
                      split at hf
                      · rename_i f' hev
                        rw [hev] at hr
                        simp only [Option.some.injEq, Prod.mk.injEq] at hf
                        obtain ⟨rfl, rfl⟩ := hf
                        generalize a.eval f = u at hr
                        cases hr with
                        | d _ _ hr => cases hr; exact ⟨[], rfl, rfl, fun i x u hi _ => by simp at hi⟩
                      · rename_i f' caps' hev
                        rw [hev] at hr
                        simp only [Option.some.injEq, Prod.mk.injEq] at hf
                        obtain ⟨rfl, rfl⟩ := hf
                        generalize a.eval f = u at hr
                        cases hr with
                        | clo _ _ us hl hr => exact ⟨us, rfl, hl, hr⟩
                      · simp at hf
                    obtain ⟨cu, hcu, hcl, hcr⟩ := hfv
                    obtain ⟨h4, h5⟩ := lendPure_ok (g := g) (w := w) (evs cx.N (mask row st) args.toList ++ caps) (args.toList.map a.eval ++ cu) l (by simp [he1, hcl]) (fun i x u hi hu => by
                      rcases Nat.lt_or_ge i (evs cx.N (mask row st) args.toList).length with hlt | hge
                      · rw [List.getElem?_append_left hlt] at hi
                        rw [List.getElem?_append_left (by simp [← he1]; exact hlt)] at hu
                        exact he2 i x u hi hu
                      · rw [List.getElem?_append_right hge] at hi
                        rw [List.getElem?_append_right (by simp [← he1]; exact hge)] at hu
                        simp only [List.length_map, ← he1] at hu
                        exact hcr _ x u hi hu) hl
                    have hcall := calls_ok h h4 h5 (argsOf_mono hw l ar har) hap hs (dst := dst) (K := fun st' => ∃ s, Weak s st' ∧ K s) (Kp := fun _ _ => False) (fun o ho => by
                      have hk := hpost o ho
                      cases o with
                      | pan d outs => exact hk.elim
                      | ret r outs =>
                        dsimp only at hk
                        cases hu : upsOf l outs with
                        | none => simp [hu] at hk
                        | some ups =>
                          simp only [hu] at hk
                          cases hrc : r.closed with
                          | false => simp [hrc] at hk
                          | true =>
                            simp only [hrc, cond_true] at hk
                            obtain ⟨st2, h6, h7, h8, h9⟩ := upsOf_ok (st := st) l outs ups hap hu
                            simp only [outK, h6]
                            refine placeK_weak hd (eff_weak (fun u hu => ?_) (fun u hu hsi => ?_)) (fun u hu => eff_dst u hu) hk
                            · by_cases hul : u ∈ lentOf l
                              · exact .inr (h7 u hul).symm
                              · exact .inl (h8 u hul)
                            · refine h9 u (fun hul => ?_) fun t ht => saysInOf_mem hsi (allIn_mem hall t ht)
                              rw [allIn_mem hall u hul] at hu
                              simp at hu)
                    have hrun : (execOp a.eval { dst, op := .call ⟨.value f, args, argTypes⟩, type := ty, pos, after := aft, guard := gd }).run P w = .ok (.enter fid ⟨args.toList.map a.eval ++ cu⟩) w := by
                      have harr : (#[] : Array Value) ++ args.map a.eval ++ ⟨cu⟩ = ⟨args.toList.map a.eval ++ cu⟩ := by apply Array.ext'; simp
                      simp only [execOp, resolve, hcu, Deferred.ofValue, pure_bind, invoke]
                      rw [harr]
                      exact hs.1 _ _
                    unfold Oper.wp
                    rw [hrun, Oper.upon_enter]
                    refine hcall.mono fun e w' he => ?_
                    cases e with
                    | returned v => obtain ⟨g', st', h6, h7⟩ := he; exact hnw h6 h7
                    | panicked c => obtain ⟨g', st', d, v, rfl, h6, h7, h8⟩ := he; exact h8.elim
                    | outgrown => exact he.elim
                · simp [doesK] at hK
              · simp [doesK] at hK
            · simp [doesK] at hK
          · split at hK
            · rename_i x y t t2 ha ht
              have ha' : args = #[x, y] := Array.ext' (by simpa using ha)
              have ht' : argTypes = #[t, t2] := Array.ext' (by simpa using ht)
              subst ha'; subst ht'
              have fin : ∀ (c : Prop) (v : AV) (how : Option (Nat × Option Nat)) (ups : List (Nat × AV)), appendV P (mask row st) t t2 (ev cx.N (mask row st) x) (ev cx.N (mask row st) y) = some (c, v, how) → doesK P row dst st K (.det (some c) v ups) →
                  (K (eff dst v ups row.touch st) → placeK cx.N (consume st how) dst v (fun st' => ∃ s, Weak s st' ∧ K s)) →
                  Oper.wp P { dst, op := .call ⟨.builtin .append, #[x, y], #[t, t2]⟩, type := ty, pos, after := aft, guard := gd } a w next Q := by
                intro c v how ups hv hk hp
                simp only [doesK, condK, forceA_eq] at hk
                cases hcc : saysOf row.hidD v || saysInOf row.hidT v with
                | true => simp [hcc] at hk
                | false =>
                  simp only [hcc, cond_false] at hk
                  obtain ⟨u, w', h1, g', st', h2, h3⟩ := append_ok (P := P) (ty := ty) h t t2 (ev_rel hm x) (ev_rel hm y) (appendV_mono hw hv) hk.1 dst _ (hp hk.2)
                  unfold Oper.wp
                  have : (execOp a.eval { dst, op := .call ⟨.builtin .append, #[x, y], #[t, t2]⟩, type := ty, pos, after := aft, guard := gd }).run P w = .ok (.value u) w' := by
                    simp [execOp, resolve, invoke, builtin, h1]
                  rw [this]
                  exact hnw h2 h3
              split at hK
              · rename_i c v hv
                exact fin c v none [] hv hK fun hk => placeK_weak hd (eff_plain rfl) (fun u hu => eff_dst u hu) hk
              · rename_i c v u hv
                cases hmu : memB u row.touch with
                | false => simp [hmu, doesK] at hK
                | true =>
                  simp only [hmu, cond_true] at hK
                  refine fin c v (some (u, none)) [(u, .d .und)] hv hK fun hk => placeK_weak hd (eff_weak (fun u' hu' => .inl ?_) (fun u' hu' _ => ?_)) (fun u hu => eff_dst u hu) hk
                  · simp only [lookU]
                    cases Nat.beq u u' <;> rfl
                  · show upd u (.d .und) st u' = st u'
                    rw [get_upd, if_neg]
                    rintro rfl
                    rw [hmu] at hu'; simp at hu'
              · simp [doesK] at hK
            · simp [doesK] at hK
          · exact quietly hK
        · exact quietly hK

end AM

/- AM: regions that draw their order: every order. -/
namespace AM
open Go

/-! one operation of the text -/
theorem guardK_ok {cx : Cx} {g : G} {st : St} {a : Act} {w : World} (h : Sat cx g st a w) {ops : Array Oper} {o : Oper} {yes no : St → Prop} (hg : guardK cx.N ops.toList st o yes no) :
    ∃ st', Sat cx g st' a w ∧ ((Region.wanted o (yielded ops a.tmps) = true ∧ yes st') ∨ (Region.wanted o (yielded ops a.tmps) = false ∧ no st')) := by
  unfold guardK at hg
  cases hgd : o.guard with
  | none => rw [hgd] at hg; exact ⟨st, h, .inl ⟨by simp [Region.wanted, hgd], hg⟩⟩
  | some gw =>
    obtain ⟨gi, want⟩ := gw
    rw [hgd] at hg
    dsimp only at hg
    cases hog : ops.toList[gi]? with
    | none => simp [hog] at hg
    | some og =>
      simp only [hog] at hg
      cases hdst : og.dst with
      | none => simp [hdst] at hg
      | some t =>
        simp only [hdst] at hg
        cases htN : Nat.blt t cx.N with
        | false => simp [htN] at hg
        | true =>
          simp only [htN, cond_true] at hg
          split at hg
          · rename_i b hb
            have hB : guardB cx.N ops.toList st o = some (cond b want (not want)) := by
              simp [guardB, hgd, hog, hdst, htN, hb]
            have hw := guardB_ok h hB
            have hup : ∀ b', b = b' → Sat cx g (upd t (.d (.bool b')) st) a w := fun b' hb' => by
              refine h.weak fun u => .inr ?_
              rw [get_upd]
              split
              · rename_i he; subst he; rw [hb, hb']
              · rfl
            refine ⟨upd t (.d (.bool b)) st, hup b rfl, ?_⟩
            rw [hw]
            cases b <;> cases want <;> first | exact .inl ⟨rfl, hg⟩ | exact .inr ⟨rfl, hg⟩
          · rename_i hb
            have hB : guardB cx.N ops.toList st o = some false := by simp [guardB, hgd, hog, hdst, htN, hb]
            exact ⟨st, h, .inr ⟨guardB_ok h hB, hg⟩⟩
          · exact hg.elim

theorem skipK_ok {cx : Cx} {g : G} {st : St} {a : Act} {w : World} (h : Sat cx g st a w) {dst : Option Nat} {K : St → Prop} (hk : skipK cx.N st dst K) : ∃ st', Sat cx g st' (a.put dst undef) w ∧ K st' := by
  unfold skipK at hk
  split at hk
  · exact ⟨st, h, hk⟩
  · rename_i t
    cases hb : Nat.blt t cx.N with
    | false => simp [hb] at hk
    | true =>
      simp only [hb, cond_true] at hk
      exact ⟨_, h.put (Nat.blt_eq.mp hb) rfl (.d _ undef undef_rel), hk⟩

theorem stepK_ok {P : Program} {cx : Cx} {g : G} {st : St} {a : Act} {w : World} (h : Sat cx g st a w) {ops : Array Oper} {i : Nat} {o : Oper} (hi : ops[i]? = some o) {K : St → Prop} {Kp : D → St → Prop}
    (hK : guardK cx.N ops.toList st o (fun st => opK P cx.N st o.op o.dst K Kp) (fun st => skipK cx.N st o.dst K)) {next : Act → World → Prop} {Q : Exit → Act → World → Prop}
    (hn : ∀ (g' : G) (st' : St) (a' : Act) (w' : World), Sat cx g' st' a' w' → K st' → next a' w')
    (hp : ∀ (g' : G) (st' : St) (d : D) (v : Value) (a' : Act) (w' : World), Sat cx g' st' a' w' → DRel g'.I w' d v → Kp d st' → Q (.panic [{ v, recovered := false }]) a' w') : wpOp P ops Q i next a w := by
  unfold wpOp
  rw [hi]
  dsimp only
  obtain ⟨st', h1, h2⟩ := guardK_ok h hK
  rcases h2 with ⟨h2, h3⟩ | ⟨h2, h3⟩
  · rw [h2]
    exact .inl (opK_ok h1 o h3 hn (fun g' st' d v w' h4 h5 h6 => hp g' st' d v a w' h4 h5 h6))
  · rw [h2]
    obtain ⟨st2, h4, h5⟩ := skipK_ok h1 h3
    exact hn _ _ _ _ h4 h5

/-! two operations, in either order -/
theorem saysDst_false {dst : Option Nat} {v : AV} (h : ∀ d, dst = some d → v.says d = false) : saysDst dst v = false := by
  cases dst with
  | none => rfl
  | some d => exact h d rfl

theorem mask_eff {ri : Row} {dk : Option Nat} {v : AV} {ups : List (Nat × AV)} {Tk : List Nat} {st : St} (h1 : dstIn dk ri.hidD = true) (h2 : allIn ri.hidT Tk = true) : mask ri (eff dk v ups Tk st) = mask ri st := by
  funext u
  rw [mask_eq, mask_eq]
  dsimp only
  cases hd : memB u ri.hidD with
  | true => rfl
  | false =>
    cases ht : memB u ri.hidT with
    | true => rfl
    | false =>
      simp only [Bool.or_self, cond_false]
      have hnd : isDst dk u = false := by
        cases hx : isDst dk u with
        | false => rfl
        | true =>
          have := isDst_iff.mp hx
          subst this
          have h1 : memB u ri.hidD = true := h1
          rw [hd] at h1; simp at h1
      have hnt : memB u Tk = false := by
        cases hx : memB u Tk with
        | false => rfl
        | true => rw [allIn_mem h2 u (memB_iff.mp hx)] at ht; simp at ht
      have he : eff dk v ups Tk st u = bif saysDst dk (st u) || saysInOf Tk (st u) then .d .und else st u := by
        rw [eff_eq]; dsimp only; rw [hnd, hnt]; rfl
      rw [he]
      cases hs : saysDst dk (st u) with
      | true =>
        have : saysOf ri.hidD (st u) = true := by
          cases hx : saysOf ri.hidD (st u) with
          | true => rfl
          | false =>
            cases dk with
            | none => simp [saysDst] at hs
            | some d =>
              have h1 : memB d ri.hidD = true := h1
              have h3 := saysOf_mem hx h1
              have hs : (st u).says d = true := hs
              rw [h3] at hs; simp at hs
        simp only [Bool.true_or, cond_true, this]
        have e1 : saysOf ri.hidD (.d .und) = false := by induction ri.hidD with | nil => rfl | cons x r ih => simpa [saysOf, AV.says] using ih
        have e2 : saysInOf ri.hidT (.d .und) = false := by induction ri.hidT with | nil => rfl | cons x r ih => simpa [saysInOf, AV.saysIn] using ih
        rw [e1, e2]; rfl
      | false =>
        cases hsi : saysInOf Tk (st u) with
        | true =>
          have : saysInOf ri.hidT (st u) = true := by
            cases hx : saysInOf ri.hidT (st u) with
            | true => rfl
            | false =>
              exfalso
              have : saysInOf Tk (st u) = false := by
                clear hsi he hnt hs
                induction Tk with
                | nil => rfl
                | cons x r ih =>
                  simp only [allIn, Bool.and_eq_true] at h2
                  simp only [saysInOf, saysInOf_mem hx h2.1, Bool.false_or]
                  exact ih h2.2
              rw [this] at hsi; simp at hsi
          simp only [Bool.false_or, cond_true, this, Bool.or_true]
          have e1 : saysOf ri.hidD (.d .und) = false := by induction ri.hidD with | nil => rfl | cons x r ih => simpa [saysOf, AV.says] using ih
          have e2 : saysInOf ri.hidT (.d .und) = false := by induction ri.hidT with | nil => rfl | cons x r ih => simpa [saysInOf, AV.saysIn] using ih
          rw [e1, e2]; rfl
        | false => rfl

theorem eff_comm {di dk : Option Nat} {vi vk : AV} {ui uk : List (Nat × AV)} {Tk : List Nat} {st : St} (hne : dstNe di dk = true) (hdt : dstOut di Tk = true) (hvk : ∀ d, di = some d → vk.says d = false)
    (hvi : ∀ d, dk = some d → vi.says d = false) (hvt : saysInOf Tk vi = false) : eff di vi ui [] (eff dk vk uk Tk st) = eff dk vk uk Tk (eff di vi ui [] st) := by
  funext u
  have hT : ∀ x, memB x [] = false := fun x => rfl
  have hI : ∀ v, saysInOf [] v = false := fun v => rfl
  have und1 : ∀ d : Option Nat, saysDst d (.d .und) = false := fun d => by cases d <;> rfl
  have und2 : saysInOf Tk (.d .und) = false := by clear hdt hvt; induction Tk with | nil => rfl | cons x r ih => simpa [saysInOf, AV.saysIn] using ih
  by_cases h1 : isDst di u = true
  · have hnk : isDst dk u = false := by
      cases hx : isDst dk u with
      | false => rfl
      | true =>
        have e1 := isDst_iff.mp h1
        have e2 := isDst_iff.mp hx
        subst e1; subst e2
        simp [dstNe] at hne
    have hnt : memB u Tk = false := by
      have e1 := isDst_iff.mp h1
      subst e1
      simpa [dstOut] using hdt
    rw [eff_dst u h1]
    simp only [eff_eq]
    rw [hnk, hnt, h1]
    simp only [cond_false, cond_true, saysDst_false hvi, hvt, Bool.or_self]
  · have h1 : isDst di u = false := by simpa using h1
    by_cases h2 : isDst dk u = true
    · rw [eff_dst (dst := dk) u h2]
      simp only [eff_eq]
      rw [h1, h2]
      simp only [cond_false, cond_true, hT, hI, saysDst_false hvk, Bool.or_self]
    · have h2 : isDst dk u = false := by simpa using h2
      simp only [eff_eq]
      rw [h1, h2]
      simp only [cond_false, hT, hI, Bool.or_false]
      cases h3 : memB u Tk with
      | true =>
        simp only [cond_true]
        have : saysDst di (lookU u uk) = false := saysDst_false fun d _ => (lookU_says u d uk).1
        rw [this]; rfl
      | false =>
        simp only [cond_false]
        cases h4 : saysDst dk (st u) <;> cases h5 : saysInOf Tk (st u) <;> cases h6 : saysDst di (st u) <;> simp [h4, h5, h6, und1, und2]

theorem condK_mono {c : Option Prop} {p q : Prop} (h : condK c p) (hpq : p → q) : condK c q := by
  cases c with
  | none => exact hpq h
  | some c => exact ⟨h.1, hpq h.2⟩

theorem doesK_mono {P : Program} {row : Row} {dst : Option Nat} {st : St} {K K' : St → Prop} {x : Does} (h : doesK P row dst st K x) (hk : ∀ s, K s → K' s) : doesK P row dst st K' x := by
  cases x with
  | det c v ups =>
    simp only [doesK, forceA_eq] at h ⊢
    refine condK_mono h fun h => ?_
    cases hc : saysOf row.hidD v || saysInOf row.hidT v with
    | true => rw [hc] at h; exact h
    | false => rw [hc] at h; exact hk _ h
  | call f ar l =>
    obtain ⟨post, h1, h2, h3⟩ := h
    refine ⟨post, h1, h2, fun o ho => ?_⟩
    have := h3 o ho
    cases o with
    | pan d outs => exact this
    | ret r outs =>
      dsimp only at this ⊢
      cases hu : upsOf l outs with
      | none => simp [hu] at this
      | some ups =>
        simp only [hu] at this ⊢
        cases hr : r.closed with
        | true => rw [hr] at this; exact hk _ this
        | false => rw [hr] at this; exact this
  | bad => exact h

theorem rowK_mono {P : Program} {N : Nat} {ops : List Oper} {o : Oper} {row : Row} {st : St} {K K' : St → Prop} (h : rowK P N ops o row st K) (hk : ∀ s, K s → K' s) : rowK P N ops o row st K' := by
  unfold rowK at h ⊢
  cases hd : dstOk N o.dst with
  | true => rw [hd] at h; exact doesK_mono h hk
  | false => rw [hd] at h; exact h

theorem closed_says {r : AV} (h : r.closed = true) (t : Nat) : r.says t = false ∧ r.saysIn t = false := by
  cases r <;> first | exact ⟨rfl, rfl⟩ | simp [AV.closed] at h

def Does.isCall : Does → Bool
  | .call _ _ _ => true
  | _ => false

theorem doesK_swap {P : Program} {rk ri : Row} {dk di : Option Nat} {st : St} {C : St → Prop} {xk xi : Does} (hti : ri.touch = []) (hcc : (xk.isCall && xi.isCall) = false) (hki : dstIn dk ri.hidD = true) (hik : dstIn di rk.hidD = true)
    (htt : allIn ri.hidT rk.touch = true) (hdt : dstOut di rk.touch = true) (hne : dstNe di dk = true)
    (h : doesK P rk dk st (fun s1 => doesK P ri di s1 C xi) xk) : doesK P ri di st (fun s2 => doesK P rk dk s2 C xk) xi := by
  have hmem : ∀ {ds : List Nat} {dst : Option Nat} {v : AV}, dstIn dst ds = true → saysOf ds v = false → ∀ d, dst = some d → v.says d = false := fun {ds dst v} h1 h2 d hd => by
    subst hd; exact saysOf_mem h2 h1
  have hsub : ∀ {v : AV}, saysInOf ri.hidT v = false → saysInOf rk.touch v = false := fun {v} hv => by
    generalize rk.touch = T at htt
    induction T with
    | nil => rfl
    | cons x r ih =>
      simp only [allIn, Bool.and_eq_true] at htt
      simp only [saysInOf, saysInOf_mem hv htt.1, Bool.false_or]
      exact ih htt.2
  have inClosed : ∀ {v : AV} {T : List Nat}, v.closed = true → saysInOf T v = false := fun {v T} hv => by
    induction T with
    | nil => rfl
    | cons x r ih => simp only [saysInOf, (closed_says hv x).2, Bool.false_or]; exact ih
  cases xk with
  | bad => exact h.elim
  | det ck vk uk =>
    simp only [doesK, forceA_eq] at h
    cases hbk : saysOf rk.hidD vk || saysInOf rk.hidT vk with
    | true => rw [hbk] at h; cases ck with | none => exact h.elim | some c => exact h.2.elim
    | false =>
      obtain ⟨hb1, hb2⟩ := Bool.or_eq_false_iff.mp hbk
      rw [hbk] at h
      simp only [cond_false] at h
      cases xi with
      | bad => cases ck with | none => exact h.elim | some c => exact h.2.elim
      | det ci vi ui =>
        simp only [doesK, forceA_eq, hti] at h ⊢
        cases hbi : saysOf ri.hidD vi || saysInOf ri.hidT vi with
        | true => rw [hbi] at h; cases ck <;> cases ci <;> simp [condK] at h
        | false =>
          obtain ⟨hb3, hb4⟩ := Bool.or_eq_false_iff.mp hbi
          rw [hbi] at h
          simp only [cond_false, hbk] at h ⊢
          rw [eff_comm hne hdt (hmem hik hb1) (hmem hki hb3) (hsub hb4)] at h
          cases ck <;> cases ci <;> simp only [condK] at h ⊢
          · exact h
          · exact h
          · exact h
          · exact ⟨h.2.1, h.1, h.2.2⟩
      | call f ar l =>
        have hck : (∀ c, ck = some c → c) ∧ doesK P ri di (eff dk vk uk rk.touch st) C (.call f ar l) := by
          cases ck with
          | none => exact ⟨fun c hc => (nomatch hc), h⟩
          | some c => exact ⟨fun c' hc => by cases hc; exact h.1, h.2⟩
        obtain ⟨hck, hcall⟩ := hck
        obtain ⟨post, h1, h2, h3⟩ := hcall
        refine ⟨post, h1, h2, fun o ho => ?_⟩
        have := h3 o ho
        cases o with
        | pan d outs => exact this
        | ret r outs =>
          dsimp only at this ⊢
          cases hu : upsOf l outs with
          | none => simp [hu] at this
          | some ups =>
            simp only [hu] at this ⊢
            cases hr : r.closed with
            | false => rw [hr] at this; exact this
            | true =>
              rw [hr] at this
              simp only [cond_true, hti] at this ⊢
              rw [eff_comm hne hdt (hmem hik hb1) (fun d _ => (closed_says hr d).1) (inClosed hr)] at this
              simp only [doesK, forceA_eq, hbk, cond_false]
              cases ck with
              | none => exact this
              | some c => exact ⟨hck c rfl, this⟩
  | call f ar l =>
    cases xi with
    | bad =>
      obtain ⟨post, h1, ⟨o, ho⟩, h3⟩ := h
      have := h3 o ho
      cases o with
      | pan d outs => exact this.elim
      | ret r outs =>
        dsimp only at this
        cases hu : upsOf l outs with
        | none => simp [hu] at this
        | some ups => simp only [hu] at this; cases hr : r.closed <;> rw [hr] at this <;> exact this.elim
    | call f' ar' l' => simp [Does.isCall] at hcc
    | det ci vi ui =>
      obtain ⟨post, h1, hnon, h3⟩ := h
      have key : ∀ o, post o → ∃ r outs ups, o = .ret r outs ∧ upsOf l outs = some ups ∧ r.closed = true ∧ (∀ c, ci = some c → c) ∧ (saysOf ri.hidD vi || saysInOf ri.hidT vi) = false ∧ C (eff di vi ui ri.touch (eff dk r ups rk.touch st)) := by
        intro o ho
        have := h3 o ho
        cases o with
        | pan d outs => exact this.elim
        | ret r outs =>
          dsimp only at this
          cases hu : upsOf l outs with
          | none => simp [hu] at this
          | some ups =>
            simp only [hu] at this
            cases hr : r.closed with
            | false => rw [hr] at this; exact this.elim
            | true =>
              rw [hr] at this
              simp only [cond_true, doesK, forceA_eq] at this
              have hci : (∀ c, ci = some c → c) ∧ cond (saysOf ri.hidD vi || saysInOf ri.hidT vi) False (C (eff di vi ui ri.touch (eff dk r ups rk.touch st))) := by
                cases ci with
                | none => exact ⟨fun c hc => (nomatch hc), this⟩
                | some c => exact ⟨fun c' hc => by cases hc; exact this.1, this.2⟩
              obtain ⟨hc1, hc2⟩ := hci
              cases hb : saysOf ri.hidD vi || saysInOf ri.hidT vi with
              | true => rw [hb] at hc2; exact hc2.elim
              | false => rw [hb] at hc2; exact ⟨r, outs, ups, rfl, hu, hr, hc1, rfl, hc2⟩
      obtain ⟨o0, ho0⟩ := hnon
      obtain ⟨-, -, -, -, -, -, hc1, hb, -⟩ := key o0 ho0
      obtain ⟨hb3, hb4⟩ := Bool.or_eq_false_iff.mp hb
      have goal : doesK P rk dk (eff di vi ui ri.touch st) C (.call f ar l) := by
        refine ⟨post, h1, ⟨o0, ho0⟩, fun o ho => ?_⟩
        obtain ⟨r, outs, ups, rfl, hu, hr, -, -, hC⟩ := key o ho
        simp only [hu, hr, cond_true]
        rw [hti] at hC ⊢
        rw [eff_comm hne hdt (fun d _ => (closed_says hr d).1) (hmem hki hb3) (hsub hb4)] at hC
        exact hC
      simp only [doesK, forceA_eq]
      rw [hb]
      cases ci with
      | none => exact goal
      | some c => exact ⟨hc1 c rfl, goal⟩

theorem doesOf_call {P : Program} {N : Nat} {touch : List Nat} {st : St} {o : Oper} (b : Option Bool) (h : (guarded b (doesOf P N touch st o.op)).isCall = true) : isCallOp o = true := by
  cases b with
  | none => simp [guarded, Does.isCall] at h
  | some b =>
    cases b with
    | false => simp [guarded, Does.isCall] at h
    | true =>
      simp only [guarded] at h
      have hres : ∀ r : Res, (ofRes r).isCall = false := fun r => by
        cases r with
        | none => rfl
        | some p => obtain ⟨c, v⟩ := p; rfl
      unfold doesOf at h
      unfold isCallOp
      split at h
      · rename_i c hop
        split at h
        · rename_i f hf; rw [hf]
        · exfalso
          split at h
          · split at h
            · simp [Does.isCall] at h
            · rename_i c' v u hv
              cases hm : memB u touch <;> simp [hm, Does.isCall] at h
            · simp [Does.isCall] at h
          · simp [Does.isCall] at h
        · rw [hres] at h; simp at h
      · rw [hres] at h; simp at h

/-- beside one another -/
def freeOk (ok oi : Oper) (rk ri : Row) : Bool :=
  !rk.sync && (!ri.sync && (allIn [] ri.touch && (!(isCallOp ok && isCallOp oi) && (dstIn ok.dst ri.hidD && (dstIn oi.dst rk.hidD && (allIn ri.hidT rk.touch && (dstOut oi.dst rk.touch && dstNe oi.dst ok.dst)))))))

theorem rowK_swap {P : Program} {N : Nat} {ops : List Oper} {ok oi : Oper} {rk ri : Row} {st : St} {C : St → Prop} (hf : freeOk ok oi rk ri = true) (h : rowK P N ops ok rk st (fun s => rowK P N ops oi ri s C)) :
    rowK P N ops oi ri st (fun s => rowK P N ops ok rk s C) := by
  unfold freeOk at hf
  simp only [Bool.and_eq_true] at hf
  obtain ⟨-, -, h1, h2, h3, h4, h5, h6, h7⟩ := hf
  have hti : ri.touch = [] := by
    cases ht : ri.touch with
    | nil => rfl
    | cons x r => rw [ht] at h1; simp [allIn, memB] at h1
  unfold rowK at h
  cases hdk : dstOk N ok.dst with
  | false => rw [hdk] at h; exact h.elim
  | true =>
    rw [hdk] at h
    simp only [cond_true] at h
    have hdi : dstOk N oi.dst = true := by
      cases hdi : dstOk N oi.dst with
      | true => rfl
      | false =>
        exfalso
        rw [hdi] at h
        simp only [cond_false] at h
        generalize guarded (guardB N ops (mask rk st) ok) (doesOf P N rk.touch (mask rk st) ok.op) = x at h
        cases x with
        | bad => exact h
        | det c v ups => simp only [doesK, forceA_eq] at h; cases c <;> cases hb : saysOf rk.hidD v || saysInOf rk.hidT v <;> simp [hb, condK] at h
        | call f ar l =>
          obtain ⟨post, e1, ⟨o, ho⟩, e3⟩ := h
          have := e3 o ho
          cases o with
          | pan d outs => exact this.elim
          | ret r outs =>
            dsimp only at this
            cases hu : upsOf l outs with
            | none => simp [hu] at this
            | some ups => simp only [hu] at this; cases hr : r.closed <;> rw [hr] at this <;> exact this.elim
    rw [hdi] at h
    simp only [cond_true] at h
    have hcc : ((guarded (guardB N ops (mask rk st) ok) (doesOf P N rk.touch (mask rk st) ok.op)).isCall && (guarded (guardB N ops (mask ri st) oi) (doesOf P N ri.touch (mask ri st) oi.op)).isCall) = false := by
      cases e1 : (guarded (guardB N ops (mask rk st) ok) (doesOf P N rk.touch (mask rk st) ok.op)).isCall with
      | false => rfl
      | true =>
        cases e2 : (guarded (guardB N ops (mask ri st) oi) (doesOf P N ri.touch (mask ri st) oi.op)).isCall with
        | false => rfl
        | true => rw [doesOf_call _ e1, doesOf_call _ e2] at h2; simp at h2
    -- what is seen beside the other one
    have hmi : ∀ v ups, mask ri (eff ok.dst v ups rk.touch st) = mask ri st := fun v ups => mask_eff h3 h5
    have hmk : ∀ v ups, mask rk (eff oi.dst v ups ri.touch st) = mask rk st := fun v ups => mask_eff h4 (by rw [hti]; rfl)
    unfold rowK
    simp only [hdi, hdk, cond_true]
    have key : doesK P rk ok.dst st (fun s1 => doesK P ri oi.dst s1 C (guarded (guardB N ops (mask ri st) oi) (doesOf P N ri.touch (mask ri st) oi.op))) (guarded (guardB N ops (mask rk st) ok) (doesOf P N rk.touch (mask rk st) ok.op)) := by
      generalize guarded (guardB N ops (mask rk st) ok) (doesOf P N rk.touch (mask rk st) ok.op) = xk at h
      cases xk with
      | bad => exact h
      | det c v ups => simp only [doesK, forceA_eq, hmi] at h ⊢; exact h
      | call f ar l =>
        obtain ⟨post, e1, e2, e3⟩ := h
        refine ⟨post, e1, e2, fun o ho => ?_⟩
        have := e3 o ho
        cases o with
        | pan d outs => exact this
        | ret r outs =>
          dsimp only at this ⊢
          cases hu : upsOf l outs with
          | none => simp [hu] at this
          | some ups => simp only [hu, hmi] at this ⊢; exact this
    have key2 := doesK_swap hti hcc h3 h4 h5 h6 h7 key
    generalize guarded (guardB N ops (mask ri st) oi) (doesOf P N ri.touch (mask ri st) oi.op) = xi at key2 ⊢
    cases xi with
    | bad => exact key2
    | det c v ups => simp only [doesK, forceA_eq, hmk] at key2 ⊢; exact key2
    | call f ar l =>
      obtain ⟨post, e1, e2, e3⟩ := key2
      refine ⟨post, e1, e2, fun o ho => ?_⟩
      have := e3 o ho
      cases o with
      | pan d outs => exact this
      | ret r outs =>
        dsimp only at this ⊢
        cases hu : upsOf l outs with
        | none => simp [hu] at this
        | some ups => simp only [hu, hmk] at this ⊢; exact this

end AM

/- AM: regions. -/
namespace AM
open Go

theorem rows_get : ∀ (n : Nat) (os : List Oper) (rs : List Row) (j i : Nat) (o : Oper) (r : Row), (rows n os rs)[j]? = some (i, o, r) ↔ i = n + j ∧ os[j]? = some o ∧ rs[j]? = some r
  | n, [], rs, j, i, o, r => by simp [rows]
  | n, x :: os, [], j, i, o, r => by simp [rows]
  | n, x :: os, y :: rs, 0, i, o, r => by
    simp only [rows, List.getElem?_cons_zero, Option.some.injEq, Prod.mk.injEq]
    exact ⟨fun ⟨h1, h2, h3⟩ => ⟨h1.symm, h2, h3⟩, fun ⟨h1, h2, h3⟩ => ⟨h1.symm, h2, h3⟩⟩
  | n, x :: os, y :: rs, j + 1, i, o, r => by
    simp only [rows, List.getElem?_cons_succ]
    rw [rows_get (n + 1) os rs j i o r]
    constructor <;> (rintro ⟨h1, h2⟩; exact ⟨by omega, h2⟩)

theorem edgesBack_ok {i : Nat} : ∀ {l : List Edge}, edgesBack i l = true → ∀ e ∈ l, bindsNow e = true → e.on < i
  | [], _, e, he, _ => by simp at he
  | x :: r, h, e, he, hb => by
    simp only [edgesBack, Bool.and_eq_true] at h
    rcases List.mem_cons.mp he with rfl | he
    · rcases (Bool.or_eq_true _ _).mp h.1 with h1 | h1
      · rw [hb] at h1; simp at h1
      · exact Nat.blt_eq.mp h1
    · exact edgesBack_ok h.2 e he hb

theorem viaEdges_ok {tab : List (Nat × Oper × Row)} {k : Nat} : ∀ {l : List Edge}, viaEdges tab k l = true → ∃ e ∈ l, bindsNow e = true ∧ (e.on = k ∨ ∃ i o row, tab[e.on]? = some (i, o, row) ∧ has row.needs k = true)
  | [], h => by simp [viaEdges] at h
  | x :: r, h => by
    simp only [viaEdges, Bool.or_eq_true, Bool.and_eq_true] at h
    rcases h with ⟨h1, h2⟩ | h
    · refine ⟨x, by simp, h1, ?_⟩
      rcases h2 with h2 | h2
      · exact .inl (Nat.eq_of_beq_eq_true h2)
      · right
        split at h2
        · rename_i i o row hx; exact ⟨i, o, row, hx, h2⟩
        · simp at h2
    · obtain ⟨e, h1, h2⟩ := viaEdges_ok h
      exact ⟨e, by simp [h1], h2⟩

theorem needsOk_ok {tab : List (Nat × Oper × Row)} {i : Nat} {o : Oper} {row : Row} : ∀ {n : Nat}, needsOk tab i o row n = true → ∀ k, k < n → has row.needs k = true → k < i ∧ viaEdges tab k o.after.toList = true
  | 0, _, k, hk, _ => by omega
  | n + 1, h, k, hk, hn => by
    simp only [needsOk, Bool.and_eq_true] at h
    by_cases hkn : k = n
    · subst hkn
      rcases (Bool.or_eq_true _ _).mp h.1 with h1 | h1
      · rw [hn] at h1; simp at h1
      · simp only [Bool.and_eq_true] at h1; exact ⟨Nat.blt_eq.mp h1.1, h1.2⟩
    · exact needsOk_ok h.2 k (by omega) hn

theorem pairsOk_ok {i : Nat} {oi : Oper} {ri : Row} : ∀ {l : List (Nat × Oper × Row)}, pairsOk i oi ri l = true → ∀ k ok rk, (k, ok, rk) ∈ l → k < i → has ri.needs k = true ∨ freeOk ok oi rk ri = true
  | [], _, k, ok, rk, hm, _ => by simp at hm
  | (k0, ok0, rk0) :: r, h, k, ok, rk, hm, hk => by
    simp only [pairsOk, Bool.and_eq_true] at h
    rcases List.mem_cons.mp hm with he | hm
    · cases he
      rcases (Bool.or_eq_true _ _).mp h.1 with h1 | h1
      · have := Nat.le_of_ble_eq_true h1; omega
      · exact (Bool.or_eq_true _ _).mp h1
    · exact pairsOk_ok h.2 k ok rk hm hk

theorem tabOkFrom_ok {n : Nat} {tab : List (Nat × Oper × Row)} : ∀ {l : List (Nat × Oper × Row)}, tabOkFrom n tab l = true → ∀ i o row, (i, o, row) ∈ l → edgesBack i o.after.toList = true ∧ needsOk tab i o row n = true ∧ pairsOk i o row tab = true
  | [], _, i, o, row, hm => by simp at hm
  | (i0, o0, r0) :: r, h, i, o, row, hm => by
    simp only [tabOkFrom, Bool.and_eq_true] at h
    rcases List.mem_cons.mp hm with he | hm
    · cases he; exact ⟨h.1, h.2.1, h.2.2.1⟩
    · exact tabOkFrom_ok h.2.2.2 i o row hm

theorem drawK_swap {P : Program} {N : Nat} {ops : List Oper} {K : St → Prop} {Kp : D → St → Prop} {i : Nat} {oi : Oper} {ri : Row} {R2 : List (Nat × Oper × Row)} (hs : ri.sync = false) : ∀ (R1 : List (Nat × Oper × Row)) (st : St),
    (∀ k ok rk, (k, ok, rk) ∈ R1 → freeOk ok oi rk ri = true) → drawK P N ops K Kp (R1 ++ (i, oi, ri) :: R2) st → rowK P N ops oi ri st (fun s => drawK P N ops K Kp (R1 ++ R2) s)
  | [], st, _, h => by
    simp only [List.nil_append, drawK, hs, cond_false] at h ⊢
    exact h
  | (k, ok, rk) :: R1, st, hf, h => by
    have hk := hf k ok rk (by simp)
    have hks : rk.sync = false := by
      unfold freeOk at hk
      simp only [Bool.and_eq_true, Bool.not_eq_true'] at hk
      exact hk.1
    simp only [List.cons_append, drawK, hks, cond_false] at h ⊢
    exact rowK_swap hk (rowK_mono h fun s hs' => drawK_swap hs R1 s (fun k ok rk hm => hf k ok rk (by simp [hm])) hs')

/-- the operations that are left -/
def left (T : List (Nat × Oper × Row)) (listed : Array Bool) : List (Nat × Oper × Row) := T.filter fun p => !listed.getD p.1 true

theorem draw_ok {P : Program} {cx : Cx} {ops : Array Oper} {tab : List Row} (ht : tabOk P ops.toList tab = true) {K : St → Prop} {Kp : D → St → Prop} {Q : Exit → Act → World → Prop}
    (hn : ∀ (g' : G) (st' : St) (a' : Act) (w' : World), Sat cx g' st' a' w' → K st' → Q .normal a' w')
    (hp : ∀ (g' : G) (st' : St) (d : D) (v : Value) (a' : Act) (w' : World), Sat cx g' st' a' w' → DRel g'.I w' d v → Kp d st' → Q (.panic [{ v, recovered := false }]) a' w') :
    ∀ (fuel : Nat) (listed : Array Bool) (a : Act) (w : World) (g : G) (st : St), listed.size = ops.size → (left (rows 0 ops.toList tab) listed).length ≤ fuel →
      (∀ j oj rj, (j, oj, rj) ∈ rows 0 ops.toList tab → listed.getD j false = true → ∀ k, k < ops.size → has rj.needs k = true → listed.getD k false = true) →
      Sat cx g st a w → drawK P cx.N ops.toList K Kp (left (rows 0 ops.toList tab) listed) st → wpAny P .any ops Q fuel listed a w := by
  simp only [tabOk, Bool.and_eq_true] at ht
  obtain ⟨htl, htab⟩ := ht
  have htl := Nat.eq_of_beq_eq_true htl
  have getT : ∀ i o, ops[i]? = some o → ∃ row, (rows 0 ops.toList tab)[i]? = some (i, o, row) := fun i o hi => by
    have hlt : i < tab.length := by rw [← htl]; simpa using (Array.getElem?_eq_some_iff.mp hi).1
    exact ⟨tab[i], (rows_get 0 _ _ i i o _).mpr ⟨by omega, by simpa using hi, by simp [hlt]⟩⟩
  have memT : ∀ i o row, (i, o, row) ∈ rows 0 ops.toList tab → ops[i]? = some o ∧ (rows 0 ops.toList tab)[i]? = some (i, o, row) := fun i o row hm => by
    obtain ⟨j, hj⟩ := List.getElem?_of_mem hm
    obtain ⟨h1, h2, h3⟩ := (rows_get 0 _ _ j i o row).mp hj
    have : i = j := by omega
    subst this
    exact ⟨by simpa using h2, hj⟩
  have specT : ∀ i o row, (i, o, row) ∈ rows 0 ops.toList tab → _ := fun i o row hm => tabOkFrom_ok htab i o row hm
  have getDtf : ∀ (listed : Array Bool) (i : Nat), i < listed.size → (listed.getD i true = false ↔ ¬ listed.getD i false = true) := fun listed i hi => by
    simp [hi]
  have opLt : ∀ i o, ops[i]? = some o → i < ops.size := fun i o hi => (Array.getElem?_eq_some_iff.mp hi).1
  -- if nothing is ready, nothing is left
  have noneLeft : ∀ listed : Array Bool, listed.size = ops.size → Region.ready .any ops listed = [] → left (rows 0 ops.toList tab) listed = [] := fun listed hsz hr => by
    have all : ∀ n i o row, i < n → (i, o, row) ∈ rows 0 ops.toList tab → listed.getD i true = true := by
      intro n
      induction n with
      | zero => intro i o row hi; omega
      | succ n ih =>
        intro i o row hi hm
        by_cases hin : i < n
        · exact ih i o row hin hm
        · cases hl : listed.getD i true with
          | true => rfl
          | false =>
            exfalso
            obtain ⟨h1, h2⟩ := memT i o row hm
            have : i ∈ Region.ready .any ops listed := mem_ready.mpr ⟨hl, o, h1, fun e he hb => by
              have hlt := edgesBack_ok (specT i o row hm).1 e (by simpa using he) hb
              have hes : e.on < ops.size := by have := opLt i o h1; omega
              obtain ⟨row', hr'⟩ := getT e.on ops[e.on] (by simp [hes])
              have h3 := ih e.on _ _ (by omega) (List.mem_of_getElem? hr')
              have hes' : e.on < listed.size := by rw [hsz]; exact hes
              cases h4 : listed.getD e.on false with
              | true => rfl
              | false =>
                have := (getDtf listed e.on hes').mpr (by rw [h4]; simp)
                rw [this] at h3; simp at h3⟩
            rw [hr] at this
            simp at this
    unfold left
    rw [List.filter_eq_nil_iff]
    rintro ⟨i, o, row⟩ hm
    simp [all (i + 1) i o row (by omega) hm]
  intro fuel
  induction fuel with
  | zero =>
    intro listed a w g st hsz hlen hcl h hk
    have hR : left (rows 0 ops.toList tab) listed = [] := List.length_eq_zero_iff.mp (by omega)
    rw [hR] at hk
    refine ⟨?_, hn _ _ _ _ h hk⟩
    cases hr : Region.ready .any ops listed with
    | nil => rfl
    | cons i r =>
      exfalso
      have : i ∈ Region.ready .any ops listed := by rw [hr]; simp
      obtain ⟨h1, o, h2, -⟩ := mem_ready.mp this
      obtain ⟨row, h3⟩ := getT i o h2
      have : (i, o, row) ∈ left (rows 0 ops.toList tab) listed := List.mem_filter.mpr ⟨List.mem_of_getElem? h3, by simp [h1]⟩
      rw [hR] at this
      simp at this
  | succ fuel ih =>
    intro listed a w g st hsz hlen hcl h hk
    refine ⟨fun hr => ?_, fun i hi => ?_⟩
    · rw [noneLeft listed hsz hr] at hk
      exact hn _ _ _ _ h hk
    · obtain ⟨hun, o, ho, hedges⟩ := mem_ready.mp hi
      obtain ⟨row, hrow⟩ := getT i o ho
      have hmem := List.mem_of_getElem? hrow
      have hiN := opLt i o ho
      have hil : i < listed.size := by rw [hsz]; exact hiN
      obtain ⟨hT1, hT2⟩ := List.getElem?_eq_some_iff.mp hrow
      have hsplit : rows 0 ops.toList tab = (rows 0 ops.toList tab).take i ++ (i, o, row) :: (rows 0 ops.toList tab).drop (i + 1) := by
        rw [← hT2, ← List.drop_eq_getElem_cons hT1, List.take_append_drop]
      have hbefore : ∀ k ok rk, (k, ok, rk) ∈ (rows 0 ops.toList tab).take i → k < i := fun k ok rk hm => by
        obtain ⟨j, hj⟩ := List.getElem?_of_mem hm
        rw [List.getElem?_take] at hj
        split at hj
        · obtain ⟨h1, -⟩ := (rows_get 0 _ _ j k ok rk).mp hj; omega
        · simp at hj
      have hafter : ∀ k ok rk, (k, ok, rk) ∈ (rows 0 ops.toList tab).drop (i + 1) → i < k := fun k ok rk hm => by
        obtain ⟨j, hj⟩ := List.getElem?_of_mem hm
        rw [List.getElem?_drop] at hj
        obtain ⟨h1, -⟩ := (rows_get 0 _ _ _ k ok rk).mp hj
        omega
      -- what it waits for is done
      have hdone : ∀ k, k < ops.size → has row.needs k = true → listed.getD k false = true := fun k hkN hk' => by
        obtain ⟨-, h2⟩ := needsOk_ok (specT i o row hmem).2.1 k (by simpa using hkN) hk'
        obtain ⟨e, he, hb, h3⟩ := viaEdges_ok h2
        have h4 := hedges e (by simpa using he) hb
        rcases h3 with rfl | ⟨i', o', row', h5, h6⟩
        · exact h4
        · obtain ⟨h7, h8, h9⟩ := (rows_get 0 _ _ _ _ _ _).mp h5
          have : i' = e.on := by omega
          subst this
          exact hcl _ o' row' (List.mem_of_getElem? h5) h4 k hkN h6
      let R1 := left ((rows 0 ops.toList tab).take i) listed
      let R2 := left ((rows 0 ops.toList tab).drop (i + 1)) listed
      have hleft : left (rows 0 ops.toList tab) listed = R1 ++ (i, o, row) :: R2 := by
        show List.filter _ _ = List.filter _ _ ++ _ :: List.filter _ _
        conv => lhs; rw [hsplit]
        rw [List.filter_append, List.filter_cons_of_pos (by simp [hun])]
      have hkeepL : ∀ k, k ≠ i → (listed.setIfInBounds i true).getD k true = listed.getD k true := fun k hki => getD_set_ne true (Ne.symm hki)
      have hleft' : left (rows 0 ops.toList tab) (listed.setIfInBounds i true) = R1 ++ R2 := by
        show List.filter _ _ = List.filter _ _ ++ List.filter _ _
        conv => lhs; rw [hsplit]
        rw [List.filter_append, List.filter_cons_of_neg (by simp [hil])]
        congr 1
        · refine List.filter_congr ?_
          rintro ⟨k, ok, rk⟩ hm
          dsimp only
          rw [hkeepL k (by have := hbefore k ok rk hm; omega)]
        · refine List.filter_congr ?_
          rintro ⟨k, ok, rk⟩ hm
          dsimp only
          rw [hkeepL k (by have := hafter k ok rk hm; omega)]
      have hfree : ∀ k ok rk, (k, ok, rk) ∈ R1 → freeOk ok o rk row = true := fun k ok rk hm => by
        obtain ⟨h1, h2⟩ := List.mem_filter.mp hm
        have hk1 := hbefore k ok rk h1
        have hkT : (k, ok, rk) ∈ rows 0 ops.toList tab := List.mem_of_mem_take h1
        rcases pairsOk_ok (specT i o row hmem).2.2 k ok rk hkT hk1 with h3 | h3
        · exfalso
          have hkN : k < ops.size := by omega
          have h4 := hdone k hkN h3
          have hkl : k < listed.size := by rw [hsz]; exact hkN
          have h2 : listed.getD k true = false := by simpa using h2
          exact (getDtf listed k hkl).mp h2 h4
        · exact h3
      have hnext : ∀ (g' : G) (st' : St) (a' : Act) (w' : World), Sat cx g' st' a' w' → drawK P cx.N ops.toList K Kp (R1 ++ R2) st' → wpAny P .any ops Q fuel (listed.setIfInBounds i true) a' w' := fun g' st' a' w' h' hk' => by
        refine ih _ _ _ g' st' (by simpa using hsz) (by rw [hleft']; rw [hleft] at hlen; simp at hlen ⊢; omega) (fun j oj rj hj hlj k hkN hk'' => ?_) h' (by rw [hleft']; exact hk')
        by_cases hji : j = i
        · subst hji
          have : (oj, rj) = (o, row) := by
            have := (memT j oj rj hj).2
            rw [hrow] at this
            simpa using this.symm
          cases this
          exact getD_set_true (hdone k hkN hk'')
        · have h1 : listed.getD j false = true := by rw [← getD_set_ne false (Ne.symm hji)]; exact hlj
          exact getD_set_true (hcl j oj rj hj h1 k hkN hk'')
      rw [hleft] at hk
      cases hs : row.sync with
      | false => exact rowK_ok h ho (drawK_swap hs R1 st hfree hk) hnext
      | true =>
        have hR1 : R1 = [] := by
          cases hR : R1 with
          | nil => rfl
          | cons p r =>
            obtain ⟨k, ok, rk⟩ := p
            have := hfree k ok rk (by rw [hR]; simp)
            unfold freeOk at this
            simp only [Bool.and_eq_true, Bool.not_eq_true'] at this
            rw [hs] at this
            simp at this
        rw [hR1] at hk hnext
        simp only [List.nil_append, drawK, hs, cond_true] at hk hnext
        exact stepK_ok h ho hk hnext hp

theorem text_ok {P : Program} {cx : Cx} {ops : Array Oper} {K : St → Prop} {Kp : D → St → Prop} {Q : Exit → Act → World → Prop}
    (hn : ∀ (g' : G) (st' : St) (a' : Act) (w' : World), Sat cx g' st' a' w' → K st' → Q .normal a' w')
    (hp : ∀ (g' : G) (st' : St) (d : D) (v : Value) (a' : Act) (w' : World), Sat cx g' st' a' w' → DRel g'.I w' d v → Kp d st' → Q (.panic [{ v, recovered := false }]) a' w') :
    ∀ (rest : List Oper) (i : Nat) (a : Act) (w : World) (g : G) (st : St), (∀ j, rest[j]? = ops[i + j]?) → Sat cx g st a w → textK P cx.N ops.toList rest st K Kp → wpOps P ops Q (List.range' i rest.length) a w
  | [], i, a, w, g, st, _, h, hk => hn _ _ _ _ h hk
  | o :: r, i, a, w, g, st, hr, h, hk => by
    rw [List.length_cons, List.range'_succ, wpOps_cons]
    refine stepK_ok h (o := o) (by simpa using (hr 0).symm) hk (fun g' st' a' w' h' hk' => ?_) hp
    exact text_ok hn hp r (i + 1) a' w' g' st' (fun j => by
      have := hr (j + 1)
      rw [show i + 1 + j = i + (j + 1) by omega, ← this]; simp) h' hk'

end AM

/- AM: code and functions. -/
namespace AM
open Go

/-! less is known -/
mutual
theorem leD_rel2 {I : Nat → Prop} {w : World} (x : D) : ∀ (y : D), leD x y → (∀ v, DRel I w y v → DRel I w x v) ∧
    (x.cells.length = y.cells.length → ∀ (j : Nat) (d d' : D), x.cells[j]? = some d → y.cells[j]? = some d' → ∀ v, DRel I w d' v → DRel I w d v) := by
  intro y hl
  have one : ∀ x : D, x.cells = [x] → (∀ v, DRel I w y v → DRel I w x v) → (y.cells = [y]) →
      (x.cells.length = y.cells.length → ∀ (j : Nat) (d d' : D), x.cells[j]? = some d → y.cells[j]? = some d' → ∀ v, DRel I w d' v → DRel I w d v) := fun x h1 h2 h3 _ j d d' hd hd' v hv => by
    rw [h1] at hd; rw [h3] at hd'
    cases j with
    | zero => simp at hd hd'; subst hd; subst hd'; exact h2 v hv
    | succ j => simp at hd
  cases x with
  | und =>
    refine ⟨fun v _ => .und v, fun _ j d d' hd _ v _ => ?_⟩
    cases j with
    | zero => simp [D.cells] at hd; subst hd; exact .und v
    | succ j => simp [D.cells] at hd
  | dat sz n get =>
    simp only [leD] at hl
    have h1 : ∀ v, DRel I w y v → DRel I w (.dat sz n get) v := fun v h => by
      rcases hl with ⟨get', rfl, hg⟩ | ⟨rfl, rfl⟩
      rotate_left
      · cases h; exact .dat0 sz get
      cases h with
      | dat0 => exact .dat0 sz get
      | datE _ cap _ a => exact .datE sz cap get a
      | dat _ _ _ b o cap c e fr u hI hc hcap hlen hu hone hd =>
        refine .dat sz n get b o cap c e fr u hI hc hcap (fun i hi => (hg i hi).2.trans (hlen i hi)) hu hone (fun i j d hi hj => ?_)
        have h2 := (leD_rel2 (I := I) (w := w) (get i) (get' i) (hg i hi).1).2 (hg i hi).2
        have hjl : j < (get' i).cells.length := by rw [← (hg i hi).2]; exact (List.getElem?_eq_some_iff.mp hj).1
        exact h2 j d _ hj (List.getElem?_eq_getElem hjl) _ (hd i j _ hi (List.getElem?_eq_getElem hjl))
    refine ⟨h1, one _ rfl h1 ?_⟩
    rcases hl with ⟨get', rfl, hg⟩ | ⟨rfl, rfl⟩ <;> rfl
  | agg cs =>
    simp only [leD] at hl
    obtain ⟨cs', rfl, hl⟩ := hl
    obtain ⟨h3, h4⟩ := leDs_rel2 (I := I) (w := w) cs cs' hl
    refine ⟨fun v h => ?_, fun _ => h4⟩
    cases h with
    | agg _ us h1 h2 =>
      refine .agg cs us (h1.trans h3.symm) fun i d u hd hu => ?_
      have hi : i < cs'.length := by rw [← h3]; exact (List.getElem?_eq_some_iff.mp hd).1
      exact h4 i d _ hd (List.getElem?_eq_getElem hi) u (h2 i _ u (List.getElem?_eq_getElem hi) hu)
  | tup cs =>
    simp only [leD] at hl
    obtain ⟨cs', rfl, hl⟩ := hl
    obtain ⟨h3, h4⟩ := leDs_rel2 (I := I) (w := w) cs cs' hl
    have h1 : ∀ v, DRel I w (.tup cs') v → DRel I w (.tup cs) v := fun v h => by
      cases h with
      | tup _ us h1 h2 =>
        refine .tup cs us (h1.trans h3.symm) fun i d u hd hu => ?_
        have hi : i < cs'.length := by rw [← h3]; exact (List.getElem?_eq_some_iff.mp hd).1
        exact h4 i d _ hd (List.getElem?_eq_getElem hi) u (h2 i _ u (List.getElem?_eq_getElem hi) hu)
    exact ⟨h1, one _ rfl h1 rfl⟩
  | _ => simp only [leD] at hl; subst hl; exact ⟨fun v h => h, one _ rfl (fun v h => h) rfl⟩
theorem leDs_rel2 {I : Nat → Prop} {w : World} (xs : List D) : ∀ (ys : List D), leDs xs ys →
    xs.length = ys.length ∧ ∀ (i : Nat) (d d' : D), xs[i]? = some d → ys[i]? = some d' → ∀ v, DRel I w d' v → DRel I w d v := by
  intro ys hl
  match xs, ys, hl with
  | [], [], _ => exact ⟨rfl, fun i d d' h => by simp at h⟩
  | [], _ :: _, hl => simp only [leDs] at hl
  | _ :: _, [], hl => simp only [leDs] at hl
  | x :: r, y :: s, hl =>
    simp only [leDs] at hl
    obtain ⟨h3, h4⟩ := leDs_rel2 (I := I) (w := w) r s hl.2
    refine ⟨by simp [h3], fun i d d' hd hd' v hv => ?_⟩
    cases i with
    | zero => simp at hd hd'; subst hd; subst hd'; exact (leD_rel2 (I := I) (w := w) x y hl.1).1 v hv
    | succ i => exact h4 i d d' (by simpa using hd) (by simpa using hd') v hv
end

theorem leD_rel {I : Nat → Prop} {w : World} (x : D) {y : D} {v : Value} (h : DRel I w y v) (hl : leD x y) : DRel I w x v := (leD_rel2 x y hl).1 v h

theorem leOwn {I : Nat → Prop} {w : World} {sz n : Nat} {get get' : Nat → D} {v : Value} (h : OwnR I w sz n get' v) (hg : leGet n get get') : OwnR I w sz n get v := by
  obtain ⟨b, o, cap, c, e, h1, h2, h3, h4, h5, h6, h7, h8⟩ := h
  refine ⟨b, o, cap, c, e, h1, h2, h3, h4, h5, fun i hi => (hg i hi).2.trans (h6 i hi), h7, fun i j d hi hj => ?_⟩
  have hjl : j < (get' i).cells.length := by rw [← (hg i hi).2]; exact (List.getElem?_eq_some_iff.mp hj).1
  obtain ⟨u, hu, hd⟩ := h8 i j _ hi (List.getElem?_eq_getElem hjl)
  exact ⟨u, hu, (leD_rel2 (I := I) (w := w) (get i) (get' i) (hg i hi).1).2 (hg i hi).2 j d _ hj (List.getElem?_eq_getElem hjl) u hd⟩

theorem leC_rel {g : G} {w : World} {t j : Nat} {x y : AV} {u : Value} (h : CellR g w t j u y) (hl : leC x y) : CellR g w t j u x := by
  unfold leC at hl
  split at hl
  · obtain ⟨y', rfl, hl⟩ := hl; exact leD_rel _ h hl
  · obtain ⟨get', rfl, hg⟩ := hl; exact ⟨h.1, leOwn h.2 hg⟩
  · obtain ⟨look', rfl, hg⟩ := hl
    rw [funext hg]; exact h
  · exact hl.elim

theorem leC_owns {x y : AV} (hl : leC x y) (hx : x.owns = true) : y.owns = true := by
  unfold leC at hl
  split at hl
  · simp [AV.owns] at hx
  · obtain ⟨get', rfl, hg⟩ := hl; rfl
  · obtain ⟨look', rfl, hg⟩ := hl; rfl
  · exact hl.elim

theorem leCs_get : ∀ {xs ys : List AV}, leCs xs ys → ∀ {i : Nat} {x : AV}, xs[i]? = some x → ∃ y, ys[i]? = some y ∧ leC x y
  | [], _, _, i, x, h => by simp at h
  | x :: r, [], hl, _, _, _ => hl.elim
  | x :: r, y :: s, hl, 0, z, h => by simp at h; subst h; exact ⟨y, rfl, hl.1⟩
  | x :: r, y :: s, hl, i + 1, z, h => by simpa using leCs_get hl.2 (by simpa using h)

theorem leV_slot {g : G} {w : World} {t : Nat} {x y : AV} {v : Value} (h : SlotR g w t v y) (hl : leV x y) : SlotR g w t v x := by
  unfold leV at hl
  split at hl
  · exact SlotR.und
  · obtain ⟨y', rfl, hl⟩ := hl
    have h : ValR g w (.d y') v := h
    cases h with
    | d _ _ h => exact ValR.d _ _ (leD_rel _ h hl)
  · obtain ⟨get', rfl, hg⟩ := hl; exact ⟨h.1, leOwn h.2 hg⟩
  · obtain ⟨look', rfl, hg⟩ := hl
    rw [funext hg]; exact h
  · obtain ⟨cs', rfl, hc⟩ := hl
    obtain ⟨h0, b, o, c, e, h1, h2, h3, h4⟩ := h
    refine ⟨h0, b, o, c, e, h1, h2, h3, fun j x hj => ?_⟩
    obtain ⟨y, hy, hxy⟩ := leCs_get hc hj
    obtain ⟨u, hu, hr⟩ := h4 j y hy
    exact ⟨u, hu, leC_rel hr hxy⟩
  · subst hl; exact h

theorem leV_owns {s st : St} {t : Nat} (hl : leV (s t) (st t)) {c : Option Nat} (h : ownsAt s t c = true) : ownsAt st t c = true := by
  generalize hx : s t = x at hl
  generalize hy : st t = y at hl
  unfold leV at hl
  split at hl
  · rw [ownsAt_plain (by rw [hx]; rfl)] at h; simp at h
  · rw [ownsAt_plain (by rw [hx]; rfl)] at h; simp at h
  · obtain ⟨get', rfl, hg⟩ := hl
    cases c <;> simp only [ownsAt, hx, hy] at h ⊢ <;> exact h
  · obtain ⟨look', rfl, hg⟩ := hl
    cases c <;> simp only [ownsAt, hx, hy] at h ⊢ <;> exact h
  · obtain ⟨cs', rfl, hc⟩ := hl
    rename_i cs
    cases c with
    | none => simp [ownsAt, hy]
    | some j =>
      simp only [ownsAt, hx] at h
      simp only [ownsAt, hy]
      cases hj : cs[j]? with
      | none => simp [hj] at h
      | some z =>
        obtain ⟨z', hz, hzz⟩ := leCs_get hc hj
        rw [hj] at h
        have : z.owns = true := by cases z <;> simp_all [AV.owns]
        have := leC_owns hzz this
        rw [hz]
        cases z' <;> simp_all [AV.owns]
  · subst hl; rw [ownsAt_congr (st := s) (hy.trans hx.symm)]; exact h

theorem Sat.le {cx : Cx} {g : G} {st s : St} {a : Act} {w : World} (h : Sat cx g st a w) (hl : ∀ u, leV (s u) (st u)) : Sat cx g s a w :=
  ⟨h.size, h.defers, fun t ht => leV_slot (h.slot t ht) (hl t), fun t ht => leV_slot (h.extra t ht) (hl t), fun t c t' c' h1 h2 hb => h.apart t c t' c' (leV_owns (hl t) h1) (leV_owns (hl t') h2) hb,
    fun t c b h1 hb => h.home t c b (leV_owns (hl t) h1) hb, h.stays, h.more, h.grows, h.frame, h.fixed, h.still⟩

theorem leL_le {st : St} : ∀ (l : List (Nat × AV)), leL l st → ∀ u, leV (ofL l u) (st u)
  | [], _, u => trivial
  | (t, v) :: r, h, u => by
    simp only [ofL, get_upd]
    split
    · rename_i he; subst he; exact h.1
    · exact leL_le r h.2 u

/-! loops -/
theorem wp_loopN {P : Program} {Q : Exit → Act → World → Prop} {a : Act} {w : World} {c : Code} (I : Nat → Act → World → Prop) {n : Nat} (h₀ : I n a w)
    (round : ∀ n a w, I n a w → c.wp P (Exit.then (fun a' w' => ∃ m, m < n ∧ I m a' w') Q) a w) : (Code.loop c).wp P Q a w := by
  have least : ∀ (n : Nat) (a : Act) (w : World), I n a w → ∃ m, I m a w ∧ ∀ k, I k a w → m ≤ k := by
    intro n
    induction n using Nat.strongRecOn with
    | _ n ih =>
      intro a w hI
      by_cases h : ∃ k, k < n ∧ I k a w
      · obtain ⟨k, hk, hI'⟩ := h
        exact ih k hk a w hI'
      · exact ⟨n, hI, fun k hk => Nat.le_of_not_lt fun hlt => h ⟨k, hlt, hk⟩⟩
  classical
  let μ : Act → World → Nat := fun a w => if h : ∃ n, I n a w then (least h.choose a w h.choose_spec).choose else 0
  have hμ : ∀ a w, (∃ n, I n a w) → I (μ a w) a w ∧ ∀ k, I k a w → μ a w ≤ k := fun a w h => by
    have := (least h.choose a w h.choose_spec).choose_spec
    simp only [μ, h, dif_pos]
    exact this
  refine wp_loop (fun a w => ∃ n, I n a w) μ ⟨n, h₀⟩ fun a w hI => ?_
  refine wp_mono (round (μ a w) a w (hμ a w hI).1) fun e a' w' hq => ?_
  cases e with
  | normal =>
    obtain ⟨m, hm, hI'⟩ := hq
    exact ⟨⟨m, hI'⟩, Nat.lt_of_le_of_lt ((hμ a' w' ⟨m, hI'⟩).2 m hI') hm⟩
  | _ => exact hq

/-! code -/
structure KsOk (cx : Cx) (K : Ks) (Q : Exit → Act → World → Prop) : Prop where
  norm : ∀ (g : G) (st : St) (a : Act) (w : World), Sat cx g st a w → K.norm st → Q .normal a w
  ret : ∀ (g : G) (st : St) (a : Act) (w : World), Sat cx g st a w → K.ret st → Q .ret a w
  exit : ∀ (i : Nat) (g : G) (st : St) (a : Act) (w : World), Sat cx g st a w → K.exit i st → Q (.exit i) a w
  pan : ∀ (g : G) (st : St) (d : D) (v : Value) (a : Act) (w : World), Sat cx g st a w → DRel g.I w d v → K.pan d st → Q (.panic [{ v, recovered := false }]) a w

theorem normK_ok {cx : Cx} {g : G} {st : St} {a : Act} {w : World} (h : Sat cx g st a w) {K : St → Prop} : ∀ (keep : List Nat) (acc : List (Nat × AV)), (∀ u, ofL acc u = .d .und ∨ ofL acc u = st u) → normK keep st acc K → ∃ s, Sat cx g s a w ∧ K s
  | [], acc, ha, hk => ⟨_, h.weak ha, hk⟩
  | u :: r, acc, ha, hk => by
    simp only [normK, forceA_eq] at hk
    refine normK_ok h r _ (fun u' => ?_) hk
    simp only [ofL, get_upd]
    split
    · rename_i he; subst he; exact .inr rfl
    · exact ha u'

theorem vc_ok {P : Program} (hm : P.follows .mixedOrders = true) {cx : Cx} {keep : List Nat} : ∀ (c : Code) (st : St) (K : Ks) (Q : Exit → Act → World → Prop) (g : G) (a : Act) (w : World), Sat cx g st a w → vc P cx.N keep c st K → KsOk cx K Q → c.wp P Q a w
  | .skip, st, K, Q, g, a, w, h, hk, ho => wp_skip (ho.norm _ _ _ _ h hk)
  | .label l, st, K, Q, g, a, w, h, hk, ho => wp_label (ho.norm _ _ _ _ h hk)
  | .region id ops draw, st, K, Q, g, a, w, h, hk, ho => by
    have norm : ∀ (g : G) (st : St) (a : Act) (w : World), Sat cx g st a w → normK keep st [] K.norm → Q .normal a w := fun g st a w h hk => by
      obtain ⟨s, h1, h2⟩ := normK_ok h keep [] (fun _ => .inl rfl) hk
      exact ho.norm _ _ _ _ h1 h2
    cases draw with
    | false =>
      refine wp_region ?_
      have := text_ok (P := P) (ops := ops) norm ho.pan ops.toList 0 a w g st (fun j => by simp) h hk
      rw [List.range_eq_range']
      simpa using this
    | true =>
      obtain ⟨tab, ht, hk⟩ := hk
      refine wp_region_any hm ?_
      refine draw_ok ht norm ho.pan ops.size _ a _ g st (by simp) ?_ (fun j oj rj _ hl => ?_) (h.world rfl ⟨rfl, rfl, rfl⟩) ?_
      · refine Nat.le_trans (List.length_filter_le _ _) ?_
        have : ∀ (n : Nat) (os : List Oper) (rs : List Row), (rows n os rs).length ≤ os.length := by
          intro n os
          induction os generalizing n with
          | nil => intro rs; simp [rows]
          | cons x r ih => intro rs; cases rs with | nil => simp [rows] | cons y s => simp [rows]; exact ih _ _
        simpa using this 0 ops.toList tab
      · exfalso
        rcases Nat.lt_or_ge j ops.size with hj | hj
        · simp [hj] at hl
        · simp [hj] at hl
      · have : left (rows 0 ops.toList tab) (Array.replicate ops.size false) = rows 0 ops.toList tab := by
          refine List.filter_eq_self.mpr ?_
          rintro ⟨i, o, row⟩ hmem
          obtain ⟨j, hj⟩ := List.getElem?_of_mem hmem
          obtain ⟨h1, h2, -⟩ := (rows_get 0 _ _ j i o row).mp hj
          have : i < ops.size := by
            have := (List.getElem?_eq_some_iff.mp h2).1
            simp at this; omega
          simp [this]
        rw [this]; exact hk
  | .seq x y, st, K, Q, g, a, w, h, hk, ho =>
    wp_seq (vc_ok hm x st _ _ g a w h hk ⟨fun g' st' a' w' h' hk' => vc_ok hm y st' K Q g' a' w' h' hk' ho, ho.ret, ho.exit, ho.pan⟩)
  | .cond c x y, st, K, Q, g, a, w, h, hk, ho => by
    simp only [vc] at hk
    split at hk
    · rename_i b hb
      have hr := ev_rel h c
      rw [hb] at hr
      have hval : a.eval c = .bool b := by
        generalize a.eval c = u at hr
        cases hr with
        | d _ _ hr => cases hr; rfl
      have refined : ∀ t, c = .tmp t → Sat cx g (upd t (.d (.bool b)) st) a w := fun t ht => by
        refine h.weak fun u => ?_
        rw [get_upd]
        split
        · rename_i he; subst he; subst ht
          right
          simp only [ev] at hb
          cases hN : Nat.blt t cx.N with
          | false => simp [hN] at hb
          | true =>
            rw [hN] at hb
            simp only [cond_true, deref] at hb
            generalize st t = x at hb
            cases x <;> simp_all
        · exact .inr rfl
      refine wp_cond hval ?_
      split at hk
      · rename_i t
        cases b with
        | true => exact vc_ok hm x _ K Q g a w (refined t rfl) hk ho
        | false => exact vc_ok hm y _ K Q g a w (refined t rfl) hk ho
      · cases b with
        | true => exact vc_ok hm x st K Q g a w h hk ho
        | false => exact vc_ok hm y st K Q g a w h hk ho
    · exact hk.elim
  | .block id b, st, K, Q, g, a, w, h, hk, ho => by
    refine wp_block (vc_ok hm b st _ _ g a w h hk ⟨fun g' st' a' w' h' hk' => ho.norm _ _ _ _ h' hk', ho.ret, fun i g' st' a' w' h' hk' => ?_, ho.pan⟩)
    dsimp only at hk'
    cases hb : Nat.beq i id with
    | true =>
      rw [hb] at hk'
      have := Nat.eq_of_beq_eq_true hb
      simp only [Exit.inBlock, this, if_true]
      exact ho.norm _ _ _ _ h' hk'
    | false =>
      rw [hb] at hk'
      have : i ≠ id := fun he => by subst he; rw [Nat.beq_refl] at hb; simp at hb
      simp only [Exit.inBlock, this, if_false]
      exact ho.exit _ _ _ _ _ h' hk'
  | .loop b, st, K, Q, g, a, w, h, hk, ho => by
    obtain ⟨α, inv, μ, x0, h0, hround⟩ := hk
    refine wp_loopN (fun n a w => ∃ x g, μ x = n ∧ Sat cx g (ofL (inv x)) a w) (n := μ x0) ⟨x0, g, rfl, h.le (leL_le _ h0)⟩ fun n a w hI => ?_
    obtain ⟨x, g', rfl, h'⟩ := hI
    refine vc_ok hm b _ _ _ g' a w h' (hround x) ⟨fun g2 st2 a2 w2 h2 hk2 => ?_, ho.ret, ho.exit, ho.pan⟩
    obtain ⟨x', hlt, hle⟩ := hk2
    exact ⟨μ x', hlt, x', g2, rfl, h2.le (leL_le _ hle)⟩
  | .exit i, st, K, Q, g, a, w, h, hk, ho => wp_exit (ho.exit _ _ _ _ _ h hk)
  | .ret, st, K, Q, g, a, w, h, hk, ho => wp_ret (ho.ret _ _ _ _ h hk)
  | .goto _, _, _, _, _, _, _, _, hk, _ => hk.elim
  | .rangeFunc .., _, _, _, _, _, _, _, hk, _ => hk.elim
  | .scope .., _, _, _, _, _, _, _, hk, _ => hk.elim
  | .refuse .., _, _, _, _, _, _, _, hk, _ => hk.elim

end AM

/- AM: functions. -/
namespace AM
open Go

def argAV' (N u : Nat) : Arg → AV
  | .d x => .d x
  | .box _ j => .ref (N + u) j

theorem initSt_lo (N : Nat) : ∀ (ar : List Arg) (k u : Nat), k + ar.length ≤ N → u < N → initSt N k ar u = if k ≤ u then ((ar[u - k]?).map (argAV' N u)).getD (.d .und) else .d .und
  | [], k, u, _, _ => by simp [initSt]
  | .d x :: r, k, u, hk, hu => by
    simp only [initSt, get_upd, List.length_cons] at hk ⊢
    rw [initSt_lo N r (k + 1) u (by omega) hu]
    by_cases h : k = u
    · subst h; simp [argAV']
    · rw [if_neg h]
      by_cases h2 : k + 1 ≤ u
      · rw [if_pos h2, if_pos (by omega), show u - k = (u - (k + 1)) + 1 by omega]; simp
      · rw [if_neg h2, if_neg (by omega)]
  | .box cs j :: r, k, u, hk, hu => by
    simp only [initSt, get_upd, List.length_cons] at hk ⊢
    rw [initSt_lo N r (k + 1) u (by omega) hu, if_neg (show N + k ≠ u by omega)]
    by_cases h : k = u
    · subst h; simp [argAV']
    · rw [if_neg h]
      by_cases h2 : k + 1 ≤ u
      · rw [if_pos h2, if_pos (by omega), show u - k = (u - (k + 1)) + 1 by omega]; simp
      · rw [if_neg h2, if_neg (by omega)]

theorem initSt_hi (N : Nat) : ∀ (ar : List Arg) (k u : Nat), k + ar.length ≤ N → initSt N k ar (N + u) = if k ≤ u then ((ar[u - k]?).map argOwn).getD (.d .und) else .d .und
  | [], k, u, _ => by simp [initSt]
  | .d x :: r, k, u, hk => by
    simp only [initSt, get_upd, List.length_cons] at hk ⊢
    rw [initSt_hi N r (k + 1) u (by omega), if_neg (by omega)]
    by_cases h : k = u
    · subst h; rw [if_neg (by omega), if_pos (Nat.le_refl _)]; simp [argOwn]
    · by_cases h2 : k + 1 ≤ u
      · rw [if_pos h2, if_pos (by omega), show u - k = (u - (k + 1)) + 1 by omega]; simp
      · rw [if_neg h2, if_neg (by omega)]
  | .box cs j :: r, k, u, hk => by
    simp only [initSt, get_upd, List.length_cons] at hk ⊢
    rw [initSt_hi N r (k + 1) u (by omega), if_neg (show k ≠ N + u by omega)]
    by_cases h : k = u
    · subst h; rw [if_pos rfl, if_pos (Nat.le_refl _)]; simp [argOwn]
    · rw [if_neg (by omega)]
      by_cases h2 : k + 1 ≤ u
      · rw [if_pos h2, if_pos (by omega), show u - k = (u - (k + 1)) + 1 by omega]; simp
      · rw [if_neg h2, if_neg (by omega)]

theorem initSt_stA (N : Nat) (ar : List Arg) (h : ar.length ≤ N) (k : Nat) : initSt N 0 ar (N + k) = stA ar k := by
  rw [initSt_hi N ar 0 k (by omega), if_pos (Nat.zero_le _), stA_get, Nat.sub_zero]

theorem argOwn_cases (x : Option Arg) : ((x.map argOwn).getD (.d .und) = .d .und) ∨ ∃ cs, (x.map argOwn).getD (.d .und) = .obox cs := by
  cases x with
  | none => exact .inl rfl
  | some x => cases x with
    | d x => exact .inl rfl
    | box cs j => exact .inr ⟨cs, rfl⟩

/-- a function is entered -/
theorem enter_ok {w : World} {g : G} {L : Nat → Prop} {ar : List Arg} {vs : List Value} {N : Nat} (hs : Sat ⟨w, L, g.I, 0, noFix⟩ g (stA ar) noAct w) (ha : ArgsV g w ar vs) (hN : ar.length ≤ N) :
    Sat ⟨w, L, g.I, N, fun t => if N ≤ t ∧ t - N < ar.length then some (g.val (t - N) none) else none⟩ ⟨g.I, fun t c => if N ≤ t then g.val (t - N) c else undef⟩ (initSt N 0 ar)
      { tmps := (⟨vs⟩ : Array Value) ++ Array.replicate (N - (⟨vs⟩ : Array Value).size) undef, defers := [] } w := by
  have hv : ∀ k c, (if N ≤ N + k then g.val (N + k - N) c else undef) = g.val k c := fun k c => by rw [if_pos (by omega), Nat.add_sub_cancel_left]
  have hst := initSt_stA N ar hN
  have hplain : ∀ u, u < N → (initSt N 0 ar u).plain = true := fun u hu => by
    rw [initSt_lo N ar 0 u (by omega) hu, if_pos (Nat.zero_le _)]
    cases ar[u - 0]? with
    | none => rfl
    | some x => cases x <;> rfl
  have own : ∀ t c, ownsAt (initSt N 0 ar) t c = true → ∃ k, t = N + k ∧ ownsAt (stA ar) k c = true := fun t c h => by
    rcases Nat.lt_or_ge t N with ht | ht
    · rw [ownsAt_plain (hplain t ht)] at h; simp at h
    · refine ⟨t - N, by omega, ?_⟩
      have := hst (t - N)
      rw [show N + (t - N) = t by omega] at this
      cases c <;> simp only [ownsAt, this] at h ⊢ <;> exact h
  refine ⟨by simp; have := ha.1; omega, rfl, fun t ht => ?_, fun t ht => ?_, fun t c t' c' h1 h2 hb => ?_, fun t c b h1 hb => ?_, hs.stays, fun b hb => hb, Nat.le_refl _, fun b _ _ => rfl, fun t v ht hx => ?_, Still.refl _⟩
  · have ht : t < N := ht
    rw [SlotR_plain (hplain t ht), initSt_lo N ar 0 t (by omega) ht, if_pos (Nat.zero_le _), Nat.sub_zero]
    cases hx : ar[t]? with
    | none => exact .d _ _ (.und _)
    | some x =>
      have hlt : t < vs.length := by rw [ha.1]; exact (List.getElem?_eq_some_iff.mp hx).1
      have h1 := ha.2 t x vs[t] hx (by simp [hlt])
      have h2 : ((⟨vs⟩ : Array Value) ++ Array.replicate (N - (⟨vs⟩ : Array Value).size) undef).getD t undef = vs[t] := by
        rw [Array.getD_eq_getD_getElem?, Array.getElem?_append_left (by simpa using hlt)]
        simp [hlt]
      show ValR _ _ _ (((⟨vs⟩ : Array Value) ++ Array.replicate (N - (⟨vs⟩ : Array Value).size) undef).getD t undef)
      rw [h2]
      cases x with
      | d x =>
        have h1 : ValR g w (.d x) vs[t] := h1
        cases h1 with
        | d _ _ h1 => exact .d _ _ h1
      | box cs j =>
        have h1 : ValR g w (.ref t j) vs[t] := h1
        generalize vs[t] = u at h1
        cases h1 with
        | ref _ _ b o hb => exact .ref _ j b o ((hv t none).trans hb)
  · have ht : N ≤ t := ht
    obtain ⟨k, rfl⟩ : ∃ k, t = N + k := ⟨t - N, by omega⟩
    rw [hst k]
    show SlotR _ _ _ (if N ≤ N + k then g.val (N + k - N) none else undef) _
    rw [hv k none]
    have h1 := hs.extra k (Nat.zero_le _)
    have h2 := argOwn_cases ar[k]?
    rw [← stA_get] at h2
    rcases h2 with h2 | ⟨cs, h2⟩
    · rw [h2]; exact SlotR.und
    · rw [h2] at h1 ⊢
      refine ⟨(hv k none).symm, ?_⟩
      obtain ⟨-, b, o, c, e, h4, h5, h6, h7⟩ := h1
      refine ⟨b, o, c, e, h4, h5, h6, fun j x hj => ?_⟩
      obtain ⟨uu, h8, h9⟩ := h7 j x hj
      refine ⟨uu, h8, ?_⟩
      cases x with
      | d x => exact h9
      | own sz n get => exact ⟨h9.1.trans (hv k _).symm, h9.2⟩
      | imap kk look => exact ⟨h9.1.trans (hv k _).symm, h9.2⟩
      | _ => exact h9.elim
  · obtain ⟨k, rfl, h3⟩ := own t c h1
    obtain ⟨k', rfl, h4⟩ := own t' c' h2
    dsimp only at hb
    rw [hv, hv] at hb
    obtain ⟨rfl, rfl⟩ := hs.apart k c k' c' h3 h4 hb
    exact ⟨rfl, rfl⟩
  · obtain ⟨k, rfl, h3⟩ := own t c h1
    dsimp only at hb
    rw [hv] at hb
    exact hs.home k c b h3 hb
  · dsimp only at ht hx ⊢
    rw [if_pos ht]
    split at hx
    · simpa using hx
    · simp at hx

theorem outsOf_len (N : Nat) (st : St) : ∀ (n k : Nat), (outsOf N st k n).length = n
  | 0, k => rfl
  | n + 1, k => by simp [outsOf, outsOf_len N st n]

theorem outsOf_get (N : Nat) (st : St) : ∀ (n k i : Nat), (outsOf N st k n)[i]? = if i < n then some (outOf (st (N + (k + i)))) else none
  | 0, k, i => by simp [outsOf]
  | n + 1, k, 0 => by simp [outsOf]
  | n + 1, k, i + 1 => by
    simp only [outsOf, List.getElem?_cons_succ]
    rw [outsOf_get N st n (k + 1) i]
    by_cases h : i < n
    · rw [if_pos h, if_pos (by omega), show k + 1 + i = k + (i + 1) by omega]
    · rw [if_neg h, if_neg (by omega)]

/-- places go over to the caller -/
theorem export_ok {cx : Cx} {g : G} {st : St} {a : Act} {w : World} (h : Sat cx g st a w) (pos : Nat → Nat) (val : Nat → Value) (stc : St) (hinj : ∀ k k', (stc k).plain = false → (stc k').plain = false → pos k = pos k' → k = k')
    (hc : ∀ k, (stc k = st (pos k) ∧ (stc k).plain = false ∧ (stc k).closed = true) ∨ ∃ x, stc k = .d x ∧ DRel g.I w x (val k)) :
    Sat ⟨cx.w0, cx.L, cx.I0, 0, noFix⟩ ⟨g.I, fun k c => if (stc k).plain = true then val k else g.val (pos k) c⟩ stc noAct w := by
  have own : ∀ k c, ownsAt stc k c = true → (stc k).plain = false ∧ ownsAt st (pos k) c = true := fun k c ho => by
    rcases hc k with ⟨h1, h2, -⟩ | ⟨x, h1, -⟩
    · refine ⟨h2, ?_⟩
      cases c <;> simp only [ownsAt, h1] at ho ⊢ <;> exact ho
    · rw [ownsAt_plain (by rw [h1]; rfl)] at ho; simp at ho
  refine ⟨rfl, rfl, fun t ht => absurd ht (Nat.not_lt_zero _), fun k _ => ?_, fun k c k' c' h1 h2 hb => ?_, fun k c b h1 hb => ?_, h.stays, h.more, h.grows, h.frame, fun t v _ hx => (nomatch hx), h.still⟩
  · rcases hc k with ⟨h1, h2, h3⟩ | ⟨x, h1, h2⟩
    · have hv : ∀ c, (if (stc k).plain = true then val k else g.val (pos k) c) = g.val (pos k) c := fun c => by rw [h2]; rfl
      have hsl : ∃ v, v = g.val (pos k) none ∧ SlotR g w (pos k) v (st (pos k)) := by
        obtain ⟨v, h4, -⟩ := h.slot_at (pos k)
        refine ⟨v, ?_, h4⟩
        rw [h1] at h2
        generalize st (pos k) = x at h2 h4
        cases x <;> first | exact h4.1 | simp [AV.plain] at h2
      obtain ⟨v, rfl, hsl⟩ := hsl
      show SlotR _ _ _ (if (stc k).plain = true then val k else g.val (pos k) none) _
      rw [hv none]
      rw [← h1] at hsl
      generalize hxx : stc k = x at hsl h3 h2 ⊢
      cases x with
      | own sz n get => exact ⟨(hv none).symm, hsl.2⟩
      | imap kk look => exact ⟨(hv none).symm, hsl.2⟩
      | obox cs =>
        refine ⟨(hv none).symm, ?_⟩
        obtain ⟨-, b, o, c, e, h4, h5, h6, h7⟩ := hsl
        refine ⟨b, o, c, e, h4, h5, h6, fun j x hj => ?_⟩
        obtain ⟨uu, h8, h9⟩ := h7 j x hj
        refine ⟨uu, h8, ?_⟩
        cases x with
        | d x => exact h9
        | own sz n get => exact ⟨h9.1.trans (hv _).symm, h9.2⟩
        | imap kk look => exact ⟨h9.1.trans (hv _).symm, h9.2⟩
        | _ => exact h9.elim
      | d x => simp [AV.plain] at h2
      | _ => simp [AV.closed] at h3
    · rw [h1]
      show ValR _ _ _ (if (stc k).plain = true then val k else g.val (pos k) none)
      rw [h1]
      exact .d _ _ h2
  · obtain ⟨h3, h4⟩ := own k c h1
    obtain ⟨h5, h6⟩ := own k' c' h2
    simp only [h3, h5, Bool.false_eq_true, if_false] at hb
    obtain ⟨h7, h8⟩ := h.apart _ _ _ _ h4 h6 hb
    exact ⟨hinj k k' h3 h5 h7, h8⟩
  · obtain ⟨h3, h4⟩ := own k c h1
    simp only [h3, Bool.false_eq_true, if_false] at hb
    exact h.home _ _ _ h4 hb

def resRun (tmps : Array Value) (r : ResultVar) : Sem Value :=
  match r with
  | .tmp t => pure (tmps.getD t undef)
  | .cell b t => do loadVar t (← asAddr (tmps.getD b undef))

theorem resAV_ok {P : Program} {cx : Cx} {g : G} {st : St} {a : Act} {w : World} (h : Sat cx g st a w) (r : ResultVar) {v : AV} (hr : resAV P cx.N st r = some v) : ∃ u, (resRun a.tmps r).run P w = .ok u w ∧ ValR g w v u := by
  cases r with
  | tmp t =>
    simp only [resAV, Option.some.injEq] at hr
    subst hr
    exact ⟨_, rfl, ev_rel h (.tmp t)⟩
  | cell t ty =>
    simp only [resAV] at hr
    split at hr
    · rename_i v' hl
      simp only [Option.some.injEq] at hr
      subst hr
      have hx := ev_rel h (.tmp t)
      obtain ⟨u, h1, h2⟩ := loadF_same (P := P) h ty hx none v' hl (fun p hp => nomatch hp)
      refine ⟨u, ?_, h2⟩
      have : ∃ p, a.eval (.tmp t) = .pointer (some p) := by
        generalize a.eval (.tmp t) = x at h1
        cases x <;> first | (simp [Instr.loadAt, Instr.sureAddr] at h1; done) | skip
        rename_i p
        cases p <;> first | (simp [Instr.loadAt, Instr.sureAddr] at h1; done) | exact ⟨_, rfl⟩
      obtain ⟨p, hp⟩ := this
      rw [hp] at h1
      simp only [Instr.loadAt, Sem.run_bind, sureAddr_run, Result.andThen_ok] at h1
      have hp' : a.tmps.getD t undef = .pointer (some p) := hp
      simp only [resRun, hp', asAddr, pure_bind]
      exact h1
    · simp at hr

theorem resAVs_ok {P : Program} {cx : Cx} {g : G} {st : St} {a : Act} {w : World} (h : Sat cx g st a w) : ∀ (l : List ResultVar) (vs : List AV), resAVs P cx.N st l = some vs →
    ∃ us : List Value, (l.mapM (resRun a.tmps)).run P w = .ok us w ∧ us.length = vs.length ∧ ∀ (i : Nat) (x : AV) (u : Value), vs[i]? = some x → us[i]? = some u → ValR g w x u
  | [], vs, hr => by simp [resAVs] at hr; subst hr; exact ⟨[], rfl, rfl, fun i x u hi _ => by simp at hi⟩
  | r :: rs, vs, hr => by
    simp only [resAVs] at hr
    cases hv : resAV P cx.N st r with
    | none => simp [hv] at hr
    | some v =>
      cases hrr : resAVs P cx.N st rs with
      | none => simp [hv, hrr] at hr
      | some vs' =>
        simp only [hv, hrr, Option.some.injEq] at hr
        subst hr
        obtain ⟨u, h0, h00⟩ := resAV_ok h r hv
        obtain ⟨us, h1, h2, h3⟩ := resAVs_ok h rs vs' hrr
        refine ⟨u :: us, ?_, by simp [h2], fun i x u' hi hu => ?_⟩
        · simp only [List.mapM_cons, Sem.run_bind, h0, h1, Result.andThen_ok, Sem.run_pure]
        · cases i with
          | zero => cases hi; cases hu; exact h00
          | succ i => exact h3 i x u' (by simpa using hi) (by simpa using hu)

def oneVal : List Value → Value
  | [u] => u
  | us => .tuple ⟨us⟩

theorem results_run {P : Program} {fn : Func} {tmps : Array Value} {w : World} {us : List Value}
    (h : (fn.results.toList.mapM (resRun tmps)).run P w = .ok us w) :
    (results fn tmps).run P w = .ok (oneVal us) w := by
  have he : results fn tmps = (do
      let vs ← fn.results.mapM (resRun tmps)
      pure (if h : vs.size = 1 then vs[0] else .tuple vs)) := rfl
  rw [he, Array.mapM_eq_mapM_toList]
  simp only [Sem.run_bind, Sem.run_map, h]
  match us with
  | [] => simp [oneVal]
  | [u] => simp [oneVal]
  | u :: v :: r => simp [oneVal]

/-- what a function leaves behind -/
theorem leave_ok {w0 : World} {g0 : G} {L : Nat → Prop} {ar : List Arg} {N : Nat} {g : G} {st : St} {a : Act} {w : World}
    (h : Sat ⟨w0, L, g0.I, N, fun t => if N ≤ t ∧ t - N < ar.length then some (g0.val (t - N) none) else none⟩ g st a w) {t : Nat} {u : Value} {r : AV} (htN : r.plain = false → t < N)
    (hr : (r = st t ∧ r.plain = false ∧ r.closed = true ∧ u = g.val t none) ∨ ∃ x, r = .d x ∧ DRel g.I w x u) :
    ∃ g' : G, g'.I = g.I ∧ u = g'.val ar.length none ∧ Sat ⟨w0, L, g0.I, 0, noFix⟩ g' (stO ar r (outsOf N st 0 ar.length)) noAct w ∧
      ∀ (k : Nat) (cs : List AV), (outsOf N st 0 ar.length)[k]? = some (.obox cs) → g'.val k none = g0.val k none := by
  have hO : ∀ k, stO ar r (outsOf N st 0 ar.length) k = if k = ar.length then r else if k < ar.length then outOf (st (N + k)) else .d .und := fun k => by
    unfold stO
    rw [get_upd, ownSt_get, outsOf_len]
    by_cases h1 : k = ar.length
    · subst h1; simp
    · rw [if_neg (Ne.symm h1), if_neg h1]
      by_cases h2 : k < ar.length
      · rw [if_pos (by omega), if_pos h2, outsOf_get, if_pos (by omega)]; simp
      · rw [if_neg (by omega), if_neg h2]
  have houtc : ∀ x : AV, (outOf x = x ∧ (outOf x).plain = false ∧ (outOf x).closed = true) ∨ outOf x = .d .und := fun x => by cases x <;> first | exact .inl ⟨rfl, rfl, rfl⟩ | exact .inr rfl
  have hex := export_ok h (fun k => if k = ar.length then t else N + k) (fun k => if k = ar.length then u else undef) (stO ar r (outsOf N st 0 ar.length)) (fun k k' hk hk' hp => by
      rw [hO] at hk hk'
      by_cases h1 : k = ar.length
      · by_cases h2 : k' = ar.length
        · omega
        · rw [if_pos h1] at hk
          rw [if_pos h1, if_neg h2] at hp
          have := htN hk
          omega
      · by_cases h2 : k' = ar.length
        · rw [if_pos h2] at hk'
          rw [if_neg h1, if_pos h2] at hp
          have := htN hk'
          omega
        · rw [if_neg h1, if_neg h2] at hp
          omega) (fun k => by
      rw [hO k]
      by_cases h1 : k = ar.length
      · simp only [if_pos h1]
        rcases hr with ⟨h2, h3, h4, -⟩ | h2
        · exact .inl ⟨h2, h3, h4⟩
        · exact .inr h2
      · simp only [if_neg h1]
        by_cases h2 : k < ar.length
        · simp only [if_pos h2]
          rcases houtc (st (N + k)) with h3 | h3
          · exact .inl h3
          · exact .inr ⟨.und, h3, .und _⟩
        · simp only [if_neg h2]
          exact .inr ⟨.und, rfl, .und _⟩)
  refine ⟨⟨g.I, fun k c => if (stO ar r (outsOf N st 0 ar.length) k).plain = true then if k = ar.length then u else undef else g.val (if k = ar.length then t else N + k) c⟩, rfl, ?_, hex, fun k cs hk => ?_⟩
  · dsimp only
    rw [hO ar.length]
    simp only [if_true]
    rcases hr with ⟨h2, h3, h4, h5⟩ | ⟨x, h2, h3⟩
    · rw [h3, h5]; rfl
    · rw [h2]; rfl
  · dsimp only
    rw [outsOf_get] at hk
    split at hk
    · rename_i hlt
      simp only [Nat.zero_add, Option.some.injEq] at hk
      rw [hO k, if_neg (show k ≠ ar.length by omega), if_pos hlt, hk]
      simp only [AV.plain, Bool.false_eq_true, if_false, if_neg (show k ≠ ar.length by omega)]
      exact h.fixed (N + k) _ (by dsimp only; omega) (by dsimp only; rw [if_pos (by omega), Nat.add_sub_cancel_left])
    · simp at hk

theorem callFunc_run {P : Program} {f : FuncId} {fn : Func} {c : Code} (hf : P.funcs[f]? = some fn) (hb : fn.body = some c) (hn : (fn.name == "runtime.NumGoroutine") = false) (args : Array Value) (w : World) :
    (callFunc f args).run P w = .ok (.enter f args) w := by
  have hn' : ¬ fn.name = "runtime.NumGoroutine" := by simpa using hn
  simp [callFunc, hf, hb, hn']

/-- from a body that does what is asked to what the function does -/
theorem spec_gen {P : Program} {f : FuncId} {fn : Func} {c : Code} (hf : P.funcs[f]? = some fn) (hn : (fn.name == "runtime.NumGoroutine") = false) (hb : fn.body = some c) {ar : List Arg} {post : Out → Prop}
    (hN : ar.length ≤ fn.ntmps)
    (h : ∀ (cx : Cx), cx.N = fn.ntmps → ∀ (Q : Exit → Act → World → Prop) (g : G) (a : Act) (w : World), Sat cx g (initSt cx.N 0 ar) a w →
      KsOk cx { norm := retK P fn ar.length post, ret := retK P fn ar.length post, exit := fun _ _ => False, pan := fun d st => post (.pan d (outsOf fn.ntmps st 0 ar.length)) } Q → c.wp P Q a w) : Spec P f ar post := by
  refine ⟨callFunc_run hf hb hn, fun w g L vs hs ha => ?_⟩
  have ret : ∀ (g' : G) (st : St) (a : Act) (w' : World), Sat ⟨w, L, g.I, fn.ntmps, fun t => if fn.ntmps ≤ t ∧ t - fn.ntmps < ar.length then some (g.val (t - fn.ntmps) none) else none⟩ g' st a w' → retK P fn ar.length post st →
      a.defers = [] ∧ ∃ v, (results fn a.tmps).run P w' = .ok v w' ∧ ∃ o, post o ∧ OutOk w g L ar (.returned v) w' o := by
    intro g' st a w' h' hr
    refine ⟨h'.defers, ?_⟩
    unfold retK at hr
    cases hv : resAVs P fn.ntmps st fn.results.toList with
    | none => simp [hv] at hr
    | some vs' =>
      simp only [hv] at hr
      obtain ⟨us, h1, h2, h3⟩ := resAVs_ok h' _ vs' hv
      refine ⟨_, results_run h1, ?_⟩
      have hval : ValR g' w' (oneOf vs') (oneVal us) := by
        clear hr hv h1
        match vs', us, h2, h3 with
        | [], [], _, _ => exact .tup [] [] rfl (fun i d u hi _ => by simp at hi)
        | [v], [u], _, h3 => exact h3 0 v u rfl rfl
        | v :: v2 :: r, u :: u2 :: s, h2, h3 => exact .tup _ _ h2 h3
        | [], u :: s, h2, _ => simp at h2
        | v :: r, [], h2, _ => simp at h2
        | [v], u :: u2 :: s, h2, _ => simp at h2
        | v :: v2 :: r, [u], h2, _ => simp at h2
      generalize oneOf vs' = av at hr hval
      generalize oneVal us = u at hval ⊢
      have fin : ∀ (g2 : G) (st2 : St) (t : Nat) (r : AV), (r.plain = false → t < fn.ntmps) → Sat ⟨w, L, g.I, fn.ntmps, fun t => if fn.ntmps ≤ t ∧ t - fn.ntmps < ar.length then some (g.val (t - fn.ntmps) none) else none⟩ g2 st2 a w' →
          (r = st2 t ∧ r.plain = false ∧ r.closed = true ∧ u = g2.val t none) ∨ (∃ x, r = .d x ∧ DRel g2.I w' x u) → post (.ret r (outsOf fn.ntmps st2 0 ar.length)) →
          ∃ o, post o ∧ OutOk w g L ar (.returned u) w' o := by
        intro g2 st2 t r ht hs2 hr2 hp2
        obtain ⟨g3, -, h5, h6, h7⟩ := leave_ok hs2 ht hr2
        refine ⟨_, hp2, outsOf_len _ _ _ _, ?_, g3, by rw [← h5], h6, h7⟩
        rcases hr2 with ⟨-, -, h8, -⟩ | ⟨x, rfl, -⟩
        · exact h8
        · rfl
      have data : ∀ (x : D) (st2 : St), toData st av = some (x, st2) → post (.ret (.d x) (outsOf fn.ntmps st2 0 ar.length)) → ∃ o, post o ∧ OutOk w g L ar (.returned u) w' o := by
        intro x st2 hx hp2
        obtain ⟨g2, h5, h6, h7, h8⟩ := toData_ok st av g' u x st2 h' hval hx
        exact fin g2 st2 0 (.d x) (fun hp => by simp [AV.plain] at hp) h8 (.inr ⟨x, rfl, h7⟩) hp2
      split at hr
      · rename_i t
        cases hval
        cases htb : Nat.blt t fn.ntmps with
        | false => simp [htb] at hr
        | true =>
          have ht := Nat.blt_eq.mp htb
          simp only [htb, cond_true] at hr
          split at hr
          · rename_i sz k get hst
            exact fin g' st t _ (fun _ => ht) h' (.inl ⟨hst.symm, rfl, rfl, rfl⟩) hr
          · rename_i k look hst
            exact fin g' st t _ (fun _ => ht) h' (.inl ⟨hst.symm, rfl, rfl, rfl⟩) hr
          · exact hr.elim
      · rename_i t
        cases hval with
        | ref _ _ b o hb2 =>
        cases htb : Nat.blt t fn.ntmps with
        | false => simp [htb] at hr
        | true =>
          have ht := Nat.blt_eq.mp htb
          simp only [htb, cond_true] at hr
          split at hr
          · rename_i cs hst
            exact fin g' st t _ (fun _ => ht) h' (.inl ⟨hst.symm, rfl, rfl, hb2.symm⟩) hr
          · exact hr.elim
      · split at hr
        · rename_i x st2 hx
          exact data x st2 hx hr
        · exact hr.elim
  refine calls_of_wp hf hb (h _ rfl _ _ _ w (enter_ok hs ha hN) ⟨ret, ret, fun i g' st a w' _ hk => hk.elim, fun g' st d v a w' h' hd hk => ⟨h'.defers, ?_⟩⟩)
  obtain ⟨g3, h4, h5, h6, h7⟩ := leave_ok (u := undef) (t := 0) (r := .d .und) h' (fun hp => by simp [AV.plain] at hp) (.inr ⟨.und, rfl, .und _⟩)
  exact ⟨_, hk, outsOf_len _ _ _ _, g3, v, rfl, by rw [h4]; exact hd, h6, h7⟩


/-- FROM THE CONDITIONS OF A BODY TO WHAT THE FUNCTION DOES -/
theorem spec_of {P : Program} (hm : P.follows .mixedOrders = true) {f : FuncId} {fn : Func} (hf : P.funcs[f]? = some fn) (hn : (fn.name == "runtime.NumGoroutine") = false) {ar : List Arg} {post : Out → Prop}
    {keep : List Nat} (h : fnK P fn keep ar post) : Spec P f ar post := by
  unfold fnK at h
  cases hb : fn.body with
  | none => simp [hb] at h
  | some c =>
    simp only [hb] at h
    cases hN : Nat.ble ar.length fn.ntmps with
    | false => simp [hN] at h
    | true =>
      simp only [hN, cond_true] at h
      have hN := Nat.le_of_ble_eq_true hN
      exact spec_gen hf hn hb hN fun cx hcx Q g a w hs ho => by
        refine vc_ok hm (keep := keep) c _ _ Q g a w hs ?_ ho
        rw [hcx]; exact h

end AM

/- AM: an outcome of which less is known. -/
namespace AM
open Go

theorem Sat.le' {cx : Cx} {g : G} {st s : St} {a : Act} {w : World} (h : Sat cx g st a w) (hl : ∀ u, s u = st u ∨ leV (s u) (st u)) : Sat cx g s a w := by
  have own : ∀ t c, ownsAt s t c = true → ownsAt st t c = true := fun t c ho => by
    rcases hl t with h1 | h1
    · rw [ownsAt_congr h1.symm]; exact ho
    · exact leV_owns h1 ho
  refine ⟨h.size, h.defers, fun t ht => ?_, fun t ht => ?_, fun t c t' c' h1 h2 hb => h.apart t c t' c' (own t c h1) (own t' c' h2) hb,
    fun t c b h1 hb => h.home t c b (own t c h1) hb, h.stays, h.more, h.grows, h.frame, h.fixed, h.still⟩
  · rcases hl t with h1 | h1
    · rw [h1]; exact h.slot t ht
    · exact leV_slot (h.slot t ht) h1
  · rcases hl t with h1 | h1
    · rw [h1]; exact h.extra t ht
    · exact leV_slot (h.extra t ht) h1

def AV.isOut : AV → Bool
  | .obox _ => true
  | .d .und => true
  | _ => false

/-- what is said of a result: no more than what it is; of an owner: what it has -/
def leR (x y : AV) : Prop := leV x y ∨ ∃ sz n get get', y = .own sz n get' ∧ x = .d (.dat sz n get) ∧ leGet n get get'

def leO : Out → Out → Prop
  | .ret r' outs', .ret r outs => r'.closed = true ∧ leR r' r ∧ outs' = outs ∧ outs.all AV.isOut = true
  | o', o => o' = o

theorem outOk_le {w w' : World} {g : G} {L : Nat → Prop} {ar : List Arg} {e : Ending} {o o' : Out} (h : OutOk w g L ar e w' o) (hl : leO o' o) : OutOk w g L ar e w' o' := by
  cases o with
  | pan d outs => cases o' <;> simp only [leO] at hl <;> first | (rw [hl]; exact h) | cases hl
  | ret r outs =>
    cases o' with
    | pan d outs' => simp only [leO] at hl; cases hl
    | ret r' outs' =>
      obtain ⟨hc, hr, rfl, hall⟩ := hl
      obtain ⟨h1, h2, g', he, hs, hk⟩ := h
      have other : ∀ x y u, u ≠ ar.length → stO ar x outs' u = stO ar y outs' u := fun x y u hu => by
        unfold stO; rw [get_upd, get_upd, if_neg (Ne.symm hu), if_neg (Ne.symm hu)]
      have self : ∀ x, stO ar x outs' ar.length = x := fun x => by unfold stO; rw [get_upd, if_pos rfl]
      rcases hr with hr | ⟨sz, n, get, get', rfl, rfl, hg⟩
      · refine ⟨h1, hc, g', he, hs.le' fun u => ?_, hk⟩
        by_cases hu : u = ar.length
        · subst hu; rw [self, self]; exact .inr hr
        · exact .inl (other _ _ u hu)
      · obtain ⟨g2, hv, -, -, hs2⟩ := hs.freeze (t := ar.length) (c := none) (sz := sz) (n := n) (get := get') (by simp only [sliceAt, self])
        refine ⟨h1, hc, g2, by rw [hv]; exact he, hs2.le' fun u => ?_, fun k cs hk' => by rw [hv]; exact hk k cs hk'⟩
        by_cases hu : u = ar.length
        · subst hu
          refine .inr ?_
          rw [self]
          simp only [freeze, setAt, get_upd, if_true]
          exact ⟨_, rfl, by simp only [leD]; exact .inl ⟨_, rfl, hg⟩⟩
        · refine .inl ?_
          simp only [freeze, setAt]
          rw [get_upd, if_neg (Ne.symm hu)]
          simp only [thaw]
          rw [other _ (.own sz n get') u hu]
          have hx : ∀ x : AV, x.isOut = true → thawV ar.length none sz n get' x = x := fun x hx => by
            unfold AV.isOut at hx
            split at hx
            · simp only [thawV]
            · simp only [thawV]
            · simp at hx
          have : (stO ar (.own sz n get') outs' u).isOut = true := by
            unfold stO
            rw [get_upd, if_neg (Ne.symm hu), ownSt_get]
            split
            · cases hx : outs'[u - 0]? with
              | none => rfl
              | some y => exact List.all_eq_true.mp hall y (List.mem_of_getElem? hx)
            · rfl
          rw [hx _ this]

theorem Spec.mono {P : Program} {f : FuncId} {ar : List Arg} {post post' : Out → Prop} (h : Spec P f ar post) (hp : ∀ o, post o → post' o) : Spec P f ar post' :=
  ⟨h.1, fun w g L vs hs ha => (h.2 w g L vs hs ha).mono fun _ _ ⟨o, ho, hk⟩ => ⟨o, hp o ho, hk⟩⟩

theorem Spec.less {P : Program} {f : FuncId} {ar : List Arg} {post : Out → Prop} (h : Spec P f ar post) (post' : Out → Prop) (hp : ∀ o, post o → ∃ o', post' o' ∧ leO o' o) : Spec P f ar post' :=
  ⟨h.1, fun w g L vs hs ha => (h.2 w g L vs hs ha).mono fun e w' ⟨o, ho, hk⟩ => let ⟨o', h1, h2⟩ := hp o ho; ⟨o', h1, outOk_le hk h2⟩⟩

/-- arguments of which less is known -/
def leA : List Arg → List Arg → Prop
  | [], [] => True
  | .d x :: r, .d y :: s => leD x y ∧ leA r s
  | .box cs j :: r, .box cs' j' :: s => (cs = cs' ∧ j = j') ∧ leA r s
  | _, _ => False

theorem leA_own : ∀ (xs ys : List Arg), leA xs ys → xs.length = ys.length ∧ xs.map argOwn = ys.map argOwn
  | [], [], _ => ⟨rfl, rfl⟩
  | .d x :: r, .d y :: s, h => by
    obtain ⟨h1, h2⟩ := leA_own r s h.2
    exact ⟨by simp [h1], by simp [h2, argOwn]⟩
  | .box cs j :: r, .box cs' j' :: s, h => by
    obtain ⟨h1, h2⟩ := leA_own r s h.2
    obtain ⟨rfl, rfl⟩ := h.1
    exact ⟨by simp [h1], by simp [h2]⟩
  | [], _ :: _, h => h.elim
  | .d _ :: _, [], h => h.elim
  | .box _ _ :: _, [], h => h.elim
  | .d _ :: _, .box _ _ :: _, h => h.elim
  | .box _ _ :: _, .d _ :: _, h => h.elim

theorem leA_get {g : G} {w : World} : ∀ (xs ys : List Arg), leA xs ys → ∀ (k n : Nat) (a : Arg) (b : Arg) (v : Value), xs[k]? = some a → ys[k]? = some b → ValR g w (argAV n b) v → ValR g w (argAV n a) v
  | [], _, _, k, n, a, b, v, ha, _, _ => by simp at ha
  | .d x :: r, .d y :: s, h, 0, n, a, b, v, ha, hb, hv => by
    simp at ha hb; subst ha; subst hb
    have hv : ValR g w (.d y) v := hv
    cases hv with
    | d _ _ hv => exact .d _ _ (leD_rel x hv h.1)
  | .d x :: r, .d y :: s, h, k + 1, n, a, b, v, ha, hb, hv => leA_get r s h.2 k n a b v (by simpa using ha) (by simpa using hb) hv
  | .box cs j :: r, .box cs' j' :: s, h, 0, n, a, b, v, ha, hb, hv => by
    obtain ⟨rfl, rfl⟩ := h.1
    simp at ha hb; subst ha; subst hb; exact hv
  | .box cs j :: r, .box cs' j' :: s, h, k + 1, n, a, b, v, ha, hb, hv => leA_get r s h.2 k n a b v (by simpa using ha) (by simpa using hb) hv
  | .d _ :: _, [], h, _, _, _, _, _, _, _, _ => h.elim
  | .box _ _ :: _, [], h, _, _, _, _, _, _, _, _ => h.elim
  | .d _ :: _, .box _ _ :: _, h, _, _, _, _, _, _, _, _ => h.elim
  | .box _ _ :: _, .d _ :: _, h, _, _, _, _, _, _, _, _ => h.elim

theorem outOk_len {w w' : World} {g : G} {L : Nat → Prop} {xs ys : List Arg} {e : Ending} {o : Out} (hl : xs.length = ys.length) (h : OutOk w g L xs e w' o) : OutOk w g L ys e w' o := by
  cases o with
  | ret r outs =>
    obtain ⟨h1, h2, g', h3, h4, h5⟩ := h
    refine ⟨h1.trans hl, h2, g', by rw [← hl]; exact h3, ?_, h5⟩
    unfold stO at h4 ⊢
    rw [← hl]; exact h4
  | pan d outs =>
    obtain ⟨h1, g', v, h3, h4, h6, h5⟩ := h
    refine ⟨h1.trans hl, g', v, h3, h4, ?_, h5⟩
    unfold stO at h6 ⊢
    rw [← hl]; exact h6

theorem Spec.args {P : Program} {f : FuncId} {ar ar' : List Arg} {post : Out → Prop} (h : Spec P f ar' post) (hl : leA ar' ar) : Spec P f ar post := by
  obtain ⟨h1, h2⟩ := leA_own _ _ hl
  refine ⟨h.1, fun w g L vs hs ha => ?_⟩
  refine (h.2 w g L vs ?_ ⟨ha.1.trans h1.symm, fun k a v hk hv => ?_⟩).mono fun _ _ ⟨o, ho, hk⟩ => ⟨o, ho, outOk_len h1 hk⟩
  · unfold stA; rw [h2]; exact hs
  · have hk' : k < ar.length := by rw [← h1]; exact (List.getElem?_eq_some_iff.mp hk).1
    exact leA_get _ _ hl k k a _ v hk (List.getElem?_eq_getElem hk') (ha.2 k _ v (List.getElem?_eq_getElem hk') hv)

end AM

/- AM: the conditions of code once more, by recursors: what the evaluation leaves behind is spelled as the kernel spells it. -/
namespace AM
open Go

def normR (l : List Nat) : St → List (Nat × AV) → (St → Prop) → Prop :=
  List.rec (motive := fun _ => St → List (Nat × AV) → (St → Prop) → Prop)
    (fun _ acc K => K (ofL acc))
    (fun u _ ih st acc K => forceA (st u) fun v => ih st ((u, v) :: acc) K) l

def textR (P : Program) (N : Nat) (ops : List Oper) (l : List Oper) : St → (St → Prop) → (D → St → Prop) → Prop :=
  List.rec (motive := fun _ => St → (St → Prop) → (D → St → Prop) → Prop)
    (fun st K _ => K st)
    (fun o _ ih st K Kp => guardK N ops st o (fun st => opK P N st o.op o.dst (fun st => ih st K Kp) Kp) (fun st => skipK N st o.dst (fun st => ih st K Kp))) l

/-- a comparison is decided at once -/
def decR (op : Op) (dst : Option Nat) (K : St → Prop) (st : St) : Prop :=
  match op, dst with
  | .binOp _ _ _ _ _, some t => match st t with
    | .d (.bool x) => cond x (K (upd t (.d (.bool true)) st)) (K (upd t (.d (.bool false)) st))
    | _ => K st
  | _, _ => K st

theorem upd_self {t : Nat} {st : St} {v : AV} (h : st t = v) : upd t v st = st := by
  funext u
  rw [get_upd]
  split
  · rename_i he; subst he; exact h.symm
  · rfl

theorem decR_eq (op : Op) (dst : Option Nat) (K : St → Prop) : decR op dst K = K := by
  funext st
  unfold decR
  split
  · split
    · rename_i x hx
      cases x
      · simp only [cond_false]; rw [upd_self hx]
      · simp only [cond_true]; rw [upd_self hx]
    · rfl
  · rfl

def drawR (P : Program) (N : Nat) (ops : List Oper) (K : St → Prop) (Kp : D → St → Prop) (l : List (Nat × Oper × Row)) : St → Prop :=
  List.rec (motive := fun _ => St → Prop)
    (fun st => K st)
    (fun x _ ih st => cond x.2.2.sync
      (guardK N ops st x.2.1 (fun st => opK P N st x.2.1.op x.2.1.dst (decR x.2.1.op x.2.1.dst ih) Kp) (fun st => skipK N st x.2.1.dst (fun st => ih st)))
      (rowK P N ops x.2.1 x.2.2 st (decR x.2.1.op x.2.1.dst ih))) l

def regionR (P : Program) (N : Nat) (keep : List Nat) (ops : Array Oper) (draw : Bool) (st : St) (K : Ks) : Prop :=
  match draw with
  | false => textR P N ops.toList ops.toList st (fun st => normR keep st [] K.norm) K.pan
  | true => ∃ tab, tabOk P ops.toList tab = true ∧ drawR P N ops.toList (fun st => normR keep st [] K.norm) K.pan (rows 0 ops.toList tab) st

def condR (N : Nat) (c : Operand) (ia ib : St → Ks → Prop) (st : St) (K : Ks) : Prop :=
  match ev N st c with
  | .d (.bool x) => match c with
    | .tmp t => cond x (ia (upd t (.d (.bool true)) st) K) (ib (upd t (.d (.bool false)) st) K)
    | _ => cond x (ia st K) (ib st K)
  | _ => False

def loopR (ib : St → Ks → Prop) (st : St) (K : Ks) : Prop :=
  ∃ (α : Type) (inv : α → List (Nat × AV)) (μ : α → Nat) (x0 : α), leL (inv x0) st ∧
      ∀ x, ib (ofL (inv x)) { K with norm := fun st' => ∃ x', μ x' < μ x ∧ leL (inv x') st' }

/-- the first region of code, and one more; 0: none -/
noncomputable def headR (c : Code) : Nat :=
  Code.rec (motive := fun _ => Nat) 0 (fun id _ _ => Nat.succ id) (fun _ _ ha hb => cond (Nat.beq ha 0) hb ha) (fun _ _ _ _ _ => 0) (fun _ _ hb => hb) (fun _ hb => hb) (fun _ _ _ _ _ _ => 0) (fun _ => 0)
    (fun _ _ => 0) (fun _ => 0) (fun _ => 0) 0 (fun _ => 0) c

/-- where the code behind begins with a region of the list, all that is known is said anew -/
def seqR (cuts : List Nat) (b : Code) (ia ib : St → Ks → Prop) (st : St) (K : Ks) : Prop :=
  cond (memB (headR b) cuts)
    (∃ (α : Type) (inv : α → List (Nat × AV)), ia st { K with norm := fun st' => ∃ x, leL (inv x) st' } ∧ ∀ x, ib (ofL (inv x)) K)
    (ia st { K with norm := fun st => ib st K })

def vcR (P : Program) (N : Nat) (keep cuts : List Nat) (c : Code) : St → Ks → Prop :=
  Code.rec (motive := fun _ => St → Ks → Prop)
    (fun st K => K.norm st)
    (fun _ ops draw => regionR P N keep ops draw)
    (fun _ b ia ib => seqR cuts b ia ib)
    (fun c _ _ ia ib => condR N c ia ib)
    (fun id _ ib st K => ib st { K with exit := fun i st => bif Nat.beq i id then K.norm st else K.exit i st })
    (fun _ ib => loopR ib)
    (fun _ _ _ _ _ _ _ _ => False)
    (fun i st K => K.exit i st)
    (fun _ _ _ _ => False)
    (fun _ st K => K.norm st)
    (fun _ _ _ => False)
    (fun st K => K.ret st)
    (fun _ _ _ => False) c

def fnR (P : Program) (fn : Func) (keep cuts : List Nat) (ar : List Arg) (post : Out → Prop) : Prop :=
  match fn.body with
  | some c => cond (Nat.ble ar.length fn.ntmps) (vcR P fn.ntmps keep cuts c (initSt fn.ntmps 0 ar)
      { norm := retK P fn ar.length post, ret := retK P fn ar.length post, exit := fun _ _ => False, pan := fun d st => post (.pan d (outsOf fn.ntmps st 0 ar.length)) }) False
  | none => False

theorem normR_eq : ∀ (l : List Nat) (st : St) (acc : List (Nat × AV)) (K : St → Prop), normR l st acc K = normK l st acc K
  | [], _, _, _ => rfl
  | u :: r, st, acc, K => by
    show (forceA (st u) fun v => normR r st ((u, v) :: acc) K) = _
    simp only [normR_eq r, normK]

theorem textR_eq {P : Program} {N : Nat} {ops : List Oper} : ∀ (l : List Oper) (st : St) (K : St → Prop) (Kp : D → St → Prop), textR P N ops l st K Kp = textK P N ops l st K Kp
  | [], _, _, _ => rfl
  | o :: r, st, K, Kp => by
    show (guardK N ops st o (fun st => opK P N st o.op o.dst (fun st => textR P N ops r st K Kp) Kp) (fun st => skipK N st o.dst (fun st => textR P N ops r st K Kp))) = _
    simp only [textR_eq r, textK]

theorem drawR_eq {P : Program} {N : Nat} {ops : List Oper} {K : St → Prop} {Kp : D → St → Prop} : ∀ (l : List (Nat × Oper × Row)) (st : St), drawR P N ops K Kp l st = drawK P N ops K Kp l st
  | [], _ => rfl
  | (i, o, row) :: r, st => by
    show (cond row.sync (guardK N ops st o (fun st => opK P N st o.op o.dst (decR o.op o.dst (drawR P N ops K Kp r)) Kp) (fun st => skipK N st o.dst (fun st => drawR P N ops K Kp r st)))
      (rowK P N ops o row st (decR o.op o.dst (drawR P N ops K Kp r)))) = _
    have : drawR P N ops K Kp r = drawK P N ops K Kp r := funext (drawR_eq r)
    simp only [decR_eq, this, drawK]

theorem vcR_ok {P : Program} (hm : P.follows .mixedOrders = true) {cx : Cx} {keep cuts : List Nat} : ∀ (c : Code) (st : St) (K : Ks) (Q : Exit → Act → World → Prop) (g : G) (a : Act) (w : World), Sat cx g st a w → vcR P cx.N keep cuts c st K → KsOk cx K Q → c.wp P Q a w
  | .skip, st, K, Q, g, a, w, h, hk, ho => wp_skip (ho.norm _ _ _ _ h hk)
  | .label l, st, K, Q, g, a, w, h, hk, ho => wp_label (ho.norm _ _ _ _ h hk)
  | .region id ops draw, st, K, Q, g, a, w, h, hk, ho => by
    refine vc_ok hm (keep := keep) (.region id ops draw) st K Q g a w h ?_ ho
    have hk : regionR P cx.N keep ops draw st K := hk
    unfold regionR at hk
    cases draw with
    | false => simp only [vc]; simpa only [textR_eq, normR_eq] using hk
    | true => simp only [vc]; simpa only [drawR_eq, normR_eq] using hk
  | .seq x y, st, K, Q, g, a, w, h, hk, ho => by
    have hk : seqR cuts y (vcR P cx.N keep cuts x) (vcR P cx.N keep cuts y) st K := hk
    unfold seqR at hk
    cases hc : memB (headR y) cuts with
    | false =>
      rw [hc] at hk
      exact wp_seq (vcR_ok hm x st _ _ g a w h hk ⟨fun g' st' a' w' h' hk' => vcR_ok hm y st' K Q g' a' w' h' hk' ho, ho.ret, ho.exit, ho.pan⟩)
    | true =>
      rw [hc] at hk
      obtain ⟨α, inv, hk, hr⟩ := hk
      exact wp_seq (vcR_ok hm x st _ _ g a w h hk ⟨fun g' st' a' w' h' hk' => let ⟨z, hz⟩ := hk'; vcR_ok hm y _ K Q g' a' w' (h'.le (leL_le _ hz)) (hr z) ho, ho.ret, ho.exit, ho.pan⟩)
  | .cond c x y, st, K, Q, g, a, w, h, hk, ho => by
    replace hk : condR cx.N c (vcR P cx.N keep cuts x) (vcR P cx.N keep cuts y) st K := hk
    unfold condR at hk
    split at hk
    · rename_i b hb
      have hr := ev_rel h c
      rw [hb] at hr
      have hval : a.eval c = .bool b := by
        generalize a.eval c = u at hr
        cases hr with
        | d _ _ hr => cases hr; rfl
      have refined : ∀ t, c = .tmp t → Sat cx g (upd t (.d (.bool b)) st) a w := fun t ht => by
        refine h.weak fun u => ?_
        rw [get_upd]
        split
        · rename_i he; subst he; subst ht
          right
          simp only [ev] at hb
          cases hN : Nat.blt t cx.N with
          | false => simp [hN] at hb
          | true =>
            rw [hN] at hb
            simp only [cond_true, deref] at hb
            generalize st t = x at hb
            cases x <;> simp_all
        · exact .inr rfl
      refine wp_cond hval ?_
      split at hk
      · rename_i t
        cases b with
        | true => exact vcR_ok hm x _ K Q g a w (refined t rfl) hk ho
        | false => exact vcR_ok hm y _ K Q g a w (refined t rfl) hk ho
      · cases b with
        | true => exact vcR_ok hm x st K Q g a w h hk ho
        | false => exact vcR_ok hm y st K Q g a w h hk ho
    · exact hk.elim
  | .block id b, st, K, Q, g, a, w, h, hk, ho => by
    have hk : vcR P cx.N keep cuts b st { K with exit := fun i st => bif Nat.beq i id then K.norm st else K.exit i st } := hk
    refine wp_block (vcR_ok hm b st _ _ g a w h hk ⟨fun g' st' a' w' h' hk' => ho.norm _ _ _ _ h' hk', ho.ret, fun i g' st' a' w' h' hk' => ?_, ho.pan⟩)
    dsimp only at hk'
    cases hb : Nat.beq i id with
    | true =>
      rw [hb] at hk'
      have := Nat.eq_of_beq_eq_true hb
      simp only [Exit.inBlock, this, if_true]
      exact ho.norm _ _ _ _ h' hk'
    | false =>
      rw [hb] at hk'
      have : i ≠ id := fun he => by subst he; rw [Nat.beq_refl] at hb; simp at hb
      simp only [Exit.inBlock, this, if_false]
      exact ho.exit _ _ _ _ _ h' hk'
  | .loop b, st, K, Q, g, a, w, h, hk, ho => by
    obtain ⟨α, inv, μ, x0, h0, hround⟩ := hk
    refine wp_loopN (fun n a w => ∃ x g, μ x = n ∧ Sat cx g (ofL (inv x)) a w) (n := μ x0) ⟨x0, g, rfl, h.le (leL_le _ h0)⟩ fun n a w hI => ?_
    obtain ⟨x, g', rfl, h'⟩ := hI
    refine vcR_ok hm b _ _ _ g' a w h' (hround x) ⟨fun g2 st2 a2 w2 h2 hk2 => ?_, ho.ret, ho.exit, ho.pan⟩
    obtain ⟨x', hlt, hle⟩ := hk2
    exact ⟨μ x', hlt, x', g2, rfl, h2.le (leL_le _ hle)⟩
  | .exit i, st, K, Q, g, a, w, h, hk, ho => wp_exit (ho.exit _ _ _ _ _ h hk)
  | .ret, st, K, Q, g, a, w, h, hk, ho => wp_ret (ho.ret _ _ _ _ h hk)
  | .goto _, _, _, _, _, _, _, _, hk, _ => hk.elim
  | .rangeFunc .., _, _, _, _, _, _, _, hk, _ => hk.elim
  | .scope .., _, _, _, _, _, _, _, hk, _ => hk.elim
  | .refuse .., _, _, _, _, _, _, _, hk, _ => hk.elim


theorem specR {P : Program} (hm : P.follows .mixedOrders = true) {f : FuncId} {fn : Func} (hf : P.funcs[f]? = some fn) (hn : (fn.name == "runtime.NumGoroutine") = false) {ar : List Arg} {post : Out → Prop}
    {keep : List Nat} (cuts : List Nat) (h : fnR P fn keep cuts ar post) : Spec P f ar post := by
  unfold fnR at h
  cases hb : fn.body with
  | none => simp [hb] at h
  | some c =>
    simp only [hb] at h
    cases hN : Nat.ble ar.length fn.ntmps with
    | false => simp [hN] at h
    | true =>
      simp only [hN, cond_true] at h
      exact spec_gen hf hn hb (Nat.le_of_ble_eq_true hN) fun cx hcx Q g a w hs ho => by
        refine vcR_ok hm (keep := keep) (cuts := cuts) c _ _ Q g a w hs ?_ ho
        rw [hcx]; exact h

theorem bool_split {b : Bool} {P Q : Prop} (hT : b = true → P) (hF : b = false → Q) : cond b P Q := by
  cases b
  · exact hF rfl
  · exact hT rfl

end AM

/- AM: what is read of an argument is data. -/
namespace AM
open Go Go.ChangeShapes Go.WideShapes Go.Deep

/-- cells of data, cell by cell -/
def Rl (I : Nat → Prop) (w : World) (ds : List D) (cs : List Value) : Prop :=
  ds.length = cs.length ∧ ∀ (i : Nat) (d : D) (u : Value), ds[i]? = some d → cs[i]? = some u → DRel I w d u ∧ u.oneCell' = true

theorem Rl.nil {I : Nat → Prop} {w : World} : Rl I w [] [] := ⟨rfl, fun i d u h => by simp at h⟩

theorem Rl.one {I : Nat → Prop} {w : World} {d : D} {u : Value} (h : DRel I w d u) (h1 : u.oneCell' = true) : Rl I w [d] [u] :=
  ⟨rfl, fun i d' u' hd hu => by
    cases i with
    | zero => simp at hd hu; subst hd; subst hu; exact ⟨h, h1⟩
    | succ i => simp at hd⟩

theorem Rl.append {I : Nat → Prop} {w : World} {a b : List D} {x y : List Value} (h : Rl I w a x) (h2 : Rl I w b y) : Rl I w (a ++ b) (x ++ y) := by
  refine ⟨by simp [h.1, h2.1], fun i d u hd hu => ?_⟩
  rcases Nat.lt_or_ge i a.length with hl | hl
  · rw [List.getElem?_append_left hl] at hd
    rw [List.getElem?_append_left (by rw [← h.1]; exact hl)] at hu
    exact h.2 i d u hd hu
  · rw [List.getElem?_append_right hl] at hd
    rw [List.getElem?_append_right (by rw [← h.1]; exact hl), ← h.1] at hu
    exact h2.2 _ d u hd hu

def elemD (P : Program) (e : TypeId) (cs : List D) : D :=
  match P.underlying e with
  | some (.struct _) => .agg cs
  | some (.array _ _) => .agg cs
  | _ => nth .und cs 0

mutual
/-- data of a type -/
def Fit (P : Program) : Nat → TypeId → List D → Prop
  | 0, _, _ => False
  | n + 1, t, ds => match P.underlying t with
    | some .bool => ∃ b, ds = [.bool b]
    | some (.int k) => ∃ x, ds = [.int k x] ∧ (Lit.int k x).wf = true
    | some .string => ∃ s, ds = [.str s] ∧ s.size ≤ maxLen
    | some (.slice e) => ∃ m get, ds = [.dat (P.cellsOf e) m get] ∧ m ≤ maxLen ∧ ∀ i, i < m → ∃ cs, get i = elemD P e cs ∧ cs.length = P.cellsOf e ∧ Fit P n e cs
    | some (.struct fs) => FitAll P n fs.toList ds
    | _ => False
def FitAll (P : Program) : Nat → List Field → List D → Prop
  | _, [], ds => ds = []
  | n, f :: r, ds => ∃ a b, ds = a ++ b ∧ Fit P n f.type a ∧ FitAll P n r b
end

/-- fields lie one behind the other -/
def contig (P : Program) : Nat → Nat → List Field → Bool
  | o, total, [] => Nat.beq o total
  | o, total, f :: r => Nat.beq f.offset o && contig P (o + P.cellsOf f.type) total r

def plainT (P : Program) : Nat → TypeId → Bool
  | 0, _ => false
  | n + 1, t => match P.underlying t with
    | some .bool => true
    | some (.int _) => true
    | some .string => true
    | some (.slice e) => plainT P n e && Nat.ble 1 (P.cellsOf e)
    | some (.struct fs) => contig P 0 (P.cellsOf t) fs.toList && fs.toList.all fun f => plainT P n f.type
    | _ => false

theorem cell_at {w : World} {b o : Nat} {s : Option _} {v : Value} (h : w.cell? ⟨b, o, s⟩ = some v) : s = none ∧ ∃ c e fr, w.heap[b]? = some (.cells c e fr) ∧ c[o]? = some v := by
  unfold World.cell? at h
  split at h
  · rename_i c e fr hh
    cases s with
    | none => exact ⟨rfl, c, e, fr, hh, by simpa using h⟩
    | some s => simp at h
  · simp at h

theorem elemD_cells {P : Program} {e : TypeId} {cs : List D} (hl : cs.length = P.cellsOf e) (hone : (∀ fs, P.underlying e ≠ some (.struct fs)) → (∀ n a, P.underlying e ≠ some (.array n a)) → ∃ d, cs = [d] ∧ d.cells = [d]) : (elemD P e cs).cells = cs := by
  unfold elemD
  split
  · rfl
  · rfl
  · rename_i h1 h2
    obtain ⟨d, rfl, hd⟩ := hone (fun fs h => h1 fs h) (fun n a h => h2 n a h)
    exact hd

theorem fit_one {P : Program} {n : Nat} {e : TypeId} {cs : List D} (h : Fit P n e cs) (h1 : ∀ fs, P.underlying e ≠ some (.struct fs)) : ∃ d, cs = [d] ∧ d.cells = [d] := by
  cases n with
  | zero => simp [Fit] at h
  | succ n =>
    simp only [Fit] at h
    split at h
    · obtain ⟨b, rfl⟩ := h; exact ⟨_, rfl, rfl⟩
    · obtain ⟨b, rfl, -⟩ := h; exact ⟨_, rfl, rfl⟩
    · obtain ⟨b, rfl, -⟩ := h; exact ⟨_, rfl, rfl⟩
    · obtain ⟨m, get, rfl, -⟩ := h; exact ⟨_, rfl, rfl⟩
    · rename_i fs hf; exact absurd hf (h1 fs)
    · exact h.elim

section
variable {H : Type} {enc : TypeId × Value → H} {P : Program} {w : World} {spare : Nat → Bool} {held : Bool}

theorem trod_fits {n : Nat} (ih : ∀ t, plainT P n t = true → ∀ fuel cs x, DataW.trod enc P w 0 spare held fuel t cs = some x → ∃ ds, Fit P n t ds ∧ Rl (· < w.heap.size) w ds cs) {m : Nat} {cs : List Value} {total : Nat} (hl : cs.length = total) :
    ∀ (fs : List Field) (o : Nat), contig P o total fs = true → (fs.all fun f => plainT P n f.type) = true → (∀ f ∈ fs, ∃ x, DataW.trod enc P w 0 spare held m f.type ((cs.drop f.offset).take (P.cellsOf f.type)) = some x) →
      ∃ ds, FitAll P n fs ds ∧ Rl (· < w.heap.size) w ds (cs.drop o)
  | [], o, hc, _, _ => by
    have : o = total := Nat.eq_of_beq_eq_true hc
    refine ⟨[], by simp [FitAll], ?_⟩
    rw [List.drop_eq_nil_of_le (by omega)]; exact Rl.nil
  | f :: r, o, hc, hp, ht => by
    simp only [contig, Bool.and_eq_true] at hc
    simp only [List.all_cons, Bool.and_eq_true] at hp
    have ho : f.offset = o := Nat.eq_of_beq_eq_true hc.1
    obtain ⟨x, hx⟩ := ht f (List.mem_cons_self ..)
    obtain ⟨a, ha, hra⟩ := ih f.type hp.1 m _ x hx
    obtain ⟨b, hb, hrb⟩ := trod_fits ih hl r (o + P.cellsOf f.type) hc.2 hp.2 (fun g hg => ht g (List.mem_cons_of_mem _ hg))
    refine ⟨a ++ b, by simp only [FitAll]; exact ⟨a, b, rfl, ha, hb⟩, ?_⟩
    have := hra.append hrb
    rw [ho, ← List.drop_drop, List.take_append_drop] at this
    exact this

theorem trod_fit : ∀ (n : Nat) (t : TypeId), plainT P n t = true → ∀ (fuel : Nat) (cs : List Value) (x : DataW H × List MemPlace), DataW.trod enc P w 0 spare held fuel t cs = some x →
    ∃ ds, Fit P n t ds ∧ Rl (· < w.heap.size) w ds cs
  | 0, t, hp, _, _, _, _ => by simp [plainT] at hp
  | n + 1, t, hp, fuel, cs, x, h => by
    simp only [plainT] at hp
    simp only [Fit]
    cases hu : P.underlying t with
    | none => rw [hu] at hp; simp at hp
    | some d =>
      rw [hu] at hp
      cases d with
      | bool =>
        obtain ⟨b, rfl, -⟩ := DataW.trod_bool hu h
        exact ⟨[.bool b], ⟨b, rfl⟩, Rl.one (.bool b) rfl⟩
      | int k =>
        obtain ⟨b, rfl, -, hw⟩ := DataW.trod_int hu h
        exact ⟨[.int k b], ⟨b, rfl, hw⟩, Rl.one (.int k b) rfl⟩
      | string =>
        obtain ⟨s, rfl, -, hs⟩ := DataW.trod_string hu h
        exact ⟨[.str s], ⟨s, rfl, hs⟩, Rl.one (.str s) rfl⟩
      | slice e =>
        simp only [Bool.and_eq_true] at hp
        have hsz : 1 ≤ P.cellsOf e := Nat.le_of_ble_eq_true hp.2
        rcases open_slice hu h with ⟨rfl, -⟩ | ⟨a, len, cap, m, k, DD, Pl, rfl, -, hlc, hcm, hm, -, hi⟩
        · exact ⟨[.dat (P.cellsOf e) 0 fun _ => .und], ⟨0, _, rfl, Nat.zero_le _, fun i hi => absurd hi (Nat.not_lt_zero i)⟩, Rl.one (.dat0 _ _) rfl⟩
        · have hlm : len ≤ m := by rw [hm]; split <;> omega
          cases len with
          | zero => exact ⟨[.dat (P.cellsOf e) 0 fun _ => .und], ⟨0, _, rfl, Nat.zero_le _, fun i hi => absurd hi (Nat.not_lt_zero i)⟩, Rl.one (.datE _ _ _ _) rfl⟩
          | succ l =>
            have hel : ∀ i, i < l + 1 → ∃ (cs' : List Value) (ds : List D), w.cells? 0 (a.add (i * P.cellsOf e)) (P.cellsOf e) = some cs' ∧ Fit P n e ds ∧ Rl (· < w.heap.size) w ds cs' := fun i hil => by
              obtain ⟨cs', h1, h2⟩ := hi i (by omega)
              obtain ⟨ds, h3, h4⟩ := trod_fit n e hp.1 k cs' _ h2
              exact ⟨cs', ds, h1, h3, h4⟩
            obtain ⟨b, o, sp⟩ := a
            have hcell0 : ∀ i j, i < l + 1 → j < P.cellsOf e → ∃ v, w.cell? (((⟨b, o, sp⟩ : Addr).add (i * P.cellsOf e)).add j) = some v := fun i j hil hj => by
              obtain ⟨cs', ds, h1, h2, h3⟩ := hel i hil
              obtain ⟨-, h4, h5⟩ := World.cells?_some h1
              have := h5 j hj
              rw [List.getElem?_eq_getElem (by omega)] at this
              exact ⟨_, this⟩
            obtain ⟨rfl, c, el, fr, hb⟩ : sp = none ∧ ∃ c el fr, w.heap[b]? = some (.cells c el fr) := by
              obtain ⟨v0, h0⟩ := hcell0 0 0 (by omega) (by omega)
              have h0 : w.cell? ⟨b, o, sp⟩ = some v0 := by simpa [Addr.add] using h0
              obtain ⟨hs, c, el, fr, hb, -⟩ := cell_at h0
              exact ⟨hs, c, el, fr, hb⟩
            have hcell : ∀ i j, i < l + 1 → j < P.cellsOf e → ∃ v, w.cell? ⟨b, o + i * P.cellsOf e + j, none⟩ = some v := fun i j hil hj => by
              have := hcell0 i j hil hj
              rw [add_none, add_none] at this
              exact this
            have hcv : ∀ i j, i < l + 1 → j < P.cellsOf e → ∃ v, c[o + i * P.cellsOf e + j]? = some v := fun i j hil hj => by
              obtain ⟨v, hv⟩ := hcell i j hil hj
              obtain ⟨-, c', e', fr', hb', hc'⟩ := cell_at hv
              rw [hb] at hb'; cases hb'
              exact ⟨v, hc'⟩
            classical
            let dsOf : Nat → List D := fun i => if h : i < l + 1 then (hel i h).choose_spec.choose else []
            have hds : ∀ i, (h : i < l + 1) → Fit P n e (dsOf i) ∧ ∃ cs', w.cells? 0 ((⟨b, o, none⟩ : Addr).add (i * P.cellsOf e)) (P.cellsOf e) = some cs' ∧ Rl (· < w.heap.size) w (dsOf i) cs' := fun i hil => by
              have hsp := (hel i hil).choose_spec.choose_spec
              have he : dsOf i = (hel i hil).choose_spec.choose := by simp only [dsOf, dif_pos hil]
              rw [he]
              exact ⟨hsp.2.1, _, hsp.1, hsp.2.2⟩
            have hcl : ∀ i, (h : i < l + 1) → (dsOf i).length = P.cellsOf e := fun i hil => by
              obtain ⟨h1, cs', h2, h3⟩ := hds i hil
              obtain ⟨-, h4, -⟩ := World.cells?_some h2
              rw [h3.1, h4]
            have harr : ∀ i, i < l + 1 → (elemD P e (dsOf i)).cells = dsOf i := fun i hil => by
              refine elemD_cells (hcl i hil) fun h1 h2 => ?_
              exact fit_one (hds i hil).1 h1
            refine ⟨[.dat (P.cellsOf e) (l + 1) fun i => elemD P e (dsOf i)], ⟨l + 1, _, rfl, by omega, fun i hil => ⟨dsOf i, rfl, hcl i hil, (hds i hil).1⟩⟩, Rl.one ?_ rfl⟩
            have hblt : b < w.heap.size := by
              rcases Nat.lt_or_ge b w.heap.size with h | h
              · exact h
              · simp [Array.getElem?_eq_none h] at hb
            have hrel : ∀ i j, i < l + 1 → j < P.cellsOf e → ∀ v, c[o + i * P.cellsOf e + j]? = some v → v.oneCell' = true ∧ ∀ d, (dsOf i)[j]? = some d → DRel (· < w.heap.size) w d v := fun i j hil hj v hv => by
              obtain ⟨h1, cs', h2, h3⟩ := hds i hil
              obtain ⟨-, h4, h5⟩ := World.cells?_some h2
              have h6 := h5 j hj
              obtain ⟨v', hv'⟩ := hcell i j hil hj
              have h7 : w.cell? (((⟨b, o, none⟩ : Addr).add (i * P.cellsOf e)).add j) = some v := by
                rw [add_none, add_none]
                simp [World.cell?, hb, hv]
              rw [h7] at h6
              have hjd : j < (dsOf i).length := by rw [hcl i hil]; exact hj
              refine ⟨(h3.2 j _ v (List.getElem?_eq_getElem hjd) h6.symm).2, fun d hd => (h3.2 j d v hd h6.symm).1⟩
            refine .dat _ _ _ b o cap c el fr (fun i j => (c[o + i * P.cellsOf e + j]?).getD undef) hblt hb hlc (fun i hil => by rw [harr i hil, hcl i hil]) (fun i j hil hj => ?_) (fun i j hil hj => ?_) (fun i j d hil hd => ?_)
            · obtain ⟨v, hv⟩ := hcv i j hil hj; rw [hv]; rfl
            · obtain ⟨v, hv⟩ := hcv i j hil hj; rw [hv]; exact (hrel i j hil hj v hv).1
            · rw [harr i hil] at hd
              have hj : j < P.cellsOf e := by rw [← hcl i hil]; exact (List.getElem?_eq_some_iff.mp hd).1
              obtain ⟨v, hv⟩ := hcv i j hil hj; rw [hv]; exact (hrel i j hil hj v hv).2 d hd
      | struct fs =>
        simp only [Bool.and_eq_true] at hp
        obtain ⟨xs, m, -, -, hl, hxl, hf⟩ := DataW.trod_struct hu h
        obtain ⟨ds, h1, h2⟩ := trod_fits (fun t ht fuel cs x hx => trod_fit n t ht fuel cs x hx) hl fs.toList 0 hp.1 hp.2 (fun f hfm => by
          obtain ⟨i, hi, rfl⟩ := List.getElem_of_mem hfm
          have hi' : i < fs.size := by simpa using hi
          have := hf i fs[i] (by simp [hi'])
          rw [List.getElem?_eq_getElem (by omega)] at this
          exact ⟨_, by simpa using this⟩)
        exact ⟨ds, h1, by simpa using h2⟩
      | _ => simp at hp
end

end AM

/- AM: a law that answers true, over arguments of data. -/
namespace AM
open Go Go.ChangeShapes Go.WideShapes

theorem argOwn_data : ∀ (ds : List D) (u : Nat), ownSt u ((ds.map Arg.d).map argOwn) = fun _ => .d .und
  | [], u => rfl
  | d :: r, u => by
    simp only [List.map_cons, ownSt, argOwn, argOwn_data r (u + 1)]
    funext k
    rw [get_upd]; split <;> rfl

theorem law_calls {P : Program} {f : FuncId} {ds : List D} {outs : List AV} (h : Spec P f (ds.map Arg.d) (fun o => o = .ret (.d (.bool true)) outs)) (W : World) (vs : List Value) (hl : vs.length = ds.length)
    (hr : ∀ (k : Nat) (d : D) (v : Value), ds[k]? = some d → vs[k]? = some v → DRel (· < W.heap.size) W d v) :
    Calls P f ⟨vs⟩ W fun e W' => e = .returned (.bool true) ∧ Go.RowKit.Below W.heap.size W W' := by
  let g : G := ⟨(· < W.heap.size), fun _ _ => undef⟩
  have hst : stA (ds.map Arg.d) = fun _ => .d .und := argOwn_data ds 0
  have hs : Sat ⟨W, fun _ => False, g.I, 0, noFix⟩ g (stA (ds.map Arg.d)) noAct W := by
    rw [hst]
    refine ⟨rfl, rfl, fun t ht => absurd ht (Nat.not_lt_zero _), fun t _ => SlotR.und, fun t c t' c' h1 _ _ => ?_, fun t c b h1 _ => ?_, fun b hb => ⟨hb, .inl hb⟩, fun b hb => hb, Nat.le_refl _, fun b _ _ => rfl, fun t v _ hx => (nomatch hx), Still.refl _⟩
    · cases c <;> simp [ownsAt] at h1
    · cases c <;> simp [ownsAt] at h1
  refine (h.2 W g (fun _ => False) vs hs ⟨by simp [hl], fun k a v hk hv => ?_⟩).mono fun e W' ⟨o, ho, hk⟩ => ?_
  · rw [List.getElem?_map] at hk
    cases hd : ds[k]? with
    | none => rw [hd] at hk; simp at hk
    | some d =>
      rw [hd] at hk
      simp at hk; subst hk
      exact .d _ _ (hr k d v hd hv)
  · subst ho
    obtain ⟨-, -, g', he, hs', -⟩ := hk
    have hx := hs'.extra (ds.map Arg.d).length (Nat.zero_le _)
    have hself : stO (ds.map Arg.d) (.d (.bool true)) outs (ds.map Arg.d).length = .d (.bool true) := by unfold stO; rw [get_upd, if_pos rfl]
    rw [hself] at hx
    have hx : ValR g' W' (.d (.bool true)) _ := hx
    refine ⟨?_, hs'.still.1, hs'.still.2.1, hs'.still.2.2, hs'.grows, fun k hk => hs'.frame k hk (fun h => h)⟩
    rw [he]
    generalize g'.val (ds.map Arg.d).length none = v at hx
    cases hx with
    | d _ _ hx => cases hx; rfl

/-- a row of numbers -/
theorem fit_row {P : Program} {n : Nat} {t e : TypeId} {k : IntKind} {ds : List D} (ht : P.underlying t = some (.slice e)) (he : P.underlying e = some (.int k)) (h1 : P.cellsOf e = 1) (h : Fit P (n + 2) t ds) :
    ∃ (m : Nat) (get : Nat → D) (L : List Int), ds = [.dat 1 m get] ∧ m = L.length ∧ (∀ i, i < m → get i = .int k (L.getD i 0)) ∧ (∀ x ∈ L, (Lit.int k x).wf = true) := by
  simp only [Fit, ht] at h
  obtain ⟨m, get, rfl, -, hg⟩ := h
  rw [h1]
  have hx : ∀ i, i < m → ∃ x, get i = .int k x ∧ (Lit.int k x).wf = true := fun i hi => by
    obtain ⟨cs, h2, -, h3⟩ := hg i hi
    simp only [Fit, he] at h3
    obtain ⟨x, rfl, hw⟩ := h3
    refine ⟨x, ?_, hw⟩
    rw [h2]; unfold elemD; simp [he, nth]
  classical
  let f : Nat → Int := fun i => if h : i < m then (hx i h).choose else 0
  have hf : ∀ i, (h : i < m) → get i = .int k (f i) ∧ (Lit.int k (f i)).wf = true := fun i hi => by
    have := (hx i hi).choose_spec
    have he : f i = (hx i hi).choose := by simp only [f, dif_pos hi]
    rw [he]; exact this
  refine ⟨m, get, (List.range m).map f, rfl, by simp, fun i hi => ?_, fun x hx => ?_⟩
  · rw [(hf i hi).1, List.getD_eq_getElem?_getD, List.getElem?_map, List.getElem?_range hi]; rfl
  · obtain ⟨i, hi, rfl⟩ := List.mem_map.mp hx
    exact (hf i (by simpa using hi)).2

end AM
