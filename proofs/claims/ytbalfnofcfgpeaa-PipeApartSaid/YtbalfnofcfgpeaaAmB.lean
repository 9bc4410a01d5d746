/- A part of the proof: an abstract machine over the model's code, and the walks that use it. No condition. -/
import Derived.Test.YtbalfnofcfgpeaaAmA
import Derived.Laws.Append

set_option linter.unusedVariables false
set_option linter.unusedSimpArgs false

/- AM: quiet operations, all together; a value comes into its slot. -/
namespace AM
open Go

theorem nilF_ok {P : Program} {cx : Cx} {g : G} {st : St} {a : Act} {w : World} (h : Sat cx g st a w) (o : Oper) (x : Operand) (ho : o.op = .nilCheck x) {c : Option Prop} {v : AV}
    (hq : nilF (ev cx.N st x) = some (c, v)) : ∃ u w', (execOp a.eval o).run P w = .ok (.value u) w' ∧ Made g w w' u v := by
  have hx := ev_rel h x
  generalize ev cx.N st x = y at hq hx
  have run : ∀ u, a.eval x = u → (match u with | .pointer none | .nilIface | .nilFunc => False | .func (.method _) _ _ => False | _ => True) → (execOp a.eval o).run P w = .ok (.value u) w := by
    intro u hu hm
    unfold execOp
    simp only [ho, hu]
    split at hm <;> first | exact hm.elim | skip
    split <;> first | rfl | simp_all
  unfold nilF at hq
  split at hq <;> simp [okR] at hq
  all_goals obtain ⟨rfl, rfl⟩ := hq
  · generalize hu : a.eval x = u at hx
    have hx' := hx
    cases hx with
    | ref _ _ b o' hv => exact ⟨_, w, run _ hu trivial, .of hx'⟩
  · generalize hu : a.eval x = u at hx
    have hx' := hx
    cases hx with
    | eref _ _ _ _ _ b o' n cap hv hi => exact ⟨_, w, run _ hu trivial, .of hx'⟩
  · generalize hu : a.eval x = u at hx
    have hx' := hx
    cases hx with
    | d _ _ hd => cases hd; exact ⟨_, w, run _ hu trivial, .of hx'⟩
  · generalize hu : a.eval x = u at hx
    have hx' := hx
    cases hx with
    | d _ _ hd => cases hd; exact ⟨_, w, run _ hu trivial, .of hx'⟩
  · generalize hu : a.eval x = u at hx
    have hx' := hx
    cases hx with
    | clo _ _ us hl hr => exact ⟨_, w, run _ hu trivial, .of hx'⟩

theorem quiet_ok {P : Program} {cx : Cx} {g : G} {st : St} {a : Act} {w : World} (h : Sat cx g st a w) (o : Oper) {c : Option Prop} {v : AV}
    (hq : quiet P cx.N st o.op = some (c, v)) (hc : ∀ p, c = some p → p) : ∃ u w', (execOp a.eval o).run P w = .ok (.value u) w' ∧ Made g w w' u v := by
  have hI : ∀ b, g.I b → b < w.heap.size := fun b hb => (h.stays b hb).1
  have fin : ∀ {s : Sem Value} {r : Res}, RunOk P g w s r → r = some (c, v) → execOp a.eval o = (do pure (.value (← s))) → ∃ u w', (execOp a.eval o).run P w = .ok (.value u) w' ∧ Made g w w' u v := by
    intro s r hr he hex
    obtain ⟨u, w', h1, h2⟩ := hr c v he hc
    exact ⟨u, w', by rw [hex]; simp [h1], h2⟩
  obtain ⟨dst, op, ty, pos, aft, gd⟩ := o
  dsimp only at hq
  unfold quiet at hq
  split at hq
  · rename_i x
    simp [okR] at hq
    obtain ⟨rfl, rfl⟩ := hq
    exact ⟨a.eval x, w, rfl, .of (ev_rel h x)⟩
  · rename_i x y z
    exact fin (pickF_ok (P := P) (ev_rel h x) (ev_rel h y) (ev_rel h z)) hq (by simp [execOp])
  · rename_i t
    exact fin (allocF_ok t hI) hq rfl
  · rename_i t parts
    exact fin (buildF_ok h t parts) hq rfl
  · rename_i t n parts
    exact fin (buildSliceF_ok h t n parts) hq rfl
  · rename_i t x
    exact fin (loadF_ok h t (ev_rel h x)) hq rfl
  · rename_i x
    exact nilF_ok h _ x rfl hq
  · rename_i b t x y ty'
    exact fin (binF_ok h b t x y (ev_rel h x) (ev_rel h y)) hq rfl
  · rename_i u t x
    exact fin (unF_ok u (ev_rel h x)) hq rfl
  · rename_i s d x
    exact fin (convB_ok h s d (ev_rel h x)) hq rfl
  · rename_i t x
    exact fin (ifcF_ok t (ev_rel h x)) hq rfl
  · rename_i f first caps
    split at hq
    · rename_i hf
      simp [okR] at hq
      obtain ⟨rfl, rfl⟩ := hq
      obtain ⟨h1, h2⟩ := evs_rel h caps.toList
      refine ⟨.func (.func f) #[] ⟨caps.toList.map a.eval⟩, w, ?_, .of (.clo f _ _ (by simp [h1]) h2)⟩
      have hf' : first = #[] := Array.ext' (by simpa using hf)
      subst hf'
      have : caps.map a.eval = ⟨caps.toList.map a.eval⟩ := by apply Array.ext'; simp
      simp [execOp, Instr.makeFunc, this]
    · simp at hq
  · rename_i t
    exact fin (mapF_ok t hI) hq rfl
  · rename_i t x lo hi
    exact fin (sliceF_ok h t (ev_rel h x) lo hi) hq rfl
  · rename_i s x f
    exact fin (fieldAddrF_ok s f (ev_rel h x)) hq rfl
  · rename_i s x f
    exact fin (fieldF_ok s f (ev_rel h x)) hq rfl
  · rename_i t x i
    exact fin (indexAddrF_ok h t (ev_rel h x) (ev_rel h i)) hq rfl
  · rename_i t x i
    exact fin (indexF_ok t (ev_rel h x) (ev_rel h i)) hq rfl
  · rename_i t x i ok
    exact fin (lookupF_ok h t ok (ev_rel h x) (ev_rel h i)) hq rfl
  · rename_i x i
    exact fin (extractF_ok i (ev_rel h x)) hq rfl
  · rename_i cl
    obtain ⟨callee, args, argTypes⟩ := cl
    dsimp only at hq
    split at hq
    · split at hq
      · rename_i x t h1 h2
        have ha : args = #[x] := Array.ext' (by simpa using h1)
        have ht : argTypes = #[t] := Array.ext' (by simpa using h2)
        subst ha; subst ht
        exact fin (lenF_ok h t ty (ev_rel h x)) hq (by simp [execOp, resolve, invoke, builtin])
      · simp at hq
    · obtain ⟨h1, h2⟩ := evs_rel h args.toList
      refine fin (foldR_ok (f2 := Builtin.min2) (us := args.toList.map a.eval) (fun k a k' b => rfl) (by simp [h1]) h2 "min: at least one argument expected") hq ?_
      simp only [execOp, resolve, invoke, builtin, Builtin.min_, pure_bind, Array.toList_map]; cases args.toList <;> rfl
    · obtain ⟨h1, h2⟩ := evs_rel h args.toList
      refine fin (foldR_ok (f2 := Builtin.max2) (us := args.toList.map a.eval) (fun k a k' b => rfl) (by simp [h1]) h2 "max: at least one argument expected") hq ?_
      simp only [execOp, resolve, invoke, builtin, Builtin.max_, pure_bind, Array.toList_map]; cases args.toList <;> rfl
    · simp at hq
  · simp at hq

/-! a value comes into its slot -/
theorem Sat.push {cx : Cx} {g : G} {st : St} {a : Act} {w w' : World} {o : Obj} (h : Sat cx g st a w) (hw : w'.heap = w.heap.push o) (hsl : Still w w') : Sat cx g st a w' := by
  have hlt : ∀ b, b < w.heap.size → w'.heap[b]? = w.heap[b]? := fun b hb => by
    rw [hw, Array.getElem?_push]; split
    · omega
    · rfl
  refine h.step g st a w' (fun _ => False) rfl h.defers (fun u _ => ⟨.inl ⟨rfl, fun _ _ _ => rfl⟩, rfl⟩) (fun _ h => h.elim) (fun _ h => h.elim) (fun _ _ _ => rfl) (fun _ h => h)
    (fun b hb => hlt b (h.stays b hb).1) (fun u c b _ hc hb => ⟨hlt b (owns_lt h hc hb).1, (owns_lt h hc hb).2⟩) (fun _ _ _ _ h => h.elim) (fun _ _ _ h => h.elim)
    (fun b hb => ⟨by rw [hw]; simp; have := (h.stays b hb).1; omega, (h.stays b hb).2⟩)
    (by rw [hw]; simp; have := h.grows; omega) (fun b h1 h2 => (hlt b (by have := h.grows; omega)).trans (h.frame b h1 h2)) (fun _ h => h.elim) hsl

/-- the ghost has another value at a place -/
def G.set (g : G) (t : Nat) (c : Option Nat) (v : Value) : G := { g with val := fun t' c' => if t' = t ∧ c' = c then v else g.val t' c' }

theorem G.set_same (g : G) (t : Nat) (c : Option Nat) (v : Value) : (g.set t c v).val t c = v := by simp [G.set]
theorem G.set_other (g : G) {t t' : Nat} {c c' : Option Nat} (v : Value) (h : ¬ (t' = t ∧ c' = c)) : (g.set t c v).val t' c' = g.val t' c' := by simp [G.set, h]

theorem own_get (st : St) (t u : Nat) (v : AV) : St.own st t v u = if t = u then v else if (st u).says t then .d .und else st u := by
  unfold St.own; rw [get_upd, get_kill]

theorem Sat.newown {cx : Cx} {g : G} {st : St} {a : Act} {w w' : World} {o : Obj} (h : Sat cx g st a w) {t : Nat} (ht : t < cx.N) (hw : w'.heap = w.heap.push o) {u : Value} {v : AV} (hb : blockOf u = some w.heap.size)
    (hv : SlotR (g.set t none u) w' t u v) (ho : ∀ st' : St, st' t = v → ∀ j, ownsAt st' t (some j) = false) (hsl : Still w w') : Sat cx (g.set t none u) (St.own st t v) (a.put (some t) u) w' := by
  have hlt : ∀ b, b < w.heap.size → w'.heap[b]? = w.heap[b]? := fun b hb => by
    rw [hw, Array.getElem?_push]; split
    · omega
    · rfl
  have hgv : ∀ u' c, u' ≠ t → (g.set t none u).val u' c = g.val u' c := fun u' c hu => G.set_other g u (fun h => hu h.1)
  have hold : ∀ u' c, u' ≠ t → ownsAt (St.own st t v) u' c = true → ownsAt st u' c = true := fun u' c hu hc => by
    have hg := own_get st t u' v
    rw [if_neg (Ne.symm hu)] at hg
    split at hg
    · rw [ownsAt_plain (by rw [hg]; rfl)] at hc; simp at hc
    · rw [ownsAt_congr hg] at hc; exact hc
  have hself : St.own st t v t = v := by rw [own_get, if_pos rfl]
  have honly : ∀ c, ownsAt (St.own st t v) t c = true → c = none := fun c hc => by
    cases c with
    | none => rfl
    | some j => rw [ho _ hself j] at hc; simp at hc
  refine h.step _ _ _ _ (fun u' => u' = t) put_size (put_defers.trans h.defers) (fun u' hu => ⟨?_, put_getD_other hu⟩) (fun u' hu hN => ?_) (fun u' hu hN => ?_) (fun u' c hu => hgv u' c hu) (fun _ h => h)
    (fun b hb => hlt b (h.stays b hb).1) (fun u' c b hu hc hb => ⟨hlt b (owns_lt h hc hb).1, (owns_lt h hc hb).2⟩) (fun u' c u2 c2 hu hc hc2 hbb => ?_) (fun u' c b hu hc hb' => ?_)
    (fun b hb => ⟨by rw [hw]; simp; have := (h.stays b hb).1; omega, (h.stays b hb).2⟩) (by rw [hw]; simp; have := h.grows; omega)
    (fun b h1 h2 => (hlt b (by have := h.grows; omega)).trans (h.frame b h1 h2)) (fun u' hu hN => by subst hu; omega) hsl
  · have hg := own_get st t u' v
    rw [if_neg (Ne.symm hu)] at hg
    split at hg
    · exact .inr hg
    · rename_i hs
      exact .inl ⟨hg, fun t' c ht' => by
        by_cases he : t' = t
        · subst he; exact absurd ht' hs
        · exact hgv t' c he⟩
  · subst hu
    rw [hself, put_getD_same (by rw [h.size]; exact hN)]
    exact hv
  · subst hu; omega
  · subst hu
    have := honly c hc; subst this
    rw [G.set_same] at hbb
    by_cases hu2 : u2 = u'
    · subst hu2; exact ⟨rfl, (honly c2 hc2).symm⟩
    · rw [hgv u2 c2 hu2, hb] at hbb
      have := (owns_lt h (hold u2 c2 hu2 hc2) hbb.symm).1
      omega
  · subst hu
    have := honly c hc; subst this
    rw [G.set_same, hb] at hb'
    cases hb'
    exact .inl h.grows

theorem BoxR.noown {g g' : G} {w : World} {t t' : Nat} {cs : List AV} {u : Value} (h : BoxR g w t cs u) (hI : g'.I = g.I) (ho : ∀ (j : Nat) (x : AV), cs[j]? = some x → x.owns = false) : BoxR g' w t' cs u := by
  obtain ⟨b, o, c, e, h1, h2, h3, h4⟩ := h
  refine ⟨b, o, c, e, h1, by rw [hI]; exact h2, h3, fun j x hx => ?_⟩
  obtain ⟨u, hu, hr⟩ := h4 j x hx
  refine ⟨u, hu, ?_⟩
  have := ho j x hx
  cases x with
  | d x => show DRel g'.I w x u; rw [hI]; exact hr
  | own sz n get => simp [AV.owns] at this
  | imap k look => simp [AV.owns] at this
  | _ => exact hr.elim

theorem place_ok {cx : Cx} {g : G} {st : St} {a : Act} {w w' : World} (h : Sat cx g st a w) {dst : Option Nat} {u : Value} {v : AV} (hm : Made g w w' u v) {K : St → Prop} (hk : placeK cx.N st dst v K) :
    ∃ g' st', Sat cx g' st' (a.put dst u) w' ∧ K st' := by
  rw [placeK_eq] at hk
  unfold place0 at hk
  split at hk
  · -- no slot
    refine ⟨g, st, ?_, hk⟩
    rw [put_none]
    by_cases hp : v.plain = true
    · exact h.world ((Made_plain hp).1 hm).2.1 hm.1
    · cases v <;> first | (exfalso; exact hp rfl) | (obtain ⟨hsl, ⟨o, ho⟩, -⟩ := hm; exact h.push ho hsl)
  · rename_i t
    cases hb : Nat.blt t cx.N with
    | false => simp [hb] at hk
    | true =>
      have ht : t < cx.N := Nat.blt_eq.mp hb
      simp only [hb, cond_true] at hk
      have leaf : ∀ v : AV, v.owns = true → Made g w w' u v → K (St.own st t v) → ∃ g' st', Sat cx g' st' (a.put (some t) u) w' ∧ K st' := by
        intro v hv hm hk
        refine ⟨g.set t none u, St.own st t v, ?_, hk⟩
        cases v with
        | own sz n get =>
          obtain ⟨hsl, ⟨o, ho⟩, h1, h2⟩ := hm
          exact h.newown ht ho h1 ⟨by rw [G.set_same], h2⟩ (fun st' hs j => by simp [ownsAt, hs]) hsl
        | imap k look =>
          obtain ⟨hsl, ⟨o, ho⟩, h1, h2⟩ := hm
          exact h.newown ht ho h1 ⟨by rw [G.set_same], h2⟩ (fun st' hs j => by simp [ownsAt, hs]) hsl
        | _ => simp [AV.owns] at hv
      split at hk
      · exact leaf _ rfl hm hk
      · exact leaf _ rfl hm hk
      · rename_i cs
        obtain ⟨hsl, ⟨o, ho⟩, h1, h2, h3⟩ := hm
        refine ⟨g.set t none u, _, h.newown (v := .obox cs) ht ho h1 ⟨by rw [G.set_same], (h3 t).noown rfl h2⟩ (fun st' hs j => ?_) hsl, hk⟩
        simp only [ownsAt, hs]
        cases hj : cs[j]? with
        | none => rfl
        | some x => have := h2 j x hj; cases x <;> simp_all [AV.owns]
      · rename_i h1 h2 h3
        have hp : v.plain = true := by
          cases v <;> first | rfl | exact absurd rfl (h1 _ _ _) | exact absurd rfl (h2 _ _) | exact absurd rfl (h3 _)
        obtain ⟨h3', h4, h5⟩ := (Made_plain hp).1 hm
        exact ⟨g, _, (h.world h4 h3').put ht hp h5, hk⟩

end AM

/- AM: a slice stays as it is from now on. -/
namespace AM
open Go

theorem thawVs_get {t : Nat} {c : Option Nat} {sz n : Nat} {get : Nat → D} : ∀ (vs : List AV) (i : Nat), (thawVs t c sz n get vs)[i]? = (vs[i]?).map (thawV t c sz n get)
  | [], i => by simp [thawVs]
  | v :: r, 0 => by simp [thawVs]
  | v :: r, i + 1 => by simp [thawVs, thawVs_get r i]

theorem thawVs_len {t : Nat} {c : Option Nat} {sz n : Nat} {get : Nat → D} : ∀ (vs : List AV), (thawVs t c sz n get vs).length = vs.length
  | [] => rfl
  | v :: r => by simp [thawVs, thawVs_len r]

theorem ceq_eq {a b : Option Nat} (h : ceq a b = true) : a = b := by
  cases a <;> cases b <;> simp_all [ceq]

theorem thawV_rel {g g' : G} {w : World} {t : Nat} {c : Option Nat} {sz n : Nat} {get : Nat → D} (hI : ∀ b, g.I b → g'.I b) (hv : g'.val = g.val)
    (hd : DRel g'.I w (.dat sz n get) (g.val t c)) {x : AV} {v : Value} (h : ValR g w x v) : ValR g' w (thawV t c sz n get x) v := by
  have keep : ∀ {x : AV} {v : Value}, ValR g w x v → ValR g' w x v := fun h => h.mono hI (fun _ _ => rfl) (fun _ _ _ => by rw [hv])
  induction h with
  | d x v hx => exact keep (.d x v hx)
  | ref t' j b o hb => exact keep (.ref t' j b o hb)
  | eref t' c' sz' i j b o n' cap hb hi =>
    simp only [thawV]
    cases Nat.beq t' t && ceq c' c
    · exact keep (.eref t' c' sz' i j b o n' cap hb hi)
    · exact .d _ _ (.und _)
  | bor t' c' =>
    simp only [thawV]
    cases hb : Nat.beq t' t && ceq c' c
    · exact keep (.bor t' c')
    · simp at hb
      obtain ⟨h1, h2⟩ := hb
      have h2 := ceq_eq h2
      subst h1; subst h2
      exact .d _ _ hd
  | agg vs us hl _ ih =>
    refine .agg _ us (by rw [thawVs_len]; exact hl) fun i x u hx hu => ?_
    rw [thawVs_get, Option.map_eq_some_iff] at hx
    obtain ⟨y, hy, rfl⟩ := hx
    exact ih i y u hy hu
  | tup vs us hl _ ih =>
    refine .tup _ us (by rw [thawVs_len]; exact hl) fun i x u hx hu => ?_
    rw [thawVs_get, Option.map_eq_some_iff] at hx
    obtain ⟨y, hy, rfl⟩ := hx
    exact ih i y u hy hu
  | clo f vs us hl _ ih =>
    refine .clo f _ us (by rw [thawVs_len]; exact hl) fun i x u hx hu => ?_
    rw [thawVs_get, Option.map_eq_some_iff] at hx
    obtain ⟨y, hy, rfl⟩ := hx
    exact ih i y u hy hu

theorem ValR.plain {g : G} {w : World} {x : AV} {v : Value} (h : ValR g w x v) : x.plain = true := by cases h <;> rfl

theorem thawV_own {t : Nat} {c : Option Nat} {sz n : Nat} {get : Nat → D} {x : AV} (h : x.plain = false) : thawV t c sz n get x = x := by
  cases x <;> first | rfl | simp [AV.plain] at h

theorem thawV_plain {t : Nat} {c : Option Nat} {sz n : Nat} {get : Nat → D} {x : AV} (h : x.plain = true) : (thawV t c sz n get x).plain = true := by
  cases x with
  | eref u c' s i j => simp only [thawV]; cases (Nat.beq u t && ceq c' c) <;> rfl
  | bor u c' => simp only [thawV]; cases (Nat.beq u t && ceq c' c) <;> rfl
  | own _ _ _ => simp [AV.plain] at h
  | imap _ _ => simp [AV.plain] at h
  | obox _ => simp [AV.plain] at h
  | _ => rfl

/-- the same world, the same values at the places -/
theorem Sat.re {cx : Cx} {g : G} {st : St} {a : Act} {w : World} (h : Sat cx g st a w) (g' : G) (st' : St) (hv : g'.val = g.val) (hI : ∀ b, g.I b → g'.I b)
    (hs : ∀ u v, (u < cx.N → v = a.tmps.getD u undef) → (cx.N ≤ u → v = g.val u none) → SlotR g w u v (st u) → SlotR g' w u v (st' u)) (ho : ∀ u c, ownsAt st' u c = true → ownsAt st u c = true)
    (hst : ∀ b, g'.I b → b < w.heap.size ∧ (cx.I0 b ∨ cx.w0.heap.size ≤ b ∨ cx.L b)) : Sat cx g' st' a w := by
  refine ⟨h.size, h.defers, fun t ht => hs t _ (fun _ => rfl) (fun h => by omega) (h.slot t ht), fun t ht => ?_, fun t c t' c' h1 h2 hb => ?_, fun t c b h1 hb => ?_, hst, fun b hb => hI b (h.more b hb), h.grows, h.frame, fun t v ht hx => by rw [hv]; exact h.fixed t v ht hx, h.still⟩
  · rw [hv]; exact hs t _ (fun h => by omega) (fun _ => rfl) (h.extra t ht)
  · rw [hv] at hb; exact h.apart t c t' c' (ho t c h1) (ho t' c' h2) hb
  · rw [hv] at hb; exact h.home t c b (ho t c h1) hb

theorem OwnR.dat {I I' : Nat → Prop} {w : World} {sz n : Nat} {get : Nat → D} {v : Value} (h : OwnR I w sz n get v) (hI : ∀ b, I b → I' b) (hb : ∀ b, blockOf v = some b → I' b) :
    DRel I' w (.dat sz n get) v := by
  obtain ⟨b, o, cap, c, e, rfl, hn, hi, hc, ho, hl, h1, hd⟩ := h
  refine .dat sz n get b o cap c e (0, 0) (fun i j => (c[o + i * sz + j]?).getD undef) (hb b rfl) hc hn hl (fun i j hi hj => ?_) (fun i j hi hj => ?_) (fun i j d hi hj => ?_)
  · have : o + i * sz + j < c.size := by
      have : i * sz + sz ≤ cap * sz := by rw [← Nat.succ_mul]; exact Nat.mul_le_mul_right _ (by omega)
      omega
    simp [this]
  · obtain ⟨u, hu, hr⟩ := h1 i j hi hj
    rw [hu]; exact hr
  · obtain ⟨u, hu, hr⟩ := hd i j d hi hj
    rw [hu]; exact hr.mono hI (fun _ _ => rfl)

theorem Sat.freeze {cx : Cx} {g : G} {st : St} {a : Act} {w : World} (h : Sat cx g st a w) {t : Nat} {c : Option Nat} {sz n : Nat} {get : Nat → D} (hs : sliceAt st t c = some (sz, n, get)) :
    ∃ g' : G, g'.val = g.val ∧ (∀ b, g.I b → g'.I b) ∧ DRel g'.I w (.dat sz n get) (g.val t c) ∧ Sat cx g' (AM.freeze st t c sz n get) a w := by
  obtain ⟨hown, howns⟩ := sliceAt_own h hs
  have hown' := hown
  obtain ⟨b, o, cap, cc, e, hval, hn, hni, hc, ho, hl, -, hd⟩ := hown'
  have hblk : blockOf (g.val t c) = some b := by rw [hval]; rfl
  let g' : G := { I := fun b' => g.I b' ∨ b' = b, val := g.val }
  have hI : ∀ b', g.I b' → g'.I b' := fun b' h => .inl h
  have hdat : DRel g'.I w (.dat sz n get) (g.val t c) := hown.dat hI fun b' hb' => by rw [hblk] at hb'; simp at hb'; exact .inr hb'.symm
  have hblt : b < w.heap.size := (owns_lt h howns hblk).1
  -- owners elsewhere are not frozen
  have far : ∀ u c', ownsAt st u c' = true → ¬ (u = t ∧ c' = c) → ∀ b', blockOf (g.val u c') = some b' → ¬ g'.I b' := fun u c' hu hne b' hb' hh => by
    rcases hh with hh | hh
    · exact (owns_lt h hu hb').2 hh
    · subst hh
      exact hne (h.apart u c' t c hu howns (hb'.trans hblk.symm))
  have slot : ∀ u v, u ≠ t → SlotR g w u v (st u) → SlotR g' w u v (thawV t c sz n get (st u)) := fun u v hu hsl => by
    by_cases hp : (st u).plain = true
    · have h1 := thawV_rel (g' := g') hI rfl hdat ((SlotR_plain hp).1 hsl)
      exact (SlotR_plain h1.plain).2 h1
    · have he : thawV t c sz n get (st u) = st u := thawV_own (by simpa using hp)
      rw [he]
      exact hsl.gmono hI (fun _ _ => rfl) (fun _ _ _ => rfl) (fun _ _ => rfl) fun c' b' hc' hb' => ⟨rfl, far u c' hc' (fun h => hu h.1) b' hb'⟩
  refine ⟨g', rfl, hI, hdat, h.re g' _ rfl hI (fun u v h1 h2 hsl => ?_) (fun u c' hu => ?_) fun b' hb' => ?_⟩
  · unfold AM.freeze setAt
    cases c with
    | none =>
      dsimp only
      rw [get_upd]
      by_cases hu : t = u
      · subst hu
        rw [if_pos rfl]
        refine (SlotR_plain rfl).2 (.d _ _ ?_)
        simp only [sliceAt] at hs
        split at hs
        · rename_i hx
          rw [hx] at hsl
          rw [hsl.1]; exact hdat
        · simp at hs
      · rw [if_neg hu]; exact slot u v (Ne.symm hu) hsl
    | some j =>
      simp only [sliceAt] at hs
      split at hs
      · rename_i cs hx
        have hth : thaw t (some j) sz n get st t = .obox cs := by simp [thaw, hx, thawV]
        simp only [hth, get_upd]
        by_cases hu : t = u
        · subst hu
          rw [if_pos rfl]
          rw [hx] at hsl
          refine ⟨hsl.1, ?_⟩
          obtain ⟨b1, o1, c1, e1, h3, h4, h5, h6⟩ := hsl.2
          have hbt : blockOf (g.val t none) = some b1 := by rw [← hsl.1, h3]; rfl
          refine ⟨b1, o1, c1, e1, h3, far t none (by simp [ownsAt, hx]) (by simp) b1 hbt, h5, fun i x hi => ?_⟩
          rw [List.getElem?_set] at hi
          by_cases hji : j = i
          · subst hji
            rw [if_pos rfl] at hi
            split at hi
            · simp at hi; subst hi
              split at hs
              · rename_i hcj
                obtain ⟨u, hu, hr⟩ := h6 j _ hcj
                exact ⟨u, hu, by show DRel g'.I w _ u; rw [hr.1]; exact hdat⟩
              · simp at hs
            · simp at hi
          · rw [if_neg hji] at hi
            obtain ⟨u, hu, hr⟩ := h6 i x hi
            refine ⟨u, hu, hr.mono hI (fun _ _ => rfl) (fun _ => rfl) fun hxo b' hb' => ⟨rfl, far t (some i) ?_ (by simp; exact fun h => hji h.symm) b' hb'⟩⟩
            simp only [ownsAt, hx, hi]; cases x <;> simp_all [AV.owns]
        · rw [if_neg hu]; exact slot u v (Ne.symm hu) hsl
      · simp at hs
  · -- owners are owners
    have thawOwn : ∀ u c', u ≠ t → ownsAt (thaw t c sz n get st) u c' = true → ownsAt st u c' = true := fun u c' _ hh => by
      by_cases hp : (st u).plain = true
      · rw [ownsAt_plain (show (thawV t c sz n get (st u)).plain = true from thawV_plain hp)] at hh; simp at hh
      · rw [ownsAt_congr (st := st) (show thawV t c sz n get (st u) = st u from thawV_own (by simpa using hp))] at hh; exact hh
    unfold AM.freeze setAt at hu
    cases c with
    | none =>
      dsimp only at hu
      by_cases he : t = u
      · subst he; rw [ownsAt_plain (by rw [get_upd, if_pos rfl]; rfl)] at hu; simp at hu
      · rw [ownsAt_congr (st := thaw t none sz n get st) (by rw [get_upd, if_neg he])] at hu
        exact thawOwn u c' (Ne.symm he) hu
    | some j =>
      simp only [sliceAt] at hs
      split at hs
      · rename_i cs hx
        have hth : thaw t (some j) sz n get st t = .obox cs := by simp [thaw, hx, thawV]
        simp only [hth] at hu
        by_cases he : t = u
        · subst he
          cases c' with
          | none => simp [ownsAt, hx]
          | some i =>
            simp only [ownsAt, get_upd, if_true] at hu
            simp only [ownsAt, hx]
            rw [List.getElem?_set] at hu
            by_cases hji : j = i
            · subst hji
              rw [if_pos rfl] at hu
              split at hu <;> simp_all
            · rw [if_neg hji] at hu; exact hu
        · rw [ownsAt_congr (st := thaw t (some j) sz n get st) (by rw [get_upd, if_neg he])] at hu
          exact thawOwn u c' (Ne.symm he) hu
      · simp at hs
  · rcases hb' with hb' | rfl
    · exact h.stays b' hb'
    · refine ⟨hblt, .inr ?_⟩
      exact h.home t c b' howns hblk

theorem toData_ok {cx : Cx} {a : Act} {w : World} (st : St) (v : AV) : ∀ (g : G) (u : Value) (d : D) (st' : St), Sat cx g st a w → ValR g w v u → toData st v = some (d, st') →
    ∃ g' : G, g'.val = g.val ∧ (∀ b, g.I b → g'.I b) ∧ DRel g'.I w d u ∧ Sat cx g' st' a w := by
  refine toData.induct
    (motive_1 := fun st v => ∀ (g : G) (u : Value) (d : D) (st' : St), Sat cx g st a w → ValR g w v u → toData st v = some (d, st') →
      ∃ g' : G, g'.val = g.val ∧ (∀ b, g.I b → g'.I b) ∧ DRel g'.I w d u ∧ Sat cx g' st' a w)
    (motive_2 := fun st vs => ∀ (g : G) (us : List Value) (ds : List D) (st' : St), Sat cx g st a w → us.length = vs.length → (∀ (i : Nat) (x : AV) (u : Value), vs[i]? = some x → us[i]? = some u → ValR g w x u) → toDatas st vs = some (ds, st') →
      ∃ g' : G, g'.val = g.val ∧ (∀ b, g.I b → g'.I b) ∧ ds.length = us.length ∧ (∀ (i : Nat) (d : D) (u : Value), ds[i]? = some d → us[i]? = some u → DRel g'.I w d u) ∧ Sat cx g' st' a w)
    ?_ ?_ ?_ ?_ ?_ ?_ ?_ ?_ ?_ ?_ ?_ ?_ st v
  · intro st x g u d st' h hv hd
    simp [toData] at hd
    obtain ⟨rfl, rfl⟩ := hd
    cases hv with
    | d _ _ hv => exact ⟨g, rfl, fun _ h => h, hv, h⟩
  · intro st t c sz n get hs g u d st' h hv hd
    simp [toData, hs] at hd
    obtain ⟨rfl, rfl⟩ := hd
    cases hv
    obtain ⟨g', h1, h2, h3, h4⟩ := h.freeze hs
    exact ⟨g', h1, h2, h3, h4⟩
  · intro st t c hs g u d st' h hv hd
    simp [toData, hs] at hd
  · intro st vs ds st' hds ih g u d st'' h hv hd
    simp [toData, hds] at hd
    obtain ⟨rfl, rfl⟩ := hd
    cases hv with
    | agg _ us hl hr =>
      obtain ⟨g', h1, h2, h3, h4, h5⟩ := ih g us ds st' h hl hr hds
      exact ⟨g', h1, h2, .agg _ _ h3.symm h4, h5⟩
  · intro st vs hds ih g u d st'' h hv hd
    simp [toData, hds] at hd
  · intro st vs ds st' hds ih g u d st'' h hv hd
    simp [toData, hds] at hd
    obtain ⟨rfl, rfl⟩ := hd
    cases hv with
    | tup _ us hl hr =>
      obtain ⟨g', h1, h2, h3, h4, h5⟩ := ih g us ds st' h hl hr hds
      exact ⟨g', h1, h2, .tup _ _ h3.symm h4, h5⟩
  · intro st vs hds ih g u d st'' h hv hd
    simp [toData, hds] at hd
  · intro t st h1 h2 h3 h4 g u d st' h hv hd
    exfalso
    unfold toData at hd
    split at hd
    · exact h1 _ rfl
    · exact h2 _ _ rfl
    · exact h3 _ rfl
    · exact h4 _ rfl
    · simp at hd
  · intro st g us ds st' h hl hr hd
    simp [toDatas] at hd
    obtain ⟨rfl, rfl⟩ := hd
    have : us = [] := List.length_eq_zero_iff.mp hl
    subst this
    exact ⟨g, rfl, fun _ h => h, rfl, fun i d u hi => by simp at hi, h⟩
  · intro st v r d st1 hd1 ds st2 hds ih1 ih2 g us ds' st' h hl hr hd
    simp [toDatas, hd1, hds] at hd
    obtain ⟨rfl, rfl⟩ := hd
    cases us with
    | nil => simp at hl
    | cons u us =>
      obtain ⟨g1, h1, h2, h3, h4⟩ := ih1 g u d st1 h (hr 0 v u rfl rfl) hd1
      obtain ⟨g2, h5, h6, h7, h8, h9⟩ := ih2 g1 us ds st2 h4 (by simpa using hl) (fun i x u hx hu => (hr (i + 1) x u (by simpa using hx) (by simpa using hu)).mono h2 (fun _ _ => rfl) (fun _ _ _ => by rw [h1])) hds
      refine ⟨g2, h5.trans h1, fun b hb => h6 b (h2 b hb), by simp [h7], fun i d' u' hi hu => ?_, h9⟩
      cases i with
      | zero => simp at hi hu; subst hi; subst hu; exact h3.mono h6 fun _ _ => rfl
      | succ i => simp at hi hu; exact h8 i d' u' hi hu
  · intro st v r d st1 hd1 hds ih1 ih2 g us ds' st' h hl hr hd
    simp [toDatas, hd1, hds] at hd
  · intro st v r hd1 ih1 g us ds' st' h hl hr hd
    simp [toDatas, hd1] at hd

end AM

/- AM: stores: what they do to the state. -/
namespace AM
open Go

/-! cells in memory -/
theorem setCell_heap {w : World} {b o : Nat} {c : Array Value} {e : TypeId} {fr : Nat × Nat} {v : Value} (h : w.heap[b]? = some (.cells c e fr)) :
    (w.setCell ⟨b, o, none⟩ v).heap[b]? = some (.cells (c.setIfInBounds o v) e fr) ∧ (w.setCell ⟨b, o, none⟩ v).heap.size = w.heap.size ∧
      ∀ b', b' ≠ b → (w.setCell ⟨b, o, none⟩ v).heap[b']? = w.heap[b']? := by
  refine ⟨?_, by simp [World.setCell], fun b' hb => ?_⟩
  · simp [World.setCell, Array.getElem?_modify, h]
  · simp [World.setCell, Array.getElem?_modify, Ne.symm hb]

theorem run_storeCells {P : Program} {b o : Nat} {e : TypeId} : ∀ (vs : List Value) (i : Nat) (w : World) (c : Array Value), w.heap[b]? = some (.cells c e (0, 0)) → o + i + vs.length ≤ c.size →
    (∀ v ∈ vs, v.oneCell' = true) → ∃ (w' : World) (c' : Array Value), (storeCells ⟨b, o, none⟩ vs i).run P w = .ok () w' ∧ w'.heap[b]? = some (.cells c' e (0, 0)) ∧ w'.heap.size = w.heap.size ∧
      (∀ b', b' ≠ b → w'.heap[b']? = w.heap[b']?) ∧ c'.size = c.size ∧ Still w w' ∧ ∀ m, c'[m]? = if o + i ≤ m ∧ m < o + i + vs.length then vs[m - (o + i)]? else c[m]?
  | [], i, w, c, h, hl, hv => ⟨w, c, by simp [storeCells], h, rfl, fun _ _ => rfl, rfl, Still.refl _, fun m => by rw [if_neg (by simp)]⟩
  | v :: r, i, w, c, h, hl, hv => by
    have hlt : o + i < c.size := by simp at hl; omega
    obtain ⟨h1, h2, h3⟩ := setCell_heap (o := o + i) (v := v) h
    obtain ⟨w', c', h4, h5, h6, h7, h8, hsl, h9⟩ := run_storeCells (P := P) (o := o) r (i + 1) (w.setCell ⟨b, o + i, none⟩ v) _ h1 (by simp at hl ⊢; omega) (fun v hv' => hv v (List.mem_cons_of_mem _ hv'))
    refine ⟨w', c', ?_, h5, h6.trans h2, fun b' hb => (h7 b' hb).trans (h3 b' hb), by simpa using h8, Still.trans ⟨rfl, rfl, rfl⟩ hsl, fun m => ?_⟩
    · simp only [storeCells, Sem.run_bind, add_none]
      rw [run_store P w ⟨b, o + i, none⟩ v .plain (hv v (List.mem_cons_self ..))]
      have hc : w.cell? ⟨b, o + i, none⟩ = some c[o + i] := by rw [cell_of_block h]; simp [hlt]
      have hf : w.frozen? ⟨b, o + i, none⟩ = false := by simp [World.frozen?, h]
      simp only [hc, hf, Bool.false_eq_true, if_false, Result.andThen_ok]
      exact h4
    · rw [h9 m]
      by_cases hm : o + i = m
      · subst hm
        rw [if_neg (by omega), if_pos (by simp)]
        simp [hlt]
      · by_cases hm2 : o + (i + 1) ≤ m ∧ m < o + (i + 1) + r.length
        · rw [if_pos hm2, if_pos (by simp; omega)]
          rw [show m - (o + i) = (m - (o + (i + 1))) + 1 by omega]
          simp
        · rw [if_neg hm2, if_neg (by simp; omega), Array.getElem?_setIfInBounds_ne hm]

/-- a value into memory -/
theorem run_storeVar {P : Program} {I : Nat → Prop} {w : World} {t : TypeId} {b o j : Nat} {e : TypeId} {c : Array Value} {d : D} {v : Value} (hc : w.heap[b]? = some (.cells c e (0, 0))) (hd : DRel I w d v)
    (hsz : szIs P t d.cells.length = true) (hone : allOne d.cells = true) (hl : o + j + d.cells.length ≤ c.size) :
    ∃ (w' : World) (c' : Array Value), (storeVar t ⟨b, o + j, none⟩ v).run P w = .ok () w' ∧ w'.heap[b]? = some (.cells c' e (0, 0)) ∧ w'.heap.size = w.heap.size ∧
      (∀ b', b' ≠ b → w'.heap[b']? = w.heap[b']?) ∧ c'.size = c.size ∧ Still w w' ∧
      ∀ m, (m < d.cells.length → ∃ x u, d.cells[m]? = some x ∧ c'[o + (j + m)]? = some u ∧ DRel I w x u) ∧ (¬ (o + j ≤ m ∧ m < o + j + d.cells.length) → c'[m]? = c[m]?) := by
  have hg : d.good = true := by cases d <;> simp_all [D.good, D.one, D.cells, allOne]
  obtain ⟨h1, h2⟩ := cells_rel hd hg
  have hv1 : ∀ u ∈ v.cells.toList, u.oneCell' = true := fun u hu => by
    obtain ⟨i, hi, rfl⟩ := List.getElem_of_mem hu
    have hi' : i < d.cells.length := by omega
    exact one_cell (h2 i d.cells[i] _ (by simp [hi']) (by simp)) (allOne_mem _ hone _ (by simp))
  obtain ⟨w', c', h3, h4, h5, h6, h7, hsl, h8⟩ := run_storeCells (P := P) (o := o + j) v.cells.toList 0 w c hc (by rw [h1]; omega) hv1
  refine ⟨w', c', ?_, h4, h5, h6, h7, hsl, fun m => ⟨fun hm => ?_, fun hm => ?_⟩⟩
  · unfold szIs at hsz
    split at hsz
    · rename_i k hk
      have hk' := Nat.eq_of_beq_eq_true hsz
      have : v.cells.size = k := by rw [← hk', ← h1]; simp
      simp only [storeVar, Sem.run_bind, run_sizeOf hk, Result.andThen_ok]
      rw [if_neg (by simp [this])]
      exact h3
    · simp at hsz
  · have := h8 (o + (j + m))
    rw [if_pos (by rw [h1]; omega)] at this
    have hm' : m < v.cells.toList.length := by omega
    refine ⟨d.cells[m], v.cells.toList[m], by simp [hm], ?_, h2 m _ _ (by simp [hm]) (by simp [hm'])⟩
    rw [this, show o + (j + m) - (o + j + 0) = m by omega]
    simp
  · rw [h8 m, if_neg (by rw [h1]; omega)]

theorem setD_get : ∀ (ds : List D) (cs : List AV) (j m : Nat), (setD cs j ds)[m]? = if j ≤ m ∧ m < j + ds.length ∧ m < cs.length then (ds[m - j]?).map AV.d else cs[m]?
  | [], cs, j, m => by simp only [setD]; rw [if_neg (by simp; omega)]
  | d :: ds, cs, j, m => by
    simp only [setD]
    rw [setD_get ds _ (j + 1) m]
    simp only [List.length_set, List.getElem?_set]
    by_cases hj : j = m
    · subst hj
      rw [if_neg (by omega)]
      by_cases hl : j < cs.length
      · simp [hl]
      · simp [hl]
    · by_cases h2 : j + 1 ≤ m ∧ m < j + 1 + ds.length ∧ m < cs.length
      · rw [if_pos h2, if_pos (by simp; omega), show m - j = (m - (j + 1)) + 1 by omega]; simp
      · rw [if_neg h2, if_neg hj, if_neg (by simp; omega)]

theorem setD_len : ∀ (ds : List D) (cs : List AV) (j : Nat), (setD cs j ds).length = cs.length
  | [], _, _ => rfl
  | d :: ds, cs, j => by simp [setD, setD_len ds]

/-- a box whose cells have turned -/
theorem Sat.boxset {cx : Cx} {g : G} {st : St} {a : Act} {w w' : World} (h : Sat cx g st a w) {t b o : Nat} {cs cs' : List AV} {c c' : Array Value} {e : TypeId} (hs : st t = .obox cs)
    (hb : g.val t none = .pointer (some ⟨b, o, none⟩)) (hc : w.heap[b]? = some (.cells c e (0, 0))) (hw : w'.heap[b]? = some (.cells c' e (0, 0))) (hsz : w'.heap.size = w.heap.size)
    (hoth : ∀ b', b' ≠ b → w'.heap[b']? = w.heap[b']?)
    (hcs : ∀ (m : Nat) (x : AV), cs'[m]? = some x → ∃ u, c'[o + m]? = some u ∧ ((∃ d, x = .d d ∧ DRel g.I w d u) ∨ (cs[m]? = some x ∧ c[o + m]? = some u))) (hsl : Still w w') :
    Sat cx g (upd t (.obox cs') st) a w' := by
  have hbb : blockOf (g.val t none) = some b := by rw [hb]; rfl
  have hot : ownsAt st t none = true := by simp [ownsAt, hs]
  have hni : ¬ g.I b := (owns_lt h hot hbb).2
  have hIw : ∀ b', g.I b' → w'.heap[b']? = w.heap[b']? := fun b' hb' => hoth b' fun he => hni (he ▸ hb')
  have hne : ∀ u c2 b', ownsAt st u c2 = true → ¬ (u = t ∧ c2 = none) → blockOf (g.val u c2) = some b' → b' ≠ b := fun u c2 b' hu hn hb' he => by
    subst he; exact hn (h.apart u c2 t none hu hot (hb'.trans hbb.symm))
  have hown : ∀ u c2, ownsAt (upd t (.obox cs') st) u c2 = true → ownsAt st u c2 = true := fun u c2 hu => by
    by_cases he : t = u
    · subst he
      cases c2 with
      | none => exact hot
      | some j =>
        simp only [ownsAt, get_upd, if_true] at hu
        cases hj : cs'[j]? with
        | none => simp [hj] at hu
        | some x =>
          obtain ⟨u, -, h1⟩ := hcs j x hj
          rcases h1 with ⟨d, rfl, -⟩ | ⟨h1, -⟩
          · simp [hj] at hu
          · simp only [ownsAt, hs, h1]; rw [hj] at hu; exact hu
    · rw [ownsAt_congr (st := st) (by rw [get_upd, if_neg he])] at hu; exact hu
  have hslot : ∀ v, SlotR g w t v (st t) → SlotR g w' t v (.obox cs') := fun v hv => by
    rw [hs] at hv
    refine ⟨hv.1, b, o, c', e, hv.1.trans hb, hni, hw, fun m x hm => ?_⟩
    obtain ⟨u, hu, h1⟩ := hcs m x hm
    refine ⟨u, hu, ?_⟩
    rcases h1 with ⟨d, rfl, hd⟩ | ⟨h1, h2⟩
    · exact hd.world hIw
    · obtain ⟨b1, o1, c1, e1, h3, h4, h5, h6⟩ := hv.2
      rw [hv.1, hb] at h3; cases h3
      rw [hc] at h5; cases h5
      obtain ⟨u', hu', hr⟩ := h6 m x h1
      rw [h2] at hu'; cases hu'
      refine hr.mono (fun _ h => h) hIw (fun _ => rfl) fun hxo b' hb' => ?_
      have ho : ownsAt st t (some m) = true := by simp only [ownsAt, hs, h1]; cases x <;> simp_all [AV.owns]
      exact ⟨hoth b' (hne t (some m) b' ho (by simp) hb'), (owns_lt h ho hb').2⟩
  have hlt : b < w.heap.size := (owns_lt h hot hbb).1
  refine h.step g _ a w' (fun u => u = t) rfl h.defers (fun u hu => ⟨.inl ⟨by rw [get_upd, if_neg (Ne.symm hu)], fun _ _ _ => rfl⟩, rfl⟩) (fun u hu hN => ?_) (fun u hu hN => ?_) (fun _ _ _ => rfl) (fun _ h => h)
    hIw (fun u c2 b' hu hc2 hb' => ⟨hoth b' (hne u c2 b' hc2 (fun he => hu he.1) hb'), (owns_lt h hc2 hb').2⟩) (fun u c2 u2 c3 hu h1 h2 hbb' => h.apart u c2 u2 c3 (hown u c2 h1) (hown u2 c3 h2) hbb')
    (fun u c2 b' hu h1 hb' => h.home u c2 b' (hown u c2 h1) hb') (fun b' hb' => by rw [hsz]; exact h.stays b' hb') (by rw [hsz]; exact h.grows) (fun b' h1 h2 => ?_) (fun _ _ _ => rfl) hsl
  · subst hu; rw [get_upd, if_pos rfl]; exact hslot _ (h.slot u hN)
  · subst hu; rw [get_upd, if_pos rfl]; exact hslot _ (h.extra u hN)
  · rw [hoth b' fun he => ?_]
    · exact h.frame b' h1 h2
    · subst he
      rcases h.home t none b' hot hbb with h3 | h3
      · omega
      · exact h2 h3

/-- an owner at a place -/
def leafAt (st : St) (t : Nat) : Option Nat → Option AV
  | none => match st t with
    | .own sz n get => some (.own sz n get)
    | .imap k look => some (.imap k look)
    | _ => none
  | some j => match st t with
    | .obox cs => match cs[j]? with
      | some (.own sz n get) => some (.own sz n get)
      | some (.imap k look) => some (.imap k look)
      | _ => none
    | _ => none

theorem leafAt_slice {st : St} {t : Nat} {c : Option Nat} {sz n : Nat} {get : Nat → D} (h : sliceAt st t c = some (sz, n, get)) : leafAt st t c = some (.own sz n get) := by
  cases c with
  | none =>
    simp only [sliceAt] at h; simp only [leafAt]
    generalize st t = x at h
    cases x <;> simp_all
  | some j =>
    simp only [sliceAt] at h; simp only [leafAt]
    generalize st t = x at h
    cases x <;> try (simp at h; done)
    rename_i cs
    dsimp only at h ⊢
    generalize cs[j]? = y at h
    cases y with
    | none => simp at h
    | some y => cases y <;> simp_all

theorem leafAt_map {st : St} {t : Nat} {c : Option Nat} {k : IntKind} {look : Int → Option D} (h : mapAt st t c = some (k, look)) : leafAt st t c = some (.imap k look) := by
  cases c with
  | none =>
    simp only [mapAt] at h; simp only [leafAt]
    generalize st t = x at h
    cases x <;> simp_all
  | some j =>
    simp only [mapAt] at h; simp only [leafAt]
    generalize st t = x at h
    cases x <;> try (simp at h; done)
    rename_i cs
    dsimp only at h ⊢
    generalize cs[j]? = y at h
    cases y with
    | none => simp at h
    | some y => cases y <;> simp_all

theorem leafAt_cases {st : St} {t : Nat} {c : Option Nat} {x : AV} (h : leafAt st t c = some x) :
    (c = none ∧ st t = x ∧ x.owns = true) ∨ ∃ j cs, c = some j ∧ st t = .obox cs ∧ cs[j]? = some x ∧ x.owns = true := by
  cases c with
  | none =>
    simp only [leafAt] at h
    left
    generalize st t = y at h
    cases y <;> simp_all [AV.owns] <;> (subst h; simp)
  | some j =>
    simp only [leafAt] at h
    right
    generalize hy : st t = y at h
    cases y <;> try (simp at h; done)
    rename_i cs
    dsimp only at h
    refine ⟨j, cs, rfl, rfl, ?_⟩
    generalize cs[j]? = z at h
    cases z with
    | none => simp at h
    | some z => cases z <;> simp_all [AV.owns] <;> (subst h; simp)

theorem leafAt_owns {st : St} {t : Nat} {c : Option Nat} {x : AV} (h : leafAt st t c = some x) : ownsAt st t c = true := by
  rcases leafAt_cases h with ⟨rfl, h1, h2⟩ | ⟨j, cs, rfl, h1, h2, h3⟩
  · simp only [ownsAt, h1]; cases x <;> simp_all [AV.owns]
  · simp only [ownsAt, h1, h2]; cases x <;> simp_all [AV.owns]

/-- an owner's content has turned, or it owns no more -/
theorem Sat.leafset {cx : Cx} {g : G} {st : St} {a : Act} {w w' : World} (h : Sat cx g st a w) {t b : Nat} {c : Option Nat} {x x' : AV} (hs : leafAt st t c = some x)
    (hb : blockOf (g.val t c) = some b) (hsz : w.heap.size ≤ w'.heap.size) (hoth : ∀ b', b' < w.heap.size → b' ≠ b → w'.heap[b']? = w.heap[b']?)
    (hx : LeafR g.I w' (g.val t c) x' ∨ x' = .d .und) (hsl : Still w w') : Sat cx g (setAt st t c x') a w' := by
  have hot : ownsAt st t c = true := leafAt_owns hs
  obtain ⟨hlt, hni⟩ := owns_lt h hot hb
  have hIw : ∀ b', g.I b' → w'.heap[b']? = w.heap[b']? := fun b' hb' => hoth b' (h.stays b' hb').1 fun he => hni (he ▸ hb')
  have hne : ∀ u c2 b', ownsAt st u c2 = true → ¬ (u = t ∧ c2 = c) → blockOf (g.val u c2) = some b' → b' < w.heap.size ∧ b' ≠ b := fun u c2 b' hu hn hb' =>
    ⟨(owns_lt h hu hb').1, fun he => by subst he; exact hn (h.apart u c2 t c hu hot (hb'.trans hb.symm))⟩
  have hsame : ∀ u c2 b', ownsAt st u c2 = true → ¬ (u = t ∧ c2 = c) → blockOf (g.val u c2) = some b' → w'.heap[b']? = w.heap[b']? ∧ ¬ g.I b' := fun u c2 b' hu hn hb' =>
    ⟨hoth b' (hne u c2 b' hu hn hb').1 (hne u c2 b' hu hn hb').2, (owns_lt h hu hb').2⟩
  have hframe : ∀ b', b' < cx.w0.heap.size → ¬ cx.L b' → w'.heap[b']? = cx.w0.heap[b']? := fun b' h1 h2 => by
    rw [hoth b' (by have := h.grows; omega) fun he => ?_]
    · exact h.frame b' h1 h2
    · subst he
      rcases h.home t c b' hot hb with h3 | h3
      · omega
      · exact h2 h3
  have hx'o : x'.owns = true ∨ x' = .d .und := by
    rcases hx with hx | hx
    · left; cases x' <;> first | rfl | exact hx.elim
    · exact .inr hx
  -- what it has at the place
  have key : ∀ u, (setAt st t c x') u = st u ∨ u = t := fun u => by
    unfold setAt
    by_cases he : t = u
    · exact .inr he.symm
    · left
      cases c with
      | none => simp only []; rw [get_upd, if_neg he]
      | some j => dsimp only; cases st t <;> first | rfl | exact (get_upd ..).trans (if_neg he)
  have hslot : ∀ v, (c = none → v = g.val t none) → SlotR g w t v (st t) → SlotR g w' t v (setAt st t c x' t) := fun v hvc hv => by
    rcases leafAt_cases hs with ⟨rfl, h1, h2⟩ | ⟨j, cs, rfl, h1, h2, h3⟩
    · simp only [setAt]; rw [get_upd, if_pos rfl]
      rcases hx with hx | rfl
      · have := hvc rfl
        subst this
        cases x' <;> first | exact ⟨rfl, hx⟩ | exact hx.elim
      · exact SlotR.und
    · simp only [setAt, h1]; rw [get_upd, if_pos rfl]
      rw [h1] at hv
      obtain ⟨hv1, b1, o1, c1, e1, h4, h5, h6, h7⟩ := hv
      have hot1 : ownsAt st t none = true := by simp [ownsAt, h1]
      have hb1 : blockOf (g.val t none) = some b1 := by rw [← hv1, h4]; rfl
      obtain ⟨h8, h9⟩ := hsame t none b1 hot1 (by simp) hb1
      refine ⟨hv1, b1, o1, c1, e1, h4, h5, h8.trans h6, fun m y hm => ?_⟩
      rw [List.getElem?_set] at hm
      by_cases hjm : j = m
      · subst hjm
        rw [if_pos rfl] at hm
        split at hm
        · simp at hm; subst hm
          obtain ⟨u, hu, hr⟩ := h7 j x h2
          refine ⟨u, hu, ?_⟩
          rcases hx with hx | rfl
          · have huv : u = g.val t (some j) := by cases x <;> first | exact hr.1 | simp [AV.owns] at h3
            cases x' <;> first | exact ⟨huv, huv ▸ hx⟩ | exact hx.elim
          · exact DRel.und u
        · simp at hm
      · rw [if_neg hjm] at hm
        obtain ⟨u, hu, hr⟩ := h7 m y hm
        refine ⟨u, hu, hr.mono (fun _ h => h) hIw (fun _ => rfl) fun hyo b' hb' => ?_⟩
        have ho : ownsAt st t (some m) = true := by simp only [ownsAt, h1, hm]; cases y <;> simp_all [AV.owns]
        exact hsame t (some m) b' ho (by simp; exact fun h => hjm h.symm) hb'
  have hown : ∀ u c2, ownsAt (setAt st t c x') u c2 = true → ownsAt st u c2 = true := fun u c2 hu => by
    rcases key u with hk | hk
    · rw [ownsAt_congr hk] at hu; exact hu
    · subst hk
      rcases leafAt_cases hs with ⟨rfl, h1, h2⟩ | ⟨j, cs, rfl, h1, h2, h3⟩
      · have hg : setAt st u none x' u = x' := by simp only [setAt]; rw [get_upd, if_pos rfl]
        rcases hx'o with ho | rfl
        · cases c2 with
          | none => exact hot
          | some i => simp only [ownsAt, hg] at hu; cases x' <;> simp_all [AV.owns]
        · rw [ownsAt_plain (by rw [hg]; rfl)] at hu; simp at hu
      · have hg : setAt st u (some j) x' u = .obox (cs.set j x') := by simp only [setAt, h1]; rw [get_upd, if_pos rfl]
        cases c2 with
        | none => simp [ownsAt, h1]
        | some i =>
          simp only [ownsAt, hg] at hu
          simp only [ownsAt, h1]
          rw [List.getElem?_set] at hu
          by_cases hji : j = i
          · subst hji
            rw [h2]; cases x <;> simp_all [AV.owns]
          · rw [if_neg hji] at hu; exact hu
  refine h.step g _ a w' (fun u => u = t) rfl h.defers (fun u hu => ⟨.inl ⟨(key u).resolve_right hu, fun _ _ _ => rfl⟩, rfl⟩) (fun u hu hN => ?_) (fun u hu hN => ?_) (fun _ _ _ => rfl) (fun _ h => h)
    hIw (fun u c2 b' hu hc2 hb' => hsame u c2 b' hc2 (fun he => hu he.1) hb') (fun u c2 u2 c3 hu h1 h2 hbb' => h.apart u c2 u2 c3 (hown u c2 h1) (hown u2 c3 h2) hbb')
    (fun u c2 b' hu h1 hb' => h.home u c2 b' (hown u c2 h1) hb') (fun b' hb' => ⟨by have := (h.stays b' hb').1; omega, (h.stays b' hb').2⟩) (by have := h.grows; omega) hframe (fun _ _ _ => rfl) hsl
  · subst hu
    refine hslot _ (fun hc => ?_) (h.slot u hN)
    subst hc
    rcases leafAt_cases hs with ⟨-, h1, h2⟩ | ⟨j, cs, h0, -⟩
    · have := h.slot u hN
      rw [h1] at this
      cases x <;> first | exact this.1 | simp [AV.owns] at h2
    · simp at h0
  · subst hu; exact hslot _ (fun _ => rfl) (h.extra u hN)

/-- a new owner, in a block that nobody owns -/
theorem Sat.newfree {cx : Cx} {g : G} {st : St} {a : Act} {w w' : World} (h : Sat cx g st a w) {t b : Nat} (ht : t < cx.N) (hsz : w.heap.size ≤ w'.heap.size) (hoth : ∀ b', b' < w.heap.size → b' ≠ b → w'.heap[b']? = w.heap[b']?)
    {u : Value} {v : AV} (hb : blockOf u = some b) (hni : ¬ g.I b) (hfree : ∀ u' c, ownsAt st u' c = true → blockOf (g.val u' c) ≠ some b) (hhome : cx.w0.heap.size ≤ b ∨ cx.L b)
    (hv : v.owns = true) (hr : LeafR g.I w' u v) (hsl : Still w w') : Sat cx (g.set t none u) (St.own st t v) (a.put (some t) u) w' := by
  have hgv : ∀ u' c, u' ≠ t → (g.set t none u).val u' c = g.val u' c := fun u' c hu => G.set_other g u (fun h => hu h.1)
  have hIw : ∀ b', g.I b' → w'.heap[b']? = w.heap[b']? := fun b' hb' => hoth b' (h.stays b' hb').1 fun he => hni (he ▸ hb')
  have hold : ∀ u' c, u' ≠ t → ownsAt (St.own st t v) u' c = true → ownsAt st u' c = true := fun u' c hu hc => by
    have hg := own_get st t u' v
    rw [if_neg (Ne.symm hu)] at hg
    split at hg
    · rw [ownsAt_plain (by rw [hg]; rfl)] at hc; simp at hc
    · rw [ownsAt_congr hg] at hc; exact hc
  have hself : St.own st t v t = v := by rw [own_get, if_pos rfl]
  have honly : ∀ c, ownsAt (St.own st t v) t c = true → c = none := fun c hc => by
    cases c with
    | none => rfl
    | some j => simp only [ownsAt, hself] at hc; cases v <;> simp_all [AV.owns]
  refine h.step _ _ _ _ (fun u' => u' = t) put_size (put_defers.trans h.defers) (fun u' hu => ⟨?_, put_getD_other hu⟩) (fun u' hu hN => ?_) (fun u' hu hN => ?_) (fun u' c hu => hgv u' c hu) (fun _ h => h)
    hIw (fun u' c b' hu hc hb' => ⟨hoth b' (owns_lt h hc hb').1 (fun he => hfree u' c hc (he ▸ hb')), (owns_lt h hc hb').2⟩) (fun u' c u2 c2 hu hc hc2 hbb => ?_) (fun u' c b' hu hc hb' => ?_)
    (fun b' hb' => ⟨by have := (h.stays b' hb').1; omega, (h.stays b' hb').2⟩) (by have := h.grows; omega) (fun b' h1 h2 => ?_) (fun u' hu hN => by subst hu; omega) hsl
  · have hg := own_get st t u' v
    rw [if_neg (Ne.symm hu)] at hg
    split at hg
    · exact .inr hg
    · rename_i hs
      exact .inl ⟨hg, fun t' c ht' => by
        by_cases he : t' = t
        · subst he; exact absurd ht' hs
        · exact hgv t' c he⟩
  · subst hu
    rw [hself, put_getD_same (by rw [h.size]; exact hN)]
    cases v <;> first | exact ⟨(G.set_same ..).symm, hr⟩ | simp [AV.owns] at hv
  · subst hu; omega
  · subst hu
    have := honly c hc; subst this
    rw [G.set_same] at hbb
    by_cases hu2 : u2 = u'
    · subst hu2; exact ⟨rfl, (honly c2 hc2).symm⟩
    · rw [hgv u2 c2 hu2, hb] at hbb
      exact absurd hbb.symm (hfree u2 c2 (hold u2 c2 hu2 hc2))
  · subst hu
    have := honly c hc; subst this
    rw [G.set_same, hb] at hb'
    cases hb'
    exact hhome
  · rw [hoth b' (by have := h.grows; omega) fun he => ?_]
    · exact h.frame b' h1 h2
    · subst he
      rcases hhome with h3 | h3
      · omega
      · exact h2 h3

end AM

/- AM: an owner moves. -/
namespace AM
open Go

theorem get_killAt (t j u : Nat) (st : St) : killAt t j st u = if (st u).saysAt t j then .d .und else st u := by
  unfold killAt; cases (st u).saysAt t j <;> rfl

theorem ceq_self (c : Option Nat) : ceq c c = true := by cases c <;> simp [ceq]

theorem saysAnyAt_get {t j : Nat} : ∀ {vs : List AV} {i : Nat} {x : AV}, vs[i]? = some x → x.saysAt t j = true → saysAnyAt t j vs = true
  | [], _, _, h, _ => by simp at h
  | v :: r, 0, x, h, hx => by simp at h; subst h; simp [saysAnyAt, hx]
  | v :: r, i + 1, x, h, hx => by simp at h; simp [saysAnyAt, saysAnyAt_get (vs := r) h hx]

/-- a value that does not speak of what lies in a cell -/
theorem ValR.monoAt {g g' : G} {w w' : World} {t j : Nat} {x : AV} {v : Value} (h : ValR g w x v) (hs : x.saysAt t j = false) (hI : ∀ b, g.I b → g'.I b)
    (hw : ∀ b, g.I b → w'.heap[b]? = w.heap[b]?) (hv : ∀ t' c', ¬ (t' = t ∧ c' = some j) → g'.val t' c' = g.val t' c') : ValR g' w' x v := by
  induction h with
  | d x v hx => exact .d x v (hx.mono hI hw)
  | ref t' j' b o hb => exact .ref t' j' b o ((hv t' none (by simp)).trans hb)
  | eref t' c' sz i j' b o n cap hb hi =>
    refine .eref t' c' sz i j' b o n cap ((hv t' c' fun he => ?_).trans hb) hi
    obtain ⟨rfl, rfl⟩ := he
    simp [AV.saysAt, ceq_self] at hs
  | bor t' c' =>
    rw [← hv t' c' fun he => ?_]
    · exact .bor t' c'
    · obtain ⟨rfl, rfl⟩ := he
      simp [AV.saysAt, ceq_self] at hs
  | agg vs us hl _ ih =>
    refine .agg vs us hl fun i x u hx hu => ih i x u hx hu ?_
    cases hh : x.saysAt t j with
    | false => rfl
    | true => have := saysAnyAt_get hx hh; simp [AV.saysAt, this] at hs
  | tup vs us hl _ ih =>
    refine .tup vs us hl fun i x u hx hu => ih i x u hx hu ?_
    cases hh : x.saysAt t j with
    | false => rfl
    | true => have := saysAnyAt_get hx hh; simp [AV.saysAt, this] at hs
  | clo f vs us hl _ ih =>
    refine .clo f vs us hl fun i x u hx hu => ih i x u hx hu ?_
    cases hh : x.saysAt t j with
    | false => rfl
    | true => have := saysAnyAt_get hx hh; simp [AV.saysAt, this] at hs

theorem leafR_of_slot {g : G} {w : World} {t : Nat} {v : Value} {x : AV} (h : SlotR g w t v x) (hx : x.owns = true) : v = g.val t none ∧ LeafR g.I w v x := by
  cases x <;> first | exact h | simp [AV.owns] at hx

theorem LeafR.mono {I I' : Nat → Prop} {w w' : World} {v : Value} {x : AV} (h : LeafR I w v x) (hI : ∀ b, I b → I' b)
    (hw : ∀ b, I b → w'.heap[b]? = w.heap[b]?) (hb : ∀ b, blockOf v = some b → w'.heap[b]? = w.heap[b]? ∧ ¬ I' b) : LeafR I' w' v x := by
  cases x <;> first | exact OwnR.mono h hI hw hb | exact MapR.mono h hI hw hb | exact h.elim

theorem LeafR.block {I : Nat → Prop} {w : World} {v : Value} {x : AV} (h : LeafR I w v x) : ∃ b, blockOf v = some b := by
  cases x with
  | own sz n get => obtain ⟨b, o, cap, c, e, rfl, -⟩ := h; exact ⟨b, rfl⟩
  | imap k look => obtain ⟨b, es, clock, rfl, -⟩ := h; exact ⟨b, rfl⟩
  | _ => exact h.elim

theorem Sat.step2 {cx : Cx} {g : G} {st : St} {a : Act} {w : World} (h : Sat cx g st a w) (g' : G) (st' : St) (a' : Act) (w' : World) (T : Nat → Prop)
    (hsize : a'.tmps.size = a.tmps.size) (hdef : a'.defers = [])
    (hkeep : ∀ u, ¬ T u → (∀ v, SlotR g w u v (st u) → SlotR g' w' u v (st' u)) ∧ (∀ c, ownsAt st' u c = true → ownsAt st u c = true) ∧ a'.tmps.getD u undef = a.tmps.getD u undef)
    (hT : ∀ u, T u → u < cx.N → SlotR g' w' u (a'.tmps.getD u undef) (st' u))
    (hX : ∀ u, T u → cx.N ≤ u → SlotR g' w' u (g'.val u none) (st' u))
    (hval : ∀ u c, ¬ T u → g'.val u c = g.val u c)
    (hI : ∀ b, g.I b → g'.I b)
    (ha : ∀ u c u' c', T u → ownsAt st' u c = true → ownsAt st' u' c' = true → blockOf (g'.val u c) = blockOf (g'.val u' c') → u = u' ∧ c = c')
    (hh : ∀ u c b, T u → ownsAt st' u c = true → blockOf (g'.val u c) = some b → cx.w0.heap.size ≤ b ∨ cx.L b)
    (hst : ∀ b, g'.I b → b < w'.heap.size ∧ (cx.I0 b ∨ cx.w0.heap.size ≤ b ∨ cx.L b))
    (hg : cx.w0.heap.size ≤ w'.heap.size)
    (hf : ∀ b, b < cx.w0.heap.size → ¬ cx.L b → w'.heap[b]? = cx.w0.heap[b]?)
    (hfx : ∀ u, T u → cx.N ≤ u → g'.val u none = g.val u none) (hsl : Still w w') : Sat cx g' st' a' w' := by
  have hfxd : ∀ t v, cx.N ≤ t → cx.fix t = some v → g'.val t none = v := fun t v hN hx => by
    by_cases hTt : T t
    · rw [hfx t hTt hN]; exact h.fixed t v hN hx
    · rw [hval t none hTt]; exact h.fixed t v hN hx
  refine ⟨hsize.trans h.size, hdef, fun t ht => ?_, fun t ht => ?_, fun t c t' c' h1 h2 hb => ?_, fun t c b h1 hb => ?_, hst, fun b hb => hI b (h.more b hb), hg, hf, hfxd, h.still.trans hsl⟩
  · by_cases hTt : T t
    · exact hT t hTt ht
    · rw [(hkeep t hTt).2.2]; exact (hkeep t hTt).1 _ (h.slot t ht)
  · by_cases hTt : T t
    · exact hX t hTt ht
    · rw [hval t none hTt]; exact (hkeep t hTt).1 _ (h.extra t ht)
  · by_cases hTt : T t
    · exact ha t c t' c' hTt h1 h2 hb
    · by_cases hTt' : T t'
      · obtain ⟨h3, h4⟩ := ha t' c' t c hTt' h2 h1 hb.symm
        exact ⟨h3.symm, h4.symm⟩
      · rw [hval t c hTt, hval t' c' hTt'] at hb
        exact h.apart t c t' c' ((hkeep t hTt).2.1 c h1) ((hkeep t' hTt').2.1 c' h2) hb
  · by_cases hTt : T t
    · exact hh t c b hTt h1 hb
    · rw [hval t c hTt] at hb; exact h.home t c b ((hkeep t hTt).2.1 c h1) hb

/-- from slot to slot -/
theorem Sat.move {cx : Cx} {g : G} {st : St} {a : Act} {w : World} (h : Sat cx g st a w) {s d : Nat} (hsd : s ≠ d) (hs : s < cx.N) (hd : d < cx.N) (hx : (st s).owns = true) :
    Sat cx (g.set d none (g.val s none)) (upd d (st s) (upd s (.bor d none) (kill d st))) (a.put (some d) (g.val s none)) w := by
  have hgv : ∀ u' c, u' ≠ d → (g.set d none (g.val s none)).val u' c = g.val u' c := fun u' c hu => G.set_other g _ (fun h => hu h.1)
  obtain ⟨hv, hl⟩ := leafR_of_slot (h.slot s hs) hx
  have hos : ownsAt st s none = true := by simp only [ownsAt]; cases hxx : st s <;> simp_all [AV.owns]
  have hget : ∀ u, u ≠ d → u ≠ s → upd d (st s) (upd s (.bor d none) (kill d st)) u = if (st u).says d then .d .und else st u := fun u h1 h2 => by
    rw [get_upd, if_neg (Ne.symm h1), get_upd, if_neg (Ne.symm h2), get_kill]
  have hgd : upd d (st s) (upd s (.bor d none) (kill d st)) d = st s := by rw [get_upd, if_pos rfl]
  have hgs : upd d (st s) (upd s (.bor d none) (kill d st)) s = .bor d none := by rw [get_upd, if_neg (Ne.symm hsd), get_upd, if_pos rfl]
  have hown : ∀ u c, ownsAt (upd d (st s) (upd s (.bor d none) (kill d st))) u c = true → (u = d ∧ c = none) ∨ (u ≠ d ∧ u ≠ s ∧ ownsAt st u c = true) := fun u c hu => by
    by_cases h1 : u = d
    · subst h1
      left
      refine ⟨rfl, ?_⟩
      cases c with
      | none => rfl
      | some j => simp only [ownsAt, hgd] at hu; cases hxx : st s <;> simp_all [AV.owns]
    · by_cases h2 : u = s
      · subst h2; rw [ownsAt_plain (by rw [hgs]; rfl)] at hu; simp at hu
      · right
        refine ⟨h1, h2, ?_⟩
        have hg := hget u h1 h2
        split at hg
        · rw [ownsAt_plain (by rw [hg]; rfl)] at hu; simp at hu
        · rw [ownsAt_congr hg] at hu; exact hu
  refine h.step _ _ _ _ (fun u => u = d ∨ u = s) put_size (put_defers.trans h.defers) (fun u hu => ⟨?_, put_getD_other (fun he => hu (.inl he))⟩) (fun u hu hN => ?_) (fun u hu hN => ?_)
    (fun u c hu => hgv u c (fun he => hu (.inl he))) (fun _ h => h) (fun _ _ => rfl) (fun u c b hu hc hb => ⟨rfl, (owns_lt h hc hb).2⟩) (fun u c u2 c2 hu h1 h2 hbb => ?_) (fun u c b hu h1 hb => ?_)
    h.stays h.grows h.frame (fun u hu hN => by rcases hu with rfl | rfl <;> omega) (Still.refl _)
  · have hg := hget u (fun he => hu (.inl he)) (fun he => hu (.inr he))
    split at hg
    · exact .inr hg
    · rename_i hns
      exact .inl ⟨hg, fun t' c ht' => by
        by_cases he : t' = d
        · subst he; exact absurd ht' hns
        · exact hgv t' c he⟩
  · rcases hu with rfl | rfl
    · rw [hgd, put_getD_same (by rw [h.size]; exact hN)]
      rw [hv] at hl
      cases hxx : st s <;> rw [hxx] at hl <;> first | exact ⟨(G.set_same ..).symm, hl⟩ | exact hl.elim
    · rw [hgs, put_getD_other hsd, hv]
      have : ValR (g.set d none (g.val u none)) w (.bor d none) ((g.set d none (g.val u none)).val d none) := .bor d none
      rw [G.set_same] at this
      exact this
  · rcases hu with rfl | rfl <;> omega
  · have hone : ∀ u c u2 c2, ownsAt st u2 c2 = true → u2 ≠ s → blockOf (g.val s none) = blockOf (g.val u2 c2) → u = u2 ∧ c = c2 := fun u c u2 c2 h3 h4 h5 =>
      absurd (h.apart s none u2 c2 hos h3 h5).1.symm h4
    rcases hown u c h1 with ⟨rfl, rfl⟩ | ⟨h3, h4, h5⟩
    · rcases hown u2 c2 h2 with ⟨rfl, rfl⟩ | ⟨h6, h7, h8⟩
      · exact ⟨rfl, rfl⟩
      · rw [G.set_same, hgv u2 c2 h6] at hbb
        exact hone _ _ _ _ h8 h7 hbb
    · rcases hu with rfl | rfl
      · exact absurd rfl h3
      · exact absurd rfl h4
  · rcases hown u c h1 with ⟨rfl, rfl⟩ | ⟨h3, h4, h5⟩
    · rw [G.set_same] at hb; exact h.home s none b hos hb
    · rw [hgv u c h3] at hb; exact h.home u c b h5 hb

/-- from a slot into a box's cell -/
theorem Sat.moveBox {cx : Cx} {g : G} {st : St} {a : Act} {w w' : World} (h : Sat cx g st a w) {s t j b o : Nat} {cs : List AV} {c c' : Array Value} {e : TypeId} (hst : s ≠ t) (hs : s < cx.N) (hx : (st s).owns = true)
    (hbx : st t = .obox cs) (hb : g.val t none = .pointer (some ⟨b, o, none⟩)) (hc : w.heap[b]? = some (.cells c e (0, 0))) (hw : w'.heap[b]? = some (.cells c' e (0, 0))) (hsz : w'.heap.size = w.heap.size)
    (hoth : ∀ b', b' ≠ b → w'.heap[b']? = w.heap[b']?) (hcj : c'[o + j]? = some (g.val s none)) (hcm : ∀ m, m ≠ j → c'[o + m]? = c[o + m]?) (hsl : Still w w') :
    Sat cx (g.set t (some j) (g.val s none)) (upd t (.obox (cs.set j (st s))) (upd s (.bor t (some j)) (killAt t j st))) a w' := by
  have hgv : ∀ u' c2, ¬ (u' = t ∧ c2 = some j) → (g.set t (some j) (g.val s none)).val u' c2 = g.val u' c2 := fun u' c2 hu => G.set_other g _ hu
  obtain ⟨hv, hl⟩ := leafR_of_slot (h.slot s hs) hx
  have hos : ownsAt st s none = true := by simp only [ownsAt]; cases hxx : st s <;> simp_all [AV.owns]
  have hot : ownsAt st t none = true := by simp [ownsAt, hbx]
  have hbb : blockOf (g.val t none) = some b := by rw [hb]; rfl
  have hni : ¬ g.I b := (owns_lt h hot hbb).2
  have hIw : ∀ b', g.I b' → w'.heap[b']? = w.heap[b']? := fun b' hb' => hoth b' fun he => hni (he ▸ hb')
  have hne : ∀ u c2 b', ownsAt st u c2 = true → ¬ (u = t ∧ c2 = none) → blockOf (g.val u c2) = some b' → b' ≠ b := fun u c2 b' hu hn hb' he => by
    subst he; exact hn (h.apart u c2 t none hu hot (hb'.trans hbb.symm))
  let st' := upd t (.obox (cs.set j (st s))) (upd s (.bor t (some j)) (killAt t j st))
  have hget : ∀ u, u ≠ t → u ≠ s → st' u = if (st u).saysAt t j then .d .und else st u := fun u h1 h2 => by
    show upd t _ _ u = _
    rw [get_upd, if_neg (Ne.symm h1), get_upd, if_neg (Ne.symm h2), get_killAt]
  have hgt : st' t = .obox (cs.set j (st s)) := by show upd t _ _ t = _; rw [get_upd, if_pos rfl]
  have hgs : st' s = .bor t (some j) := by show upd t _ _ s = _; rw [get_upd, if_neg (Ne.symm hst), get_upd, if_pos rfl]
  have hown : ∀ u c2, ownsAt st' u c2 = true → (u = t ∧ c2 = some j) ∨ (u ≠ s ∧ ¬ (u = t ∧ c2 = some j) ∧ ownsAt st u c2 = true) := fun u c2 hu => by
    by_cases h1 : u = t
    · subst h1
      cases c2 with
      | none => exact .inr ⟨Ne.symm hst, by simp, hot⟩
      | some i =>
        by_cases hji : j = i
        · subst hji; exact .inl ⟨rfl, rfl⟩
        · refine .inr ⟨Ne.symm hst, by simp; exact fun h => hji h.symm, ?_⟩
          simp only [ownsAt, hgt] at hu
          rw [List.getElem?_set, if_neg hji] at hu
          simp only [ownsAt, hbx]; exact hu
    · by_cases h2 : u = s
      · subst h2; rw [ownsAt_plain (by rw [hgs]; rfl)] at hu; simp at hu
      · refine .inr ⟨h2, fun he => h1 he.1, ?_⟩
        have hg := hget u h1 h2
        split at hg
        · rw [ownsAt_plain (by rw [hg]; rfl)] at hu; simp at hu
        · rw [ownsAt_congr hg] at hu; exact hu
  have hslot : ∀ v, SlotR g w t v (st t) → SlotR (g.set t (some j) (g.val s none)) w' t v (.obox (cs.set j (st s))) := fun v hvv => by
    rw [hbx] at hvv
    obtain ⟨hv1, b1, o1, c1, e1, h4, h5, h6, h7⟩ := hvv
    rw [hv1, hb] at h4; cases h4
    rw [hc] at h6; cases h6
    refine ⟨by rw [hgv t none (by simp)]; exact hv1, b, o, c', e, hv1.trans hb, hni, hw, fun m x hm => ?_⟩
    rw [List.getElem?_set] at hm
    by_cases hjm : j = m
    · subst hjm
      rw [if_pos rfl] at hm
      split at hm
      · simp at hm; subst hm
        refine ⟨_, hcj, ?_⟩
        rw [hv] at hl
        have hl' : LeafR g.I w' (g.val s none) (st s) := hl.mono (fun _ h => h) hIw fun b' hb' => ⟨hoth b' (hne s none b' hos (fun he => hst he.1) hb'), (owns_lt h hos hb').2⟩
        cases hxx : st s <;> rw [hxx] at hl' <;> first | exact ⟨(G.set_same ..).symm, hl'⟩ | exact hl'.elim
      · simp at hm
    · rw [if_neg hjm] at hm
      obtain ⟨u, hu, hr⟩ := h7 m x hm
      refine ⟨u, by rw [hcm m (Ne.symm hjm)]; exact hu, hr.mono (fun _ h => h) hIw (fun _ => hgv t (some m) (by simp; exact fun h => hjm h.symm)) fun hxo b' hb' => ?_⟩
      have ho : ownsAt st t (some m) = true := by simp only [ownsAt, hbx, hm]; cases x <;> simp_all [AV.owns]
      exact ⟨hoth b' (hne t (some m) b' ho (by simp) hb'), (owns_lt h ho hb').2⟩
  refine h.step2 _ st' _ _ (fun u => u = t ∨ u = s) rfl h.defers (fun u hu => ⟨fun v hvv => ?_, fun c2 hc2 => ?_, rfl⟩) (fun u hu hN => ?_) (fun u hu hN => ?_)
    (fun u c2 hu => hgv u c2 (fun he => hu (.inl he.1))) (fun _ h => h)
    (fun u c2 u2 c3 hu h1 h2 hbb' => ?_) (fun u c2 b' hu h1 hb' => ?_) (fun b' hb' => by rw [hsz]; exact h.stays b' hb') (by rw [hsz]; exact h.grows) (fun b' h1 h2 => ?_) (fun u _ _ => hgv u none (fun he => nomatch he.2)) hsl
  · have hg := hget u (fun he => hu (.inl he)) (fun he => hu (.inr he))
    rw [hg]
    split
    · exact SlotR.und
    · rename_i hns
      by_cases hp : (st u).plain = true
      · exact (SlotR_plain hp).2 (((SlotR_plain hp).1 hvv).monoAt (by simpa using hns) (fun _ h => h) hIw (fun t' c' he => hgv t' c' he))
      · refine hvv.gmono (fun _ h => h) hIw (fun t' c' ht' => ?_) (fun c2 _ => hgv u c2 fun he => hu (.inl he.1)) (fun c2 b' hc2 hb' => ⟨hoth b' (hne u c2 b' hc2 (fun he => hu (.inl he.1)) hb'), (owns_lt h hc2 hb').2⟩)
        exfalso
        generalize st u = x at hp ht'
        cases x <;> simp_all [AV.plain, AV.says]
  · rcases hown u c2 hc2 with ⟨rfl, rfl⟩ | ⟨-, -, h5⟩
    · exact absurd (.inl rfl) hu
    · exact h5
  · rcases hu with rfl | rfl
    · rw [hgt]; exact hslot _ (h.slot u hN)
    · rw [hgs, hv]
      have : ValR (g.set t (some j) (g.val u none)) w' (.bor t (some j)) ((g.set t (some j) (g.val u none)).val t (some j)) := .bor t (some j)
      rw [G.set_same] at this
      exact this
  · rcases hu with rfl | rfl
    · rw [hgt, hgv u none (by simp)]; exact hslot _ (h.extra u hN)
    · omega
  · have hone : ∀ u c u2 c2, ownsAt st u2 c2 = true → u2 ≠ s → blockOf (g.val s none) = blockOf (g.val u2 c2) → u = u2 ∧ c = c2 := fun u c u2 c2 h3 h4 h5 =>
      absurd (h.apart s none u2 c2 hos h3 h5).1.symm h4
    rcases hown u c2 h1 with ⟨rfl, rfl⟩ | ⟨h3, h4, h5⟩
    · rcases hown u2 c3 h2 with ⟨rfl, rfl⟩ | ⟨h6, h7, h8⟩
      · exact ⟨rfl, rfl⟩
      · rw [G.set_same, hgv u2 c3 h7] at hbb'
        exact hone _ _ _ _ h8 h6 hbb'
    · rw [hgv u c2 h4] at hbb'
      rcases hown u2 c3 h2 with ⟨rfl, rfl⟩ | ⟨h6, h7, h8⟩
      · rw [G.set_same] at hbb'
        obtain ⟨h9, h10⟩ := hone u2 (some j) u c2 h5 h3 hbb'.symm
        exact ⟨h9.symm, h10.symm⟩
      · rw [hgv u2 c3 h7] at hbb'
        exact h.apart u c2 u2 c3 h5 h8 hbb'
  · rcases hown u c2 h1 with ⟨rfl, rfl⟩ | ⟨h3, h4, h5⟩
    · rw [G.set_same] at hb'; exact h.home s none b' hos hb'
    · rw [hgv u c2 h4] at hb'; exact h.home u c2 b' h5 hb'
  · rw [hoth b' fun he => ?_]
    · exact h.frame b' h1 h2
    · subst he
      rcases h.home t none b' hot hbb with h3 | h3
      · omega
      · exact h2 h3

end AM

/- AM: operations that act. -/
namespace AM
open Go

theorem put_self {a : Act} {t : Nat} {u : Value} (h : a.tmps.getD t undef = u) : a.put (some t) u = a := by
  obtain ⟨tmps, defers⟩ := a
  simp only [Act.put]
  congr 1
  apply Array.ext (by simp)
  intro i h1 h2
  by_cases he : t = i
  · subst he; simp [← h, h2]
  · rw [Array.getElem_setIfInBounds_ne _ he]

theorem assignK_ok {cx : Cx} {g : G} {st : St} {a : Act} {w : World} (h : Sat cx g st a w) {v : AV} {u : Value} (hv : ValR g w v u) {dst : Option Nat} {K : St → Prop} (hk : assignK cx.N st v dst K) :
    ∃ g' st', Sat cx g' st' (a.put dst u) w ∧ K st' := by
  unfold assignK at hk
  split at hk
  · rename_i t d
    have hu : u = g.val t none := by cases hv; rfl
    cases hb : Nat.beq t d with
    | true =>
      have := Nat.eq_of_beq_eq_true hb
      subst this
      simp only [hb, cond_true] at hk
      cases ho : (st t).owns && Nat.blt t cx.N with
      | false => simp [ho] at hk
      | true =>
        simp only [ho, cond_true] at hk
        simp at ho
        obtain ⟨h1, -⟩ := leafR_of_slot (h.slot t ho.2) ho.1
        rw [put_self (h1.trans hu.symm)]
        exact ⟨g, st, h, hk⟩
    | false =>
      simp only [hb, cond_false] at hk
      have hne : t ≠ d := fun he => by subst he; rw [Nat.beq_refl] at hb; simp at hb
      cases hlt : Nat.blt t cx.N && Nat.blt d cx.N with
      | false =>
        simp only [hlt, cond_false] at hk
        exact place_ok h (Made.of hv) hk
      | true =>
        simp only [hlt, cond_true] at hk
        simp at hlt
        split at hk
        · rename_i hx
          have := h.move hne hlt.1 hlt.2 (by rw [hx]; rfl)
          rw [hx] at this
          exact ⟨_, _, hu ▸ this, hk⟩
        · rename_i hx
          have := h.move hne hlt.1 hlt.2 (by rw [hx]; rfl)
          rw [hx] at this
          exact ⟨_, _, hu ▸ this, hk⟩
        · exact place_ok h (Made.of hv) hk
  · exact place_ok h (Made.of hv) hk

theorem boxK_ok {P : Program} {cx : Cx} {g : G} {st : St} {a : Act} {w : World} (h : Sat cx g st a w) {v : AV} {u : Value} (hv : ValR g w v u) {dst : Option Nat} (t : TypeId) {K : St → Prop} (hk : boxK cx.N st v dst K) :
    ∃ u' w', (Instr.box t u).run P w = .ok u' w' ∧ ∃ g' st', Sat cx g' st' (a.put dst u') w' ∧ K st' := by
  unfold boxK at hk
  split at hk
  · rename_i x st1 hx
    cases hg : x.good with
    | false => simp [hg] at hk
    | true =>
      simp only [hg, cond_true] at hk
      obtain ⟨g1, h1, h2, h3, h4⟩ := toData_ok st v g u x st1 h hv hx
      obtain ⟨u', w', h5, h6⟩ := newVar_made (P := P) (g := g1) t x u (fun I w' hw' hI => h3.mono hI (fun b hb => hw' b (hI b hb))) hg (fun b hb => (h4.stays b hb).1)
      obtain ⟨g', st', h7, h8⟩ := place_ok h4 h6 hk
      exact ⟨u', w', h5, g', st', h7, h8⟩
  · exact hk.elim

/-! maps -/
theorem findNow_ge {kind : TypeDesc} {key : Value} : ∀ (es : List MapEntry) (off : Nat) (p : Nat × Value), Instr.findNow kind key es off = some (some p) → off ≤ p.1
  | [], off, p, h => by simp [Instr.findNow] at h
  | x :: es, off, p, h => by
    simp only [Instr.findNow] at h
    split at h
    · simp at h; subst h; exact Nat.le_refl _
    · have := findNow_ge es (off + 1) p h; omega
    · simp at h

theorem findNow_set {kind : TypeDesc} {key : Value} : ∀ (es : List MapEntry) (i off : Nat) (e e' : MapEntry), es[i]? = some e → e'.key = e.key →
    Instr.findNow kind key (es.set i e') off = (Instr.findNow kind key es off).map fun r => r.map fun p => if p.1 = off + i then (p.1, e'.val) else p
  | [], i, off, e, e', h, _ => by simp at h
  | x :: es, 0, off, e, e', h, hk => by
    simp at h; subst h
    simp only [List.set_cons_zero, Instr.findNow, hk]
    split
    · simp
    · cases hf : Instr.findNow kind key es (off + 1) with
      | none => rfl
      | some r =>
        cases r with
        | none => rfl
        | some p =>
          have := findNow_ge es (off + 1) p hf
          simp
          omega
    · rfl
  | x :: es, i + 1, off, e, e', h, hk => by
    simp only [List.set_cons_succ, Instr.findNow]
    split
    · simp
    · rw [findNow_set es i (off + 1) e e' (by simpa using h) hk]
      congr 1
      funext r
      congr 1
      funext p
      rw [show off + 1 + i = off + (i + 1) by omega]
    · rfl

theorem findNow_push {kind : TypeDesc} {key : Value} : ∀ (es : List MapEntry) (off : Nat) (e : MapEntry) (b : Bool), Instr.sameNow kind key e.key = some b →
    Instr.findNow kind key (es ++ [e]) off = match Instr.findNow kind key es off with
      | some none => if b then some (some (off + es.length, e.val)) else some none
      | r => r
  | [], off, e, b, h => by simp [Instr.findNow, h]; cases b <;> rfl
  | x :: es, off, e, b, h => by
    simp only [List.cons_append, Instr.findNow]
    split
    · rfl
    · rw [findNow_push es (off + 1) e b h]
      simp only [List.length_cons]
      rw [show off + 1 + es.length = off + (es.length + 1) by omega]
    · rfl

theorem findNow_key {k : IntKind} {m : Int} : ∀ (es : List MapEntry) (off : Nat) (p : Nat × Value), Instr.findNow (.int k) (.int k m) es off = some (some p) →
    ∃ e, es[p.1 - off]? = some e ∧ e.val = p.2 ∧ e.key = .int k m
  | [], off, p, h => by simp [Instr.findNow] at h
  | x :: es, off, p, h => by
    simp only [Instr.findNow] at h
    split at h
    · rename_i hs
      simp at h; subst h
      refine ⟨x, by simp, rfl, ?_⟩
      generalize x.key = kk at hs
      cases kk <;> simp [Instr.sameNow] at hs
      rename_i k' m'
      obtain ⟨h1, h2⟩ := hs
      subst h1; subst h2; rfl
    · have hge := findNow_ge es (off + 1) p h
      obtain ⟨e, h1, h2, h3⟩ := findNow_key es (off + 1) p h
      refine ⟨e, ?_, h2, h3⟩
      rw [show p.1 - off = (p.1 - (off + 1)) + 1 by omega]
      simpa using h1
    · simp at h

theorem sameNow_int (k : IntKind) (m m' : Int) : Instr.sameNow (.int k) (.int k m) (.int k m') = some (m == m') := by simp [Instr.sameNow]

theorem run_setObj {P : Program} {w : World} {b : Nat} {es : Array MapEntry} {clock : Nat} {o : Obj} (h : w.heap[b]? = some (.map es clock)) : (setObj b o).run P w = .ok () { w with heap := w.heap.setIfInBounds b o } := by
  simp [setObj, Sem.run, h]

theorem list_modify_set {α : Type} {f : α → α} : ∀ (l : List α) (i : Nat) (e : α), l[i]? = some e → l.modify i f = l.set i (f e)
  | [], i, e, h => by simp at h
  | x :: l, 0, e, h => by simp at h; subst h; rfl
  | x :: l, i + 1, e, h => by simp only [List.modify_succ_cons, List.set_cons_succ]; rw [list_modify_set l i e (by simpa using h)]

/-- a map update -/
theorem run_mapUpdate {P : Program} {I : Nat → Prop} {w : World} {t kt e : TypeId} {k : IntKind} {look : Int → Option D} {v val : Value} {m : Int} {d : D} (hu : P.underlying t = some (.map kt e)) (hkt : P.underlying kt = some (.int k))
    (h : MapR I w k look v) (hd : DRel I w d val) : ∃ w' b, (Instr.mapUpdate t v (.int k m) val).run P w = .ok () w' ∧ blockOf v = some b ∧ w'.heap.size = w.heap.size ∧ (∀ b', b' ≠ b → w'.heap[b']? = w.heap[b']?) ∧
      Still w w' ∧ MapR I w' k (updMap look m d) v := by
  obtain ⟨b, es, clock, rfl, hni, hb, hl⟩ := h
  have hlt : b < w.heap.size := by
    rcases Nat.lt_or_ge b w.heap.size with h | h
    · exact h
    · simp [Array.getElem?_eq_none h] at hb
  have hck : (Instr.checkKey false 10000 kt (.int k m)).run P w = .ok () w := run_checkKey hkt false m 9999
  have hw : ∀ (o : Obj) b', I b' → ({ w with heap := w.heap.setIfInBounds b o } : World).heap[b']? = w.heap[b']? := fun o b' hb' => by
    have : b ≠ b' := fun he => hni (he ▸ hb')
    simp [Array.getElem?_setIfInBounds_ne this]
  have hoth : ∀ (o : Obj) b', b' ≠ b → ({ w with heap := w.heap.setIfInBounds b o } : World).heap[b']? = w.heap[b']? := fun o b' hb' => by
    simp [Array.getElem?_setIfInBounds_ne (Ne.symm hb')]
  have hlm := hl m
  cases hlk : look m with
  | none =>
    rw [hlk] at hlm
    refine ⟨{ w with heap := w.heap.setIfInBounds b (.map (es.push { key := .int k m, val, born := clock }) (clock + 1)) }, b, ?_, rfl, by simp, hoth _, ⟨rfl, rfl, rfl⟩, b, es.push { key := .int k m, val, born := clock }, clock + 1, rfl, hni, by simp [hlt], fun m' => ?_⟩
    · have hlm' : Instr.findNow (.int k) (.int k m) es.toList 0 = some none := hlm
      simp [Instr.mapUpdate, run_underlying hu, run_getObj hb, hck, Instr.findKey, run_underlying hkt, hlm', run_setObj hb]
    · have hp := findNow_push (kind := .int k) (key := .int k m') es.toList 0 { key := .int k m, val, born := clock } (m' == m) (sameNow_int k m' m)
      have hlm2 := hl m'
      simp only [Array.toList_push]
      by_cases he : m' = m
      · subst he
        simp only [updMap, decide_true, cond_true, MapLook]
        have hlm' : Instr.findNow (.int k) (.int k m') es.toList 0 = some none := hlm
        rw [hp, hlm']
        exact ⟨es.toList.length, { key := .int k m', val, born := clock }, by simp, by simp, hd.world (hw _)⟩
      · simp only [updMap, he, decide_false, cond_false]
        cases h2 : look m' with
        | none =>
          rw [h2] at hlm2
          have hlm' : Instr.findNow (.int k) (.int k m') es.toList 0 = some none := hlm2
          simp only [MapLook]
          rw [hp, hlm']; simp [he]
        | some d' =>
          rw [h2] at hlm2
          obtain ⟨i, e', h3, h4, h5⟩ := hlm2
          refine ⟨i, e', by rw [hp, h3], ?_, h5.world (hw _)⟩
          rw [List.getElem?_append_left (List.getElem?_eq_some_iff.mp h4).1]; exact h4
  | some d0 =>
    rw [hlk] at hlm
    obtain ⟨i, e0, h3, h4, h5⟩ := hlm
    obtain ⟨e1, h6, h7, h8⟩ := findNow_key es.toList 0 _ h3
    simp only [Nat.sub_zero] at h6
    rw [h4] at h6; cases h6
    have hea : es[i]? = some e0 := by simpa using h4
    refine ⟨{ w with heap := w.heap.setIfInBounds b (.map (es.modify i fun e => { e with key := .int k m, val }) clock) }, b, ?_, rfl, by simp, hoth _, ⟨rfl, rfl, rfl⟩, b, es.modify i fun e => { e with key := .int k m, val }, clock, rfl, hni, by simp [hlt], fun m' => ?_⟩
    · have hst : (Instr.keyThatStays (.int k m) (.int k m)).run P w = .ok (.int k m) w := by simp [Instr.keyThatStays, Instr.sameBits]
      simp [Instr.mapUpdate, run_underlying hu, run_getObj hb, hck, Instr.findKey, run_underlying hkt, h3, hea, h8, hst, run_setObj hb]
    · have hset : (es.modify i fun e => { e with key := .int k m, val }).toList = es.toList.set i { e0 with key := .int k m, val } := by
        rw [Array.toList_modify, list_modify_set _ _ _ h4]
      rw [hset]
      have hp := findNow_set (kind := .int k) (key := .int k m') es.toList i 0 e0 { e0 with key := .int k m, val } h4 h8.symm
      have hlm2 := hl m'
      have hil : i < es.toList.length := (List.getElem?_eq_some_iff.mp h4).1
      by_cases he : m' = m
      · subst he
        simp only [updMap, decide_true, cond_true, MapLook]
        refine ⟨i, { e0 with key := .int k m', val }, by
          rw [hp, h3]
          show some (some (if i = 0 + i then _ else _)) = _
          rw [if_pos (by omega)], List.getElem?_set_self hil, hd.world (hw _)⟩
      · simp only [updMap, he, decide_false, cond_false]
        cases h2 : look m' with
        | none =>
          rw [h2] at hlm2
          have hlm' : Instr.findNow (.int k) (.int k m') es.toList 0 = some none := hlm2
          simp only [MapLook]
          rw [hp, hlm']; rfl
        | some d' =>
          rw [h2] at hlm2
          obtain ⟨i', e', h9, h10, h11⟩ := hlm2
          have hii : i' ≠ i := fun hh => by
            subst hh
            obtain ⟨e2, h12, -, h13⟩ := findNow_key es.toList 0 _ h9
            simp only [Nat.sub_zero] at h12
            rw [h4] at h12; cases h12
            rw [h8] at h13; cases h13; exact he rfl
          refine ⟨i', e', by rw [hp, h9]; simp [hii], ?_, h11.world (hw _)⟩
          rw [List.getElem?_set, if_neg (Ne.symm hii)]; exact h10

theorem mapUpdK_ok {P : Program} {cx : Cx} {g : G} {st : St} {a : Act} {w : World} (h : Sat cx g st a w) (t : TypeId) {m k v : AV} {um uk uv : Value} (hm : ValR g w m um) (hk : ValR g w k uk) (hv : ValR g w v uv) {K : St → Prop}
    (hK : mapUpdK P st t m k v K) : ∃ w', (Instr.mapUpdate t um uk uv).run P w = .ok () w' ∧ ∃ g' st', Sat cx g' st' a w' ∧ K st' := by
  unfold mapUpdK at hK
  split at hK
  · rename_i kt e u c k1 i d st1 hu hd
    obtain ⟨g1, h1, h2, h3, h4⟩ := toData_ok st v g uv d st1 h hv hd
    cases hm
    cases hk with
    | d _ _ hk =>
    cases hk
    split at hK
    · rename_i k2 look k3 hma hkt
      cases hkk : kindEq k1 k2 && kindEq k1 k3 with
      | false => simp [hkk] at hK
      | true =>
        simp only [hkk, cond_true] at hK
        simp at hkk
        have e1 := kindEq_eq hkk.1; subst e1
        have e2 := kindEq_eq hkk.2; subst e2
        obtain ⟨hr, -⟩ := mapAt_own h4 hma
        obtain ⟨w', b, h5, h6, h7, h8, hsl, h9⟩ := run_mapUpdate (P := P) (m := i) hu hkt hr h3
        refine ⟨w', by rw [← h1]; exact h5, g1, _, h4.leafset (leafAt_map hma) h6 (by omega) (fun b' _ hb' => h8 b' hb') (x' := .imap k1 (updMap look i d)) (.inl h9) hsl, hK⟩
    · exact hK.elim
  · exact hK.elim

end AM

/- AM: stores and appends. -/
namespace AM
open Go

theorem setDs_get : ∀ (ds cs : List D) (j m : Nat), (setDs cs j ds)[m]? = if j ≤ m ∧ m < j + ds.length ∧ m < cs.length then ds[m - j]? else cs[m]?
  | [], cs, j, m => by simp only [setDs]; rw [if_neg (by simp; omega)]
  | d :: ds, cs, j, m => by
    simp only [setDs]
    rw [setDs_get ds _ (j + 1) m]
    simp only [List.length_set, List.getElem?_set]
    by_cases hj : j = m
    · subst hj
      rw [if_neg (by omega)]
      by_cases hl : j < cs.length
      · simp [hl]
      · simp [hl]
    · by_cases h2 : j + 1 ≤ m ∧ m < j + 1 + ds.length ∧ m < cs.length
      · rw [if_pos h2, if_pos (by simp; omega), show m - j = (m - (j + 1)) + 1 by omega]; simp
      · rw [if_neg h2, if_neg hj, if_neg (by simp; omega)]

theorem reAgg_cells {x : D} {cs : List D} (hl : cs.length = x.cells.length) : (reAgg (isAggD x) cs).cells.length = x.cells.length ∧
    ∀ (m : Nat) (d : D), (reAgg (isAggD x) cs).cells[m]? = some d → cs[m]? = some d ∨ (d = .und ∧ m < cs.length) := by
  cases hx : isAggD x with
  | true => exact ⟨by simpa [reAgg, D.cells] using hl, fun m d hm => .inl (by simpa [reAgg, D.cells] using hm)⟩
  | false =>
    have h1 := notAgg_len hx
    rw [h1] at hl ⊢
    simp only [reAgg, cond_false, one1_cells]
    refine ⟨rfl, fun m d hm => ?_⟩
    cases m with
    | succ m => simp at hm
    | zero =>
      simp at hm; subst hm
      match cs, hl with
      | [c], _ =>
        show _ ∨ _
        simp only [nth]
        cases c <;> simp [one1]

theorem storeAt_run {P : Program} {w : World} {t : TypeId} {p : Addr} {v : Value} : (Instr.storeAt t (.pointer (some p)) v).run P w = (storeVar t p v).run P w := by
  simp [Instr.storeAt, sureAddr_run]

theorem storeK_ok {P : Program} {cx : Cx} {g : G} {st : St} {a : Act} {w : World} (h : Sat cx g st a w) (t : TypeId) {x v : AV} {ux uv : Value} (hx : ValR g w x ux) (hv : ValR g w v uv) {K : St → Prop}
    (hK : storeK P cx.N st t x v K) : ∃ w', (Instr.storeAt t ux uv).run P w = .ok () w' ∧ ∃ g' st', Sat cx g' st' a w' ∧ K st' := by
  unfold storeK at hK
  split at hK
  · rename_i u j
    cases hx with
    | ref _ _ b o hb =>
    split at hK
    · rename_i s
      cases hv
      cases hc : Nat.blt s cx.N && (!(Nat.beq s u)) && oneT P t with
      | false => simp [hc] at hK
      | true =>
        simp only [hc, cond_true] at hK
        simp at hc
        obtain ⟨⟨hs, hsu⟩, h1⟩ := hc
        have hsne : s ≠ u := fun he => by subst he; rw [Nat.beq_refl] at hsu; simp at hsu
        have hsz : szT P t = some 1 := by
          unfold oneT at h1
          split at h1
          · assumption
          · simp at h1
        have move : ∀ (cs : List AV), st u = .obox cs → (st s).owns = true → j < cs.length → K (upd u (.obox (cs.set j (st s))) (upd s (.bor u (some j)) (killAt u j st))) →
            ∃ w', (Instr.storeAt t (.pointer (some ⟨b, o + j, none⟩)) (g.val s none)).run P w = .ok () w' ∧ ∃ g' st', Sat cx g' st' a w' ∧ K st' := by
          intro cs hbx ho hj hK
          obtain ⟨b', o', c, e, hv', -, hcc, hall⟩ := box_at h hbx
          rw [hb] at hv'; cases hv'
          obtain ⟨hvs, hl⟩ := leafR_of_slot (h.slot s hs) ho
          have hone : (g.val s none).oneCell' = true ∧ (g.val s none).cells = #[g.val s none] := by
            rw [← hvs]
            cases hss : st s <;> rw [hss] at hl <;> first | (obtain ⟨b1, o1, cap, c1, e1, h2, -⟩ := hl; rw [h2]; exact ⟨rfl, rfl⟩) | (obtain ⟨b1, es, cl, h2, -⟩ := hl; rw [h2]; exact ⟨rfl, rfl⟩) | exact hl.elim
          have hlt : o + j < c.size := by
            obtain ⟨uu, huu, -⟩ := hall j cs[j] (by simp [hj])
            exact (Array.getElem?_eq_some_iff.mp huu).1
          obtain ⟨w', c', h3, h4, h5, h6, h7, hsl, h8⟩ := run_storeCells (P := P) (o := o + j) [g.val s none] 0 w c hcc (by simp; omega) (by simp [hone.1])
          refine ⟨w', ?_, _, _, h.moveBox hsne hs ho hbx hb hcc h4 h5 h6 ?_ (fun m hm => ?_) hsl, hK⟩
          · rw [storeAt_run]
            simp only [storeVar, Sem.run_bind, run_sizeOf hsz, Result.andThen_ok, hone.2]
            rw [if_neg (by simp)]
            exact h3
          · rw [h8 (o + j), if_pos (by simp)]; simp
          · rw [h8 (o + m), if_neg (by simp; omega)]
        split at hK
        · rename_i cs sz n get hbx hss
          cases hj : Nat.blt j cs.length with
          | false => simp [hj] at hK
          | true =>
            simp only [hj, cond_true] at hK
            have := move cs hbx (by rw [hss]; rfl) (Nat.blt_eq.mp hj)
            rw [hss] at this
            exact this hK
        · rename_i cs k look hbx hss
          cases hj : Nat.blt j cs.length with
          | false => simp [hj] at hK
          | true =>
            simp only [hj, cond_true] at hK
            have := move cs hbx (by rw [hss]; rfl) (Nat.blt_eq.mp hj)
            rw [hss] at this
            exact this hK
        · exact hK.elim
    · split at hK
      · rename_i d st1 hd
        obtain ⟨g1, h1, h2, h3, h4⟩ := toData_ok st _ g uv d st1 h hv hd
        split at hK
        · rename_i cs hbx
          cases hc : szIs P t d.cells.length && (allOne d.cells && (Nat.ble 1 d.cells.length && Nat.ble (j + d.cells.length) cs.length)) with
          | false => simp [hc] at hK
          | true =>
            simp only [hc, cond_true] at hK
            simp at hc
            obtain ⟨hc1, hc2, hc4, hc3⟩ := hc
            obtain ⟨b', o', c, e, hv', -, hcc, hall⟩ := box_at h4 hbx
            have hb1 : g1.val u none = .pointer (some ⟨b, o, none⟩) := by rw [h1]; exact hb
            rw [hb1] at hv'; cases hv'
            have hsize : o + j + d.cells.length ≤ c.size := by
              obtain ⟨uu, huu, -⟩ := hall (cs.length - 1) (cs[cs.length - 1]'(by omega)) (List.getElem?_eq_getElem (by omega))
              have := (Array.getElem?_eq_some_iff.mp huu).1
              omega
            obtain ⟨w', c', h5, h6, h7, h8, h9, hsl, h10⟩ := run_storeVar (P := P) (j := j) hcc h3 hc1 hc2 hsize
            refine ⟨w', by rw [storeAt_run]; exact h5, g1, _, h4.boxset hbx hb1 hcc h6 h7 h8 (fun m x hm => ?_) hsl, hK⟩
            rw [setD_get] at hm
            split at hm
            · rename_i hr
              rw [Option.map_eq_some_iff] at hm
              obtain ⟨y, hy, rfl⟩ := hm
              obtain ⟨x', u', h11, h12, h13⟩ := (h10 (m - j)).1 (by omega)
              rw [hy] at h11; cases h11
              rw [show o + (j + (m - j)) = o + m by omega] at h12
              exact ⟨u', h12, .inl ⟨y, rfl, h13⟩⟩
            · rename_i hr
              have hml : m < cs.length := (List.getElem?_eq_some_iff.mp hm).1
              obtain ⟨uu, huu, -⟩ := hall m x hm
              refine ⟨uu, ?_, .inr ⟨hm, huu⟩⟩
              rw [(h10 (o + m)).2 (by omega)]; exact huu
        · exact hK.elim
      · exact hK.elim
  · rename_i u c sz i j
    cases hx with
    | eref _ _ _ _ _ b o n cap hb hi =>
    split at hK
    · rename_i d st1 hd
      obtain ⟨g1, h1, h2, h3, h4⟩ := toData_ok st _ g uv d st1 h hv hd
      split at hK
      · rename_i sz' n' get hs
        cases hc : Nat.beq sz sz' && (szIs P t d.cells.length && (allOne d.cells && Nat.ble (j + d.cells.length) (get i).cells.length)) with
        | false => simp [hc] at hK
        | true =>
          simp only [hc, cond_true] at hK
          simp at hc
          obtain ⟨hc0, hc1, hc2, hc3⟩ := hc
          subst hc0
          obtain ⟨⟨b', o', cap', cc, e, hv', hn, hni, hcc, ho, hl, hone, hdd⟩, how⟩ := sliceAt_own h4 hs
          have hb1 : g1.val u c = .slice (some ⟨b, o, none⟩) n cap := by rw [h1]; exact hb
          rw [hb1] at hv'; cases hv'
          have hli := hl i hi
          have hle : i * sz + sz ≤ cap * sz := by rw [← Nat.succ_mul]; exact Nat.mul_le_mul_right _ (by omega)
          obtain ⟨w', c', h5, h6, h7, h8, h9, hsl, h10⟩ := run_storeVar (P := P) (o := o + i * sz) (j := j) hcc h3 hc1 hc2 (by omega)
          have hI : ∀ b2, g1.I b2 → w'.heap[b2]? = w.heap[b2]? := fun b2 hb2 => h8 b2 fun he => hni (he ▸ hb2)
          have hlen2 : (setDs (get i).cells j d.cells).length = (get i).cells.length := setDs_len _ _ _
          obtain ⟨hr1, hr2⟩ := reAgg_cells hlen2
          refine ⟨w', by rw [storeAt_run, show o + (i * sz + j) = o + i * sz + j by omega]; exact h5, g1, _, h4.leafset (leafAt_slice hs) (b := b) (by rw [hb1]; rfl) (by omega) (fun b2 _ hb2 => h8 b2 hb2) (x' := .own sz n _) (.inl ?_) hsl, hK⟩
          rw [hb1]
          refine ⟨b, o, cap, c', e, rfl, hn, hni, h6, by omega, fun i' hi' => ?_, fun i' j' hi' hj' => ?_, fun i' j' d' hi' hj' => ?_⟩
          · unfold updGet
            cases hii : Nat.beq i' i with
            | false => exact hl i' hi'
            | true => simp only [cond_true]; rw [hr1]; exact hli
          · by_cases hrr : o + i * sz + j ≤ o + i' * sz + j' ∧ o + i' * sz + j' < o + i * sz + j + d.cells.length
            · obtain ⟨x', u', h12, h13, h14⟩ := (h10 (i' * sz + j' - (i * sz + j))).1 (by omega)
              rw [show o + i * sz + (j + (i' * sz + j' - (i * sz + j))) = o + i' * sz + j' by omega] at h13
              exact ⟨u', h13, one_cell h14 (allOne_mem _ hc2 _ (List.mem_of_getElem? h12))⟩
            · obtain ⟨uu, huu, hu1⟩ := hone i' j' hi' hj'
              exact ⟨uu, by rw [(h10 _).2 hrr]; exact huu, hu1⟩
          · unfold updGet at hj'
            cases hii : Nat.beq i' i with
            | false =>
              simp only [hii, cond_false] at hj'
              have hne : i' ≠ i := fun he => by subst he; rw [Nat.beq_refl] at hii; simp at hii
              obtain ⟨uu, huu, hr⟩ := hdd i' j' d' hi' hj'
              refine ⟨uu, ?_, hr.world hI⟩
              have hj'l : j' < sz := by rw [← hl i' hi']; exact (List.getElem?_eq_some_iff.mp hj').1
              rw [(h10 (o + i' * sz + j')).2 ?_]
              · exact huu
              · intro hh
                rcases Nat.lt_or_ge i' i with h | h
                · have : i' * sz + sz ≤ i * sz := by rw [← Nat.succ_mul]; exact Nat.mul_le_mul_right _ h
                  omega
                · have : i * sz + sz ≤ i' * sz := by rw [← Nat.succ_mul]; exact Nat.mul_le_mul_right _ (by omega)
                  omega
            | true =>
              have := Nat.eq_of_beq_eq_true hii
              subst this
              simp only [hii, cond_true] at hj'
              have hj'l : j' < sz := by rw [← hli, ← hr1]; exact (List.getElem?_eq_some_iff.mp hj').1
              rcases hr2 j' d' hj' with h11 | ⟨rfl, h11⟩
              · rw [setDs_get] at h11
                split at h11
                · rename_i hr
                  obtain ⟨x', u', h12, h13, h14⟩ := (h10 (j' - j)).1 (by omega)
                  rw [h11] at h12; cases h12
                  rw [show o + i' * sz + (j + (j' - j)) = o + i' * sz + j' by omega] at h13
                  exact ⟨u', h13, h14.world hI⟩
                · rename_i hr
                  obtain ⟨uu, huu, hr'⟩ := hdd i' j' d' hi' h11
                  refine ⟨uu, ?_, hr'.world hI⟩
                  rw [(h10 (o + i' * sz + j')).2 (by omega)]; exact huu
              · have hlt : o + i' * sz + j' < c'.size := by omega
                exact ⟨c'[o + i' * sz + j'], by simp [hlt], .und _⟩
      · exact hK.elim
    · exact hK.elim
  · exact hK.elim

end AM

/- AM: append. -/
namespace AM
open Go

theorem notInt_spec {P : Program} {t : TypeId} (h : notInt P t = true) : ∃ d, P.underlying t = some d ∧ (∀ k, d ≠ .int k) := by
  unfold notInt at h
  split at h
  · simp at h
  · rename_i d hd hne; exact ⟨d, hne, fun k he => hd k (he ▸ rfl)⟩
  · simp at h

theorem elemT_spec {P : Program} {t : TypeId} {k bytes : Nat} (h : elemT P t = some (k, bytes)) :
    ∃ e i zv z, P.underlying t = some (.slice e) ∧ P.info? e = some i ∧ i.zero = some zv ∧ ofValue zv = some z ∧ z.cells.length = k ∧ i.size = k ∧ i.bytes = bytes ∧ 1 ≤ bytes ∧ zv.cells.size = k ∧ allOne z.cells = true := by
  unfold elemT at h
  split at h
  · rename_i e he
    split at h
    · rename_i i hi
      split at h
      · rename_i zv hzv
        split at h
        · rename_i z hz
          cases hb : Nat.beq z.cells.length i.size && (Nat.ble 1 i.bytes && allOne z.cells) with
          | false => simp [hb] at h
          | true =>
            simp only [hb, cond_true, Option.some.injEq, Prod.mk.injEq] at h
            obtain ⟨rfl, rfl⟩ := h
            simp at hb
            have hc := cells_rel (I := fun _ => True) (w := default) (ofValue_rel zv z hz) (ofValue_good hz)
            exact ⟨e, i, zv, z, sliceElem_spec he, hi, hzv, hz, hb.1, rfl, rfl, hb.2.1, by have := hc.1; simp at this; omega, hb.2.2⟩
        · simp at h
      · simp at h
    · simp at h
  · simp at h

theorem zeroCells_size (z : Array Value) (n : Nat) : (Builtin.zeroCells z n).size = n * z.size := by simp [Builtin.zeroCells]

theorem run_append {P : Program} {w : World} {t t2 ty e : TypeId} {i : TypeInfo} {zv : Value} {k : Nat} (ht : P.underlying t = some (.slice e)) (hn : notInt P t2 = true) (hi : P.info? e = some i) (hz : i.zero = some zv)
    (hk : i.size = k) (hzs : zv.cells.size = k) (hby : 1 ≤ i.bytes) {base : Option Addr} {n cap m : Nat} {xv : Value} {news olds : List Value} (hbytes : (n + m) * i.bytes ≤ 140737488355328)
    (hlen : Builtin.lenOf xv = pure m) (hnew : ∀ w' : World, w'.heap = w.heap → (Builtin.firstCells k m xv).run P w' = .ok news.toArray w')
    (hold : ∀ w' : World, w'.heap = w.heap → (Builtin.firstCells k n (.slice base n cap)).run P w' = .ok olds.toArray w') :
    (n + m ≤ cap → (Builtin.append_ #[t, t2] ty #[.slice base n cap, xv]).run P w = ((match base with | some a => storeCells (a.add (n * k)) news | none => pure ()).run P w).andThen fun _ w' => .ok (.slice base (n + m) cap) w') ∧
    (¬ n + m ≤ cap → ∃ (w' : World) (C : Nat) (rest : List Value), (Builtin.append_ #[t, t2] ty #[.slice base n cap, xv]).run P w = .ok (.slice (some ⟨w.heap.size, 0, none⟩) (n + m) C) w' ∧ n + m ≤ C ∧
      rest.length = (C - (n + m)) * k ∧ Still w w' ∧ w'.heap = w.heap.push (.cells (olds ++ news ++ rest).toArray e)) := by
  obtain ⟨d, hd, hne⟩ := notInt_spec hn
  subst hk
  constructor
  · intro hr
    cases base with
    | none => simp [Builtin.append_, run_underlying ht, run_underlying hd, Go.sizeOf, run_typeInfo hi, hlen, hr, hnew w rfl]
    | some a => simp [Builtin.append_, run_underlying ht, run_underlying hd, Go.sizeOf, run_typeInfo hi, hlen, hr, hnew w rfl]
  · intro hr
    have hfit : Builtin.nextslicecap (n + m) cap * i.bytes ≤ 281474976710656 := growslice_fits (by omega) hbytes
    have hfit' : ¬ (281474976710656 < Builtin.nextslicecap (n + m) cap * i.bytes) := by omega
    have hb0 : ¬ i.bytes = 0 := by omega
    let Z := Builtin.zeroCells zv.cells (grownCap w (n + m) cap e - (n + m))
    refine ⟨w.drew.alloc (.cells (olds.toArray ++ (news.toArray ++ Z)) e), grownCap w (n + m) cap e, Z.toList, ?_, grownCap_ge _ _ _ _, by simp [Z, zeroCells_size, hzs], ⟨rfl, rfl, rfl⟩, ?_⟩
    · simp [Builtin.append_, run_underlying ht, run_underlying hd, Go.sizeOf, run_typeInfo hi, hlen, hr, hb0, hfit', Question.forced, hold w.drew rfl, hnew w.drew rfl, run_zeroValue hi hz, newRow, grownCap, Z]
    · show w.heap.push _ = w.heap.push _
      congr 2
      apply Array.ext'
      simp

/-- what is appended -/
theorem srcOf_ok {P : Program} {cx : Cx} {g : G} {st : St} {a : Act} {w : World} (h : Sat cx g st a w) {k m : Nat} {gt : Nat → D} {y : AV} {uy : Value} (hy : ValR g w y uy) (hs : srcOf st k y = some (m, gt)) :
    ∃ news : List Value, Builtin.lenOf uy = pure m ∧ (∀ w' : World, w'.heap = w.heap → (Builtin.firstCells k m uy).run P w' = .ok news.toArray w') ∧ news.length = m * k ∧ (∀ i, i < m → (gt i).cells.length = k) ∧
      (∀ i j, i < m → j < k → ∃ u, news[i * k + j]? = some u ∧ u.oneCell' = true) ∧ ∀ (i j : Nat) (d : D), i < m → (gt i).cells[j]? = some d → ∃ u, news[i * k + j]? = some u ∧ DRel g.I w d u := by
  have block : ∀ (b o cap : Nat) (c : Array Value) (e : TypeId) (fr : Nat × Nat), w.heap[b]? = some (.cells c e fr) → (∀ i, i < m → (gt i).cells.length = k) →
      (∀ i j, i < m → j < k → ∃ u, c[o + i * k + j]? = some u ∧ u.oneCell' = true) → (∀ (i j : Nat) (d : D), i < m → (gt i).cells[j]? = some d → ∃ u, c[o + i * k + j]? = some u ∧ DRel g.I w d u) →
      ∃ news : List Value, Builtin.lenOf (.slice (some ⟨b, o, none⟩) m cap) = pure m ∧ (∀ w' : World, w'.heap = w.heap → (Builtin.firstCells k m (.slice (some ⟨b, o, none⟩) m cap)).run P w' = .ok news.toArray w') ∧ news.length = m * k ∧ (∀ i, i < m → (gt i).cells.length = k) ∧
      (∀ i j, i < m → j < k → ∃ u, news[i * k + j]? = some u ∧ u.oneCell' = true) ∧ ∀ (i j : Nat) (d : D), i < m → (gt i).cells[j]? = some d → ∃ u, news[i * k + j]? = some u ∧ DRel g.I w d u := by
    intro b o cap c e fr hb hl h1 h2
    have hget : ∀ i j, i < m → j < k → ((List.range (m * k)).map fun q => c[o + q]?.getD undef)[i * k + j]? = c[o + i * k + j]? := by
      intro i j hi hj
      have hle : i * k + k ≤ m * k := by rw [← Nat.succ_mul]; exact Nat.mul_le_mul_right _ hi
      obtain ⟨u, hu, -⟩ := h1 i j hi hj
      rw [List.getElem?_map, List.getElem?_range (by omega)]
      simp only [Option.map_some]
      rw [show o + (i * k + j) = o + i * k + j by omega, hu]; rfl
    refine ⟨(List.range (m * k)).map fun q => c[o + q]?.getD undef, rfl, fun w' hw' => run_firstCells_some w' k m _ _ _ _ (by simp) fun q v hq => ?_, by simp, hl, fun i j hi hj => ?_, fun i j d hi hj => ?_⟩
    · obtain ⟨hqm, hq⟩ := range_map_get hq
      have hk0 : 0 < k := Nat.pos_of_ne_zero fun h0 => by subst h0; simp at hqm
      have hi : q / k < m := Nat.div_lt_of_lt_mul (by rw [Nat.mul_comm]; exact hqm)
      obtain ⟨u, hu, -⟩ := h1 (q / k) (q % k) hi (Nat.mod_lt _ hk0)
      have hqe : o + q / k * k + q % k = o + q := by have := Nat.div_add_mod q k; rw [Nat.mul_comm] at this; omega
      rw [hqe] at hu
      rw [add_none, cell_of_block (hw' ▸ hb), ← hq, hu]; rfl
    · rw [hget i j hi hj]; exact h1 i j hi hj
    · have hjk : j < k := by rw [← hl i hi]; exact (List.getElem?_eq_some_iff.mp hj).1
      rw [hget i j hi hjk]; exact h2 i j d hi hj
  unfold srcOf at hs
  split at hs
  · rename_i sz n get
    cases hb : Nat.beq sz k with
    | false => simp [hb] at hs
    | true =>
      simp only [hb, cond_true, Option.some.injEq, Prod.mk.injEq] at hs
      have := Nat.eq_of_beq_eq_true hb; subst this
      obtain ⟨rfl, rfl⟩ := hs
      cases hy with
      | d _ _ hy =>
      cases hy with
      | dat0 => exact ⟨[], rfl, fun w' _ => run_firstCells_none w' _ _ _ _, by simp, by simp, by simp, by simp⟩
      | datE _ cap _ a => exact ⟨[], rfl, fun w' _ => by simp [Builtin.firstCells, loadCells, loadCellsFrom], by simp, by simp, by simp, by simp⟩
      | dat _ _ _ b o cap c e fr u hI hc hcap hlen hu hone hd =>
        exact block b o cap c e fr hc hlen (fun i j hi hj => ⟨_, hu i j hi hj, hone i j hi hj⟩) fun i j d hi hj => ⟨_, hu i j hi (by rw [← hlen i hi]; exact (List.getElem?_eq_some_iff.mp hj).1), hd i j d hi hj⟩
  · simp only [Option.some.injEq, Prod.mk.injEq] at hs
    obtain ⟨rfl, rfl⟩ := hs
    cases hy with
    | d _ _ hy =>
    cases hy
    exact ⟨[], rfl, fun w' _ => run_firstCells_none w' _ _ _ _, by simp, by simp, by simp, by simp⟩
  · rename_i s
    cases hb : Nat.beq 1 k with
    | false => simp [hb] at hs
    | true =>
      simp only [hb, cond_true, Option.some.injEq, Prod.mk.injEq] at hs
      have := Nat.eq_of_beq_eq_true hb; subst this
      obtain ⟨rfl, rfl⟩ := hs
      cases hy with
      | d _ _ hy =>
      cases hy
      have hget : ∀ i, i < s.size → ((List.range s.size).map fun (i : Nat) => Value.int .u8 (byteAt s i))[i]? = some (Value.int .u8 (byteAt s i)) := fun i hi => by
        rw [List.getElem?_map, List.getElem?_range hi]; rfl
      refine ⟨(List.range s.size).map fun (i : Nat) => Value.int .u8 (byteAt s i), rfl, fun w' _ => ?_, by simp, fun i _ => rfl, fun i j hi hj => ?_, fun i j d hi hj => ?_⟩
      · simp only [Builtin.firstCells, Sem.run_pure]
        congr 1
        apply Array.ext
        · simp
        · intro i h1 h2
          have hi : i < s.size := by simpa using h2
          simp [byteAt, hi]
          rfl
      · have : j = 0 := by omega
        subst this
        exact ⟨Value.int .u8 (byteAt s i), by rw [Nat.mul_one, Nat.add_zero]; exact hget i hi, rfl⟩
      · cases j with
        | succ j => simp [bytesOfStr, D.cells] at hj
        | zero =>
          simp [bytesOfStr, D.cells] at hj
          subst hj
          exact ⟨Value.int .u8 (byteAt s i), by rw [Nat.mul_one, Nat.add_zero]; exact hget i hi, .int _ _⟩
  · rename_i t c
    split at hs
    · rename_i sz n get hsl
      cases hb : Nat.beq sz k with
      | false => simp [hb] at hs
      | true =>
        simp only [hb, cond_true, Option.some.injEq, Prod.mk.injEq] at hs
        have := Nat.eq_of_beq_eq_true hb; subst this
        obtain ⟨rfl, rfl⟩ := hs
        cases hy
        obtain ⟨⟨b, o, cap, c, e, hv, hn, hni, hc, ho, hl, hone, hd⟩, -⟩ := sliceAt_own h hsl
        rw [hv]
        exact block b o cap c e _ hc hl hone hd
    · simp at hs
  · simp at hs

theorem appGet_lt {n i : Nat} {f g : Nat → D} (h : i < n) : appGet n f g i = f i := by simp [appGet, Nat.blt_eq.mpr h]
theorem appGet_ge {n i : Nat} {f g : Nat → D} (h : n ≤ i) : appGet n f g i = g (i - n) := by
  have : Nat.blt i n = false := by
    cases hb : Nat.blt i n with
    | false => rfl
    | true => have := Nat.blt_eq.mp hb; omega
  simp [appGet, this]

/-- the cells of a slice and of what was appended to it -/
theorem app_cells {I : Nat → Prop} {w : World} {k n m o : Nat} {f gt : Nat → D} {c : Nat → Option Value} (hl : ∀ i, i < n → (f i).cells.length = k) (hl2 : ∀ i, i < m → (gt i).cells.length = k)
    (h1 : ∀ i j, i < n → j < k → ∃ u, c (o + i * k + j) = some u ∧ u.oneCell' = true) (h2 : ∀ (i j : Nat) (d : D), i < n → (f i).cells[j]? = some d → ∃ u, c (o + i * k + j) = some u ∧ DRel I w d u)
    (h3 : ∀ i j, i < m → j < k → ∃ u, c (o + n * k + i * k + j) = some u ∧ u.oneCell' = true) (h4 : ∀ (i j : Nat) (d : D), i < m → (gt i).cells[j]? = some d → ∃ u, c (o + n * k + i * k + j) = some u ∧ DRel I w d u) :
    (∀ i, i < n + m → (appGet n f gt i).cells.length = k) ∧ (∀ i j, i < n + m → j < k → ∃ u, c (o + i * k + j) = some u ∧ u.oneCell' = true) ∧
      ∀ (i j : Nat) (d : D), i < n + m → (appGet n f gt i).cells[j]? = some d → ∃ u, c (o + i * k + j) = some u ∧ DRel I w d u := by
  have hix : ∀ i, n ≤ i → o + n * k + (i - n) * k = o + i * k := fun i hi => by
    have : n * k + (i - n) * k = i * k := by rw [← Nat.add_mul]; congr 1; omega
    omega
  refine ⟨fun i hi => ?_, fun i j hi hj => ?_, fun i j d hi hj => ?_⟩
  · rcases Nat.lt_or_ge i n with h | h
    · rw [appGet_lt h]; exact hl i h
    · rw [appGet_ge h]; exact hl2 _ (by omega)
  · rcases Nat.lt_or_ge i n with h | h
    · exact h1 i j h hj
    · have := h3 (i - n) j (by omega) hj
      rwa [hix i h] at this
  · rcases Nat.lt_or_ge i n with h | h
    · rw [appGet_lt h] at hj; exact h2 i j d h hj
    · rw [appGet_ge h] at hj
      have := h4 (i - n) j d (by omega) hj
      rwa [hix i h] at this

theorem placeK_owns {N : Nat} {st : St} {t : Nat} {v : AV} {K : St → Prop} (hv : v.owns = true) (hk : placeK N st (some t) v K) : t < N ∧ K (St.own st t v) := by
  cases hb : Nat.blt t N with
  | false => simp [placeK_eq, place0, hb] at hk
  | true =>
    refine ⟨Nat.blt_eq.mp hb, ?_⟩
    cases v <;> first | (simp [placeK_eq, place0, hb] at hk; exact hk) | simp [AV.owns] at hv

theorem owns_strike {st : St} {t : Nat} {c : Option Nat} {x : AV} (h : leafAt st t c = some x) {u : Nat} {c' : Option Nat} (ho : ownsAt (setAt st t c (.d .und)) u c' = true) : ownsAt st u c' = true ∧ ¬ (u = t ∧ c' = c) := by
  rcases leafAt_cases h with ⟨rfl, h1, h2⟩ | ⟨j, cs, rfl, h1, h2, h3⟩
  · have hg := get_upd t u (.d .und) st
    by_cases hu : t = u
    · subst hu
      rw [if_pos rfl] at hg
      rw [ownsAt_plain (by show (upd t (.d .und) st t).plain = true; rw [hg]; rfl)] at ho
      simp at ho
    · rw [if_neg hu] at hg
      exact ⟨by rw [← ownsAt_congr (st' := setAt st t none (.d .und)) hg c']; exact ho, fun hh => hu hh.1.symm⟩
  · have hse : setAt st t (some j) (.d .und) = upd t (.obox (cs.set j (.d .und))) st := by simp only [setAt, h1]
    rw [hse] at ho
    have hg := get_upd t u (.obox (cs.set j (.d .und))) st
    by_cases hu : t = u
    · subst hu
      rw [if_pos rfl] at hg
      cases c' with
      | none => exact ⟨by simp [ownsAt, h1], fun hh => by simp at hh⟩
      | some j' =>
        by_cases hj : j = j'
        · subst hj
          simp only [ownsAt, hg, List.getElem?_set] at ho
          split at ho <;> simp_all
        · refine ⟨?_, fun hh => hj (by simpa using hh.2.symm)⟩
          simp only [ownsAt, hg, List.getElem?_set, if_neg hj] at ho
          simp only [ownsAt, h1]
          exact ho
    · rw [if_neg hu] at hg
      exact ⟨by rw [← ownsAt_congr hg c']; exact ho, fun hh => hu hh.1.symm⟩

theorem append_ok {P : Program} {cx : Cx} {g : G} {st : St} {a : Act} {w : World} (h : Sat cx g st a w) (t t2 ty : TypeId) {x y : AV} {ux uy : Value} (hx : ValR g w x ux) (hy : ValR g w y uy) {c : Prop} {v : AV}
    {how : Option (Nat × Option Nat)} (ha : appendV P st t t2 x y = some (c, v, how)) (hc : c) (dst : Option Nat) (K : St → Prop) (hK : placeK cx.N (consume st how) dst v K) :
    ∃ u w', (Builtin.append_ #[t, t2] ty #[ux, uy]).run P w = .ok u w' ∧ ∃ g' st', Sat cx g' st' (a.put dst u) w' ∧ K st' := by
  unfold appendV at ha
  split at ha
  · rename_i k bytes hn he
    obtain ⟨e, i, zv, z, ht, hi, hz, -, -, hk, hby, hb1, hzs, -⟩ := elemT_spec he
    subst hby
    split at ha
    · rename_i m gt hs
      obtain ⟨news, hlen, hnew, hnl, hgl, hn1, hn2⟩ := srcOf_ok (P := P) h hy hs
      split at ha
      · -- of no slice
        simp only [Option.some.injEq, Prod.mk.injEq] at ha
        obtain ⟨rfl, rfl, rfl⟩ := ha
        cases hx with
        | d _ _ hx =>
        cases hx
        obtain ⟨r1, r2⟩ := run_append (ty := ty) (w := w) ht hn hi hz hk hzs hb1 (base := none) (n := 0) (cap := 0) (news := news) (olds := []) (by rw [Nat.zero_add]; exact hc) hlen hnew (fun w' _ => run_firstCells_none w' _ _ _ _)
        cases hm : Nat.beq m 0 with
        | true =>
          have := Nat.eq_of_beq_eq_true hm; subst this
          have := r1 (by omega)
          simp at this
          refine ⟨_, _, this, ?_⟩
          simp only [hm, cond_true] at hK
          exact place_ok h (Made.of (.d _ _ .nils)) hK
        | false =>
          have hm0 : m ≠ 0 := fun h0 => by subst h0; simp at hm
          obtain ⟨w', C, rest, h1, h2, h3, hsl2, h4⟩ := r2 (by omega)
          simp only [Nat.zero_add] at h1 h2 h3 h4
          refine ⟨_, _, h1, ?_⟩
          simp only [hm, cond_false] at hK
          refine place_ok h (v := .own k m gt) ⟨hsl2, ⟨_, h4⟩, rfl, w.heap.size, 0, C, (news ++ rest).toArray, e, rfl, h2, fun hb => Nat.lt_irrefl _ (h.stays _ hb).1, by rw [h4]; simp, ?_, hgl, fun i j hi hj => ?_, fun i j d hi hj => ?_⟩ hK
          · have h5 : m * k + (C - m) * k = C * k := by rw [← Nat.add_mul]; congr 1; omega
            simp [hnl, h3]; omega
          · obtain ⟨u, hu, h1⟩ := hn1 i j hi hj
            exact ⟨u, by simp; rw [List.getElem?_append_left (List.getElem?_eq_some_iff.mp hu).1]; exact hu, h1⟩
          · obtain ⟨u, hu, h1⟩ := hn2 i j d hi hj
            refine ⟨u, by simp; rw [List.getElem?_append_left (List.getElem?_eq_some_iff.mp hu).1]; exact hu, h1.world fun b hb => ?_⟩
            rw [h4, Array.getElem?_push, if_neg (by have := (h.stays b hb).1; omega)]
      · rename_i u0 c0
        split at ha
        · rename_i sz n f hsl
          cases hbk : Nat.beq sz k with
          | false => simp [hbk] at ha
          | true =>
            simp only [hbk, cond_true, Option.some.injEq, Prod.mk.injEq] at ha
            obtain ⟨rfl, rfl, rfl⟩ := ha
            have := Nat.eq_of_beq_eq_true hbk; subst this
            obtain ⟨⟨b, o, cap, cc, e', hv, hncap, hni, hcc, hsz, hl, hone, hd⟩, how⟩ := sliceAt_own h hsl
            cases hx
            rw [hv]
            have holdl : ∀ q, q < n * sz → ∃ u, cc[o + q]? = some u := fun q hq => by
              have hle : n * sz ≤ cap * sz := Nat.mul_le_mul_right _ hncap
              exact ⟨cc[o + q]'(by omega), by simp⟩
            obtain ⟨r1, r2⟩ := run_append (ty := ty) (w := w) ht hn hi hz hk hzs hb1 (base := some ⟨b, o, none⟩) (n := n) (cap := cap) (news := news) (olds := (List.range (n * sz)).map fun q => cc[o + q]?.getD undef) hc hlen hnew
              (fun w' hw' => run_firstCells_some w' sz n _ _ _ _ (by simp) fun q v hq => by
                obtain ⟨hqm, hq⟩ := range_map_get hq
                obtain ⟨u, hu⟩ := holdl q hqm
                rw [add_none, cell_of_block (hw' ▸ hcc), ← hq, hu]; rfl)
            have hlf := leafAt_slice hsl
            have hfree : ∀ u' c', ownsAt (consume st (some (u0, c0))) u' c' = true → blockOf (g.val u' c') ≠ some b := fun u' c' ho hb => by
              obtain ⟨h1, h2⟩ := owns_strike hlf ho
              exact h2 (h.apart u' c' u0 c0 h1 how (by rw [hb, hv]; rfl))
            rcases Nat.lt_or_ge cap (n + m) with hlt | hge
            · obtain ⟨w', C, rest, h1, h2, h3, hsl2, h4⟩ := r2 (by omega)
              refine ⟨_, _, h1, ?_⟩
              have hst : Sat cx g (consume st (some (u0, c0))) a w := h.leafset hlf (b := b) (by rw [hv]; rfl) (Nat.le_refl _) (fun b' _ _ => rfl) (x' := .d .und) (.inr rfl) (Still.refl _)
              have hIw : ∀ b', g.I b' → w'.heap[b']? = w.heap[b']? := fun b' hb' => by
                rw [h4, Array.getElem?_push, if_neg (by have := (h.stays b' hb').1; omega)]
              have holds : ∀ i j, i < n → j < sz → ((List.range (n * sz)).map fun q => cc[o + q]?.getD undef)[i * sz + j]? = cc[o + i * sz + j]? := fun i j hi hj => by
                have hle : i * sz + sz ≤ n * sz := by rw [← Nat.succ_mul]; exact Nat.mul_le_mul_right _ hi
                obtain ⟨u, hu⟩ := holdl (i * sz + j) (by omega)
                rw [List.getElem?_map, List.getElem?_range (by omega)]
                simp only [Option.map_some]
                rw [show o + (i * sz + j) = o + i * sz + j by omega] at hu ⊢
                rw [hu]; rfl
              have hol : ((List.range (n * sz)).map fun q => cc[o + q]?.getD undef).length = n * sz := by simp
              generalize ((List.range (n * sz)).map fun q => cc[o + q]?.getD undef) = olds at *
              have hcells : ∀ q u, q < n * sz → olds[q]? = some u → (olds ++ news ++ rest).toArray[0 + q]? = some u := fun q u hq hu => by
                simp; rw [List.getElem?_append_left (by omega)]; exact hu
              have hcells2 : ∀ q u, news[q]? = some u → (olds ++ news ++ rest).toArray[n * sz + q]? = some u := fun q u hu => by
                have hq := (List.getElem?_eq_some_iff.mp hu).1
                simp; rw [List.getElem?_append_right (by omega), List.getElem?_append_left (by omega), hol, show n * sz + q - n * sz = q by omega]; exact hu
              obtain ⟨c1, c2, c3⟩ := app_cells (I := g.I) (w := w) (k := sz) (n := n) (m := m) (o := 0) (f := f) (gt := gt) (c := fun q => (olds ++ news ++ rest).toArray[q]?) hl hgl
                (fun i j hi hj => by
                  have hle : i * sz + sz ≤ n * sz := by rw [← Nat.succ_mul]; exact Nat.mul_le_mul_right _ hi
                  obtain ⟨u, hu, h1⟩ := hone i j hi hj
                  exact ⟨u, by rw [show 0 + i * sz + j = 0 + (i * sz + j) by omega]; exact hcells _ _ (by omega) (by rw [holds i j hi hj]; exact hu), h1⟩)
                (fun i j d hi hj => by
                  have hle : i * sz + sz ≤ n * sz := by rw [← Nat.succ_mul]; exact Nat.mul_le_mul_right _ hi
                  have hjk : j < sz := by rw [← hl i hi]; exact (List.getElem?_eq_some_iff.mp hj).1
                  obtain ⟨u, hu, h1⟩ := hd i j d hi hj
                  exact ⟨u, by rw [show 0 + i * sz + j = 0 + (i * sz + j) by omega]; exact hcells _ _ (by omega) (by rw [holds i j hi hjk]; exact hu), h1⟩)
                (fun i j hi hj => by
                  obtain ⟨u, hu, h1⟩ := hn1 i j hi hj
                  exact ⟨u, by rw [show 0 + n * sz + i * sz + j = n * sz + (i * sz + j) by omega]; exact hcells2 _ _ hu, h1⟩)
                (fun i j d hi hj => by
                  obtain ⟨u, hu, h1⟩ := hn2 i j d hi hj
                  exact ⟨u, by rw [show 0 + n * sz + i * sz + j = n * sz + (i * sz + j) by omega]; exact hcells2 _ _ hu, h1⟩)
              refine place_ok hst (v := .own sz (n + m) (appGet n f gt)) ⟨hsl2, ⟨_, h4⟩, rfl, w.heap.size, 0, C, (olds ++ news ++ rest).toArray, e, rfl, h2, fun hb => Nat.lt_irrefl _ (h.stays _ hb).1, by rw [h4]; simp, ?_, c1, c2, fun i j d hi hj => ?_⟩ hK
              · have h5 : (n + m) * sz + (C - (n + m)) * sz = C * sz := by rw [← Nat.add_mul]; congr 1; omega
                have h6 : (n + m) * sz = n * sz + m * sz := Nat.add_mul _ _ _
                simp [hnl, h3, hol]; omega
              · obtain ⟨u, hu, h1⟩ := c3 i j d hi hj
                exact ⟨u, hu, h1.world hIw⟩
            · have hr := r1 hge
              simp only [add_none] at hr
              have hle : n * sz + m * sz ≤ cap * sz := by rw [← Nat.add_mul]; exact Nat.mul_le_mul_right _ hge
              obtain ⟨w', c', h1, h2, h3, h4, h5, hsl2, h6⟩ := run_storeCells (P := P) (b := b) (o := o + n * sz) news 0 w cc hcc (by omega) (fun v hv' => by
                obtain ⟨q, hq, hq2⟩ := List.getElem_of_mem hv'
                have hk0 : 0 < sz := Nat.pos_of_ne_zero fun h0 => by subst h0; rw [Nat.mul_zero] at hnl; omega
                have hi : q / sz < m := Nat.div_lt_of_lt_mul (by rw [Nat.mul_comm]; omega)
                obtain ⟨u, hu, h1⟩ := hn1 (q / sz) (q % sz) hi (Nat.mod_lt _ hk0)
                have hqe : q / sz * sz + q % sz = q := by have := Nat.div_add_mod q sz; rw [Nat.mul_comm] at this; omega
                rw [hqe] at hu
                rw [List.getElem?_eq_getElem hq, hq2] at hu
                cases hu; exact h1)
              rw [show (storeCells ⟨b, o + n * sz, none⟩ news).run P w = _ from h1] at hr
              refine ⟨_, _, hr, ?_⟩
              have hst : Sat cx g (consume st (some (u0, c0))) a w' := h.leafset hlf (b := b) (by rw [hv]; rfl) (by omega) (fun b' _ hb' => h4 b' hb') (x' := .d .und) (.inr rfl) hsl2
              cases dst with
              | none => rw [placeK_eq] at hK; exact ⟨g, _, hst, hK⟩
              | some d =>
                obtain ⟨hdN, hK⟩ := placeK_owns rfl hK
                have hIw : ∀ b', g.I b' → w'.heap[b']? = w.heap[b']? := fun b' hb' => h4 b' fun he => hni (he ▸ hb')
                have hcells : ∀ q u, q < n * sz → cc[o + q]? = some u → c'[o + q]? = some u := fun q u hq hu => by
                  rw [h6, if_neg (by omega)]; exact hu
                have hcells2 : ∀ q u, news[q]? = some u → c'[o + n * sz + q]? = some u := fun q u hu => by
                  have hq := (List.getElem?_eq_some_iff.mp hu).1
                  rw [h6, if_pos (by omega), show o + n * sz + q - (o + n * sz + 0) = q by omega]; exact hu
                obtain ⟨c1, c2, c3⟩ := app_cells (I := g.I) (w := w) (k := sz) (n := n) (m := m) (o := o) (f := f) (gt := gt) (c := fun q => c'[q]?) hl hgl
                  (fun i j hi hj => by
                    have hle : i * sz + sz ≤ n * sz := by rw [← Nat.succ_mul]; exact Nat.mul_le_mul_right _ hi
                    obtain ⟨u, hu, h1⟩ := hone i j hi hj
                    exact ⟨u, by rw [show o + i * sz + j = o + (i * sz + j) by omega] at hu ⊢; exact hcells _ _ (by omega) hu, h1⟩)
                  (fun i j d hi hj => by
                    have hle : i * sz + sz ≤ n * sz := by rw [← Nat.succ_mul]; exact Nat.mul_le_mul_right _ hi
                    have hjk : j < sz := by rw [← hl i hi]; exact (List.getElem?_eq_some_iff.mp hj).1
                    obtain ⟨u, hu, h1⟩ := hd i j d hi hj
                    exact ⟨u, by rw [show o + i * sz + j = o + (i * sz + j) by omega] at hu ⊢; exact hcells _ _ (by omega) hu, h1⟩)
                  (fun i j hi hj => by
                    obtain ⟨u, hu, h1⟩ := hn1 i j hi hj
                    exact ⟨u, by rw [show o + n * sz + i * sz + j = o + n * sz + (i * sz + j) by omega]; exact hcells2 _ _ hu, h1⟩)
                  (fun i j d hi hj => by
                    obtain ⟨u, hu, h1⟩ := hn2 i j d hi hj
                    exact ⟨u, by rw [show o + n * sz + i * sz + j = o + n * sz + (i * sz + j) by omega]; exact hcells2 _ _ hu, h1⟩)
                refine ⟨_, _, hst.newfree hdN (Nat.le_refl _) (fun _ _ _ => rfl) (b := b) rfl hni hfree (h.home _ _ _ how (by rw [hv]; rfl)) rfl ?_ (Still.refl _), hK⟩
                refine ⟨b, o, cap, c', e', rfl, hge, hni, h2, by omega, c1, c2, fun i j d hi hj => ?_⟩
                obtain ⟨u, hu, h1⟩ := c3 i j d hi hj
                exact ⟨u, hu, h1.world hIw⟩
        · simp at ha
      · simp at ha
    · simp at ha
  · simp at ha

end AM

/- AM: calls. -/
namespace AM
open Go

theorem saysAnyIn_get {t : Nat} : ∀ {vs : List AV} {i : Nat} {x : AV}, vs[i]? = some x → x.saysIn t = true → saysAnyIn t vs = true
  | [], i, x, h, _ => by simp at h
  | v :: r, 0, x, h, hs => by simp at h; subst h; simp [saysAnyIn, hs]
  | v :: r, i + 1, x, h, hs => by simp at h; simp [saysAnyIn, saysAnyIn_get h hs]

theorem ValR.monoIn {g g' : G} {w w' : World} {x : AV} {v : Value} (h : ValR g w x v) (hI : ∀ b, g.I b → g'.I b) (hw : ∀ b, g.I b → w'.heap[b]? = w.heap[b]?)
    (h1 : ∀ t, x.says t = true → g'.val t none = g.val t none) (h2 : ∀ t j, x.saysIn t = true → g'.val t (some j) = g.val t (some j)) : ValR g' w' x v := by
  induction h with
  | d x v hx => exact .d x v (hx.mono hI hw)
  | ref t j b o hb => exact .ref t j b o ((h1 t (by simp [AV.says])).trans hb)
  | eref t c sz i j b o n cap hb hi =>
    cases c with
    | none => exact .eref t _ sz i j b o n cap ((h1 t (by simp [AV.says])).trans hb) hi
    | some c => exact .eref t _ sz i j b o n cap ((h2 t c (by simp [AV.saysIn])).trans hb) hi
  | bor t c =>
    cases c with
    | none => rw [← h1 t (by simp [AV.says])]; exact .bor t none
    | some c => rw [← h2 t c (by simp [AV.saysIn])]; exact .bor t (some c)
  | agg vs us hl _ ih => exact .agg vs us hl fun i x u hx hu => ih i x u hx hu (fun t ht => h1 t (by simp [AV.says]; exact saysAny_get hx ht)) fun t j ht => h2 t j (by simp [AV.saysIn]; exact saysAnyIn_get hx ht)
  | tup vs us hl _ ih => exact .tup vs us hl fun i x u hx hu => ih i x u hx hu (fun t ht => h1 t (by simp [AV.says]; exact saysAny_get hx ht)) fun t j ht => h2 t j (by simp [AV.saysIn]; exact saysAnyIn_get hx ht)
  | clo f vs us hl _ ih => exact .clo f vs us hl fun i x u hx hu => ih i x u hx hu (fun t ht => h1 t (by simp [AV.says]; exact saysAny_get hx ht)) fun t j ht => h2 t j (by simp [AV.saysIn]; exact saysAnyIn_get hx ht)

theorem get_killIn (t u : Nat) (st : St) : killIn t st u = if (st u).saysIn t then .d .und else st u := by
  unfold killIn
  generalize st u = x
  have bif_ite : ∀ (b : Bool) (y : AV), (bif b then AV.d .und else y) = if b = true then AV.d .und else y := fun b y => by cases b <;> rfl
  cases x <;> first | rfl | exact bif_ite _ _ | (rename_i c _ _ _; cases c <;> first | rfl | exact bif_ite _ _) | (rename_i c; cases c <;> first | rfl | exact bif_ite _ _)

mutual
theorem says_of_saysIn {t : Nat} : ∀ (x : AV), x.saysIn t = true → x.says t = true
  | .eref u c _ _ _, h => by cases c <;> simp_all [AV.saysIn, AV.says]
  | .bor u c, h => by cases c <;> simp_all [AV.saysIn, AV.says]
  | .agg vs, h => saysAny_of_saysAnyIn vs h
  | .tup vs, h => saysAny_of_saysAnyIn vs h
  | .clo _ vs, h => saysAny_of_saysAnyIn vs h
  | .d _, h => by simp [AV.saysIn] at h
  | .own _ _ _, h => by simp [AV.saysIn] at h
  | .imap _ _, h => by simp [AV.saysIn] at h
  | .obox _, h => by simp [AV.saysIn] at h
  | .ref _ _, h => by simp [AV.saysIn] at h
theorem saysAny_of_saysAnyIn {t : Nat} : ∀ (vs : List AV), saysAnyIn t vs = true → saysAny t vs = true
  | [], h => by simp [saysAnyIn] at h
  | v :: r, h => by
    simp only [saysAnyIn, Bool.or_eq_true] at h
    simp only [saysAny, Bool.or_eq_true]
    exact h.imp (says_of_saysIn v) (saysAny_of_saysAnyIn r)
end

/-- an owner has a block -/
theorem Sat.block {cx : Cx} {g : G} {st : St} {a : Act} {w : World} (h : Sat cx g st a w) {t : Nat} {c : Option Nat} (ho : ownsAt st t c = true) : ∃ b, blockOf (g.val t c) = some b := by
  obtain ⟨v, hs, -⟩ := h.slot_at t
  generalize hx : st t = x at hs
  cases c with
  | none =>
    cases x with
    | own sz n get => obtain ⟨h1, b', o, cap, c, e, hv, -⟩ := hs; rw [← h1, hv]; exact ⟨_, rfl⟩
    | imap k look => obtain ⟨h1, b', es, clock, hv, -⟩ := hs; rw [← h1, hv]; exact ⟨_, rfl⟩
    | obox cs => obtain ⟨h1, b', o, c, e, hv, -⟩ := hs; rw [← h1, hv]; exact ⟨_, rfl⟩
    | _ => simp [ownsAt, hx] at ho
  | some j =>
    cases x with
    | obox cs =>
      obtain ⟨h1, b', o, c, e, hv, hi, hc, hall⟩ := hs
      simp only [ownsAt, hx] at ho
      cases hj : cs[j]? with
      | none => simp [hj] at ho
      | some y =>
        rw [hj] at ho
        obtain ⟨u, -, hr⟩ := hall j y hj
        cases y with
        | own sz n get => obtain ⟨hu, b, o, cap, c, e, hv, -⟩ := hr; rw [← hu, hv]; exact ⟨_, rfl⟩
        | imap k look => obtain ⟨hu, b, es, clock, hv, -⟩ := hr; rw [← hu, hv]; exact ⟨_, rfl⟩
        | _ => simp at ho
    | _ => simp [ownsAt, hx] at ho

/-- a callee's places become the caller's -/
theorem Sat.homeAgain {cx : Cx} {g : G} {st : St} {a : Act} {w : World} (h : Sat cx g st a w) {L : Nat → Prop} {gc : G} {stc : St} {w' : World} (hc : Sat ⟨w, L, g.I, 0, noFix⟩ gc stc noAct w')
    (src : Nat → Option Nat) (st' : St) (a' : Act) (hinj : ∀ u u' k, src u = some k → src u' = some k → u = u')
    (hL : ∀ b, L b → ∃ u c, src u ≠ none ∧ ownsAt st u c = true ∧ blockOf (g.val u c) = some b)
    (hsize : a'.tmps.size = a.tmps.size) (hdef : a'.defers = [])
    (hT : ∀ u k, src u = some k → st' u = stc k ∧ (stc k).closed = true ∧ (u < cx.N → a'.tmps.getD u undef = gc.val k none) ∧ (cx.N ≤ u → gc.val k none = g.val u none))
    (hkeep : ∀ u, src u = none → (st' u = .d .und ∨ (st' u = st u ∧ ∀ t k, src t = some k → (st u).saysIn t = false ∧ (gc.val k none = g.val t none ∨ (st u).says t = false))) ∧ a'.tmps.getD u undef = a.tmps.getD u undef) :
    Sat cx ⟨gc.I, fun u c => match src u with | some k => gc.val k c | none => g.val u c⟩ st' a' w' := by
  have hTL : ∀ b, L b → ¬ g.I b ∧ b < w.heap.size := fun b hb => by
    obtain ⟨u, c, -, h1, h2⟩ := hL b hb
    exact ⟨(owns_lt h h1 h2).2, (owns_lt h h1 h2).1⟩
  have hI : ∀ b, g.I b → gc.I b := hc.more
  have hw : ∀ b, g.I b → w'.heap[b]? = w.heap[b]? := fun b hb => hc.frame b (h.stays b hb).1 fun hl => (hTL b hl).1 hb
  have hv : ∀ u c, src u = none → (match src u with | some k => gc.val k c | none => g.val u c) = g.val u c := fun u c hu => by rw [hu]
  have hvT : ∀ u c k, src u = some k → (match src u with | some k => gc.val k c | none => g.val u c) = gc.val k c := fun u c k hu => by rw [hu]
  have hownU : ∀ u c b, src u = none → ownsAt st u c = true → blockOf (g.val u c) = some b → (w'.heap[b]? = w.heap[b]? ∧ ¬ gc.I b) ∧ b < w.heap.size ∧ ¬ L b := fun u c b hu ho hb => by
    obtain ⟨h1, h2⟩ := owns_lt h ho hb
    have h3 : ¬ L b := fun hl => by
      obtain ⟨u2, c2, h4, h5, h6⟩ := hL b hl
      have := (h.apart u c u2 c2 ho h5 (hb.trans h6.symm)).1
      subst this
      exact h4 hu
    refine ⟨⟨hc.frame b h1 h3, fun hg => ?_⟩, h1, h3⟩
    rcases (hc.stays b hg).2 with h4 | h4 | h4
    · exact h2 h4
    · exact absurd h1 (Nat.not_lt.mpr h4)
    · exact h3 h4
  have hlent : ∀ b, L b → cx.w0.heap.size ≤ b ∨ cx.L b := fun b hb => by
    obtain ⟨u, c, -, h1, h2⟩ := hL b hb
    exact h.home u c b h1 h2
  have hnew : ∀ k c b, ownsAt stc k c = true → blockOf (gc.val k c) = some b → cx.w0.heap.size ≤ b ∨ cx.L b := fun k c b h1 h2 => by
    rcases hc.home k c b h1 h2 with h3 | h3
    · have h3 : w.heap.size ≤ b := h3
      have := h.grows
      left; omega
    · exact hlent b h3
  have slotT : ∀ u k, src u = some k → SlotR ⟨gc.I, fun u c => match src u with | some k => gc.val k c | none => g.val u c⟩ w' u (gc.val k none) (st' u) := fun u k hu => by
    obtain ⟨h1, h2, -, -⟩ := hT u k hu
    rw [h1]
    have h3 := hc.extra k (Nat.zero_le _)
    generalize stc k = x at h2 h3
    cases x with
    | d x => cases h3 with | d _ _ h4 => exact .d _ _ h4
    | own sz n get => exact ⟨(hvT u none k hu).symm, h3.2⟩
    | imap kk look => exact ⟨(hvT u none k hu).symm, h3.2⟩
    | obox cs =>
      refine ⟨(hvT u none k hu).symm, ?_⟩
      obtain ⟨-, b, o, c, e, h4, h5, h6, h7⟩ := h3
      refine ⟨b, o, c, e, h4, h5, h6, fun j x hj => ?_⟩
      obtain ⟨uu, h8, h9⟩ := h7 j x hj
      refine ⟨uu, h8, ?_⟩
      cases x with
      | d x => exact h9
      | own sz n get => exact ⟨h9.1.trans (hvT u _ k hu).symm, h9.2⟩
      | imap kk look => exact ⟨h9.1.trans (hvT u _ k hu).symm, h9.2⟩
      | _ => exact h9.elim
    | _ => simp [AV.closed] at h2
  refine h.step2 _ _ _ _ (fun u => src u ≠ none) hsize hdef (fun u hu => ?_) (fun u hu hN => ?_) (fun u hu hN => ?_) (fun u c hu => hv u c (Classical.not_not.mp hu)) hI (fun u c u2 c2 hu h1 h2 hbb => ?_) (fun u c b hu h1 hb => ?_)
    (fun b hb => ?_) (by have h1 := hc.grows; have h2 := h.grows; exact Nat.le_trans h2 h1) (fun b h1 h2 => ?_) (fun u hu hN => ?_) hc.still
  · have hu := Classical.not_not.mp hu
    obtain ⟨h1, h2⟩ := hkeep u hu
    refine ⟨fun v hsl => ?_, fun c hc' => ?_, h2⟩
    · rcases h1 with h1 | ⟨h1, h3⟩
      · rw [h1]; exact SlotR.und
      · rw [h1]
        by_cases hp : (st u).plain = true
        · rw [SlotR_plain hp] at hsl ⊢
          refine hsl.monoIn hI hw (fun t ht => ?_) fun t j ht => ?_
          · dsimp only
            cases hst : src t with
            | none => rfl
            | some k =>
              rcases (h3 t k hst).2 with h4 | h4
              · exact h4
              · rw [h4] at ht; simp at ht
          · dsimp only
            cases hst : src t with
            | none => rfl
            | some k => rw [(h3 t k hst).1] at ht; simp at ht
        · refine hsl.gmono hI hw (fun t c ht => ?_) (fun c _ => hv u c hu) fun c b hc' hb => (hownU u c b hu hc' hb).1
          generalize st u = x at hp ht
          cases x <;> first | (simp [AV.says] at ht; done) | exact absurd rfl hp
    · rcases h1 with h1 | ⟨h1, -⟩
      · rw [ownsAt_plain (by rw [h1]; rfl)] at hc'; simp at hc'
      · rw [ownsAt_congr h1] at hc'; exact hc'
  · obtain ⟨k, hk⟩ := Option.ne_none_iff_exists'.mp hu
    rw [(hT u k hk).2.2.1 hN]; exact slotT u k hk
  · obtain ⟨k, hk⟩ := Option.ne_none_iff_exists'.mp hu
    have h1 := slotT u k hk
    rw [← hvT u none k hk] at h1
    exact h1
  · obtain ⟨k, hk⟩ := Option.ne_none_iff_exists'.mp hu
    have h1' : ownsAt stc k c = true := by
      have h3 := (hT u k hk).1
      cases c <;> simp only [ownsAt, h3] at h1 ⊢ <;> exact h1
    dsimp only at hbb
    rw [hvT u c k hk] at hbb
    cases hk2 : src u2 with
    | some k2 =>
      have h2' : ownsAt stc k2 c2 = true := by
        have h3 := (hT u2 k2 hk2).1
        cases c2 <;> simp only [ownsAt, h3] at h2 ⊢ <;> exact h2
      rw [hvT u2 c2 k2 hk2] at hbb
      obtain ⟨rfl, rfl⟩ := hc.apart k c k2 c2 h1' h2' hbb
      exact ⟨hinj _ _ _ hk hk2, rfl⟩
    | none =>
      exfalso
      rw [hv u2 c2 hk2] at hbb
      have h2' : ownsAt st u2 c2 = true := by
        rcases (hkeep u2 hk2).1 with h3 | ⟨h3, -⟩
        · rw [ownsAt_plain (by rw [h3]; rfl)] at h2; simp at h2
        · rw [ownsAt_congr h3] at h2; exact h2
      obtain ⟨b, hb⟩ := h.block h2'
      obtain ⟨-, h5, h6⟩ := hownU u2 c2 b hk2 h2' hb
      rcases hc.home k c b h1' (hbb.trans hb) with h7 | h7
      · have h7 : w.heap.size ≤ b := h7
        omega
      · exact h6 h7
  · obtain ⟨k, hk⟩ := Option.ne_none_iff_exists'.mp hu
    dsimp only at hb
    rw [hvT u c k hk] at hb
    have h1' : ownsAt stc k c = true := by
      have h3 := (hT u k hk).1
      cases c <;> simp only [ownsAt, h3] at h1 ⊢ <;> exact h1
    exact hnew k c b h1' hb
  · obtain ⟨h1, h2⟩ := hc.stays b hb
    refine ⟨h1, ?_⟩
    rcases h2 with h2 | h2 | h2
    · exact (h.stays b h2).2
    · have h2 : w.heap.size ≤ b := h2
      have := h.grows
      right; left; omega
    · exact .inr (hlent b h2)
  · have hlt : b < w.heap.size := Nat.lt_of_lt_of_le h1 h.grows
    rw [hc.frame b hlt fun hl => ?_]
    · exact h.frame b h1 h2
    · rcases hlent b hl with h3 | h3
      · omega
      · exact h2 h3
  · obtain ⟨k, hk⟩ := Option.ne_none_iff_exists'.mp hu
    exact (hvT u none k hk).trans ((hT u k hk).2.2.2 hN)

/-! lending -/
theorem ValR.says_again {g g1 : G} {w : World} {x : AV} {v : Value} (h : ValR g w x v) (hv : g1.val = g.val) (hI : ∀ b, g.I b → g1.I b) : ValR g1 w x v :=
  h.mono hI (fun _ _ => rfl) fun t c _ => by rw [hv]

def LentR (g : G) (w : World) : D × Option (Nat × Nat) → Value → Prop
  | (d, none), u => DRel g.I w d u
  | (_, some (t, j)), u => ValR g w (.ref t j) u

theorem lend_ok {cx : Cx} {a : Act} {w : World} : ∀ (xs : List AV) (us : List Value) (g : G) (st : St) (l : List (D × Option (Nat × Nat))) (st1 : St), Sat cx g st a w → us.length = xs.length →
    (∀ (i : Nat) (x : AV) (u : Value), xs[i]? = some x → us[i]? = some u → ValR g w x u) → lend st xs = some (l, st1) →
    ∃ g1, g1.val = g.val ∧ (∀ b, g.I b → g1.I b) ∧ Sat cx g1 st1 a w ∧ l.length = us.length ∧ ∀ (i : Nat) (x : D × Option (Nat × Nat)) (u : Value), l[i]? = some x → us[i]? = some u → LentR g1 w x u
  | [], us, g, st, l, st1, h, hl, hu, he => by
    simp only [lend, Option.some.injEq, Prod.mk.injEq] at he
    obtain ⟨rfl, rfl⟩ := he
    exact ⟨g, rfl, fun _ h => h, h, by simpa using hl.symm, fun i x u hi _ => by simp at hi⟩
  | x :: r, [], g, st, l, st1, h, hl, hu, he => by simp at hl
  | x :: r, u :: us, g, st, l, st1, h, hl, hu, he => by
    have hx := hu 0 x u rfl rfl
    have rest : ∀ (g0 : G) (st0 : St) (l0 : List (D × Option (Nat × Nat))) (e : D × Option (Nat × Nat)), Sat cx g0 st0 a w → g0.val = g.val → (∀ b, g.I b → g0.I b) → LentR g0 w e u → lend st0 r = some (l0, st1) → l = e :: l0 →
        ∃ g1, g1.val = g.val ∧ (∀ b, g.I b → g1.I b) ∧ Sat cx g1 st1 a w ∧ l.length = (u :: us).length ∧ ∀ (i : Nat) (x : D × Option (Nat × Nat)) (u' : Value), l[i]? = some x → (u :: us)[i]? = some u' → LentR g1 w x u' := by
      intro g0 st0 l0 e h0 hv0 hI0 he0 hl0 heq
      obtain ⟨g1, h1, h2, h3, h4, h5⟩ := lend_ok r us g0 st0 l0 st1 h0 (by simpa using hl) (fun i x u hi hu' => (hu (i + 1) x u (by simpa using hi) (by simpa using hu')).says_again hv0 hI0) hl0
      refine ⟨g1, h1.trans hv0, fun b hb => h2 b (hI0 b hb), h3, by simp [heq, h4], fun i x u' hi hu' => ?_⟩
      subst heq
      cases i with
      | zero =>
        simp at hi hu'
        subst hi; subst hu'
        obtain ⟨d, o⟩ := e
        cases o with
        | none => exact DRel.mono he0 h2 fun _ _ => rfl
        | some tj => exact ValR.says_again he0 h1 h2
      | succ i => exact h5 i x u' (by simpa using hi) (by simpa using hu')
    have data : ∀ d st0 l0, toData st x = some (d, st0) → lend st0 r = some (l0, st1) → l = (d, none) :: l0 →
        ∃ g1, g1.val = g.val ∧ (∀ b, g.I b → g1.I b) ∧ Sat cx g1 st1 a w ∧ l.length = (u :: us).length ∧ ∀ (i : Nat) (x : D × Option (Nat × Nat)) (u' : Value), l[i]? = some x → (u :: us)[i]? = some u' → LentR g1 w x u' := by
      intro d st0 l0 h1 h2 h3
      obtain ⟨g0, h4, h5, h6, h7⟩ := toData_ok st x g u d st0 h hx h1
      exact rest g0 st0 l0 (d, none) h7 h4 h5 h6 h2 h3
    by_cases hr : ∃ t j, x = .ref t j
    · obtain ⟨t, j, rfl⟩ := hr
      simp only [lend] at he
      cases hr : lend st r with
      | none => simp [hr] at he
      | some p =>
        obtain ⟨l0, st0⟩ := p
        simp only [hr, Option.some.injEq, Prod.mk.injEq] at he
        obtain ⟨rfl, rfl⟩ := he
        exact rest g st l0 (.und, some (t, j)) h rfl (fun _ h => h) hx hr rfl
    · have he' : (match toData st x with
        | some (d, st') => match lend st' r with
          | some (l, st'') => some ((d, none) :: l, st'')
          | none => none
        | none => none) = some (l, st1) := by
        cases x <;> first | exact he | exact absurd ⟨_, _, rfl⟩ hr
      cases hd : toData st x with
      | none => simp [hd] at he'
      | some p =>
        obtain ⟨d, st0⟩ := p
        rw [hd] at he'
        cases hr2 : lend st0 r with
        | none => simp [hr2] at he'
        | some p =>
          obtain ⟨l0, st2⟩ := p
          simp only [hr2, Option.some.injEq, Prod.mk.injEq] at he'
          obtain ⟨rfl, rfl⟩ := he'
          exact data d st0 l0 hd hr2 rfl

/-- what is lent at a place -/
def lentAt (l : List (D × Option (Nat × Nat))) (k : Nat) : Option Nat :=
  match l[k]? with
  | some (_, some (t, _)) => some t
  | _ => none

theorem argsOf_ok {st : St} : ∀ (l : List (D × Option (Nat × Nat))) (ar : List Arg), argsOf st l = some ar → ar.length = l.length ∧
    (∀ (k : Nat) (d : D), l[k]? = some (d, none) → ar[k]? = some (Arg.d d)) ∧ ∀ (k : Nat) (d : D) (t j : Nat), l[k]? = some (d, some (t, j)) → ∃ cs, st t = .obox cs ∧ ar[k]? = some (Arg.box cs j)
  | [], ar, h => by simp [argsOf] at h; subst h; simp
  | (d, none) :: r, ar, h => by
    simp only [argsOf] at h
    cases hr : argsOf st r with
    | none => simp [hr] at h
    | some ar' =>
      simp only [hr, Option.some.injEq] at h
      subst h
      obtain ⟨h1, h2, h3⟩ := argsOf_ok r ar' hr
      refine ⟨by simp [h1], fun k d' hk => ?_, fun k d' t j hk => ?_⟩
      · cases k with
        | zero => simp at hk; subst hk; rfl
        | succ k => simpa using h2 k d' (by simpa using hk)
      · cases k with
        | zero => simp at hk
        | succ k => simpa using h3 k d' t j (by simpa using hk)
  | (d, some (t, j)) :: r, ar, h => by
    simp only [argsOf] at h
    cases hst : st t <;> cases hr : argsOf st r <;> simp only [hst, hr] at h <;> try (simp at h; done)
    rename_i cs ar'
    simp only [Option.some.injEq] at h
    subst h
    obtain ⟨h1, h2, h3⟩ := argsOf_ok r ar' hr
    refine ⟨by simp [h1], fun k d' hk => ?_, fun k d' t' j' hk => ?_⟩
    · cases k with
      | zero => simp at hk
      | succ k => simpa using h2 k d' (by simpa using hk)
    · cases k with
      | zero =>
        simp at hk
        obtain ⟨-, rfl, rfl⟩ := hk
        exact ⟨cs, hst, rfl⟩
      | succ k => simpa using h3 k d' t' j' (by simpa using hk)

theorem ownSt_get : ∀ (vs : List AV) (k u : Nat), ownSt k vs u = if k ≤ u ∧ u < k + vs.length then (vs[u - k]?).getD (.d .und) else .d .und
  | [], k, u => by simp [ownSt]
  | v :: r, k, u => by
    simp only [ownSt, get_upd, ownSt_get r]
    by_cases h : k = u
    · subst h; simp
    · rw [if_neg h]
      by_cases h2 : k + 1 ≤ u ∧ u < k + 1 + r.length
      · rw [if_pos h2, if_pos (by simp; omega), show u - k = (u - (k + 1)) + 1 by omega]; simp
      · rw [if_neg h2, if_neg (by simp; omega)]

theorem stA_get (ar : List Arg) (k : Nat) : stA ar k = ((ar[k]?).map argOwn).getD (.d .und) := by
  unfold stA
  rw [ownSt_get]
  by_cases h : k < ar.length
  · rw [if_pos (by simp; omega)]; simp
  · rw [if_neg (by simp; omega)]; simp [List.getElem?_eq_none (Nat.le_of_not_lt h)]

theorem lentAt_mem : ∀ (l : List (D × Option (Nat × Nat))) (k t : Nat), lentAt l k = some t → allNe t (lentOf l) = true → False
  | [], k, t, h, _ => by simp [lentAt] at h
  | (d, none) :: r, 0, t, h, _ => by simp [lentAt] at h
  | (d, some (t', j)) :: r, 0, t, h, hn => by
    simp [lentAt] at h; subst h
    simp [lentOf, allNe] at hn
  | (d, none) :: r, k + 1, t, h, hn => lentAt_mem r k t (by simpa [lentAt] using h) (by simpa [lentOf] using hn)
  | (d, some (t', j)) :: r, k + 1, t, h, hn => lentAt_mem r k t (by simpa [lentAt] using h) (by simp [lentOf, allNe] at hn; exact hn.2)

theorem lentAt_inj : ∀ (l : List (D × Option (Nat × Nat))), apartB (lentOf l) = true → ∀ k k' t, lentAt l k = some t → lentAt l k' = some t → k = k'
  | [], _, k, k', t, h, _ => by simp [lentAt] at h
  | (d, none) :: r, ha, k, k', t, h, h' => by
    cases k with
    | zero => simp [lentAt] at h
    | succ k =>
      cases k' with
      | zero => simp [lentAt] at h'
      | succ k' => rw [lentAt_inj r (by simpa [lentOf] using ha) k k' t (by simpa [lentAt] using h) (by simpa [lentAt] using h')]
  | (d, some (t0, j)) :: r, ha, k, k', t, h, h' => by
    simp only [lentOf, apartB, Bool.and_eq_true] at ha
    cases k with
    | zero =>
      cases k' with
      | zero => rfl
      | succ k' =>
        simp [lentAt] at h; subst h
        exact (lentAt_mem r k' t0 (by simpa [lentAt] using h') ha.1).elim
    | succ k =>
      cases k' with
      | zero =>
        simp [lentAt] at h'; subst h'
        exact (lentAt_mem r k t0 (by simpa [lentAt] using h) ha.1).elim
      | succ k' => rw [lentAt_inj r ha.2 k k' t (by simpa [lentAt] using h) (by simpa [lentAt] using h')]

theorem back_ok {st : St} : ∀ (l : List (D × Option (Nat × Nat))) (outs : List AV) (st' : St), apartB (lentOf l) = true → back st l outs = some st' →
    (∀ k t, lentAt l k = some t → ∃ cs, outs[k]? = some (.obox cs) ∧ st' t = .obox cs) ∧
      ∀ u, (∀ k, lentAt l k ≠ some u) → st' u = .d .und ∨ (st' u = st u ∧ ∀ k t, lentAt l k = some t → (st u).saysIn t = false)
  | [], [], st', _, h => by simp [back] at h; subst h; exact ⟨fun k t hk => by simp [lentAt] at hk, fun u _ => .inr ⟨rfl, fun k t hk => by simp [lentAt] at hk⟩⟩
  | [], _ :: _, st', _, h => by simp [back] at h
  | (d, none) :: r, [], st', _, h => by simp [back] at h
  | (d, some (t, j)) :: r, [], st', _, h => by simp [back] at h
  | (d, none) :: r, o :: os, st', ha, h => by
    simp only [back] at h
    obtain ⟨h1, h2⟩ := back_ok r os st' (by simpa [lentOf] using ha) h
    refine ⟨fun k t hk => ?_, fun u hu => ?_⟩
    · cases k with
      | zero => simp [lentAt] at hk
      | succ k => simpa using h1 k t (by simpa [lentAt] using hk)
    · rcases h2 u (fun k hk => hu (k + 1) (by simpa [lentAt] using hk)) with h3 | ⟨h3, h4⟩
      · exact .inl h3
      · refine .inr ⟨h3, fun k t hk => ?_⟩
        cases k with
        | zero => simp [lentAt] at hk
        | succ k => exact h4 k t (by simpa [lentAt] using hk)
  | (d, some (t, j)) :: r, o :: os, st', ha, h => by
    simp only [lentOf, apartB, Bool.and_eq_true] at ha
    cases o <;> simp only [back] at h <;> try (simp at h; done)
    rename_i cs
    cases hr : back st r os with
    | none => simp [hr] at h
    | some st0 =>
      simp only [hr, Option.some.injEq] at h
      subst h
      obtain ⟨h1, h2⟩ := back_ok r os st0 ha.2 hr
      refine ⟨fun k t' hk => ?_, fun u hu => ?_⟩
      · cases k with
        | zero =>
          simp [lentAt] at hk; subst hk
          exact ⟨cs, rfl, by rw [get_upd, if_pos rfl]⟩
        | succ k =>
          have hk' : lentAt r k = some t' := by simpa [lentAt] using hk
          obtain ⟨cs', h3, h4⟩ := h1 k t' hk'
          refine ⟨cs', by simpa using h3, ?_⟩
          have hne : t ≠ t' := fun he => by subst he; exact lentAt_mem r k t hk' ha.1
          rw [get_upd, if_neg hne, get_killIn, h4]
          rfl
      · have hne : t ≠ u := fun he => hu 0 (by subst he; simp [lentAt])
        rw [get_upd, if_neg hne, get_killIn]
        rcases h2 u (fun k hk => hu (k + 1) (by simpa [lentAt] using hk)) with h3 | ⟨h3, h4⟩
        · left; rw [h3]; rfl
        · split
          · exact .inl rfl
          · rename_i hs
            refine .inr ⟨h3, fun k t' hk => ?_⟩
            cases k with
            | zero => simp [lentAt] at hk; subst hk; rw [h3] at hs; simpa using hs
            | succ k => exact h4 k t' (by simpa [lentAt] using hk)

/-- what a call leaves behind -/
def AfterCall (cx : Cx) (a : Act) (dst : Option Nat) (K : St → Prop) (Kp : D → St → Prop) (e : Ending) (w' : World) : Prop :=
  match e with
  | .returned v => ∃ g' st', Sat cx g' st' (a.put dst v) w' ∧ K st'
  | .panicked c => ∃ g' st' d v, c = [{ v, recovered := false }] ∧ DRel g'.I w' d v ∧ Sat cx g' st' a w' ∧ Kp d st'
  | .outgrown => False

theorem lentAt_spec {l : List (D × Option (Nat × Nat))} {k t : Nat} (h : lentAt l k = some t) : ∃ d j, l[k]? = some (d, some (t, j)) := by
  unfold lentAt at h
  split at h
  · rename_i d t' j hk; simp at h; subst h; exact ⟨d, j, hk⟩
  · simp at h

theorem calls_ok {P : Program} {cx : Cx} {g : G} {st : St} {a : Act} {w : World} (h : Sat cx g st a w) {l : List (D × Option (Nat × Nat))} {ar : List Arg} {us : List Value} (hl : l.length = us.length)
    (hr : ∀ (i : Nat) (x : D × Option (Nat × Nat)) (u : Value), l[i]? = some x → us[i]? = some u → LentR g w x u) (har : argsOf st l = some ar) (hap : apartB (lentOf l) = true) {f : FuncId} {post : Out → Prop}
    (hs : Spec P f ar post) {dst : Option Nat} {K : St → Prop} {Kp : D → St → Prop} (hK : ∀ o, post o → outK cx.N st l dst K Kp o) : Calls P f ⟨us⟩ w (AfterCall cx a dst K Kp) := by
  obtain ⟨ha1, ha2, ha3⟩ := argsOf_ok l ar har
  let gc : G := ⟨g.I, fun k c => match lentAt l k with | some t => g.val t c | none => undef⟩
  let L : Nat → Prop := fun b => ∃ k t c, lentAt l k = some t ∧ ownsAt st t c = true ∧ blockOf (g.val t c) = some b
  have hgc : ∀ k t c, lentAt l k = some t → gc.val k c = g.val t c := fun k t c hk => by simp only [gc, hk]
  have hstA : ∀ k t, lentAt l k = some t → ∃ cs, st t = .obox cs ∧ stA ar k = .obox cs := fun k t hk => by
    obtain ⟨d, j, h1⟩ := lentAt_spec hk
    obtain ⟨cs, h2, h3⟩ := ha3 k d t j h1
    exact ⟨cs, h2, by rw [stA_get, h3]; rfl⟩
  have hstN : ∀ k, lentAt l k = none → stA ar k = .d .und := fun k hk => by
    rw [stA_get]
    cases hlk : l[k]? with
    | none => rw [List.getElem?_eq_none (by rw [ha1]; exact List.getElem?_eq_none_iff.mp hlk)]; rfl
    | some x =>
      obtain ⟨d, o⟩ := x
      cases o with
      | none => rw [ha2 k d hlk]; rfl
      | some tj => obtain ⟨t, j⟩ := tj; simp [lentAt, hlk] at hk
  have hownA : ∀ k c, ownsAt (stA ar) k c = true → ∃ t, lentAt l k = some t ∧ ownsAt st t c = true := fun k c hk => by
    cases hlk : lentAt l k with
    | none => rw [ownsAt_plain (by rw [hstN k hlk]; rfl)] at hk; simp at hk
    | some t =>
      obtain ⟨cs, h1, h2⟩ := hstA k t hlk
      refine ⟨t, rfl, ?_⟩
      cases c <;> simp only [ownsAt, h1, h2] at hk ⊢ <;> exact hk
  have hsat : Sat ⟨w, L, gc.I, 0, noFix⟩ gc (stA ar) noAct w := by
    refine ⟨rfl, rfl, fun t ht => absurd ht (Nat.not_lt_zero _), fun k _ => ?_, fun k c k' c' h1 h2 hb => ?_, fun k c b h1 hb => ?_, fun b hb => ⟨(h.stays b hb).1, .inl hb⟩, fun b hb => hb, Nat.le_refl _, fun b _ _ => rfl, fun t v _ hx => (nomatch hx), Still.refl _⟩
    · cases hlk : lentAt l k with
      | none => rw [hstN k hlk]; exact SlotR.und
      | some t =>
        obtain ⟨cs, h1, h2⟩ := hstA k t hlk
        rw [h2]
        refine ⟨rfl, ?_⟩
        obtain ⟨b, o, c, e, h3, h4, h5, h6⟩ := box_at h h1
        rw [hgc k t none hlk]
        refine ⟨b, o, c, e, h3, h4, h5, fun j x hj => ?_⟩
        obtain ⟨u, h7, h8⟩ := h6 j x hj
        refine ⟨u, h7, ?_⟩
        cases x with
        | d x => exact h8
        | own sz n get => exact ⟨h8.1.trans (hgc k t _ hlk).symm, h8.2⟩
        | imap kk look => exact ⟨h8.1.trans (hgc k t _ hlk).symm, h8.2⟩
        | _ => exact h8.elim
    · obtain ⟨t, h3, h4⟩ := hownA k c h1
      obtain ⟨t', h5, h6⟩ := hownA k' c' h2
      rw [hgc k t c h3, hgc k' t' c' h5] at hb
      obtain ⟨rfl, rfl⟩ := h.apart t c t' c' h4 h6 hb
      exact ⟨lentAt_inj l hap k k' t h3 h5, rfl⟩
    · obtain ⟨t, h3, h4⟩ := hownA k c h1
      rw [hgc k t c h3] at hb
      exact .inr ⟨k, t, c, h3, h4, hb⟩
  have hargs : ArgsV gc w ar us := by
    refine ⟨by rw [ha1, hl], fun k x v hk hv => ?_⟩
    have hkl : k < l.length := by rw [← ha1]; exact (List.getElem?_eq_some_iff.mp hk).1
    have hlk : l[k]? = some l[k] := by simp [hkl]
    have h1 := hr k _ v hlk hv
    generalize l[k] = y at hlk h1
    obtain ⟨d, o⟩ := y
    cases o with
    | none =>
      rw [ha2 k d hlk] at hk
      cases hk
      exact .d _ _ h1
    | some tj =>
      obtain ⟨t, j⟩ := tj
      obtain ⟨cs, h2, h3⟩ := ha3 k d t j hlk
      rw [h3] at hk
      cases hk
      have h1 : ValR g w (.ref t j) v := h1
      cases h1 with
      | ref _ _ b o hb => exact .ref k j b o ((hgc k t none (by simp [lentAt, hlk])).trans hb)
  refine (hs.2 w gc L us hsat hargs).mono fun e w' hR => ?_
  obtain ⟨o, hpost, ho⟩ := hR
  have hk := hK o hpost
  -- who has what
  have lookup : ∀ u : Nat, (∃ k, lentAt l k = some u) ∨ ∀ k, lentAt l k ≠ some u := fun u => Classical.or_iff_not_imp_left.mpr fun h1 k hk => h1 ⟨k, hk⟩
  have hsrc : ∃ src0 : Nat → Option Nat, ∀ u, (∀ k, src0 u = some k → lentAt l k = some u) ∧ (src0 u = none → ∀ k, lentAt l k ≠ some u) := by
    refine ⟨fun u => open Classical in if hx : ∃ k, lentAt l k = some u then some hx.choose else none, fun u => ⟨fun k hk => ?_, fun hn k hk => ?_⟩⟩
    · dsimp only at hk
      split at hk
      · rename_i hx; cases hk; exact hx.choose_spec
      · simp at hk
    · dsimp only at hn
      split at hn
      · simp at hn
      · rename_i hx; exact hx ⟨k, hk⟩
  obtain ⟨src0, hsrc⟩ := hsrc
  have hinj0 : ∀ u u' k, src0 u = some k → src0 u' = some k → u = u' := fun u u' k h1 h2 => by
    have h3 := (hsrc u).1 k h1
    rw [(hsrc u').1 k h2] at h3
    simpa using h3.symm
  have hlt : ∀ k t, lentAt l k = some t → k < ar.length := fun k t hk => by
    obtain ⟨d, j, h1⟩ := lentAt_spec hk
    rw [ha1]; exact (List.getElem?_eq_some_iff.mp h1).1
  have hL0 : ∀ b, L b → ∃ u c, src0 u ≠ none ∧ ownsAt st u c = true ∧ blockOf (g.val u c) = some b := fun b ⟨k, t, c, h1, h2, h3⟩ =>
    ⟨t, c, fun hn => (hsrc t).2 hn k h1, h2, h3⟩
  have htmps : ∀ u k, lentAt l k = some u → u < cx.N → a.tmps.getD u undef = g.val u none := fun u k hk hN => by
    obtain ⟨cs, h1, -⟩ := hstA k u hk
    have := h.slot u hN
    rw [h1] at this
    exact this.1
  -- the lent ones are back
  have home0 : ∀ (g' : G) (r : AV) (outs : List AV) (st2 : St), r.closed = true → outs.length = ar.length → Sat ⟨w, L, g.I, 0, noFix⟩ g' (stO ar r outs) noAct w' → (∀ k cs, outs[k]? = some (.obox cs) → g'.val k none = gc.val k none) → back st l outs = some st2 →
      ∃ g2 : G, g2.I = g'.I ∧ Sat cx g2 st2 a w' := by
    intro g' r outs st2 hrc hlo hs' hv hb
    obtain ⟨h1, h2⟩ := back_ok l outs st2 hap hb
    have hout : ∀ k, k < ar.length → stO ar r outs k = (outs[k]?).getD (.d .und) := fun k hk => by
      unfold stO
      rw [get_upd, if_neg (by omega), ownSt_get, if_pos (by omega)]; rfl
    refine ⟨⟨g'.I, fun u c => match src0 u with | some k => g'.val k c | none => g.val u c⟩, rfl, h.homeAgain hs' src0 st2 a hinj0 hL0 rfl h.defers (fun u k hu => ?_) (fun u hu => ⟨?_, rfl⟩)⟩
    · have h3 := (hsrc u).1 k hu
      obtain ⟨cs, h4, h5⟩ := h1 k u h3
      have h6 : stO ar r outs k = .obox cs := by rw [hout k (hlt k u h3), h4]; rfl
      refine ⟨by rw [h5, h6], by rw [h6]; rfl, fun hN => ?_, fun _ => (hv k cs h4).trans (hgc k u none h3)⟩
      rw [htmps u k h3 hN, hv k cs h4, hgc k u none h3]
    · rcases h2 u ((hsrc u).2 hu) with h3 | ⟨h3, h4⟩
      · exact .inl h3
      · refine .inr ⟨h3, fun t k hk => ?_⟩
        have h5 := (hsrc t).1 k hk
        obtain ⟨cs, h6, h7⟩ := h1 k t h5
        exact ⟨h4 k t h5, .inl ((hv k cs h6).trans (hgc k t none h5))⟩
  cases o with
  | pan d outs =>
    obtain ⟨hlo, g', v, rfl, hd, hs', hv⟩ := ho
    simp only [outK] at hk
    split at hk
    · rename_i st2 hb
      obtain ⟨g2, hg2, h1⟩ := home0 g' (.d .und) outs st2 rfl hlo hs' hv hb
      exact ⟨g2, st2, d, v, rfl, by rw [hg2]; exact hd, h1, hk⟩
    · exact hk.elim
  | ret r outs =>
    obtain ⟨hlo, hrc, g', rfl, hs', hv⟩ := ho
    simp only [outK] at hk
    split at hk
    · rename_i st2 hb
      have hrn : stO ar r outs ar.length = r := by unfold stO; rw [get_upd, if_pos rfl]
      by_cases hp : r.plain = true
      · obtain ⟨g2, hg2, h1⟩ := home0 g' r outs st2 hrc hlo hs' hv hb
        obtain ⟨x, rfl⟩ : ∃ x, r = .d x := by cases r <;> simp_all [AV.closed, AV.plain]
        have h2 := hs'.extra ar.length (Nat.zero_le _)
        rw [hrn] at h2
        have h2 : ValR g' w' (.d x) (g'.val ar.length none) := h2
        cases h2 with
        | d _ _ h2 => exact place_ok h1 (Made.of (.d _ _ (by rw [hg2]; exact h2))) hk
      · cases dst with
        | none =>
          obtain ⟨g2, hg2, h1⟩ := home0 g' r outs st2 hrc hlo hs' hv hb
          rw [placeK_eq] at hk
          exact ⟨g2, st2, h1, hk⟩
        | some t =>
          have hkt : t < cx.N ∧ K (St.own st2 t r) := by
            cases hbt : Nat.blt t cx.N with
            | false => simp [placeK_eq, place0, hbt] at hk
            | true =>
              refine ⟨Nat.blt_eq.mp hbt, ?_⟩
              cases r <;> first | (simp only [placeK_eq, place0, hbt, cond_true] at hk; exact hk) | exact absurd rfl hp
          obtain ⟨htN, hkt⟩ := hkt
          obtain ⟨h1, h2⟩ := back_ok l outs st2 hap hb
          have hout : ∀ k, k < ar.length → stO ar r outs k = (outs[k]?).getD (.d .und) := fun k hk => by
            unfold stO
            rw [get_upd, if_neg (by omega), ownSt_get, if_pos (by omega)]; rfl
          refine ⟨⟨g'.I, fun u c => match (if u = t then some ar.length else src0 u) with | some k => g'.val k c | none => g.val u c⟩, St.own st2 t r, h.homeAgain hs' (fun u => if u = t then some ar.length else src0 u) (St.own st2 t r) (a.put (some t) (g'.val ar.length none)) (fun u u' k hu hu' => ?_) (fun b hb => ?_) put_size (put_defers.trans h.defers) (fun u k hu => ?_) (fun u hu => ?_), hkt⟩
          · split at hu <;> split at hu'
            · rename_i e1 e2; rw [e1, e2]
            · cases hu; have := hlt _ _ ((hsrc u').1 _ hu'); omega
            · cases hu'; have := hlt _ _ ((hsrc u).1 _ hu); omega
            · exact hinj0 u u' k hu hu'
          · obtain ⟨u, c, h3, h4, h5⟩ := hL0 b hb
            refine ⟨u, c, ?_, h4, h5⟩
            split
            · simp
            · exact h3
          · split at hu
            · rename_i he
              subst he
              cases hu
              exact ⟨by rw [own_get, if_pos rfl, hrn], by rw [hrn]; exact hrc, fun hN => put_getD_same (by rw [h.size]; exact hN), fun hN => by omega⟩
            · rename_i hne
              have h3 := (hsrc u).1 k hu
              obtain ⟨cs, h4, h5⟩ := h1 k u h3
              have h6 : stO ar r outs k = .obox cs := by rw [hout k (hlt k u h3), h4]; rfl
              refine ⟨?_, by rw [h6]; rfl, fun hN => ?_, fun _ => (hv k cs h4).trans (hgc k u none h3)⟩
              · rw [own_get, if_neg (Ne.symm hne), h5, h6]; rfl
              · rw [put_getD_other hne, htmps u k h3 hN, hv k cs h4, hgc k u none h3]
          · split at hu
            · simp at hu
            · rename_i hne
              refine ⟨?_, put_getD_other hne⟩
              rw [own_get, if_neg (Ne.symm hne)]
              rcases h2 u ((hsrc u).2 hu) with h3 | ⟨h3, h4⟩
              · left; rw [h3]; rfl
              · split
                · exact .inl rfl
                · rename_i hns
                  refine .inr ⟨h3, fun t' k hk' => ?_⟩
                  rw [h3] at hns
                  split at hk'
                  · rename_i he
                    subst he
                    have hn : (st u).says t' = false := by simpa using hns
                    refine ⟨?_, .inr hn⟩
                    cases hsi : (st u).saysIn t' with
                    | false => rfl
                    | true => rw [says_of_saysIn _ hsi] at hn; simp at hn
                  · have h5 := (hsrc t').1 k hk'
                    obtain ⟨cs, h6, h7⟩ := h1 k t' h5
                    exact ⟨h4 k t' h5, .inl ((hv k cs h6).trans (hgc k t' none h5))⟩
    · exact hk.elim

end AM
