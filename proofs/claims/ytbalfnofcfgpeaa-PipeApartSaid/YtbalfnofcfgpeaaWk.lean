/- A part of the proof: an abstract machine over the model's code, and the walks that use it. No condition. -/
import Derived.Test.YtbalfnofcfgpeaaAmC
import Derived.Test.YtbalfnofcfgpeaaProg
import Derived.Laws.BitsLemmas
import Derived.Test.YtbalfnofcfgpeaaRows
import Derived.ProofKit
import Derived.OpenShut
import Derived.Laws.Strings
import Derived.Laws.Bits64

set_option linter.unusedVariables false
set_option linter.unusedSimpArgs false

/- The walks of the small functions that the pipe's laws reach. -/
namespace AM
open Go Go.Proofs
set_option maxRecDepth 100000
set_option maxHeartbeats 4000000

theorem mixed : Try.prog.follows .mixedOrders = true := by decide +kernel

def encMach (op d e a b c imm : Int) (args : D) : D := .agg [.int .i64 op, .int .i64 d, .int .i64 e, .int .i64 a, .int .i64 b, .int .i64 c, .int .i32 imm, args]
def encDesc (m d l t : Int) : D := .agg [.int .i64 m, .int .i64 d, .int .i64 l, .int .i64 t]

/-- a slice of numbers that is an owner's or nil -/
def RowAV (L : List Int) (v : AV) : Prop := (v = .d .nils ∧ L = []) ∨ ∃ n get, v = .own 1 n get ∧ n = L.length ∧ ∀ i, i < n → get i = .int .i64 (L.getD i 0)

/-- a slice of numbers that is data -/
def RowD (L : List Int) (v : D) : Prop := (v = .nils ∧ L = []) ∨ ∃ n get, v = .dat 1 n get ∧ n = L.length ∧ ∀ i, i < n → get i = .int .i64 (L.getD i 0)

theorem row0 {get : Nat → D} : RowAV [] (.own 1 0 get) := .inr ⟨0, get, rfl, rfl, fun i hi => absurd hi (Nat.not_lt_zero i)⟩
theorem rowN : RowAV [] (.d .nils) := .inl ⟨rfl, rfl⟩
theorem row1 {get : Nat → D} {x : Int} (h : get 0 = .int .i64 x) : RowAV [x] (.own 1 1 get) := .inr ⟨1, get, rfl, rfl, fun i hi => by
  have : i = 0 := by omega
  subst this; exact h⟩
theorem row2 {get : Nat → D} {x y : Int} (h : get 0 = .int .i64 x) (h1 : get 1 = .int .i64 y) : RowAV [x, y] (.own 1 2 get) := .inr ⟨2, get, rfl, rfl, fun i hi => by
  rcases i with _ | _ | i
  · exact h
  · exact h1
  · omega⟩
theorem row3 {get : Nat → D} {x y z : Int} (h : get 0 = .int .i64 x) (h1 : get 1 = .int .i64 y) (h2 : get 2 = .int .i64 z) : RowAV [x, y, z] (.own 1 3 get) := .inr ⟨3, get, rfl, rfl, fun i hi => by
  rcases i with _ | _ | _ | i
  · exact h
  · exact h1
  · exact h2
  · omega⟩

theorem rowE {get : Nat → D} : RowAV [] (.own 1 (0 + 0) get) := .inr ⟨0 + 0, get, rfl, rfl, fun i hi => absurd hi (Nat.not_lt_zero i)⟩
theorem rowApp {L : List Int} {f get : Nat → D} (h : ∀ i, i < L.length → get i = .int .i64 (L.getD i 0)) : RowAV L (.own 1 (0 + L.length) (appGet 0 f get)) :=
  .inr ⟨_, _, rfl, Nat.zero_add _, fun i hi => by rw [appGet_ge (Nat.zero_le i)]; exact h i (by omega)⟩

/-! numbers -/
theorem rest_spec (x n : Int) (hn : n ≠ 0) : Spec Try.prog 15 [.d (.int .i64 x), .d (.int .i64 n)] (fun o => o = .ret (.d (.int .i64 ((IntKind.i64.wrap (x.tmod n + n)).tmod n))) [.d .und, .d .und]) := by
  refine spec_of mixed Try.func15 (by decide +kernel) (keep := [0, 1, 4, 12, 13]) ?_
  conv => whnf
  refine ⟨hn, ?_⟩
  conv => whnf
  refine ⟨hn, ?_⟩
  conv => whnf
  rfl

def lateI (op m dd l : Int) : Int :=
  if op = 7 ∨ op = 23 ∨ op = 29 then maxI 1 (minI m 20) else if op = 17 then maxI 1 (minI dd 20) else if op = 24 ∨ op = 25 ∨ op = 30 then maxI 1 (minI l 20) else 1

theorem late16_spec (n : Int) : Spec Try.prog 34 [.d (.int .i64 n)] (fun o => o = .ret (.d (.int .i64 (maxI 1 (minI n 20)))) [.d .und]) := by
  refine spec_of mixed Try.func34 (by decide +kernel) (keep := [0, 2, 6]) ?_
  conv => whnf
  rfl

/-- sched.Late -/
theorem late_spec (op d e a b c imm : Int) (args : D) (L : List Int) (hL : RowD L args) (m dd l t : Int) : Spec Try.prog 19 [.d (encMach op d e a b c imm args), .d (encDesc m dd l t)] (fun o => o = .ret (.d (.int .i64 (lateI op m dd l))) [.d .und, .d .und]) := by
  refine spec_of mixed Try.func19 (by decide +kernel) (keep := [0, 1, 2, 3, 4, 5, 7, 8, 14, 18, 27, 28]) ?_
  rcases hL with ⟨rfl, rfl⟩ | ⟨n, get, rfl, rfl, hget⟩
  all_goals repeat' ((conv => whnf); split)
  all_goals conv => whnf
  all_goals refine congrArg (fun r => Out.ret (.d (.int .i64 r)) [.d .und, .d .und]) ?_
  all_goals simp_all [lateI]
  all_goals decide

/-- jacquardref16.Late -/
theorem lateR_spec (op d e a b c imm : Int) (args : D) (L : List Int) (hL : RowD L args) (m dd l t : Int) : Spec Try.prog 27 [.d (encMach op d e a b c imm args), .d (encDesc m dd l t)] (fun o => o = .ret (.d (.int .i64 (lateI op m dd l))) [.d .und, .d .und]) := by
  refine spec_of mixed Try.func27 (by decide +kernel) (keep := [0, 1, 2, 3, 4, 6, 7, 14, 19, 26, 27]) ?_
  rcases hL with ⟨rfl, rfl⟩ | ⟨n, get, rfl, rfl, hget⟩
  all_goals repeat' ((conv => whnf); split)
  all_goals conv => whnf
  all_goals first
    | (refine ⟨_, late16_spec m, ⟨_, rfl⟩, ?_⟩; rintro o rfl; (conv => whnf)
       refine congrArg (fun r => Out.ret (.d (.int .i64 r)) [.d .und, .d .und]) ?_; simp_all [lateI]; done)
    | (refine ⟨_, late16_spec dd, ⟨_, rfl⟩, ?_⟩; rintro o rfl; (conv => whnf)
       refine congrArg (fun r => Out.ret (.d (.int .i64 r)) [.d .und, .d .und]) ?_; simp_all [lateI]; done)
    | (refine ⟨_, late16_spec l, ⟨_, rfl⟩, ?_⟩; rintro o rfl; (conv => whnf)
       refine congrArg (fun r => Out.ret (.d (.int .i64 r)) [.d .und, .d .und]) ?_; simp_all [lateI]; done)
    | (refine congrArg (fun r => Out.ret (.d (.int .i64 r)) [.d .und, .d .und]) ?_; simp_all [lateI]; done)

/-! descriptions -/
def rightB (m d l t : Int) : Bool := decide (1 ≤ m ∧ m ≤ 20 ∧ 1 ≤ d ∧ d ≤ 20 ∧ 1 ≤ l ∧ l ≤ 20 ∧ 0 ≤ t ∧ t ≤ 20)

theorem minI_ge (x y k : Int) : minI x y ≥ k ↔ x ≥ k ∧ y ≥ k := by unfold minI; split <;> omega
theorem maxI_le (x y k : Int) : maxI x y ≤ k ↔ x ≤ k ∧ y ≤ k := by unfold maxI; split <;> omega

/-- pipe.Right -/
theorem right_spec (m d l t : Int) : Spec Try.prog 13 [.d (encDesc m d l t)] (fun o => o = .ret (.d (.bool (rightB m d l t))) [.d .und]) := by
  refine spec_of mixed Try.func13 (by decide +kernel) (keep := [0, 1, 2, 28]) ?_
  repeat' ((conv => whnf); split)
  all_goals conv => whnf
  all_goals refine congrArg (fun r => Out.ret (.d (.bool r)) [.d .und]) ?_
  all_goals simp only [cond_true, decide_eq_true_eq, decide_eq_false_iff_not, minI_ge, maxI_le] at *
  all_goals rw [Bool.eq_iff_iff]
  all_goals simp only [rightB, decide_eq_true_eq, Bool.false_eq_true, false_iff, maxI_le]
  all_goals omega

/-- jacquardref16.Right -/
theorem rightR16_spec (m d l t : Int) : Spec Try.prog 28 [.d (encDesc m d l t)] (fun o => o = .ret (.d (.bool (rightB m d l t))) [.d .und]) := by
  refine spec_of mixed Try.func28 (by decide +kernel) (keep := [0, 1, 2, 41]) ?_
  repeat' ((conv => whnf); split)
  all_goals conv => whnf
  all_goals refine congrArg (fun r => Out.ret (.d (.bool r)) [.d .und]) ?_
  all_goals simp only [cond_true, decide_eq_true_eq, decide_eq_false_iff_not] at *
  all_goals rw [Bool.eq_iff_iff]
  all_goals simp only [rightB, decide_eq_true_eq, Bool.false_eq_true, false_iff]
  all_goals omega

theorem rightR_spec (m d l t : Int) : Spec Try.prog 14 [.d (encDesc m d l t)] (fun o => o = .ret (.d (.bool (rightB m d l t))) [.d .und]) := by
  refine spec_of mixed Try.func14 (by decide +kernel) (keep := [0, 1, 2, 5]) ?_
  conv => whnf
  refine ⟨_, rightR16_spec m d l t, ⟨_, rfl⟩, ?_⟩
  rintro o rfl
  conv => whnf
  rfl

/-! places -/
def takes07 (op a b c : Int) (L : List Int) : List Int :=
  if op = 1 ∨ (18 ≤ op ∧ op ≤ 22) ∨ op = 24 ∨ op = 31 then [a]
  else if op = 2 ∨ (5 ≤ op ∧ op ≤ 17) ∨ op = 25 ∨ op = 26 ∨ op = 29 then [a, b]
  else if op = 23 ∨ op = 27 then [a, b, c]
  else if op = 28 then L else []

theorem takes07_spec (op d e a b c imm : Int) (args : D) (L : List Int) (hL : RowD L args) (hb : L.length ≤ 1000) : Spec Try.prog 36 [.d (encMach op d e a b c imm args)] (fun o => ∃ v, o = .ret v [.d .und] ∧ RowAV (takes07 op a b c L) v) := by
  refine spec_of mixed Try.func36 (by decide +kernel) (keep := [0, 1, 2, 3, 30, 64, 80, 88]) ?_
  rcases hL with ⟨rfl, rfl⟩ | ⟨n, get, rfl, rfl, hget⟩
  all_goals repeat' ((conv => whnf); split)
  all_goals conv => whnf
  all_goals try (refine ⟨_, rfl, ?_⟩)
  all_goals simp only [cond_true, cond_false, beq_iff_eq, beq_eq_false_iff_ne, ne_eq, decide_eq_true_eq, decide_eq_false_iff_not] at *
  all_goals try (unfold takes07; (repeat' split) <;> first | exact row1 rfl | exact row2 rfl rfl | exact row3 rfl rfl rfl | exact rowN | omega)
  · rename_i h28
    refine ⟨by show (0 + 0) * 8 ≤ 140737488355328; omega, ?_⟩
    conv => whnf
    refine ⟨_, rfl, ?_⟩
    subst h28
    exact rowE
  · rename_i h28
    refine ⟨by show (0 + L.length) * 8 ≤ 140737488355328; omega, ?_⟩
    conv => whnf
    refine ⟨_, rfl, ?_⟩
    subst h28
    exact rowApp hget

def makes07 (op d e a b : Int) : List Int :=
  if op = 2 then [a, b] else if op = 29 then [d, e] else if op = 26 ∨ op = 27 ∨ op = 31 ∨ op < 1 ∨ op > 31 then [] else [d]

theorem makes07_spec (op d e a b c imm : Int) (args : D) (L : List Int) (hL : RowD L args) : Spec Try.prog 37 [.d (encMach op d e a b c imm args)] (fun o => ∃ v, o = .ret v [.d .und] ∧ RowAV (makes07 op d e a b) v) := by
  refine spec_of mixed Try.func37 (by decide +kernel) (keep := [0, 1, 2, 3, 12, 21, 48]) ?_
  rcases hL with ⟨rfl, rfl⟩ | ⟨n, get, rfl, rfl, hget⟩
  all_goals repeat' ((conv => whnf); split)
  all_goals conv => whnf
  all_goals refine ⟨_, rfl, ?_⟩
  all_goals simp only [cond_true, cond_false, beq_iff_eq, beq_eq_false_iff_ne, ne_eq, decide_eq_true_eq, decide_eq_false_iff_not] at *
  all_goals (unfold makes07; (repeat' split) <;> first | exact row1 rfl | exact row2 rfl rfl | exact rowN | omega)

def spoils (op : Int) : List Int := if op = 28 then [1, 2, 3] else []

theorem spoils12_spec (op d e a b c imm : Int) (args : D) (L : List Int) (hL : RowD L args) : Spec Try.prog 33 [.d (encMach op d e a b c imm args)] (fun o => ∃ v, o = .ret v [.d .und] ∧ RowAV (spoils op) v) := by
  refine spec_of mixed Try.func33 (by decide +kernel) (keep := [0, 1, 2, 5, 7]) ?_
  rcases hL with ⟨rfl, rfl⟩ | ⟨n, get, rfl, rfl, hget⟩
  all_goals repeat' ((conv => whnf); split)
  all_goals conv => whnf
  all_goals refine ⟨_, rfl, ?_⟩
  all_goals simp only [beq_iff_eq, beq_eq_false_iff_ne, ne_eq] at *
  all_goals (unfold spoils; (repeat' split) <;> first | exact row3 rfl rfl rfl | exact rowN | omega)

theorem spoilsP_spec (op d e a b c imm : Int) (args : D) (L : List Int) (hL : RowD L args) : Spec Try.prog 22 [.d (encMach op d e a b c imm args)] (fun o => ∃ v, o = .ret v [.d .und] ∧ RowAV (spoils op) v) := by
  refine spec_of mixed Try.func22 (by decide +kernel) (keep := [0, 1, 2, 5, 7]) ?_
  rcases hL with ⟨rfl, rfl⟩ | ⟨n, get, rfl, rfl, hget⟩
  all_goals repeat' ((conv => whnf); split)
  all_goals conv => whnf
  all_goals refine ⟨_, rfl, ?_⟩
  all_goals simp only [beq_iff_eq, beq_eq_false_iff_ne, ne_eq] at *
  all_goals (unfold spoils; (repeat' split) <;> first | exact row3 rfl rfl rfl | exact rowN | omega)

end AM

/- The walks of the functions that take and make places. -/
namespace AM
open Go Go.Proofs
set_option maxRecDepth 100000
set_option maxHeartbeats 4000000

theorem rowEx (L : List Int) : ∃ v, RowAV L v := ⟨.own 1 L.length fun i => .int .i64 (L.getD i 0), .inr ⟨_, _, rfl, rfl, fun _ _ => rfl⟩⟩

def places (op a b imm : Int) (L : List Int) (k : Int) : List Int :=
  if op = 2 then [a, b] else if op = k then [IntKind.i64.wrap (16 + IntKind.i64.wrap imm)] else L

theorem takes12_spec (op d e a b c imm : Int) (args : D) (L : List Int) (hL : RowD L args) (hb : L.length ≤ 1000) : Spec Try.prog 31 [.d (encMach op d e a b c imm args)] (fun o => ∃ v, o = .ret v [.d .und] ∧ RowAV (places op a b imm (takes07 op a b c L) 30) v) := by
  have hT := takes07_spec op d e a b c imm args L hL hb
  refine spec_of mixed Try.func31 (by decide +kernel) (keep := [0, 1, 2, 5, 13, 21]) ?_
  obtain ⟨v0, hv0⟩ := rowEx (takes07 op a b c L)
  rcases hL with ⟨rfl, rfl⟩ | ⟨n, get, rfl, rfl, hget⟩
  all_goals repeat' ((conv => whnf); split)
  all_goals conv => whnf
  all_goals try (refine ⟨_, hT, ⟨_, v0, rfl, hv0⟩, ?_⟩; rintro o ⟨v, rfl, ⟨rfl, hv⟩ | ⟨n, get, rfl, hn, hv⟩⟩)
  all_goals conv => whnf
  all_goals refine ⟨_, rfl, ?_⟩
  all_goals simp only [cond_true, cond_false, beq_iff_eq, beq_eq_false_iff_ne, ne_eq, decide_eq_true_eq, decide_eq_false_iff_not] at *
  all_goals (unfold places; (repeat' split) <;> first | exact row1 rfl | exact row2 rfl rfl | exact row3 rfl rfl rfl | exact .inr ⟨_, _, rfl, hn, hv⟩ | exact .inl ⟨rfl, hv⟩ | omega)

theorem makes12_spec (op d e a b c imm : Int) (args : D) (L : List Int) (hL : RowD L args) : Spec Try.prog 32 [.d (encMach op d e a b c imm args)] (fun o => ∃ v, o = .ret v [.d .und] ∧ RowAV (places op a b imm (makes07 op d e a b) 31) v) := by
  have hT := makes07_spec op d e a b c imm args L hL
  refine spec_of mixed Try.func32 (by decide +kernel) (keep := [0, 1, 2, 5, 13, 21]) ?_
  obtain ⟨v0, hv0⟩ := rowEx (makes07 op d e a b)
  rcases hL with ⟨rfl, rfl⟩ | ⟨n, get, rfl, rfl, hget⟩
  all_goals repeat' ((conv => whnf); split)
  all_goals conv => whnf
  all_goals try (refine ⟨_, hT, ⟨_, v0, rfl, hv0⟩, ?_⟩; rintro o ⟨v, rfl, ⟨rfl, hv⟩ | ⟨n, get, rfl, hn, hv⟩⟩)
  all_goals conv => whnf
  all_goals refine ⟨_, rfl, ?_⟩
  all_goals simp only [cond_true, cond_false, beq_iff_eq, beq_eq_false_iff_ne, ne_eq, decide_eq_true_eq, decide_eq_false_iff_not] at *
  all_goals (unfold places; (repeat' split) <;> first | exact row1 rfl | exact row2 rfl rfl | exact row3 rfl rfl rfl | exact .inr ⟨_, _, rfl, hn, hv⟩ | exact .inl ⟨rfl, hv⟩ | omega)

theorem kind38_spec (op d e a b c imm : Int) (args : D) (L : List Int) (hL : RowD L args) : Spec Try.prog 38 [.d (encMach op d e a b c imm args)] (fun o => ∃ v, o = .ret v [.d .und] ∧ RowAV [] v) := by
  refine spec_of mixed Try.func38 (by decide +kernel) (keep := [0, 2, 3]) ?_
  rcases hL with ⟨rfl, rfl⟩ | ⟨n, get, rfl, rfl, hget⟩
  all_goals conv => whnf
  all_goals refine ⟨_, rfl, ?_⟩
  all_goals first | exact rowN | exact row1 rfl | exact row2 rfl rfl | exact row3 rfl rfl rfl

theorem kind39_spec (op d e a b c imm : Int) (args : D) (L : List Int) (hL : RowD L args) : Spec Try.prog 39 [.d (encMach op d e a b c imm args)] (fun o => ∃ v, o = .ret v [.d .und] ∧ RowAV [d] v) := by
  refine spec_of mixed Try.func39 (by decide +kernel) (keep := [0, 1, 2, 6]) ?_
  rcases hL with ⟨rfl, rfl⟩ | ⟨n, get, rfl, rfl, hget⟩
  all_goals conv => whnf
  all_goals refine ⟨_, rfl, ?_⟩
  all_goals first | exact rowN | exact row1 rfl | exact row2 rfl rfl | exact row3 rfl rfl rfl

theorem kind40_spec (op d e a b c imm : Int) (args : D) (L : List Int) (hL : RowD L args) : Spec Try.prog 40 [.d (encMach op d e a b c imm args)] (fun o => ∃ v, o = .ret v [.d .und] ∧ RowAV [a] v) := by
  refine spec_of mixed Try.func40 (by decide +kernel) (keep := [0, 1, 2, 6]) ?_
  rcases hL with ⟨rfl, rfl⟩ | ⟨n, get, rfl, rfl, hget⟩
  all_goals conv => whnf
  all_goals refine ⟨_, rfl, ?_⟩
  all_goals first | exact rowN | exact row1 rfl | exact row2 rfl rfl | exact row3 rfl rfl rfl

theorem kind41_spec (op d e a b c imm : Int) (args : D) (L : List Int) (hL : RowD L args) : Spec Try.prog 41 [.d (encMach op d e a b c imm args)] (fun o => ∃ v, o = .ret v [.d .und] ∧ RowAV [a, b] v) := by
  refine spec_of mixed Try.func41 (by decide +kernel) (keep := [0, 1, 2, 8]) ?_
  rcases hL with ⟨rfl, rfl⟩ | ⟨n, get, rfl, rfl, hget⟩
  all_goals conv => whnf
  all_goals refine ⟨_, rfl, ?_⟩
  all_goals first | exact rowN | exact row1 rfl | exact row2 rfl rfl | exact row3 rfl rfl rfl

theorem kind42_spec (op d e a b c imm : Int) (args : D) (L : List Int) (hL : RowD L args) : Spec Try.prog 42 [.d (encMach op d e a b c imm args)] (fun o => ∃ v, o = .ret v [.d .und] ∧ RowAV [a, b, c] v) := by
  refine spec_of mixed Try.func42 (by decide +kernel) (keep := [0, 1, 2, 10]) ?_
  rcases hL with ⟨rfl, rfl⟩ | ⟨n, get, rfl, rfl, hget⟩
  all_goals conv => whnf
  all_goals refine ⟨_, rfl, ?_⟩
  all_goals first | exact rowN | exact row1 rfl | exact row2 rfl rfl | exact row3 rfl rfl rfl

theorem kind45_spec (op d e a b c imm : Int) (args : D) (L : List Int) (hL : RowD L args) : Spec Try.prog 45 [.d (encMach op d e a b c imm args)] (fun o => ∃ v, o = .ret v [.d .und] ∧ RowAV [d, e] v) := by
  refine spec_of mixed Try.func45 (by decide +kernel) (keep := [0, 1, 2, 8]) ?_
  rcases hL with ⟨rfl, rfl⟩ | ⟨n, get, rfl, rfl, hget⟩
  all_goals conv => whnf
  all_goals refine ⟨_, rfl, ?_⟩
  all_goals first | exact rowN | exact row1 rfl | exact row2 rfl rfl | exact row3 rfl rfl rfl

theorem clone_spec (args : D) (L : List Int) (hL : RowD L args) (hb : L.length ≤ 1000) : Spec Try.prog 44 [.d args] (fun o => ∃ v, o = .ret v [.d .und] ∧ RowAV L v) := by
  refine spec_of mixed Try.func44 (by decide +kernel) (keep := [0, 2, 4, 8]) ?_
  rcases hL with ⟨rfl, rfl⟩ | ⟨n, get, rfl, rfl, hget⟩
  · conv => whnf
    exact ⟨_, rfl, rowN⟩
  · conv => whnf
    refine ⟨?_, fun h0 => ?_⟩
    · conv => whnf
      refine ⟨by show (0 + L.length) * 8 ≤ 140737488355328; omega, ?_⟩
      conv => whnf
      exact ⟨_, rfl, rowApp hget⟩
    · conv => whnf
      have : L = [] := List.eq_nil_of_length_eq_zero h0
      exact ⟨_, rfl, .inl ⟨rfl, this⟩⟩

theorem kind43_spec (op d e a b c imm : Int) (args : D) (L : List Int) (hL : RowD L args) (hb : L.length ≤ 1000) : Spec Try.prog 43 [.d (encMach op d e a b c imm args)] (fun o => ∃ v, o = .ret v [.d .und] ∧ RowAV L v) := by
  have hT := clone_spec args L hL hb
  refine spec_of mixed Try.func43 (by decide +kernel) (keep := [0, 1, 2, 6]) ?_
  obtain ⟨v0, hv0⟩ := rowEx L
  rcases hL with ⟨rfl, rfl⟩ | ⟨n, get, rfl, rfl, hget⟩
  all_goals conv => whnf
  all_goals refine ⟨_, hT, ⟨_, v0, rfl, hv0⟩, ?_⟩
  all_goals rintro o ⟨v, rfl, ⟨rfl, hv⟩ | ⟨n, get, rfl, hn, hv⟩⟩
  all_goals conv => whnf
  all_goals refine ⟨_, rfl, ?_⟩
  all_goals first | exact .inr ⟨_, _, rfl, hn, hv⟩ | exact .inl ⟨rfl, hv⟩

end AM

/- The walks of kindOf and of the functions that call what it gives. -/
namespace AM
open Go Go.Proofs
set_option maxRecDepth 100000
set_option maxHeartbeats 8000000
set_option linter.unusedSimpArgs false

def kT (op : Int) : Nat :=
  if op = 1 ∨ op = 24 ∨ op = 31 ∨ (18 ≤ op ∧ op ≤ 22) then 40 else if op = 2 ∨ op = 25 ∨ op = 26 ∨ op = 29 ∨ (5 ≤ op ∧ op ≤ 17) then 41
  else if op = 23 ∨ op = 27 then 42 else if op = 28 then 43 else 38
def kM (op : Int) : Nat :=
  if op = 2 then 41 else if op = 29 then 45 else if op = 26 ∨ op = 27 ∨ op = 31 ∨ op < 1 ∨ op > 31 then 38 else 39

theorem kindOf_spec (op : Int) : Spec Try.prog 35 [.d (.int .i64 op)] (fun o => o = .ret (.d (.agg [.fn (kT op), .fn (kM op)])) [.d .und]) := by
  refine spec_of mixed Try.func35 (by decide +kernel) (keep := [0, 2, 3, 4, 5, 6, 7, 8, 9, 10, 11, 58, 61, 71, 84]) ?_
  conv => whnf
  by_cases h1 : op = 1
  · subst h1
    refine ⟨some (.agg [.fn 40, .fn 39]), rfl, ?_⟩
    conv => whnf
    rfl
  by_cases h2 : op = 2
  · subst h2
    refine ⟨some (.agg [.fn 41, .fn 41]), rfl, ?_⟩
    conv => whnf
    rfl
  by_cases h3 : op = 3
  · subst h3
    refine ⟨some (.agg [.fn 38, .fn 39]), rfl, ?_⟩
    conv => whnf
    rfl
  by_cases h4 : op = 4
  · subst h4
    refine ⟨some (.agg [.fn 38, .fn 39]), rfl, ?_⟩
    conv => whnf
    rfl
  by_cases h23 : op = 23
  · subst h23
    refine ⟨some (.agg [.fn 42, .fn 39]), rfl, ?_⟩
    conv => whnf
    rfl
  by_cases h24 : op = 24
  · subst h24
    refine ⟨some (.agg [.fn 40, .fn 39]), rfl, ?_⟩
    conv => whnf
    rfl
  by_cases h25 : op = 25
  · subst h25
    refine ⟨some (.agg [.fn 41, .fn 39]), rfl, ?_⟩
    conv => whnf
    rfl
  by_cases h26 : op = 26
  · subst h26
    refine ⟨some (.agg [.fn 41, .fn 38]), rfl, ?_⟩
    conv => whnf
    rfl
  by_cases h27 : op = 27
  · subst h27
    refine ⟨some (.agg [.fn 42, .fn 38]), rfl, ?_⟩
    conv => whnf
    rfl
  by_cases h28 : op = 28
  · subst h28
    refine ⟨some (.agg [.fn 43, .fn 39]), rfl, ?_⟩
    conv => whnf
    rfl
  by_cases h29 : op = 29
  · subst h29
    refine ⟨some (.agg [.fn 41, .fn 45]), rfl, ?_⟩
    conv => whnf
    rfl
  by_cases h30 : op = 30
  · subst h30
    refine ⟨some (.agg [.fn 38, .fn 39]), rfl, ?_⟩
    conv => whnf
    rfl
  by_cases h31 : op = 31
  · subst h31
    refine ⟨some (.agg [.fn 40, .fn 38]), rfl, ?_⟩
    conv => whnf
    rfl
  refine ⟨none, by simp [updMap, h1, h2, h3, h4, h23, h24, h25, h26, h27, h28, h29, h30, h31], ?_⟩
  all_goals repeat' ((conv => whnf); split)
  all_goals conv => whnf
  all_goals simp only [cond_true, cond_false, decide_eq_true_eq, decide_eq_false_iff_not] at *
  all_goals refine congrArg (fun r => Out.ret (.d (.agg r)) [.d .und]) ?_
  all_goals (simp only [kT, kM]; (repeat' split) <;> first | rfl | omega)

end AM

/- The walks of the functions that call what kindOf gives. -/
namespace AM
open Go Go.Proofs
set_option maxRecDepth 100000
set_option maxHeartbeats 8000000
set_option linter.unusedSimpArgs false

theorem kTakes (op d e a b c imm : Int) (args : D) (L : List Int) (hL : RowD L args) (hb : L.length ≤ 1000) : Spec Try.prog (kT op) [.d (encMach op d e a b c imm args)] (fun o => ∃ v, o = .ret v [.d .und] ∧ RowAV (takes07 op a b c L) v) := by
  unfold kT takes07
  repeat' split
  all_goals first
    | exact kind40_spec op d e a b c imm args L hL
    | exact kind41_spec op d e a b c imm args L hL
    | exact kind42_spec op d e a b c imm args L hL
    | exact kind43_spec op d e a b c imm args L hL hb
    | exact kind38_spec op d e a b c imm args L hL
    | omega

theorem kMakes (op d e a b c imm : Int) (args : D) (L : List Int) (hL : RowD L args) : Spec Try.prog (kM op) [.d (encMach op d e a b c imm args)] (fun o => ∃ v, o = .ret v [.d .und] ∧ RowAV (makes07 op d e a b) v) := by
  unfold kM makes07
  repeat' split
  all_goals first
    | exact kind41_spec op d e a b c imm args L hL
    | exact kind45_spec op d e a b c imm args L hL
    | exact kind38_spec op d e a b c imm args L hL
    | exact kind39_spec op d e a b c imm args L hL
    | omega

theorem takesM_spec (op d e a b c imm : Int) (args : D) (L : List Int) (hL : RowD L args) (hb : L.length ≤ 1000) : Spec Try.prog 29 [.d (encMach op d e a b c imm args)] (fun o => ∃ v, o = .ret v [.d .und] ∧ RowAV (takes07 op a b c L) v) := by
  have hT := kTakes op d e a b c imm args L hL hb
  refine spec_of mixed Try.func29 (by decide +kernel) (keep := [0, 1, 2, 9]) ?_
  obtain ⟨v0, hv0⟩ := rowEx (takes07 op a b c L)
  rcases hL with ⟨rfl, rfl⟩ | ⟨n, get, rfl, rfl, hget⟩
  all_goals conv => whnf
  all_goals refine ⟨[⟨0, [7], [], [], false⟩, ⟨1, [7], [], [], false⟩, ⟨3, [7], [], [], false⟩, ⟨7, [7], [], [], false⟩, ⟨0, [3, 4, 5, 6], [], [], false⟩, ⟨31, [], [], [], false⟩, ⟨63, [], [], [], true⟩], by decide +kernel, ?_⟩
  all_goals conv => whnf
  all_goals refine ⟨_, kindOf_spec op, ⟨_, rfl⟩, ?_⟩
  all_goals rintro o rfl
  all_goals conv => whnf
  all_goals refine ⟨_, hT, ⟨_, v0, rfl, hv0⟩, ?_⟩
  all_goals rintro o ⟨v, rfl, ⟨rfl, hv⟩ | ⟨n, get, rfl, hn, hv⟩⟩
  all_goals conv => whnf
  all_goals refine ⟨_, rfl, ?_⟩
  all_goals first | exact .inr ⟨_, _, rfl, hn, hv⟩ | exact .inl ⟨rfl, hv⟩

theorem makesM_spec (op d e a b c imm : Int) (args : D) (L : List Int) (hL : RowD L args) : Spec Try.prog 30 [.d (encMach op d e a b c imm args)] (fun o => ∃ v, o = .ret v [.d .und] ∧ RowAV (makes07 op d e a b) v) := by
  have hT := kMakes op d e a b c imm args L hL
  refine spec_of mixed Try.func30 (by decide +kernel) (keep := [0, 1, 2, 9]) ?_
  obtain ⟨v0, hv0⟩ := rowEx (makes07 op d e a b)
  rcases hL with ⟨rfl, rfl⟩ | ⟨n, get, rfl, rfl, hget⟩
  all_goals conv => whnf
  all_goals refine ⟨[⟨0, [7], [], [], false⟩, ⟨1, [7], [], [], false⟩, ⟨3, [7], [], [], false⟩, ⟨7, [7], [], [], false⟩, ⟨0, [3, 4, 5, 6], [], [], false⟩, ⟨31, [], [], [], false⟩, ⟨63, [], [], [], true⟩], by decide +kernel, ?_⟩
  all_goals conv => whnf
  all_goals refine ⟨_, kindOf_spec op, ⟨_, rfl⟩, ?_⟩
  all_goals rintro o rfl
  all_goals conv => whnf
  all_goals refine ⟨_, hT, ⟨_, v0, rfl, hv0⟩, ?_⟩
  all_goals rintro o ⟨v, rfl, ⟨rfl, hv⟩ | ⟨n, get, rfl, hn, hv⟩⟩
  all_goals conv => whnf
  all_goals refine ⟨_, rfl, ?_⟩
  all_goals first | exact .inr ⟨_, _, rfl, hn, hv⟩ | exact .inl ⟨rfl, hv⟩

theorem takesP_spec (op d e a b c imm : Int) (args : D) (L : List Int) (hL : RowD L args) (hb : L.length ≤ 1000) : Spec Try.prog 18 [.d (encMach op d e a b c imm args)] (fun o => ∃ v, o = .ret v [.d .und] ∧ RowAV (places op a b imm (takes07 op a b c L) 30) v) := by
  have hT := takesM_spec op d e a b c imm args L hL hb
  refine spec_of mixed Try.func18 (by decide +kernel) (keep := [0, 1, 2, 4, 5, 12, 21]) ?_
  obtain ⟨v0, hv0⟩ := rowEx (takes07 op a b c L)
  rcases hL with ⟨rfl, rfl⟩ | ⟨n, get, rfl, rfl, hget⟩
  all_goals repeat' ((conv => whnf); split)
  all_goals conv => whnf
  all_goals try (refine ⟨_, hT, ⟨_, v0, rfl, hv0⟩, ?_⟩; rintro o ⟨v, rfl, ⟨rfl, hv⟩ | ⟨n, get, rfl, hn, hv⟩⟩)
  all_goals conv => whnf
  all_goals refine ⟨_, rfl, ?_⟩
  all_goals simp only [cond_true, cond_false, beq_iff_eq, beq_eq_false_iff_ne, ne_eq, decide_eq_true_eq, decide_eq_false_iff_not] at *
  all_goals (unfold places; (repeat' split) <;> first | exact row1 rfl | exact row2 rfl rfl | exact row3 rfl rfl rfl | exact .inr ⟨_, _, rfl, hn, hv⟩ | exact .inl ⟨rfl, hv⟩ | omega)

theorem makesP_spec (op d e a b c imm : Int) (args : D) (L : List Int) (hL : RowD L args) : Spec Try.prog 21 [.d (encMach op d e a b c imm args)] (fun o => ∃ v, o = .ret v [.d .und] ∧ RowAV (places op a b imm (makes07 op d e a b) 31) v) := by
  have hT := makesM_spec op d e a b c imm args L hL
  refine spec_of mixed Try.func21 (by decide +kernel) (keep := [0, 1, 2, 4, 5, 12, 21]) ?_
  obtain ⟨v0, hv0⟩ := rowEx (makes07 op d e a b)
  rcases hL with ⟨rfl, rfl⟩ | ⟨n, get, rfl, rfl, hget⟩
  all_goals repeat' ((conv => whnf); split)
  all_goals conv => whnf
  all_goals try (refine ⟨_, hT, ⟨_, v0, rfl, hv0⟩, ?_⟩; rintro o ⟨v, rfl, ⟨rfl, hv⟩ | ⟨n, get, rfl, hn, hv⟩⟩)
  all_goals conv => whnf
  all_goals refine ⟨_, rfl, ?_⟩
  all_goals simp only [cond_true, cond_false, beq_iff_eq, beq_eq_false_iff_ne, ne_eq, decide_eq_true_eq, decide_eq_false_iff_not] at *
  all_goals (unfold places; (repeat' split) <;> first | exact row1 rfl | exact row2 rfl rfl | exact row3 rfl rfl rfl | exact .inr ⟨_, _, rfl, hn, hv⟩ | exact .inl ⟨rfl, hv⟩ | omega)

end AM

/- The walks of control, takes and changes. -/
namespace AM
open Go Go.Proofs
set_option maxRecDepth 100000
set_option maxHeartbeats 8000000
set_option linter.unusedSimpArgs false

/-- what control takes -/
def ctl (op e a b : Int) : List Int :=
  if op = 41 ∨ op = 42 ∨ op = 49 then [a] else if 43 ≤ op ∧ op ≤ 48 then [a, b] else if op = 50 ∧ e = 1 then [0] else []

def takes22 (op e a b c imm : Int) (L : List Int) : List Int := if 40 ≤ op then ctl op e a b else places op a b imm (takes07 op a b c L) 30

theorem takes22_spec (op d e a b c imm : Int) (args : D) (L : List Int) (hL : RowD L args) (hb : L.length ≤ 1000) : Spec Try.prog 25 [.d (encMach op d e a b c imm args)] (fun o => ∃ v, o = .ret v [.d .und] ∧ RowAV (takes22 op e a b c imm L) v) := by
  have hT := takes12_spec op d e a b c imm args L hL hb
  refine spec_of mixed Try.func25 (by decide +kernel) (keep := [0, 1, 2, 3, 20, 34, 44, 50]) ?_
  obtain ⟨v0, hv0⟩ := rowEx (places op a b imm (takes07 op a b c L) 30)
  rcases hL with ⟨rfl, rfl⟩ | ⟨n, get, rfl, rfl, hget⟩
  all_goals repeat' ((conv => whnf); split)
  all_goals conv => whnf
  all_goals try (refine ⟨_, hT, ⟨_, v0, rfl, hv0⟩, ?_⟩; rintro o ⟨v, rfl, ⟨rfl, hv⟩ | ⟨n, get, rfl, hn, hv⟩⟩)
  all_goals conv => whnf
  all_goals refine ⟨_, rfl, ?_⟩
  all_goals simp only [cond_true, cond_false, beq_iff_eq, beq_eq_false_iff_ne, ne_eq, decide_eq_true_eq, decide_eq_false_iff_not] at *
  all_goals (unfold takes22 ctl; (repeat' split) <;> first | exact row1 rfl | exact row2 rfl rfl | exact rowN | exact .inr ⟨_, _, rfl, hn, hv⟩ | exact .inl ⟨rfl, hv⟩ | omega)

def isCtl (op : Int) : Bool := decide (40 ≤ op)

theorem rowD1 {get : Nat → D} {x : Int} (h : get 0 = .int .i64 x) : RowD [x] (.dat 1 1 get) := .inr ⟨1, get, rfl, rfl, fun i hi => by
  have : i = 0 := by omega
  subst this; exact h⟩
theorem rowD2 {get : Nat → D} {x y : Int} (h : get 0 = .int .i64 x) (h1 : get 1 = .int .i64 y) : RowD [x, y] (.dat 1 2 get) := .inr ⟨2, get, rfl, rfl, fun i hi => by
  rcases i with _ | _ | i
  · exact h
  · exact h1
  · omega⟩
theorem rowDN : RowD [] .nils := .inl ⟨rfl, rfl⟩

theorem control_spec (op d e a b c imm : Int) (args : D) (L : List Int) (hL : RowD L args) : Spec Try.prog 16 [.d (encMach op d e a b c imm args)]
    (fun o => ∃ v, o = .ret (.d (.tup [v, .bool (isCtl op)])) [.d .und] ∧ RowD (if 40 ≤ op then ctl op e a b else []) v) := by
  refine spec_of mixed Try.func16 (by decide +kernel) (keep := [0, 1, 2, 3, 4, 8, 21, 35, 45]) ?_
  rcases hL with ⟨rfl, rfl⟩ | ⟨n, get, rfl, rfl, hget⟩
  all_goals repeat' ((conv => whnf); split)
  all_goals conv => whnf
  all_goals simp only [cond_true, cond_false, beq_iff_eq, beq_eq_false_iff_ne, ne_eq, decide_eq_true_eq, decide_eq_false_iff_not] at *
  all_goals (first
    | (rw [show isCtl op = true from by unfold isCtl; rw [decide_eq_true_eq]; omega]; refine ⟨_, rfl, ?_⟩)
    | (rw [show isCtl op = false from by unfold isCtl; rw [decide_eq_false_iff_not]; omega]; refine ⟨_, rfl, ?_⟩))
  all_goals ((try unfold ctl); (repeat' split) <;> first | exact rowD1 rfl | exact rowD2 rfl rfl | exact rowDN | omega)

end AM

/- The walk of changes. -/
namespace AM
open Go Go.Proofs
set_option maxRecDepth 100000
set_option maxHeartbeats 8000000
set_option linter.unusedSimpArgs false

def RowG (L : List Int) (n : Nat) (get : Nat → D) : Prop := n = L.length ∧ ∀ i, i < n → get i = .int .i64 (L.getD i 0)

theorem rowCat {A B : List Int} {n m : Nat} {f g : Nat → D} (h : RowG A n f) (h2 : RowG B m g) : RowG (A ++ B) (n + m) (appGet n f g) := by
  obtain ⟨rfl, h⟩ := h
  obtain ⟨rfl, h2⟩ := h2
  refine ⟨by simp, fun i hi => ?_⟩
  rcases Nat.lt_or_ge i A.length with hl | hl
  · rw [appGet_lt hl, h i hl]; simp [List.getD, List.getElem?_append_left hl]
  · rw [appGet_ge hl, h2 _ (by omega)]; simp [List.getD, List.getElem?_append_right hl]

theorem rowG0 (g : Nat → D) : RowG [] 0 g := ⟨rfl, fun i hi => absurd hi (Nat.not_lt_zero i)⟩

def changes22 (op d e a b imm : Int) : List Int := if 40 ≤ op then [] else places op a b imm (makes07 op d e a b) 31 ++ spoils op

theorem makes_len (op d e a b imm : Int) : (places op a b imm (makes07 op d e a b) 31).length ≤ 10 := by
  unfold places makes07; repeat' split
  all_goals simp
theorem spoils_len (op : Int) : (spoils op).length ≤ 10 := by unfold spoils; split <;> decide

theorem changes22_spec (op d e a b c imm : Int) (args : D) (L : List Int) (hL : RowD L args) : Spec Try.prog 26 [.d (encMach op d e a b c imm args)] (fun o => ∃ v, o = .ret v [.d .und] ∧ RowAV (changes22 op d e a b imm) v) := by
  have hT := makes12_spec op d e a b c imm args L hL
  have hS := spoils12_spec op d e a b c imm args L hL
  have hl1 := makes_len op d e a b imm
  have hl2 := spoils_len op
  refine spec_of mixed Try.func26 (by decide +kernel) (keep := [0, 1, 2, 5, 13]) ?_
  obtain ⟨v0, hv0⟩ := rowEx (places op a b imm (makes07 op d e a b) 31)
  obtain ⟨v1, hv1⟩ := rowEx (spoils op)
  rcases hL with ⟨rfl, rfl⟩ | ⟨n, get, rfl, rfl, hget⟩
  all_goals repeat' ((conv => whnf); split)
  all_goals conv => whnf
  all_goals try (refine ⟨_, rfl, ?_⟩; simp only [decide_eq_true_eq, ge_iff_le] at *; unfold changes22; rw [if_pos (by omega)]; exact rowN)
  all_goals refine ⟨[⟨0, [7, 8, 10], [], [], false⟩, ⟨0, [6, 10], [], [], false⟩, ⟨2, [6, 10], [], [], false⟩, ⟨7, [10], [], [6], false⟩, ⟨0, [6, 7, 8, 9], [6], [], false⟩, ⟨31, [], [], [], false⟩, ⟨63, [], [], [9], false⟩, ⟨127, [], [], [], true⟩], by decide +kernel, ?_⟩
  all_goals conv => whnf
  all_goals refine ⟨_, hT, ⟨_, v0, rfl, hv0⟩, ?_⟩
  all_goals rintro o ⟨v, rfl, ⟨rfl, hv⟩ | ⟨n, get, rfl, hn, hv⟩⟩
  all_goals conv => whnf
  all_goals refine ⟨by first | (show (0 + 0) * 8 ≤ 140737488355328; omega) | (show (0 + n) * 8 ≤ 140737488355328; omega), ?_⟩
  all_goals conv => whnf
  all_goals refine ⟨_, hS, ⟨_, v1, rfl, hv1⟩, ?_⟩
  all_goals rintro o ⟨v, rfl, ⟨rfl, hv'⟩ | ⟨n', get', rfl, hn', hv'⟩⟩
  all_goals conv => whnf
  all_goals refine ⟨by first | (show (_ + _ + _) * 8 ≤ 140737488355328; omega), ?_⟩
  all_goals conv => whnf
  all_goals refine ⟨_, rfl, ?_⟩
  all_goals simp only [decide_eq_false_iff_not, ge_iff_le] at *
  all_goals unfold changes22
  all_goals rw [if_neg (by omega)]
  all_goals refine .inr ⟨_, _, rfl, ?_⟩
  all_goals refine rowCat (A := places op a b imm (makes07 op d e a b) 31) (B := spoils op) ?_ ?_
  all_goals first
    | exact ⟨hn', hv'⟩
    | (rw [hv']; exact rowG0 _)
    | (rw [hv]; exact rowCat (A := []) (B := []) (rowG0 _) (rowG0 _))
    | exact rowCat (A := []) (rowG0 _) ⟨hn, hv⟩

end AM

/- The walks of the clock. -/
namespace AM
open Go Go.Proofs
set_option maxRecDepth 100000
set_option maxHeartbeats 8000000
set_option linter.unusedSimpArgs false

def lookOf (R : Int → Option Int) : Int → Option D := fun m => (R m).map (.int .i64)

/-- a map's cell -/
def MapC (R : Int → Option Int) (v : AV) : Prop := (v = .d .nilm ∧ ∀ m, R m = none) ∨ v = .imap .i64 (lookOf R)

def clockB (last : Int) (ready : AV) (begun : Bool) (m d l t : Int) (away : Bool) : List AV :=
  [.d (.int .i64 last), ready, .d (.bool begun), .d (.int .i64 m), .d (.int .i64 d), .d (.int .i64 l), .d (.int .i64 t), .d (.bool away)]

def nowTo (R : Int → Option Int) (L : List Int) (base : Int) : Nat → Int
  | 0 => base
  | n + 1 => maxI (nowTo R L base n) ((R (L.getD n 0)).getD 0)

theorem leV_d (x : D) : leV (.d x) (.d x) := by
  unfold leV
  split
  · trivial
  · rename_i h; cases h; exact ⟨_, rfl, leD_refl _⟩
  all_goals simp_all
theorem leV_ref (t j : Nat) : leV (.ref t j) (.ref t j) := rfl
theorem leC_d (x : D) : leC (.d x) (.d x) := ⟨_, rfl, leD_refl _⟩
theorem leC_imap (k : IntKind) (f : Int → Option D) : leC (.imap k f) (.imap k f) := ⟨_, rfl, fun _ => rfl⟩

theorem leV_dat {sz n : Nat} {f g : Nat → D} (h : ∀ i, i < n → f i = g i) : leV (.d (.dat sz n f)) (.d (.dat sz n g)) := ⟨_, rfl, by simp only [leD]; exact .inl ⟨_, rfl, leGet_eq h⟩⟩
theorem leV_datD {sz n : Nat} {f g : Nat → D} (h : leGet n f g) : leV (.d (.dat sz n f)) (.d (.dat sz n g)) := ⟨_, rfl, by simp only [leD]; exact .inl ⟨_, rfl, h⟩⟩
theorem leV_own {sz n : Nat} {f g : Nat → D} (h : ∀ i, i < n → f i = g i) : leV (.own sz n f) (.own sz n g) := ⟨_, rfl, leGet_eq h⟩
theorem leV_ownD {sz n : Nat} {f g : Nat → D} (h : leGet n f g) : leV (.own sz n f) (.own sz n g) := ⟨_, rfl, h⟩
theorem leV_own0 {sz : Nat} {f g : Nat → D} : leV (.own sz 0 f) (.own sz 0 g) := ⟨_, rfl, fun i hi => absurd hi (Nat.not_lt_zero i)⟩
theorem leV_nil {sz : Nat} {f : Nat → D} : leV (.d (.dat sz 0 f)) (.d .nils) := ⟨_, rfl, by unfold leD; exact .inr ⟨rfl, rfl⟩⟩

theorem wrap_id {n : Int} (h : -9223372036854775808 ≤ n) (h2 : n ≤ 9223372036854775807) : IntKind.i64.wrap n = n := by
  rw [IntKind.wrap_i64]; omega

theorem leV_int {k : IntKind} {a b : Int} (h : a = b) : leV (.d (.int k a)) (.d (.int k b)) := by subst h; exact leV_d _

def rowF (L : List Int) : Nat → D := fun i => .int .i64 (L.getD i 0)

theorem leC_refl {x : AV} (h : (match x with | .d _ => true | .own _ _ _ => true | .imap _ _ => true | _ => false) = true) : leC x x := by
  cases x with
  | d x => exact leC_d x
  | imap k f => exact leC_imap k f
  | own sz n get => exact ⟨_, rfl, leGet_eq fun _ _ => rfl⟩
  | _ => simp at h

theorem issue_spec (last : Int) (rc : AV) (R : Int → Option Int) (hR : MapC R rc) (begun : Bool) (m d l t : Int) (away : Bool) (row : D) (L : List Int) (hL : RowD L row) (hb : L.length ≤ 1000) (gap : Int) :
    Spec Try.prog 17 [.box (clockB last rc begun m d l t away) 0, .d row, .d (.int .i64 gap)]
      (fun o => ∃ now, now = nowTo R L (if begun then IntKind.i64.wrap (last + gap) else 0) L.length ∧ o = .ret (.d (.int .i64 now)) [.obox (clockB now rc true m d l t away), .d .und, .d .und]) := by
  refine spec_of mixed Try.func17 (by decide +kernel) (keep := [0, 1, 2, 6, 7, 9, 13, 20, 21, 22, 23, 43, 44, 45]) ?_
  rcases hL with ⟨rfl, rfl⟩ | ⟨n, get, rfl, rfl, hget⟩
  · rcases hR with ⟨rfl, hR⟩ | rfl
    all_goals cases begun
    all_goals conv => whnf
    · refine ⟨Unit, fun _ => [(43, .obox (clockB last (.d .nilm) false m d l t away)), (22, .d (.int .i64 0)), (21, .d (.int .i64 0)), (20, .d .nils), (7, .d (.int .i64 (0))), (2, .d (.int .i64 gap)), (0, .ref 43 0)], fun _ => 0, (), ?_, ?_⟩
      · exact ⟨⟨_, rfl, leC_d _, leC_d _, leC_d _, leC_d _, leC_d _, leC_d _, leC_d _, leC_d _, trivial⟩, leV_d _, leV_d _, leV_d _, leV_d _, leV_d _, leV_ref _ _, trivial⟩
      · intro _
        conv => whnf
        first
          | exact ⟨_, rfl, rfl⟩
          | (split
             · rename_i h0; exact absurd h0 (by decide)
             · conv => whnf
               exact ⟨_, rfl, rfl⟩)
    · refine ⟨Unit, fun _ => [(43, .obox (clockB last (.d .nilm) true m d l t away)), (22, .d (.int .i64 0)), (21, .d (.int .i64 0)), (20, .d .nils), (7, .d (.int .i64 (IntKind.i64.wrap (last + gap)))), (2, .d (.int .i64 gap)), (0, .ref 43 0)], fun _ => 0, (), ?_, ?_⟩
      · exact ⟨⟨_, rfl, leC_d _, leC_d _, leC_d _, leC_d _, leC_d _, leC_d _, leC_d _, leC_d _, trivial⟩, leV_d _, leV_d _, leV_d _, leV_d _, leV_d _, leV_ref _ _, trivial⟩
      · intro _
        conv => whnf
        first
          | exact ⟨_, rfl, rfl⟩
          | (split
             · rename_i h0; exact absurd h0 (by decide)
             · conv => whnf
               exact ⟨_, rfl, rfl⟩)
    · refine ⟨Unit, fun _ => [(43, .obox (clockB last (.imap .i64 (lookOf R)) false m d l t away)), (22, .d (.int .i64 0)), (21, .d (.int .i64 0)), (20, .d .nils), (7, .d (.int .i64 (0))), (2, .d (.int .i64 gap)), (0, .ref 43 0)], fun _ => 0, (), ?_, ?_⟩
      · exact ⟨⟨_, rfl, leC_d _, leC_imap _ _, leC_d _, leC_d _, leC_d _, leC_d _, leC_d _, leC_d _, trivial⟩, leV_d _, leV_d _, leV_d _, leV_d _, leV_d _, leV_ref _ _, trivial⟩
      · intro _
        conv => whnf
        first
          | exact ⟨_, rfl, rfl⟩
          | (split
             · rename_i h0; exact absurd h0 (by decide)
             · conv => whnf
               exact ⟨_, rfl, rfl⟩)
    · refine ⟨Unit, fun _ => [(43, .obox (clockB last (.imap .i64 (lookOf R)) true m d l t away)), (22, .d (.int .i64 0)), (21, .d (.int .i64 0)), (20, .d .nils), (7, .d (.int .i64 (IntKind.i64.wrap (last + gap)))), (2, .d (.int .i64 gap)), (0, .ref 43 0)], fun _ => 0, (), ?_, ?_⟩
      · exact ⟨⟨_, rfl, leC_d _, leC_imap _ _, leC_d _, leC_d _, leC_d _, leC_d _, leC_d _, leC_d _, trivial⟩, leV_d _, leV_d _, leV_d _, leV_d _, leV_d _, leV_ref _ _, trivial⟩
      · intro _
        conv => whnf
        first
          | exact ⟨_, rfl, rfl⟩
          | (split
             · rename_i h0; exact absurd h0 (by decide)
             · conv => whnf
               exact ⟨_, rfl, rfl⟩)
  · rcases hR with ⟨rfl, hR⟩ | rfl
    all_goals cases begun
    all_goals conv => whnf
    · refine ⟨{x : Nat // x ≤ L.length}, fun x => [(43, .obox (clockB last (.d .nilm) false m d l t away)), (22, .d (.int .i64 x.1)), (21, .d (.int .i64 L.length)), (20, .d (.dat 1 L.length (rowF L))),
      (7, .d (.int .i64 (nowTo R L (0) x.1))), (2, .d (.int .i64 gap)), (0, .ref 43 0)], fun x => L.length - x.1, ⟨0, Nat.zero_le _⟩, ?_, ?_⟩
      · exact ⟨⟨_, rfl, leC_d _, leC_d _, leC_d _, leC_d _, leC_d _, leC_d _, leC_d _, leC_d _, trivial⟩, leV_d _, leV_d _, leV_dat (fun i hi => (hget i hi).symm), leV_d _, leV_d _, leV_ref _ _, trivial⟩
      · rintro ⟨x, hx⟩
        conv => whnf
        split
        · rename_i hlt
          have hlt : x < L.length := by simpa using hlt
          conv => whnf
          refine ⟨⟨Int.natCast_nonneg _, by simpa using hlt⟩, ?_⟩
          conv => whnf
          all_goals refine ⟨⟨x + 1, hlt⟩, by dsimp only; omega, ?_⟩
          all_goals refine ⟨⟨_, rfl, leC_d _, leC_d _, leC_d _, leC_d _, leC_d _, leC_d _, leC_d _, leC_d _, trivial⟩, leV_int ?_, leV_d _, leV_d _, leV_int ?_, leV_d _, leV_ref _ _, trivial⟩
          all_goals first
            | (show ((x + 1 : Nat) : Int) = IntKind.i64.wrap ((x : Int) + 1); rw [wrap_id] <;> omega)
            | (rw [nowTo, hR]; rfl)
        · rename_i hge
          have hge : ¬ x < L.length := by simpa using hge
          have hxe : x = L.length := by omega
          conv => whnf
          exact ⟨_, by subst hxe; rfl, rfl⟩
    · refine ⟨{x : Nat // x ≤ L.length}, fun x => [(43, .obox (clockB last (.d .nilm) true m d l t away)), (22, .d (.int .i64 x.1)), (21, .d (.int .i64 L.length)), (20, .d (.dat 1 L.length (rowF L))),
      (7, .d (.int .i64 (nowTo R L (IntKind.i64.wrap (last + gap)) x.1))), (2, .d (.int .i64 gap)), (0, .ref 43 0)], fun x => L.length - x.1, ⟨0, Nat.zero_le _⟩, ?_, ?_⟩
      · exact ⟨⟨_, rfl, leC_d _, leC_d _, leC_d _, leC_d _, leC_d _, leC_d _, leC_d _, leC_d _, trivial⟩, leV_d _, leV_d _, leV_dat (fun i hi => (hget i hi).symm), leV_d _, leV_d _, leV_ref _ _, trivial⟩
      · rintro ⟨x, hx⟩
        conv => whnf
        split
        · rename_i hlt
          have hlt : x < L.length := by simpa using hlt
          conv => whnf
          refine ⟨⟨Int.natCast_nonneg _, by simpa using hlt⟩, ?_⟩
          conv => whnf
          all_goals refine ⟨⟨x + 1, hlt⟩, by dsimp only; omega, ?_⟩
          all_goals refine ⟨⟨_, rfl, leC_d _, leC_d _, leC_d _, leC_d _, leC_d _, leC_d _, leC_d _, leC_d _, trivial⟩, leV_int ?_, leV_d _, leV_d _, leV_int ?_, leV_d _, leV_ref _ _, trivial⟩
          all_goals first
            | (show ((x + 1 : Nat) : Int) = IntKind.i64.wrap ((x : Int) + 1); rw [wrap_id] <;> omega)
            | (rw [nowTo, hR]; rfl)
        · rename_i hge
          have hge : ¬ x < L.length := by simpa using hge
          have hxe : x = L.length := by omega
          conv => whnf
          exact ⟨_, by subst hxe; rfl, rfl⟩
    · refine ⟨{x : Nat // x ≤ L.length}, fun x => [(43, .obox (clockB last (.imap .i64 (lookOf R)) false m d l t away)), (22, .d (.int .i64 x.1)), (21, .d (.int .i64 L.length)), (20, .d (.dat 1 L.length (rowF L))),
      (7, .d (.int .i64 (nowTo R L (0) x.1))), (2, .d (.int .i64 gap)), (0, .ref 43 0)], fun x => L.length - x.1, ⟨0, Nat.zero_le _⟩, ?_, ?_⟩
      · exact ⟨⟨_, rfl, leC_d _, leC_imap _ _, leC_d _, leC_d _, leC_d _, leC_d _, leC_d _, leC_d _, trivial⟩, leV_d _, leV_d _, leV_dat (fun i hi => (hget i hi).symm), leV_d _, leV_d _, leV_ref _ _, trivial⟩
      · rintro ⟨x, hx⟩
        conv => whnf
        split
        · rename_i hlt
          have hlt : x < L.length := by simpa using hlt
          conv => whnf
          refine ⟨⟨Int.natCast_nonneg _, by simpa using hlt⟩, ?_⟩
          conv => whnf
          refine ⟨lookOf R (L.getD x 0), rfl, ?_⟩
          cases hr : R (L.getD x 0)
          all_goals simp only [lookOf, hr, Option.map_none, Option.map_some]
          all_goals conv => whnf
          all_goals refine ⟨⟨x + 1, hlt⟩, by dsimp only; omega, ?_⟩
          all_goals refine ⟨⟨_, rfl, leC_d _, leC_imap _ _, leC_d _, leC_d _, leC_d _, leC_d _, leC_d _, leC_d _, trivial⟩, leV_int ?_, leV_d _, leV_d _, leV_int ?_, leV_d _, leV_ref _ _, trivial⟩
          all_goals first
            | (show ((x + 1 : Nat) : Int) = IntKind.i64.wrap ((x : Int) + 1); rw [wrap_id] <;> omega)
            | (rw [nowTo, hr]; rfl)
        · rename_i hge
          have hge : ¬ x < L.length := by simpa using hge
          have hxe : x = L.length := by omega
          conv => whnf
          exact ⟨_, by subst hxe; rfl, rfl⟩
    · refine ⟨{x : Nat // x ≤ L.length}, fun x => [(43, .obox (clockB last (.imap .i64 (lookOf R)) true m d l t away)), (22, .d (.int .i64 x.1)), (21, .d (.int .i64 L.length)), (20, .d (.dat 1 L.length (rowF L))),
      (7, .d (.int .i64 (nowTo R L (IntKind.i64.wrap (last + gap)) x.1))), (2, .d (.int .i64 gap)), (0, .ref 43 0)], fun x => L.length - x.1, ⟨0, Nat.zero_le _⟩, ?_, ?_⟩
      · exact ⟨⟨_, rfl, leC_d _, leC_imap _ _, leC_d _, leC_d _, leC_d _, leC_d _, leC_d _, leC_d _, trivial⟩, leV_d _, leV_d _, leV_dat (fun i hi => (hget i hi).symm), leV_d _, leV_d _, leV_ref _ _, trivial⟩
      · rintro ⟨x, hx⟩
        conv => whnf
        split
        · rename_i hlt
          have hlt : x < L.length := by simpa using hlt
          conv => whnf
          refine ⟨⟨Int.natCast_nonneg _, by simpa using hlt⟩, ?_⟩
          conv => whnf
          refine ⟨lookOf R (L.getD x 0), rfl, ?_⟩
          cases hr : R (L.getD x 0)
          all_goals simp only [lookOf, hr, Option.map_none, Option.map_some]
          all_goals conv => whnf
          all_goals refine ⟨⟨x + 1, hlt⟩, by dsimp only; omega, ?_⟩
          all_goals refine ⟨⟨_, rfl, leC_d _, leC_imap _ _, leC_d _, leC_d _, leC_d _, leC_d _, leC_d _, leC_d _, trivial⟩, leV_int ?_, leV_d _, leV_d _, leV_int ?_, leV_d _, leV_ref _ _, trivial⟩
          all_goals first
            | (show ((x + 1 : Nat) : Int) = IntKind.i64.wrap ((x : Int) + 1); rw [wrap_id] <;> omega)
            | (rw [nowTo, hr]; rfl)
        · rename_i hge
          have hge : ¬ x < L.length := by simpa using hge
          have hxe : x = L.length := by omega
          conv => whnf
          exact ⟨_, by subst hxe; rfl, rfl⟩

end AM

/- The walk of clock.make. -/
namespace AM
open Go Go.Proofs
set_option maxRecDepth 100000
set_option maxHeartbeats 8000000
set_option linter.unusedSimpArgs false

def putTo (R : Int → Option Int) (L : List Int) (at_ : Int) : Nat → Int → Option Int
  | 0 => R
  | n + 1 => fun k => if k = L.getD n 0 then some at_ else putTo R L at_ n k

theorem leC_mapC {k : IntKind} {f g : Int → Option D} (h : ∀ m, f m = g m) : leC (.imap k f) (.imap k g) := ⟨_, rfl, h⟩

theorem look_put (R : Int → Option Int) (L : List Int) (at_ : Int) (x : Nat) (k : Int) : lookOf (putTo R L at_ (x + 1)) k = updMap (lookOf (putTo R L at_ x)) (L.getD ((x : Int)).toNat 0) (.int .i64 at_) k := by
  simp only [lookOf, putTo, updMap, Int.toNat_natCast]
  by_cases h : k = L.getD x 0
  · rw [if_pos h]; simp [h]
  · rw [if_neg h]; simp only [h, decide_false, cond_false]

theorem make_spec (last : Int) (rc : AV) (R : Int → Option Int) (hR : MapC R rc) (begun : Bool) (m d l t : Int) (away : Bool) (row : D) (L : List Int) (hL : RowD L row) (hb : L.length ≤ 1000) (at_ : Int) :
    Spec Try.prog 20 [.box (clockB last rc begun m d l t away) 0, .d row, .d (.int .i64 at_)]
      (fun o => o = .ret (.d (.tup [])) [.obox (clockB last (.imap .i64 (lookOf (putTo R L at_ L.length))) begun m d l t away), .d .und, .d .und]) := by
  refine spec_of mixed Try.func20 (by decide +kernel) (keep := [0, 1, 2, 7, 12, 17, 18, 19, 20, 30, 31, 32]) ?_
  rcases hL with ⟨rfl, rfl⟩ | ⟨n, get, rfl, rfl, hget⟩
  all_goals rcases hR with ⟨rfl, hR⟩ | rfl
  all_goals conv => whnf
  · refine ⟨Unit, fun _ => [(30, .obox (clockB last (.imap .i64 (lookOf R)) begun m d l t away)), (19, .d (.int .i64 0)), (18, .d (.int .i64 0)), (17, .d .nils), (2, .d (.int .i64 at_)), (0, .ref 30 0)], fun _ => 0, (), ?_, ?_⟩
    · exact ⟨⟨_, rfl, leC_d _, leC_mapC (fun k => by show lookOf R k = none; simp [lookOf, hR]), leC_d _, leC_d _, leC_d _, leC_d _, leC_d _, leC_d _, trivial⟩, leV_d _, leV_d _, leV_d _, leV_d _, leV_ref _ _, trivial⟩
    · intro _
      conv => whnf
      rfl
  · refine ⟨Unit, fun _ => [(30, .obox (clockB last (.imap .i64 (lookOf R)) begun m d l t away)), (19, .d (.int .i64 0)), (18, .d (.int .i64 0)), (17, .d .nils), (2, .d (.int .i64 at_)), (0, .ref 30 0)], fun _ => 0, (), ?_, ?_⟩
    · exact ⟨⟨_, rfl, leC_d _, leC_imap _ _, leC_d _, leC_d _, leC_d _, leC_d _, leC_d _, leC_d _, trivial⟩, leV_d _, leV_d _, leV_d _, leV_d _, leV_ref _ _, trivial⟩
    · intro _
      conv => whnf
      rfl
  · refine ⟨{x : Nat // x ≤ L.length}, fun x => [(30, .obox (clockB last (.imap .i64 (lookOf (putTo R L at_ x.1))) begun m d l t away)), (19, .d (.int .i64 x.1)), (18, .d (.int .i64 L.length)), (17, .d (.dat 1 L.length (rowF L))), (2, .d (.int .i64 at_)), (0, .ref 30 0)],
      fun x => L.length - x.1, ⟨0, Nat.zero_le _⟩, ?_, ?_⟩
    · exact ⟨⟨_, rfl, leC_d _, leC_mapC (fun k => by show lookOf R k = none; simp [lookOf, hR]), leC_d _, leC_d _, leC_d _, leC_d _, leC_d _, leC_d _, trivial⟩, leV_d _, leV_d _, leV_dat (fun i hi => (hget i hi).symm), leV_d _, leV_ref _ _, trivial⟩
    · rintro ⟨x, hx⟩
      conv => whnf
      split
      · rename_i hlt
        have hlt : x < L.length := by simpa using hlt
        conv => whnf
        refine ⟨⟨Int.natCast_nonneg _, by simpa using hlt⟩, ?_⟩
        conv => whnf
        refine ⟨⟨x + 1, hlt⟩, by dsimp only; omega, ?_⟩
        refine ⟨⟨_, rfl, leC_d _, leC_mapC (fun k => look_put R L at_ x k), leC_d _, leC_d _, leC_d _, leC_d _, leC_d _, leC_d _, trivial⟩, leV_int ?_, leV_d _, leV_d _, leV_d _, leV_ref _ _, trivial⟩
        show ((x + 1 : Nat) : Int) = IntKind.i64.wrap ((x : Int) + 1)
        rw [wrap_id] <;> omega
      · rename_i hge
        have hge : ¬ x < L.length := by simpa using hge
        have hxe : x = L.length := by omega
        conv => whnf
        subst hxe
        rfl
  · refine ⟨{x : Nat // x ≤ L.length}, fun x => [(30, .obox (clockB last (.imap .i64 (lookOf (putTo R L at_ x.1))) begun m d l t away)), (19, .d (.int .i64 x.1)), (18, .d (.int .i64 L.length)), (17, .d (.dat 1 L.length (rowF L))), (2, .d (.int .i64 at_)), (0, .ref 30 0)],
      fun x => L.length - x.1, ⟨0, Nat.zero_le _⟩, ?_, ?_⟩
    · exact ⟨⟨_, rfl, leC_d _, leC_imap _ _, leC_d _, leC_d _, leC_d _, leC_d _, leC_d _, leC_d _, trivial⟩, leV_d _, leV_d _, leV_dat (fun i hi => (hget i hi).symm), leV_d _, leV_ref _ _, trivial⟩
    · rintro ⟨x, hx⟩
      conv => whnf
      split
      · rename_i hlt
        have hlt : x < L.length := by simpa using hlt
        conv => whnf
        refine ⟨⟨Int.natCast_nonneg _, by simpa using hlt⟩, ?_⟩
        conv => whnf
        refine ⟨⟨x + 1, hlt⟩, by dsimp only; omega, ?_⟩
        refine ⟨⟨_, rfl, leC_d _, leC_mapC (fun k => look_put R L at_ x k), leC_d _, leC_d _, leC_d _, leC_d _, leC_d _, leC_d _, trivial⟩, leV_int ?_, leV_d _, leV_d _, leV_d _, leV_ref _ _, trivial⟩
        show ((x + 1 : Nat) : Int) = IntKind.i64.wrap ((x : Int) + 1)
        rw [wrap_id] <;> omega
      · rename_i hge
        have hge : ¬ x < L.length := by simpa using hge
        have hxe : x = L.length := by omega
        conv => whnf
        subst hxe
        rfl

end AM

/- Rows as data; the walk of Done. -/
namespace AM
open Go Go.Proofs
set_option maxRecDepth 100000
set_option maxHeartbeats 8000000
set_option linter.unusedSimpArgs false

def dRow (L : List Int) : D := .dat 1 L.length (rowF L)

theorem rowD_row (L : List Int) : RowD L (dRow L) := .inr ⟨_, _, rfl, rfl, fun _ _ => rfl⟩

theorem rowAV_le {L : List Int} {v : AV} (h : RowAV L v) : leR (.d (dRow L)) v := by
  rcases h with ⟨rfl, rfl⟩ | ⟨n, get, rfl, rfl, hg⟩
  · exact .inl leV_nil
  · exact .inr ⟨1, L.length, rowF L, get, rfl, rfl, leGet_eq fun i hi => (hg i hi).symm⟩

theorem rowSpec {P : Program} {f : FuncId} {ar : List Arg} {L : List Int} {outs : List AV} (ho : outs.all AV.isOut = true) (h : Spec P f ar (fun o => ∃ v, o = .ret v outs ∧ RowAV L v)) :
    Spec P f ar (fun o => o = .ret (.d (dRow L)) outs) :=
  h.less _ fun o ⟨v, he, hv⟩ => by subst he; exact ⟨_, rfl, rfl, rowAV_le hv, rfl, ho⟩

/-- an instruction -/
structure M where
  op : Int
  d : Int
  e : Int
  a : Int
  b : Int
  c : Int
  imm : Int
  args : List Int

def M.D (x : M) : D := .agg [.int .i64 x.op, .int .i64 x.d, .int .i64 x.e, .int .i64 x.a, .int .i64 x.b, .int .i64 x.c, .int .i32 x.imm, .dat 1 x.args.length (rowF x.args)]

def M.takes (x : M) : List Int := places x.op x.a x.b x.imm (takes07 x.op x.a x.b x.c x.args) 30
def M.makes (x : M) : List Int := places x.op x.a x.b x.imm (makes07 x.op x.d x.e x.a x.b) 31
def M.spoils (x : M) : List Int := AM.spoils x.op
def M.ctl (x : M) : List Int := if 40 ≤ x.op then AM.ctl x.op x.e x.a x.b else []
def M.isCtl (x : M) : Bool := AM.isCtl x.op
def M.takes22 (x : M) : List Int := AM.takes22 x.op x.e x.a x.b x.c x.imm x.args
def M.changes (x : M) : List Int := changes22 x.op x.d x.e x.a x.b x.imm
def M.late (x : M) (m d l : Int) : Int := lateI x.op m d l

theorem takesP_row (x : M) (hb : x.args.length ≤ 1000) : Spec Try.prog 18 [.d x.D] (fun o => o = .ret (.d (dRow x.takes)) [.d .und]) :=
  rowSpec rfl (takesP_spec x.op x.d x.e x.a x.b x.c x.imm (dRow x.args) x.args (rowD_row _) hb)
theorem makesP_row (x : M) : Spec Try.prog 21 [.d x.D] (fun o => o = .ret (.d (dRow x.makes)) [.d .und]) :=
  rowSpec rfl (makesP_spec x.op x.d x.e x.a x.b x.c x.imm (dRow x.args) x.args (rowD_row _))
theorem spoilsP_row (x : M) : Spec Try.prog 22 [.d x.D] (fun o => o = .ret (.d (dRow x.spoils)) [.d .und]) :=
  rowSpec rfl (spoilsP_spec x.op x.d x.e x.a x.b x.c x.imm (dRow x.args) x.args (rowD_row _))
theorem takes22_row (x : M) (hb : x.args.length ≤ 1000) : Spec Try.prog 25 [.d x.D] (fun o => o = .ret (.d (dRow x.takes22)) [.d .und]) :=
  rowSpec rfl (takes22_spec x.op x.d x.e x.a x.b x.c x.imm (dRow x.args) x.args (rowD_row _) hb)
theorem changes22_row (x : M) : Spec Try.prog 26 [.d x.D] (fun o => o = .ret (.d (dRow x.changes)) [.d .und]) :=
  rowSpec rfl (changes22_spec x.op x.d x.e x.a x.b x.c x.imm (dRow x.args) x.args (rowD_row _))
theorem late_row (x : M) (m d l t : Int) : Spec Try.prog 19 [.d x.D, .d (encDesc m d l t)] (fun o => o = .ret (.d (.int .i64 (x.late m d l))) [.d .und, .d .und]) :=
  late_spec x.op x.d x.e x.a x.b x.c x.imm (dRow x.args) x.args (rowD_row _) m d l t
theorem lateR_row (x : M) (m d l t : Int) : Spec Try.prog 27 [.d x.D, .d (encDesc m d l t)] (fun o => o = .ret (.d (.int .i64 (x.late m d l))) [.d .und, .d .und]) :=
  lateR_spec x.op x.d x.e x.a x.b x.c x.imm (dRow x.args) x.args (rowD_row _) m d l t

theorem rowD_le {L : List Int} {v : D} (h : RowD L v) : leD (dRow L) v := by
  rcases h with ⟨rfl, rfl⟩ | ⟨n, get, rfl, rfl, hg⟩
  · unfold dRow leD; exact .inr ⟨rfl, rfl⟩
  · unfold dRow leD; exact .inl ⟨_, rfl, leGet_eq fun i hi => (hg i hi).symm⟩

theorem control_row (x : M) : Spec Try.prog 16 [.d x.D] (fun o => o = .ret (.d (.tup [dRow x.ctl, .bool x.isCtl])) [.d .und]) :=
  (control_spec x.op x.d x.e x.a x.b x.c x.imm (dRow x.args) x.args (rowD_row _)).less _ fun o ⟨v, he, hv⟩ => by
    subst he
    refine ⟨_, rfl, rfl, .inl ⟨_, rfl, ?_⟩, rfl, rfl⟩
    simp only [leD, leDs]
    exact ⟨_, rfl, rowD_le hv, rfl, trivial⟩

theorem issue_row (last : Int) (rc : AV) (R : Int → Option Int) (hR : MapC R rc) (begun : Bool) (m d l t : Int) (away : Bool) (L : List Int) (hb : L.length ≤ 1000) (gap : Int) :
    Spec Try.prog 17 [.box (clockB last rc begun m d l t away) 0, .d (dRow L), .d (.int .i64 gap)]
      (fun o => o = .ret (.d (.int .i64 (nowTo R L (if begun then IntKind.i64.wrap (last + gap) else 0) L.length))) [.obox (clockB (nowTo R L (if begun then IntKind.i64.wrap (last + gap) else 0) L.length) rc true m d l t away), .d .und, .d .und]) :=
  (issue_spec last rc R hR begun m d l t away (dRow L) L (rowD_row L) hb gap).mono fun o ⟨now, h, h2⟩ => by rw [h2, h]

theorem make_row (last : Int) (rc : AV) (R : Int → Option Int) (hR : MapC R rc) (begun : Bool) (m d l t : Int) (away : Bool) (L : List Int) (hb : L.length ≤ 1000) (at_ : Int) :
    Spec Try.prog 20 [.box (clockB last rc begun m d l t away) 0, .d (dRow L), .d (.int .i64 at_)]
      (fun o => o = .ret (.d (.tup [])) [.obox (clockB last (.imap .i64 (lookOf (putTo R L at_ L.length))) begun m d l t away), .d .und, .d .und]) :=
  make_spec last rc R hR begun m d l t away (dRow L) L (rowD_row L) hb at_

def gapOf (away : Bool) (t : Int) : Int := if away then 1 + maxI 0 (minI t 20) else 1

theorem gap_wrap (t : Int) : IntKind.i64.wrap (1 + maxI 0 (minI t 20)) = 1 + maxI 0 (minI t 20) := by
  rw [wrap_id] <;> unfold maxI minI <;> (repeat' split) <;> omega

structure Ck where
  last : Int
  R : Int → Option Int
  begun : Bool
  away : Bool

def nowC (s : Ck) (t : Int) (L : List Int) : Int := nowTo s.R L (if s.begun then IntKind.i64.wrap (s.last + gapOf s.away t) else 0) L.length

def stepC (m d l t : Int) (s : Ck) (x : M) (tk : Bool) : Ck :=
  if x.isCtl then ⟨nowC s t x.ctl, s.R, true, tk⟩
  else ⟨nowC s t x.takes, putTo (putTo s.R x.makes (IntKind.i64.wrap (nowC s t x.takes + x.late m d l)) x.makes.length) x.spoils (IntKind.i64.wrap (nowC s t x.takes + x.late m d l)) x.spoils.length, true, tk⟩

theorem M.takes_len (x : M) (hb : x.args.length ≤ 999) : x.takes.length ≤ 1000 := by
  unfold M.takes places takes07; repeat' split
  all_goals first | (simp; done) | omega
theorem M.makes_len (x : M) : x.makes.length ≤ 1000 := Nat.le_trans (AM.makes_len ..) (by omega)
theorem M.spoils_len (x : M) : x.spoils.length ≤ 1000 := Nat.le_trans (AM.spoils_len ..) (by omega)
theorem M.ctl_len (x : M) : x.ctl.length ≤ 1000 := by
  unfold M.ctl AM.ctl; repeat' split
  all_goals simp

theorem mapC_imap (R : Int → Option Int) : MapC R (.imap .i64 (lookOf R)) := .inr rfl

def rcOf (x : M) (rc : AV) (R : Int → Option Int) : AV := cond x.isCtl rc (.imap .i64 (lookOf R))
def doneO (m d l t : Int) (s : Ck) (rc : AV) : Out := .ret (.d (.int .i64 s.last)) [.obox (clockB s.last rc s.begun m d l t s.away), .d .und, .d .und]

theorem rcOf_ok {x : M} {rc : AV} {m d l t : Int} {s : Ck} {tk : Bool} (h : MapC s.R rc) : MapC (stepC m d l t s x tk).R (rcOf x rc (stepC m d l t s x tk).R) := by
  unfold rcOf
  cases hc : x.isCtl with
  | true =>
    simp only [cond_true]
    have : (stepC m d l t s x tk).R = s.R := by unfold stepC; rw [hc]; rfl
    rw [this]; exact h
  | false => exact .inr rfl

theorem done_spec (s : Ck) (rc : AV) (hR : MapC s.R rc) (m d l t : Int) (x : M) (hb : x.args.length ≤ 999) (tk : Bool) :
    Spec Try.prog 9 [.box (clockB s.last rc s.begun m d l t s.away) 0, .d x.D, .d (.bool tk)] (fun o => o = doneO m d l t (stepC m d l t s x tk) (rcOf x rc (stepC m d l t s x tk).R)) := by
  obtain ⟨last, R, begun, away⟩ := s
  dsimp only at hR ⊢
  refine spec_of mixed Try.func9 (by decide +kernel) (keep := [0, 1, 2, 4, 6, 7, 8, 9, 10, 11, 13, 17, 36, 73, 74, 75]) ?_
  have hC := control_row x
  unfold stepC
  have hg : gapOf true t = IntKind.i64.wrap (1 + maxI 0 (minI t 20)) := (gap_wrap t).symm
  have hg0 : gapOf false t = 1 := rfl
  cases hc : x.isCtl
  · rw [hc] at hC
    have hL := takesP_row x (by omega)
    rcases hR with ⟨rfl, hR'⟩ | rfl
    all_goals cases away
    all_goals conv => whnf
    all_goals refine ⟨_, hC, ⟨_, rfl⟩, ?_⟩
    all_goals rintro o rfl
    all_goals conv => whnf
    all_goals refine ⟨[⟨0, [46, 47, 48], [], [], false⟩, ⟨1, [46, 47, 48], [], [], false⟩, ⟨3, [46, 47, 48], [], [], false⟩, ⟨0, [43, 44, 45, 48], [], [], false⟩, ⟨8, [43, 44, 45, 48], [], [], false⟩, ⟨0, [43, 44, 45, 46, 47], [], [], false⟩, ⟨63, [], [], [73], true⟩, ⟨127, [], [], [], true⟩], by decide +kernel, ?_⟩
    all_goals conv => whnf
    all_goals refine ⟨_, hL, ⟨_, rfl⟩, ?_⟩
    all_goals rintro o rfl
    all_goals conv => whnf
    all_goals first
      | refine ⟨_, issue_row last (.d .nilm) R (.inl ⟨rfl, hR'⟩) begun m d l t tk x.takes (x.takes_len hb) _, ⟨_, rfl⟩, ?_⟩
      | refine ⟨_, issue_row last _ R (.inr rfl) begun m d l t tk x.takes (x.takes_len hb) _, ⟨_, rfl⟩, ?_⟩
    all_goals rintro o rfl
    all_goals conv => whnf
    all_goals refine ⟨[⟨0, [51, 52, 53, 54, 55, 56], [], [], false⟩, ⟨0, [50, 52, 53, 54, 55], [], [], false⟩, ⟨0, [50, 51], [], [], false⟩, ⟨4, [50, 51], [], [], false⟩, ⟨12, [50, 51], [], [], false⟩, ⟨28, [50, 51], [], [], false⟩, ⟨62, [50], [], [], false⟩, ⟨127, [], [], [], true⟩, ⟨255, [], [], [], true⟩], by decide +kernel, ?_⟩
    all_goals conv => whnf
    all_goals refine ⟨_, late_row x m d l t, ⟨_, rfl⟩, ?_⟩
    all_goals rintro o rfl
    all_goals conv => whnf
    all_goals refine ⟨[⟨0, [61, 62, 63], [], [], false⟩, ⟨1, [61, 62, 63], [], [], false⟩, ⟨3, [61, 62, 63], [], [], false⟩, ⟨0, [58, 59, 60, 63], [], [], false⟩, ⟨8, [58, 59, 60, 63], [], [], false⟩, ⟨0, [58, 59, 60, 61, 62], [], [], false⟩, ⟨63, [], [], [73], true⟩], by decide +kernel, ?_⟩
    all_goals conv => whnf
    all_goals refine ⟨_, makesP_row x, ⟨_, rfl⟩, ?_⟩
    all_goals rintro o rfl
    all_goals conv => whnf
    all_goals first
      | refine ⟨_, make_row _ (.d .nilm) R (.inl ⟨rfl, hR'⟩) true m d l t tk x.makes x.makes_len _, ⟨_, rfl⟩, ?_⟩
      | refine ⟨_, make_row _ _ R (.inr rfl) true m d l t tk x.makes x.makes_len _, ⟨_, rfl⟩, ?_⟩
    all_goals rintro o rfl
    all_goals conv => whnf
    all_goals refine ⟨[⟨0, [68, 69, 70], [], [], false⟩, ⟨1, [68, 69, 70], [], [], false⟩, ⟨3, [68, 69, 70], [], [], false⟩, ⟨0, [65, 66, 67, 70], [], [], false⟩, ⟨8, [65, 66, 67, 70], [], [], false⟩, ⟨0, [65, 66, 67, 68, 69], [], [], false⟩, ⟨63, [], [], [73], true⟩], by decide +kernel, ?_⟩
    all_goals conv => whnf
    all_goals refine ⟨_, spoilsP_row x, ⟨_, rfl⟩, ?_⟩
    all_goals rintro o rfl
    all_goals conv => whnf
    all_goals refine ⟨_, make_row _ _ _ (.inr rfl) true m d l t tk x.spoils x.spoils_len _, ⟨_, rfl⟩, ?_⟩
    all_goals rintro o rfl
    all_goals conv => whnf
    all_goals simp only [nowC, hg, hg0, rcOf, hc, cond_false]
    all_goals rfl
  · rw [hc] at hC
    rcases hR with ⟨rfl, hR'⟩ | rfl
    all_goals cases away
    all_goals conv => whnf
    all_goals refine ⟨_, hC, ⟨_, rfl⟩, ?_⟩
    all_goals rintro o rfl
    all_goals conv => whnf
    all_goals first
      | refine ⟨_, issue_row last (.d .nilm) R (.inl ⟨rfl, hR'⟩) begun m d l t tk x.ctl x.ctl_len _, ⟨_, rfl⟩, ?_⟩
      | refine ⟨_, issue_row last _ R (.inr rfl) begun m d l t tk x.ctl x.ctl_len _, ⟨_, rfl⟩, ?_⟩
    all_goals rintro o rfl
    all_goals conv => whnf
    all_goals simp only [nowC, hg, hg0, rcOf, hc, cond_true]
    all_goals rfl

end AM

/- The walks of New, Cycles, desc. -/
namespace AM
open Go Go.Proofs
set_option maxRecDepth 100000
set_option maxHeartbeats 8000000
set_option linter.unusedSimpArgs false

def cyc (last : Int) (begun : Bool) : Int := if begun then IntKind.i64.wrap (last + 5) else 0

theorem cycles_spec (last : Int) (rc : AV) (R : Int → Option Int) (hR : MapC R rc) (begun : Bool) (m d l t : Int) (away : Bool) :
    Spec Try.prog 11 [.box (clockB last rc begun m d l t away) 0] (fun o => o = .ret (.d (.int .i64 (cyc last begun))) [.obox (clockB last rc begun m d l t away)]) := by
  refine spec_of mixed Try.func11 (by decide +kernel) (keep := [0, 2, 12, 19]) ?_
  rcases hR with ⟨rfl, hR'⟩ | rfl
  all_goals cases begun
  all_goals conv => whnf
  all_goals rfl

theorem cyclesN_spec : Spec Try.prog 11 [.d .nilp] (fun o => o = .ret (.d (.int .i64 0)) [.d .und]) := by
  refine spec_of mixed Try.func11 (by decide +kernel) (keep := [0, 2, 12, 19]) ?_
  conv => whnf
  rfl

theorem new_spec (m d l t : Int) : Spec Try.prog 7 [.d (encDesc m d l t)] (fun o => o = .ret (.obox (clockB 0 (.d .nilm) false m d l t false)) [.d .und]) := by
  refine spec_of mixed Try.func7 (by decide +kernel) (keep := [0, 1, 2, 5, 6]) ?_
  conv => whnf
  rfl

def restI (x n : Int) : Int := (IntKind.i64.wrap (x.tmod n + n)).tmod n
def oneP (x : Int) : Int := IntKind.i64.wrap (1 + restI x 20)

theorem desc_spec (m d l t : Int) : Spec Try.prog 8 [.d (encDesc m d l t)] (fun o => o = .ret (.d (encDesc (oneP m) (oneP d) (oneP l) (restI t 21))) [.d .und]) := by
  refine spec_of mixed Try.func8 (by decide +kernel) (keep := [0, 1, 2, 19]) ?_
  have h1 := rest_spec m 20 (by decide)
  have h2 := rest_spec d 20 (by decide)
  have h3 := rest_spec l 20 (by decide)
  have h4 := rest_spec t 21 (by decide)
  conv => whnf
  refine ⟨[⟨0, [7, 8, 11, 12, 15, 16], [], [], false⟩, ⟨1, [7, 8, 11, 12, 15, 16], [], [], false⟩, ⟨3, [7, 8, 11, 12, 15, 16], [], [], false⟩, ⟨7, [7, 8, 9, 10, 11, 12, 13, 14, 15, 16, 17], [], [], false⟩, ⟨0, [3, 4, 5, 6, 11, 12, 15, 16], [], [], false⟩, ⟨16, [3, 4, 5, 6, 11, 12, 15, 16], [], [], false⟩, ⟨55, [6, 11, 12, 15, 16], [], [], false⟩, ⟨119, [6, 11, 12, 13, 14, 15, 16, 17], [], [], false⟩, ⟨0, [3, 4, 5, 6, 7, 8, 9, 10, 15, 16], [], [], false⟩, ⟨256, [3, 4, 5, 6, 7, 8, 9, 10, 15, 16], [], [], false⟩, ⟨887, [6, 10, 15, 16], [], [], false⟩, ⟨1911, [6, 10, 15, 16, 17], [], [], false⟩, ⟨0, [3, 4, 5, 6, 7, 8, 9, 10, 11, 12, 13, 14], [], [], false⟩, ⟨4096, [3, 4, 5, 6, 7, 8, 9, 10, 11, 12, 13, 14], [], [], false⟩, ⟨14199, [6, 10, 14], [], [], false⟩, ⟨32767, [], [], [], true⟩, ⟨65535, [], [], [], true⟩], by decide +kernel, ?_⟩
  conv => whnf
  refine ⟨_, h1, ⟨_, rfl⟩, ?_⟩; rintro o rfl
  conv => whnf
  refine ⟨_, h2, ⟨_, rfl⟩, ?_⟩; rintro o rfl
  conv => whnf
  refine ⟨_, h3, ⟨_, rfl⟩, ?_⟩; rintro o rfl
  conv => whnf
  refine ⟨_, h4, ⟨_, rfl⟩, ?_⟩; rintro o rfl
  conv => whnf
  rfl

end AM

/- The walk of Issues. -/
namespace AM
open Go Go.Proofs
set_option maxRecDepth 100000
set_option maxHeartbeats 8000000
set_option linter.unusedSimpArgs false
set_option pp.maxSteps 20000

theorem M.takes22_len (x : M) (hb : x.args.length ≤ 999) : x.takes22.length ≤ 1000 := by
  have := x.takes_len hb
  have h2 := x.ctl_len
  unfold M.takes22 AM.takes22; split
  · rename_i h; unfold M.ctl at h2; rw [if_pos h] at h2; exact h2
  · exact this
theorem M.changes_len (x : M) : x.changes.length ≤ 1000 := by
  have := AM.makes_len x.op x.d x.e x.a x.b x.imm
  have h2 := AM.spoils_len x.op
  unfold M.changes changes22; split
  · simp
  · simp; omega

theorem look_case {R : Int → Option Int} {i : Int} {F : Option D → Prop} (h0 : R i = none → F none) (h1 : ∀ v, R i = some v → F (some (.int .i64 v))) : ∃ r, lookOf R i = r ∧ F r := by
  refine ⟨_, rfl, ?_⟩
  unfold lookOf
  cases h : R i with
  | none => exact h0 h
  | some v => exact h1 v h

structure E where
  i : M
  taken : Bool

def E0 : E := ⟨⟨0, 0, 0, 0, 0, 0, 0, []⟩, false⟩

def E.D (x : E) : D := .agg [.int .i64 x.i.op, .int .i64 x.i.d, .int .i64 x.i.e, .int .i64 x.i.a, .int .i64 x.i.b, .int .i64 x.i.c, .int .i32 x.i.imm, .dat 1 x.i.args.length (rowF x.i.args), .bool x.taken]

def eF (l : List E) : Nat → D := fun i => (l.getD i E0).D
def dE (l : List E) : D := .dat 9 l.length (eF l)

def baseR (s : Ck) (t : Int) : Int := if s.begun then (if s.away then IntKind.i64.wrap (IntKind.i64.wrap (s.last + 1) + maxI 0 (minI t 20)) else IntKind.i64.wrap (s.last + 1)) else 0
def nowR (s : Ck) (t : Int) (L : List Int) : Int := nowTo s.R L (baseR s t) L.length
def stepR (m d l t : Int) (s : Ck) (x : E) : Ck :=
  ⟨nowR s t x.i.takes22, putTo s.R x.i.changes (IntKind.i64.wrap (nowR s t x.i.takes22 + x.i.late m d l)) x.i.changes.length, true, x.taken⟩
def ck0 : Ck := ⟨0, fun _ => none, false, false⟩
def ckR (m d l t : Int) (es : List E) : Nat → Ck
  | 0 => ck0
  | n + 1 => stepR m d l t (ckR m d l t es n) (es.getD n E0)

def outF (m d l t : Int) (es : List E) : Nat → D := fun i => .int .i64 (ckR m d l t es (i + 1)).last

theorem baseR_0 (m d l t : Int) (es : List E) : baseR (ckR m d l t es 0) t = 0 := rfl
theorem baseR_y (m d l t : Int) (es : List E) (x : Nat) (hx : 0 < x) (h : (es.getD (x - 1) E0).taken = true) :
    baseR (ckR m d l t es x) t = IntKind.i64.wrap (IntKind.i64.wrap ((ckR m d l t es (x - 1 + 1)).last + 1) + maxI 0 (minI t 20)) := by
  rcases x with _ | x
  · omega
  · have h : (es.getD x E0).taken = true := h
    show (if (es.getD x E0).taken = true then _ else _) = _
    rw [if_pos h]; rfl
theorem baseR_n (m d l t : Int) (es : List E) (x : Nat) (hx : 0 < x) (h : (es.getD (x - 1) E0).taken = false) :
    baseR (ckR m d l t es x) t = IntKind.i64.wrap ((ckR m d l t es (x - 1 + 1)).last + 1) := by
  rcases x with _ | x
  · omega
  · have h : (es.getD x E0).taken = false := h
    show (if (es.getD x E0).taken = true then _ else _) = _
    rw [if_neg (by rw [h]; decide)]; rfl

theorem issues_spec (es : List E) (hn : es.length ≤ 1000) (hb : ∀ x ∈ es, x.i.args.length ≤ 999) (m d l t : Int) :
    Spec Try.prog 12 [.d (dE es), .d (encDesc m d l t)] (fun o => o = .ret (.own 1 es.length (outF m d l t es)) [.d .und, .d .und]) := by
  have hbx : ∀ x, x < es.length → (es.getD x E0).i.args.length ≤ 999 := fun x hlt => hb _ (by rw [List.getD_eq_getElem?_getD, List.getElem?_eq_getElem hlt]; exact List.getElem_mem hlt)
  refine specR mixed Try.func12 (by decide +kernel) (keep := [0, 1, 3, 4, 5, 6, 7, 8, 9, 10, 11, 12, 18, 22, 34, 50, 70, 92, 93]) [12] ?_
  conv => whnf
  refine ⟨{p : Nat × (Int → Option Int) // p.1 ≤ es.length ∧ p.2 = (ckR m d l t es p.1).R}, fun ⟨⟨x, R⟩, _⟩ => [(0, .d (dE es)), (3, .obox [.d (.int .i64 m), .d (.int .i64 d), .d (.int .i64 l), .d (.int .i64 t)]), (5, .own 1 x (outF m d l t es)), (6, .imap .i64 (lookOf R)), (7, .d (.int .i64 x))],
    fun p => es.length - p.1.1, ⟨(0, (ckR m d l t es 0).R), Nat.zero_le _, rfl⟩, ?_, ?_⟩
  · exact ⟨leV_d _, ⟨_, rfl, leC_d _, leC_d _, leC_d _, leC_d _, trivial⟩, leV_own0, ⟨_, rfl, fun _ => rfl⟩, leV_d _, trivial⟩
  rintro ⟨⟨x, R⟩, hx, hR⟩
  conv => whnf
  split
  next hlt =>
    have hlt : x < es.length := by simpa using hlt
    dsimp only at hx hR
    conv => whnf
    have hxi : (0 : Int) ≤ (x : Int) ∧ (x : Int) < (es.length : Int) := ⟨by omega, by omega⟩
    have hT := takes22_row (es.getD x E0).i (Nat.le_trans (hbx x hlt) (by omega))
    have hTl := (es.getD x E0).i.takes22_len (hbx x hlt)
    have hC := changes22_row (es.getD x E0).i
    have hCl := (es.getD x E0).i.changes_len
    have hLt := lateR_row (es.getD x E0).i m d l t
    obtain ⟨TL, hTL⟩ : ∃ TL, TL = (es.getD x E0).i.takes22 := ⟨_, rfl⟩
    obtain ⟨CL, hCL⟩ : ∃ CL, CL = (es.getD x E0).i.changes := ⟨_, rfl⟩
    obtain ⟨lt, hlt'⟩ : ∃ lt, lt = (es.getD x E0).i.late m d l := ⟨_, rfl⟩
    obtain ⟨base, hbase⟩ : ∃ b, b = baseR (ckR m d l t es x) t := ⟨_, rfl⟩
    rw [← hTL] at hT hTl
    rw [← hCL] at hC hCl
    rw [← hlt'] at hLt
    obtain ⟨now, hnow⟩ : ∃ b, b = nowTo R TL base TL.length := ⟨_, rfl⟩
    have hck : ckR m d l t es (x + 1) = ⟨now, putTo R CL (IntKind.i64.wrap (now + lt)) CL.length, true, (es.getD x E0).taken⟩ := by
      show stepR m d l t (ckR m d l t es x) (es.getD x E0) = _
      unfold stepR nowR
      rw [← hTL, ← hCL, ← hlt', ← hR, ← hbase, ← hnow]
    refine ⟨Unit, fun _ => [(0, .d (dE es)), (3, .obox [.d (.int .i64 m), .d (.int .i64 d), .d (.int .i64 l), .d (.int .i64 t)]), (5, .own 1 x (outF m d l t es)), (6, .imap .i64 (lookOf R)), (7, .d (.int .i64 x)), (8, .d (.int .i64 base))], ?_, ?_⟩
    · conv => whnf
      split
      next h =>
        have h : 0 < x := by simpa using h
        have hw : IntKind.i64.wrap ((x : Int) - 1) = ((x - 1 : Nat) : Int) := by rw [wrap_id] <;> omega
        conv => whnf
        generalize hw' : IntKind.i64.wrap ((x : Int) - 1) = j
        obtain rfl : j = ((x - 1 : Nat) : Int) := hw'.symm.trans hw
        refine ⟨by show 0 ≤ ((x - 1 : Nat) : Int) ∧ ((x - 1 : Nat) : Int) < (x : Int); omega, ?_⟩
        conv => whnf
        generalize hw' : IntKind.i64.wrap ((x : Int) - 1) = j
        obtain rfl : j = ((x - 1 : Nat) : Int) := hw'.symm.trans hw
        refine ⟨by show 0 ≤ ((x - 1 : Nat) : Int) ∧ ((x - 1 : Nat) : Int) < (es.length : Int); omega, ?_⟩
        conv => whnf
        split
        next htk =>
          conv => whnf
          exact ⟨(), leV_d _, ⟨_, rfl, leC_d _, leC_d _, leC_d _, leC_d _, trivial⟩, leV_own (fun _ _ => rfl), ⟨_, rfl, fun _ => rfl⟩, leV_d _, leV_int (hbase.trans (baseR_y m d l t es x h htk)), trivial⟩
        next htk =>
          conv => whnf
          exact ⟨(), leV_d _, ⟨_, rfl, leC_d _, leC_d _, leC_d _, leC_d _, trivial⟩, leV_own (fun _ _ => rfl), ⟨_, rfl, fun _ => rfl⟩, leV_d _, leV_int (hbase.trans (baseR_n m d l t es x h htk)), trivial⟩
      next h =>
        have h : x = 0 := by simpa using h
        have hb0 : base = 0 := by rw [hbase]; subst h; rfl
        conv => whnf
        exact ⟨(), leV_d _, ⟨_, rfl, leC_d _, leC_d _, leC_d _, leC_d _, trivial⟩, leV_own (fun _ _ => rfl), ⟨_, rfl, fun _ => rfl⟩, leV_d _, leV_int hb0, trivial⟩
    intro _
    conv => whnf
    refine ⟨hxi, ?_⟩
    conv => whnf
    refine ⟨_, hT, ⟨_, rfl⟩, ?_⟩
    rintro o rfl
    conv => whnf
    refine ⟨{q : Nat × Int // q.1 ≤ TL.length ∧ q.2 = nowTo R TL base q.1}, fun ⟨⟨k, nk⟩, _⟩ => [(0, .d (dE es)), (3, .obox [.d (.int .i64 m), .d (.int .i64 d), .d (.int .i64 l), .d (.int .i64 t)]), (5, .own 1 x (outF m d l t es)), (6, .imap .i64 (lookOf R)), (7, .d (.int .i64 x)),
        (8, .d (.int .i64 nk)), (9, .d (dRow TL)), (10, .d (.int .i64 k))],
      fun q => TL.length - q.1.1, ⟨(0, base), Nat.zero_le _, rfl⟩, ?_, ?_⟩
    · exact ⟨leV_d _, ⟨_, rfl, leC_d _, leC_d _, leC_d _, leC_d _, trivial⟩, leV_own (fun _ _ => rfl), ⟨_, rfl, fun _ => rfl⟩, leV_d _, leV_d _, leV_d _, leV_d _, trivial⟩
    rintro ⟨⟨k, nk⟩, hk, hnk⟩
    dsimp only at hk hnk
    conv => whnf
    split
    next hlk =>
      have hlk : k < TL.length := by simpa using hlk
      conv => whnf
      refine ⟨⟨Int.natCast_nonneg _, by simpa using hlk⟩, ?_⟩
      conv => whnf
      refine look_case (fun hv => ?_) (fun v hv => ?_)
      all_goals conv => whnf
      all_goals refine ⟨⟨(k + 1, nowTo R TL base (k + 1)), hlk, rfl⟩, by dsimp only; omega, ?_⟩
      all_goals refine ⟨leV_d _, ⟨_, rfl, leC_d _, leC_d _, leC_d _, leC_d _, trivial⟩, leV_own (fun _ _ => rfl), ⟨_, rfl, fun _ => rfl⟩, leV_d _, leV_int ?_, leV_d _, leV_int ?_, trivial⟩
      · show maxI (nowTo R TL base k) ((R (TL.getD k 0)).getD 0) = _
        rw [show R (TL.getD k 0) = _ from hv, hnk]; rfl
      · show ((k + 1 : Nat) : Int) = IntKind.i64.wrap ((k : Int) + 1); rw [wrap_id] <;> omega
      · show maxI (nowTo R TL base k) ((R (TL.getD k 0)).getD 0) = _
        rw [show R (TL.getD k 0) = _ from hv, hnk]; rfl
      · show ((k + 1 : Nat) : Int) = IntKind.i64.wrap ((k : Int) + 1); rw [wrap_id] <;> omega
    next hge =>
      have hge : ¬ k < TL.length := by simpa using hge
      have hke : k = TL.length := by omega
      have hnn : now = nk := by rw [hnow, hnk, hke]
      rw [hnn] at hck
      conv => whnf
      refine ⟨hxi, ?_⟩
      conv => whnf
      refine ⟨_, hC, ⟨_, rfl⟩, ?_⟩
      rintro o rfl
      conv => whnf
      refine ⟨{q : Nat × (Int → Option Int) // q.1 ≤ CL.length ∧ q.2 = putTo R CL (IntKind.i64.wrap (nk + lt)) q.1}, fun ⟨⟨k, S⟩, _⟩ => [(0, .d (dE es)), (3, .obox [.d (.int .i64 m), .d (.int .i64 d), .d (.int .i64 l), .d (.int .i64 t)]), (5, .own 1 x (outF m d l t es)), (6, .imap .i64 (lookOf S)), (7, .d (.int .i64 x)),
          (8, .d (.int .i64 nk)), (11, .d (dRow CL)), (12, .d (.int .i64 k))],
        fun q => CL.length - q.1.1, ⟨(0, R), Nat.zero_le _, rfl⟩, ?_, ?_⟩
      · exact ⟨leV_d _, ⟨_, rfl, leC_d _, leC_d _, leC_d _, leC_d _, trivial⟩, leV_own (fun _ _ => rfl), ⟨_, rfl, fun _ => rfl⟩, leV_d _, leV_d _, leV_d _, leV_d _, trivial⟩
      rintro ⟨⟨k, S⟩, hk, hS⟩
      dsimp only at hk hS
      conv => whnf
      split
      next hlk =>
        have hlk : k < CL.length := by simpa using hlk
        conv => whnf
        refine ⟨[⟨0, [74, 75, 76, 77, 78, 79, 80, 81, 82, 83, 84, 85, 86], [], [], false⟩, ⟨0, [73, 75, 78, 79, 80, 81, 82, 83, 84, 85, 86], [], [], false⟩, ⟨0, [73, 74, 78, 79, 80, 81, 82, 83, 84, 85, 86], [], [], false⟩, ⟨6, [73, 78, 79, 80, 81, 82, 83, 84, 85, 86], [], [], false⟩, ⟨14, [73, 78, 79, 80, 81, 82, 83, 84, 85, 86], [], [], false⟩, ⟨0, [73, 74, 75, 76, 77, 79, 80, 81, 82, 83, 84, 85], [], [], false⟩, ⟨0, [73, 74, 75, 76, 77, 78, 80, 84], [], [], false⟩, ⟨0, [73, 74, 75, 76, 77, 78, 79, 84], [], [], false⟩, ⟨192, [73, 74, 75, 76, 77, 78, 84], [], [], false⟩, ⟨448, [73, 74, 75, 76, 77, 78, 84], [], [], false⟩, ⟨960, [73, 74, 75, 76, 77, 78, 84], [], [], false⟩, ⟨0, [73, 74, 75, 76, 77, 78, 79, 80, 81, 82, 83], [], [], false⟩, ⟨4032, [73, 74, 75, 76, 77, 78], [], [], false⟩, ⟨8160, [73, 74, 75, 76, 77], [], [], false⟩, ⟨16383, [], [], [], true⟩], by decide +kernel, ?_⟩
        conv => whnf
        refine ⟨⟨Int.natCast_nonneg _, by simpa using hlk⟩, ?_⟩
        conv => whnf
        refine ⟨hxi, ?_⟩
        conv => whnf
        refine ⟨_, hLt, ⟨_, rfl⟩, ?_⟩
        rintro o rfl
        conv => whnf
        refine ⟨⟨(k + 1, putTo R CL (IntKind.i64.wrap (nk + lt)) (k + 1)), hlk, rfl⟩, by dsimp only; omega, ?_⟩
        refine ⟨leV_d _, ⟨_, rfl, leC_d _, leC_d _, leC_d _, leC_d _, trivial⟩, leV_own (fun _ _ => rfl), ⟨_, rfl, fun kk => ?_⟩, leV_d _, leV_d _, leV_d _, leV_int ?_, trivial⟩
        · rw [look_put, ← hS]
        · show ((k + 1 : Nat) : Int) = IntKind.i64.wrap ((k : Int) + 1); rw [wrap_id] <;> omega
      next hge =>
        have hge : ¬ k < CL.length := by simpa using hge
        have hke : k = CL.length := by omega
        conv => whnf
        refine ⟨by show (x + 1) * 8 ≤ 140737488355328; omega, ?_⟩
        conv => whnf
        refine ⟨⟨(x + 1, (ckR m d l t es (x + 1)).R), hlt, rfl⟩, by dsimp only; omega, ?_⟩
        refine ⟨leV_d _, ⟨_, rfl, leC_d _, leC_d _, leC_d _, leC_d _, trivial⟩, leV_own (fun i hi => ?_), ⟨_, rfl, fun _ => ?_⟩, leV_int ?_, trivial⟩
        · rcases Nat.lt_or_ge i x with h | h
          · rw [appGet_lt h]
          · rw [appGet_ge h]
            have : i = x := by omega
            subst this
            show D.int .i64 (ckR m d l t es (i + 1)).last = _
            rw [hck, Nat.sub_self]; rfl
        · rw [hck, hS, hke]
        · show ((x + 1 : Nat) : Int) = IntKind.i64.wrap ((x : Int) + 1); rw [wrap_id] <;> omega
  next hge =>
    have hge : ¬ x < es.length := by simpa using hge
    have hxe : x = es.length := by omega
    conv => whnf
    rw [hxe]; rfl

end AM

/- The walk of few. -/
namespace AM
open Go Go.Proofs
set_option maxRecDepth 100000
set_option maxHeartbeats 8000000
set_option linter.unusedSimpArgs false
set_option pp.maxSteps 20000

def fewE (near : Bool) (x : E) : E :=
  if near then ⟨⟨IntKind.i64.wrap (1 + restI x.i.op 51), andI .i64 x.i.d 7, andI .i64 x.i.e 1, andI .i64 x.i.a 7, andI .i64 x.i.b 7, andI .i64 x.i.c 7, andI .i32 x.i.imm 7, x.i.args.take 6⟩, x.taken⟩
  else ⟨⟨x.i.op, x.i.d, x.i.e, x.i.a, x.i.b, x.i.c, x.i.imm, x.i.args.take 6⟩, x.taken⟩

def fewF (near : Bool) (es : List E) : Nat → D := fun i => (fewE near (es.getD i E0)).D

theorem leD_dat {sz n n' : Nat} {f g : Nat → D} (hn : n = n') (h : ∀ i, i < n → f i = g i) : leD (.dat sz n f) (.dat sz n' g) := by
  subst hn; unfold leD; exact .inl ⟨_, rfl, leGet_eq h⟩

theorem few_args (L : List Int) (n : Nat) (g : Nat → D) (hn : n = min L.length 6) (hg : ∀ i, g i = rowF L i) : leD (.dat 1 (L.take 6).length (rowF (L.take 6))) (.dat 1 n g) := by
  refine leD_dat (by simp [hn]; omega) fun i hi => ?_
  rw [hg]
  simp only [rowF]
  have : i < 6 := by simp at hi; omega
  rw [List.getD_eq_getElem?_getD, List.getD_eq_getElem?_getD, List.getElem?_take, if_pos this]

theorem few_spec (es : List E) (near : Bool) :
    Spec Try.prog 6 [.d (dE es), .d (.bool near)] (fun o => o = .ret (.own 9 (min es.length 40) (fewF near es)) [.d .und, .d .und]) := by
  refine specR mixed Try.func6 (by decide +kernel) (keep := [0, 1, 4, 5, 6, 7, 16, 36, 85, 86]) [] ?_
  conv => whnf
  refine ⟨{x : Nat // x ≤ es.length ∧ x ≤ 40}, fun ⟨x, _⟩ => [(0, .d (dE es)), (1, .d (.bool near)), (5, .own 9 x (fewF near es)), (6, .d (.int .i64 x))], fun x => 40 - x.1, ⟨0, by omega, by omega⟩, ?_, ?_⟩
  · exact ⟨leV_d _, leV_d _, leV_own0, leV_d _, trivial⟩
  rintro ⟨x, hx, hx2⟩
  conv => whnf
  split
  next hlt =>
    conv => whnf
    split
    next hlt2 =>
      have hlt : x < es.length := by simpa using hlt
      have hlt2 : x < 40 := by simp at hlt2; omega
      conv => whnf
      refine ⟨⟨by omega, by omega⟩, ?_⟩
      obtain ⟨e, he⟩ : ∃ e, e = es.getD x E0 := ⟨_, rfl⟩
      rw [show eF es (x : Int).toNat = e.D by rw [he]; rfl]
      have hF : fewF near es x = (fewE near e).D := by rw [he]; rfl
      obtain ⟨n6, h6⟩ : ∃ n : Nat, n = min e.i.args.length 6 := ⟨_, rfl⟩
      have hm : minI (e.i.args.length : Int) 6 = (n6 : Int) := by unfold minI; split <;> omega
      conv => whnf
      rw [hm]
      refine ⟨⟨by omega, by omega, by omega⟩, ?_⟩
      conv => whnf
      refine ⟨by show (0 + (n6 - 0)) * 8 ≤ 140737488355328; omega, ?_⟩
      cases near
      · conv => whnf
        refine ⟨Nat.le_trans (Nat.mul_le_mul_right _ (show x + 1 ≤ 1000 by omega)) (by decide +kernel), ?_⟩
        conv => whnf
        refine ⟨⟨x + 1, hlt, hlt2⟩, by dsimp only; omega, ?_⟩
        refine ⟨leV_d _, leV_d _, leV_ownD (fun i hi => ?_), leV_int ?_, trivial⟩
        · rcases Nat.lt_or_ge i x with h | h
          · rw [appGet_lt h]; exact ⟨leD_refl _, rfl⟩
          · rw [appGet_ge h]
            have : i = x := by omega
            rw [this, hF, Nat.sub_self]
            refine ⟨?_, rfl⟩
            refine ⟨_, rfl, leD_refl _, leD_refl _, leD_refl _, leD_refl _, leD_refl _, leD_refl _, leD_refl _, ?_, leD_refl _, trivial⟩
            exact few_args e.i.args _ _ (by show 0 + (n6 - 0) = _; omega) (fun j => rfl)
        · show ((x + 1 : Nat) : Int) = IntKind.i64.wrap ((x : Int) + 1); rw [wrap_id] <;> omega
      · have hr := rest_spec e.i.op 51 (by decide)
        conv => whnf
        refine ⟨_, hr, ⟨_, rfl⟩, ?_⟩
        rintro o rfl
        conv => whnf
        refine ⟨Nat.le_trans (Nat.mul_le_mul_right _ (show x + 1 ≤ 1000 by omega)) (by decide +kernel), ?_⟩
        conv => whnf
        refine ⟨⟨x + 1, hlt, hlt2⟩, by dsimp only; omega, ?_⟩
        refine ⟨leV_d _, leV_d _, leV_ownD (fun i hi => ?_), leV_int ?_, trivial⟩
        · rcases Nat.lt_or_ge i x with h | h
          · rw [appGet_lt h]; exact ⟨leD_refl _, rfl⟩
          · rw [appGet_ge h]
            have : i = x := by omega
            rw [this, hF, Nat.sub_self]
            refine ⟨?_, rfl⟩
            refine ⟨_, rfl, leD_refl _, leD_refl _, leD_refl _, leD_refl _, leD_refl _, leD_refl _, leD_refl _, ?_, leD_refl _, trivial⟩
            exact few_args e.i.args _ _ (by show 0 + (n6 - 0) = _; omega) (fun j => rfl)
        · show ((x + 1 : Nat) : Int) = IntKind.i64.wrap ((x : Int) + 1); rw [wrap_id] <;> omega
    next hge =>
      have hge : ¬ x < 40 := by simp at hge; omega
      have hxe : x = min es.length 40 := by simp at hlt; omega
      conv => whnf
      rw [hxe]; rfl
  next hge =>
    have hge : ¬ x < es.length := by simpa using hge
    have hxe : x = min es.length 40 := by omega
    conv => whnf
    rw [hxe]; rfl

end AM

/- The walk of shown. -/
namespace AM
open Go Go.Proofs
set_option maxRecDepth 100000
set_option maxHeartbeats 8000000
set_option linter.unusedSimpArgs false
set_option pp.maxSteps 20000

def m1 : M := ⟨24, 1, 0, 0, 0, 0, 0, []⟩
def m2 : M := ⟨18, 2, 0, 1, 0, 0, 0, []⟩
def m3 : M := ⟨40, 0, 0, 0, 0, 0, 0, []⟩
def m4 : M := ⟨50, 0, 1, 0, 0, 0, 0, []⟩
def sh1 : Ck := stepC 1 1 3 2 ck0 m1 false
def sh2 : Ck := stepC 1 1 3 2 sh1 m2 false
def sh3 : Ck := stepC 1 1 3 2 sh2 m3 true
def sh4 : Ck := stepC 1 1 3 2 sh3 m4 false

theorem leA_m (cs : List AV) (op d e a b c imm : Int) (tk : Bool) : leA [.box cs 0, .d (M.D ⟨op, d, e, a, b, c, imm, []⟩), .d (.bool tk)] [.box cs 0, .d (encMach op d e a b c imm .nils), .d (.bool tk)] := by
  refine ⟨⟨rfl, rfl⟩, ?_, leD_refl _, trivial⟩
  refine ⟨_, rfl, leD_refl _, leD_refl _, leD_refl _, leD_refl _, leD_refl _, leD_refl _, leD_refl _, ?_, trivial⟩
  exact .inr ⟨rfl, rfl⟩

theorem shown_spec : Spec Try.prog 5 [] (fun o => o = .ret (.d (.bool true)) []) := by
  have h0 := new_spec 1 1 3 2
  have h1 : Spec Try.prog 9 [.box (clockB 0 (.d .nilm) false 1 1 3 2 false) 0, .d (encMach 24 1 0 0 0 0 0 .nils), .d (.bool false)]
      (fun o => o = .ret (.d (.int .i64 0)) [.obox (clockB 0 (.imap .i64 (lookOf sh1.R)) true 1 1 3 2 false), .d .und, .d .und]) :=
    ((done_spec ck0 (.d .nilm) (.inl ⟨rfl, fun _ => rfl⟩) 1 1 3 2 m1 (by decide) false).mono fun o ho => by subst ho; rfl).args (leA_m ..)
  have h2 : Spec Try.prog 9 [.box (clockB 0 (.imap .i64 (lookOf sh1.R)) true 1 1 3 2 false) 0, .d (encMach 18 2 0 1 0 0 0 .nils), .d (.bool false)]
      (fun o => o = .ret (.d (.int .i64 3)) [.obox (clockB 3 (.imap .i64 (lookOf sh2.R)) true 1 1 3 2 false), .d .und, .d .und]) :=
    ((done_spec sh1 (.imap .i64 (lookOf sh1.R)) (.inr rfl) 1 1 3 2 m2 (by decide) false).mono fun o ho => by subst ho; rfl).args (leA_m ..)
  have h3 : Spec Try.prog 9 [.box (clockB 3 (.imap .i64 (lookOf sh2.R)) true 1 1 3 2 false) 0, .d (encMach 40 0 0 0 0 0 0 .nils), .d (.bool true)]
      (fun o => o = .ret (.d (.int .i64 4)) [.obox (clockB 4 (.imap .i64 (lookOf sh3.R)) true 1 1 3 2 true), .d .und, .d .und]) :=
    ((done_spec sh2 (.imap .i64 (lookOf sh2.R)) (.inr rfl) 1 1 3 2 m3 (by decide) true).mono fun o ho => by subst ho; rfl).args (leA_m ..)
  have h4 : Spec Try.prog 9 [.box (clockB 4 (.imap .i64 (lookOf sh3.R)) true 1 1 3 2 true) 0, .d (encMach 50 0 1 0 0 0 0 .nils), .d (.bool false)]
      (fun o => o = .ret (.d (.int .i64 7)) [.obox (clockB 7 (.imap .i64 (lookOf sh4.R)) true 1 1 3 2 false), .d .und, .d .und]) :=
    ((done_spec sh3 (.imap .i64 (lookOf sh3.R)) (.inr rfl) 1 1 3 2 m4 (by decide) false).mono fun o ho => by subst ho; rfl).args (leA_m ..)
  have h5 := cycles_spec 7 (.imap .i64 (lookOf sh4.R)) sh4.R (.inr rfl) true 1 1 3 2 false
  refine specR mixed Try.func5 (by decide +kernel) (keep := [0, 1, 2, 3, 4, 5, 7]) [] ?_
  conv => whnf
  refine ⟨_, h0, ⟨_, rfl⟩, ?_⟩; rintro o rfl
  conv => whnf
  refine ⟨_, h1, ⟨_, rfl⟩, ?_⟩; rintro o rfl
  conv => whnf
  refine ⟨_, h2, ⟨_, rfl⟩, ?_⟩; rintro o rfl
  conv => whnf
  refine ⟨_, h3, ⟨_, rfl⟩, ?_⟩; rintro o rfl
  conv => whnf
  refine ⟨_, h4, ⟨_, rfl⟩, ?_⟩; rintro o rfl
  conv => whnf
  refine ⟨_, h5, ⟨_, rfl⟩, ?_⟩; rintro o rfl
  conv => whnf
  rfl

end AM

/- The plain law of the pipe: what Done tells, one behind the other, is what Issues tells. -/
namespace AM
open Go Go.Proofs
set_option maxRecDepth 100000

theorem wrap_add (a b c : Int) : IntKind.i64.wrap (IntKind.i64.wrap (a + b) + c) = IntKind.i64.wrap (a + (b + c)) := by
  simp only [IntKind.wrap_i64]; omega

theorem putTo_nil (R : Int → Option Int) (at_ : Int) : putTo R [] at_ 0 = R := rfl

theorem putTo_app (R : Int → Option Int) (A B : List Int) (at_ : Int) : ∀ n, putTo R (A ++ B) at_ (A.length + n) = putTo (putTo R A at_ A.length) B at_ n := by
  have h1 : ∀ n, n ≤ A.length → putTo R (A ++ B) at_ n = putTo R A at_ n := by
    intro n
    induction n with
    | zero => intro _; rfl
    | succ n ih =>
      intro hn
      funext k
      simp only [putTo]
      rw [ih (by omega)]
      have : (A ++ B).getD n 0 = A.getD n 0 := by
        rw [List.getD_eq_getElem?_getD, List.getD_eq_getElem?_getD, List.getElem?_append_left (by omega)]
      rw [this]
  intro n
  induction n with
  | zero => exact h1 _ (Nat.le_refl _)
  | succ n ih =>
    funext k
    rw [show A.length + (n + 1) = (A.length + n) + 1 by omega]
    simp only [putTo]
    rw [ih]
    have : (A ++ B).getD (A.length + n) 0 = B.getD n 0 := by
      rw [List.getD_eq_getElem?_getD, List.getD_eq_getElem?_getD, List.getElem?_append_right (by omega), Nat.add_sub_cancel_left]
    rw [this]

theorem nowC_eq (s : Ck) (t : Int) (L : List Int) : nowC s t L = nowR s t L := by
  unfold nowC nowR baseR
  cases s.begun with
  | false => rfl
  | true =>
    cases s.away with
    | false => rfl
    | true => simp only [if_true, gapOf]; rw [wrap_add]

theorem stepC_eq (m d l t : Int) (s : Ck) (x : E) : stepC m d l t s x.i x.taken = stepR m d l t s x := by
  unfold stepC stepR
  by_cases h : 40 ≤ x.i.op
  · have hc : x.i.isCtl = true := by unfold M.isCtl isCtl; simpa using h
    have ht : x.i.ctl = x.i.takes22 := by unfold M.ctl M.takes22 takes22; rw [if_pos h, if_pos h]
    have hh : x.i.changes = [] := by unfold M.changes changes22; rw [if_pos h]
    simp only [hc, if_true]
    rw [ht, hh, nowC_eq]; rfl
  · have hc : x.i.isCtl = false := by unfold M.isCtl isCtl; simpa using h
    have ht : x.i.takes = x.i.takes22 := by unfold M.takes M.takes22 takes22; rw [if_neg h]
    have hh : x.i.changes = x.i.makes ++ x.i.spoils := by unfold M.changes changes22 M.makes M.spoils; rw [if_neg h]
    simp only [hc, Bool.false_eq_true, if_false]
    rw [ht, hh, nowC_eq, List.length_append, putTo_app]

def ckC (m d l t : Int) (es : List E) : Nat → Ck
  | 0 => ck0
  | n + 1 => stepC m d l t (ckC m d l t es n) (es.getD n E0).i (es.getD n E0).taken

theorem ckC_eq (m d l t : Int) (es : List E) : ∀ n, ckC m d l t es n = ckR m d l t es n
  | 0 => rfl
  | n + 1 => by simp only [ckC, ckR]; rw [ckC_eq m d l t es n, stepC_eq]

theorem restI_bd (x n : Int) (hn : 0 < n) (hn2 : n ≤ 1000) : 0 ≤ restI x n ∧ restI x n < n := by
  unfold restI
  have h1 := Int.tmod_lt_of_pos x hn
  have h2 : -n < x.tmod n := by
    rcases Int.le_total 0 x with h | h
    · have := Int.tmod_nonneg n h; omega
    · have h3 := Int.tmod_lt_of_pos (-x) hn
      rw [Int.neg_tmod] at h3; omega
  rw [wrap_id (by omega) (by omega)]
  exact ⟨Int.tmod_nonneg n (by omega), Int.tmod_lt_of_pos _ hn⟩

theorem desc_right (m d l t : Int) : rightB (oneP m) (oneP d) (oneP l) (restI t 21) = true := by
  have h1 := restI_bd m 20 (by decide) (by decide)
  have h2 := restI_bd d 20 (by decide) (by decide)
  have h3 := restI_bd l 20 (by decide) (by decide)
  have h4 := restI_bd t 21 (by decide) (by decide)
  unfold rightB oneP
  rw [wrap_id (by omega) (by omega), wrap_id (by omega) (by omega), wrap_id (by omega) (by omega)]
  simp only [decide_eq_true_eq]
  omega

/-! the elements of few -/
def fewL (near : Bool) (es : List E) : List E := (es.take 40).map (fewE near)

theorem fewL_len (near : Bool) (es : List E) : (fewL near es).length = min es.length 40 := by simp [fewL]; omega

theorem fewL_get (near : Bool) (es : List E) (i : Nat) (hi : i < min es.length 40) : (fewL near es).getD i E0 = fewE near (es.getD i E0) := by
  unfold fewL
  have h1 : i < es.length := by omega
  have h2 : i < 40 := by omega
  rw [List.getD_eq_getElem?_getD, List.getD_eq_getElem?_getD, List.getElem?_map, List.getElem?_take, if_pos h2, List.getElem?_eq_getElem h1]; rfl

theorem fewL_args (near : Bool) (es : List E) (x : E) (hx : x ∈ fewL near es) : x.i.args.length ≤ 6 := by
  unfold fewL at hx
  obtain ⟨y, -, rfl⟩ := List.mem_map.mp hx
  unfold fewE
  split <;> simp <;> omega

theorem few_row (es : List E) (near : Bool) : Spec Try.prog 6 [.d (dE es), .d (.bool near)] (fun o => o = .ret (.d (dE (fewL near es))) [.d .und, .d .und]) :=
  (few_spec es near).less _ fun o ho => by
    subst ho
    refine ⟨_, rfl, rfl, .inr ⟨9, min es.length 40, eF (fewL near es), _, rfl, ?_, leGet_eq fun i hi => ?_⟩, rfl, rfl⟩
    · unfold dE; rw [fewL_len]
    · unfold eF fewF; rw [fewL_get near es i hi]

end AM

/- The walk of PipeDone. -/
namespace AM
open Go Go.Proofs
set_option maxRecDepth 100000
set_option maxHeartbeats 16000000
set_option linter.unusedSimpArgs false
set_option pp.maxSteps 20000

def rcB (b : Bool) (R : Int → Option Int) : AV := match b with
  | true => .imap .i64 (lookOf R)
  | false => .d .nilm

theorem rcB_ok {b : Bool} {R : Int → Option Int} (h : b = false → ∀ k, R k = none) : MapC R (rcB b R) := by
  cases b
  · exact .inl ⟨rfl, h rfl⟩
  · exact .inr rfl

/-- Done, with a choice for the map -/
theorem done_ch (s : Ck) (b : Bool) (hR : b = false → ∀ k, s.R k = none) (m d l t : Int) (x : M) (hb : x.args.length ≤ 999) (tk : Bool) :
    ∃ b', (b' = false → ∀ k, (stepC m d l t s x tk).R k = none) ∧
      Spec Try.prog 9 [.box (clockB s.last (rcB b s.R) s.begun m d l t s.away) 0, .d x.D, .d (.bool tk)]
        (fun o => o = .ret (.d (.int .i64 (stepC m d l t s x tk).last)) [.obox (clockB (stepC m d l t s x tk).last (rcB b' (stepC m d l t s x tk).R) true m d l t tk), .d .und, .d .und]) := by
  have h := done_spec s (rcB b s.R) (rcB_ok hR) m d l t x hb tk
  have h1 : (stepC m d l t s x tk).begun = true := by unfold stepC; split <;> rfl
  have h2 : (stepC m d l t s x tk).away = tk := by unfold stepC; split <;> rfl
  unfold doneO at h
  rw [h1, h2] at h
  cases hc : x.isCtl with
  | true =>
    have hR' : (stepC m d l t s x tk).R = s.R := by unfold stepC; rw [hc]; rfl
    refine ⟨b, by rw [hR']; exact hR, ?_⟩
    unfold rcOf at h
    rw [hc] at h
    rw [hR']
    exact h
  | false =>
    refine ⟨true, fun h => by simp at h, ?_⟩
    unfold rcOf at h
    rw [hc] at h
    exact h

theorem pipeDone_spec (es : List E) (m d l t : Int) : Spec Try.prog 4 [.d (dE es), .d (encDesc m d l t)] (fun o => o = .ret (.d (.bool true)) [.d .und, .d .und]) := by
  have hf0 := few_row es false
  have hf1 := few_row es true
  have hds := desc_spec m d l t
  have hdr := desc_right m d l t
  obtain ⟨L0, hL0⟩ : ∃ L, L = fewL false es := ⟨_, rfl⟩
  obtain ⟨L1, hL1⟩ : ∃ L, L = fewL true es := ⟨_, rfl⟩
  rw [← hL0] at hf0
  rw [← hL1] at hf1
  have hok0 : L0.length ≤ 40 ∧ ∀ x ∈ L0, x.i.args.length ≤ 999 := ⟨by rw [hL0, fewL_len]; omega, fun x hx => by rw [hL0] at hx; have := fewL_args _ _ x hx; omega⟩
  have hok1 : L1.length ≤ 40 ∧ ∀ x ∈ L1, x.i.args.length ≤ 999 := ⟨by rw [hL1, fewL_len]; omega, fun x hx => by rw [hL1] at hx; have := fewL_args _ _ x hx; omega⟩
  obtain ⟨m', hm'⟩ : ∃ y, y = oneP m := ⟨_, rfl⟩
  obtain ⟨d', hd'⟩ : ∃ y, y = oneP d := ⟨_, rfl⟩
  obtain ⟨l', hl'⟩ : ∃ y, y = oneP l := ⟨_, rfl⟩
  obtain ⟨t', ht'⟩ : ∃ y, y = restI t 21 := ⟨_, rfl⟩
  rw [← hm', ← hd', ← hl', ← ht'] at hds hdr
  refine specR mixed Try.func4 (by decide +kernel) (keep := [0, 1, 3, 4, 5, 6, 7, 8, 9, 10, 11, 12, 13, 25, 40, 47, 51, 80, 94, 95]) [9, 10] ?_
  conv => whnf
  refine ⟨_, shown_spec, ⟨_, rfl⟩, ?_⟩; rintro o rfl
  conv => whnf
  refine ⟨_, hf0, ⟨_, rfl⟩, ?_⟩; rintro o rfl
  conv => whnf
  refine ⟨_, hf1, ⟨_, rfl⟩, ?_⟩; rintro o rfl
  conv => whnf
  refine ⟨[⟨0, [21, 22, 7], [], [], false⟩, ⟨0, [20, 7], [], [], false⟩, ⟨2, [20, 7], [], [], false⟩, ⟨7, [7], [], [], false⟩, ⟨0, [20, 21, 22, 23], [], [], false⟩, ⟨31, [], [], [], true⟩], by decide +kernel, ?_⟩
  conv => whnf
  refine ⟨_, hds, ⟨_, rfl⟩, ?_⟩; rintro o rfl
  conv => whnf
  refine ⟨{k : Nat // k ≤ 4}, fun ⟨k, _⟩ => [(3, .obox [.d (.int .i64 m), .d (.int .i64 d), .d (.int .i64 l), .d (.int .i64 t)]), (5, .d (.bool true)), (6, .obox [.d (dE L0), .d (dE L1)]),
    (7, .obox [.d (.int .i64 m), .d (.int .i64 d), .d (.int .i64 l), .d (.int .i64 t), .d (.int .i64 m'), .d (.int .i64 d'), .d (.int .i64 l'), .d (.int .i64 t')]), (8, .d (.int .i64 k))], fun k => 4 - k.1, ⟨0, by omega⟩, ?_, ?_⟩
  · exact ⟨⟨_, rfl, leC_d _, leC_d _, leC_d _, leC_d _, trivial⟩, leV_d _, ⟨_, rfl, leC_d _, leC_d _, trivial⟩, ⟨_, rfl, leC_d _, leC_d _, leC_d _, leC_d _, leC_d _, leC_d _, leC_d _, leC_d _, trivial⟩, leV_d _, trivial⟩
  rintro ⟨k, hk⟩
  conv => whnf
  split
  next hlt =>
    have hlt : k < 4 := by simp at hlt; omega
    conv => whnf
    have hdiv : IntKind.i64.wrap ((k : Int).tdiv 2) = 0 ∨ IntKind.i64.wrap ((k : Int).tdiv 2) = 1 := by
      have : k = 0 ∨ k = 1 ∨ k = 2 ∨ k = 3 := by omega
      rcases this with rfl | rfl | rfl | rfl <;> decide
    have hmod : (k : Int).tmod 2 = 0 ∨ (k : Int).tmod 2 = 1 := by
      have : k = 0 ∨ k = 1 ∨ k = 2 ∨ k = 3 := by omega
      rcases this with rfl | rfl | rfl | rfl <;> decide
    refine ⟨{X : List E // X.length ≤ 40 ∧ ∀ x ∈ X, x.i.args.length ≤ 999}, fun ⟨X, _⟩ => [(3, .obox [.d (.int .i64 m), .d (.int .i64 d), .d (.int .i64 l), .d (.int .i64 t)]), (5, .d (.bool true)), (6, .obox [.d (dE L0), .d (dE L1)]),
      (7, .obox [.d (.int .i64 m), .d (.int .i64 d), .d (.int .i64 l), .d (.int .i64 t), .d (.int .i64 m'), .d (.int .i64 d'), .d (.int .i64 l'), .d (.int .i64 t')]), (8, .d (.int .i64 k)), (9, .d (dE X))], ?_, ?_⟩
    · conv => whnf
      refine ⟨by decide, ?_⟩
      conv => whnf
      generalize IntKind.i64.wrap ((k : Int).tdiv 2) = j at hdiv
      refine ⟨by show 0 ≤ j ∧ j < 2; omega, ?_⟩
      rcases hdiv with rfl | rfl
      · conv => whnf
        exact ⟨⟨L0, hok0⟩, ⟨_, rfl, leC_d _, leC_d _, leC_d _, leC_d _, trivial⟩, leV_d _, ⟨_, rfl, leC_d _, leC_d _, trivial⟩, ⟨_, rfl, leC_d _, leC_d _, leC_d _, leC_d _, leC_d _, leC_d _, leC_d _, leC_d _, trivial⟩, leV_d _, leV_d _, trivial⟩
      · conv => whnf
        exact ⟨⟨L1, hok1⟩, ⟨_, rfl, leC_d _, leC_d _, leC_d _, leC_d _, trivial⟩, leV_d _, ⟨_, rfl, leC_d _, leC_d _, trivial⟩, ⟨_, rfl, leC_d _, leC_d _, leC_d _, leC_d _, leC_d _, leC_d _, leC_d _, leC_d _, trivial⟩, leV_d _, leV_d _, trivial⟩
    rintro ⟨X, hX1, hX2⟩
    conv => whnf
    refine ⟨Int × Int × Int × Int, fun ⟨a, b, c, e⟩ => [(3, .obox [.d (.int .i64 m), .d (.int .i64 d), .d (.int .i64 l), .d (.int .i64 t)]), (5, .d (.bool true)), (6, .obox [.d (dE L0), .d (dE L1)]),
      (7, .obox [.d (.int .i64 m), .d (.int .i64 d), .d (.int .i64 l), .d (.int .i64 t), .d (.int .i64 m'), .d (.int .i64 d'), .d (.int .i64 l'), .d (.int .i64 t')]), (8, .d (.int .i64 k)), (9, .d (dE X)), (10, .obox [.d (.int .i64 a), .d (.int .i64 b), .d (.int .i64 c), .d (.int .i64 e)])], ?_, ?_⟩
    · conv => whnf
      refine ⟨by decide, ?_⟩
      conv => whnf
      generalize (k : Int).tmod 2 = j at hmod
      refine ⟨by show 0 ≤ j ∧ j < 2; omega, ?_⟩
      rcases hmod with rfl | rfl
      · conv => whnf
        exact ⟨(m, d, l, t), ⟨_, rfl, leC_d _, leC_d _, leC_d _, leC_d _, trivial⟩, leV_d _, ⟨_, rfl, leC_d _, leC_d _, trivial⟩, ⟨_, rfl, leC_d _, leC_d _, leC_d _, leC_d _, leC_d _, leC_d _, leC_d _, leC_d _, trivial⟩, leV_d _, leV_d _, ⟨_, rfl, leC_d _, leC_d _, leC_d _, leC_d _, trivial⟩, trivial⟩
      · conv => whnf
        exact ⟨(m', d', l', t'), ⟨_, rfl, leC_d _, leC_d _, leC_d _, leC_d _, trivial⟩, leV_d _, ⟨_, rfl, leC_d _, leC_d _, trivial⟩, ⟨_, rfl, leC_d _, leC_d _, leC_d _, leC_d _, leC_d _, leC_d _, leC_d _, leC_d _, trivial⟩, leV_d _, leV_d _, ⟨_, rfl, leC_d _, leC_d _, leC_d _, leC_d _, trivial⟩, trivial⟩
    rintro ⟨a, b, c, e⟩
    conv => whnf
    have hI := issues_spec X (by omega) hX2 a b c e
    obtain ⟨V, hV⟩ : ∃ V : Nat → Int, ∀ i, V i = (ckR a b c e X (i + 1)).last := ⟨_, fun _ => rfl⟩
    rw [show outF a b c e X = fun i => .int .i64 (V i) by funext i; rw [hV]; rfl] at hI
    refine ⟨_, hI, ⟨_, rfl⟩, ?_⟩; rintro o rfl
    conv => whnf
    refine ⟨_, new_spec a b c e, ⟨_, rfl⟩, ?_⟩; rintro o rfl
    conv => whnf
    refine ⟨_, cycles_spec 0 (.d .nilm) (fun _ => none) (.inl ⟨rfl, fun _ => rfl⟩) false a b c e false, ⟨_, rfl⟩, ?_⟩; rintro o rfl
    conv => whnf
    refine ⟨{p : Nat × Bool × Ck // p.1 ≤ X.length ∧ p.2.2 = ckC a b c e X p.1 ∧ (p.2.1 = false → ∀ q, p.2.2.R q = none)}, fun ⟨⟨i, bb, ⟨last, R, begun, away⟩⟩, _⟩ => [(3, .obox [.d (.int .i64 m), .d (.int .i64 d), .d (.int .i64 l), .d (.int .i64 t)]), (5, .d (.bool true)), (6, .obox [.d (dE L0), .d (dE L1)]),
      (7, .obox [.d (.int .i64 m), .d (.int .i64 d), .d (.int .i64 l), .d (.int .i64 t), .d (.int .i64 m'), .d (.int .i64 d'), .d (.int .i64 l'), .d (.int .i64 t')]), (8, .d (.int .i64 k)),
      (9, .d (dE X)), (11, .own 1 X.length (fun i => .int .i64 (V i))), (12, .ref 40 0), (13, .d (.int .i64 i)), (40, .obox (clockB last (rcB bb R) begun a b c e away))],
      fun p => X.length - p.1.1, ⟨(0, false, ck0), Nat.zero_le _, rfl, fun _ _ => rfl⟩, ?_, ?_⟩
    · exact ⟨⟨_, rfl, leC_d _, leC_d _, leC_d _, leC_d _, trivial⟩, leV_d _, ⟨_, rfl, leC_d _, leC_d _, trivial⟩, ⟨_, rfl, leC_d _, leC_d _, leC_d _, leC_d _, leC_d _, leC_d _, leC_d _, leC_d _, trivial⟩, leV_d _, leV_d _, leV_own (fun _ _ => rfl), leV_ref _ _, leV_d _, ⟨_, rfl, leC_d _, leC_d _, leC_d _, leC_d _, leC_d _, leC_d _, leC_d _, leC_d _, trivial⟩, trivial⟩
    rintro ⟨⟨i, bb, ⟨last, R, begun, away⟩⟩, hi, hck, hbb⟩
    dsimp only at hi hck hbb
    by_cases hil : i < X.length
    · have hx := hX2 (X.getD i E0) (by rw [List.getD_eq_getElem?_getD, List.getElem?_eq_getElem hil]; exact List.getElem_mem hil)
      obtain ⟨b', hb', hD⟩ := done_ch ⟨last, R, begun, away⟩ bb hbb a b c e (X.getD i E0).i hx (X.getD i E0).taken
      have hst : stepC a b c e ⟨last, R, begun, away⟩ (X.getD i E0).i (X.getD i E0).taken = ckC a b c e X (i + 1) := by rw [hck]; rfl
      rw [hst] at hb' hD
      obtain ⟨last', hl'⟩ : ∃ y, y = (ckC a b c e X (i + 1)).last := ⟨_, rfl⟩
      obtain ⟨R', hR'⟩ : ∃ y, y = (ckC a b c e X (i + 1)).R := ⟨_, rfl⟩
      rw [← hl', ← hR'] at hD
      rw [← hR'] at hb'
      dsimp only at hD
      have hfull : (⟨last', R', true, (X.getD i E0).taken⟩ : Ck) = ckC a b c e X (i + 1) := by
        rw [hl', hR', ← hst]; unfold stepC; split <;> rfl
      have hC := cycles_spec last' (rcB b' R') R' (rcB_ok hb') true a b c e (X.getD i E0).taken
      have hw : V (i : Int).toNat = last' := by rw [hV, hl', ckC_eq]; rfl
      have hne1 : (last' != V (i : Int).toNat) = false := by rw [hw]; simp
      have hne2 : (cyc last' true != IntKind.i64.wrap (V (i : Int).toNat + 5)) = false := by rw [hw]; simp [cyc]
      have hii : (0 : Int) ≤ (i : Int) ∧ (i : Int) < (X.length : Int) := ⟨by omega, by omega⟩
      cases bb <;> cases b'
      all_goals conv => whnf
      all_goals split
      all_goals try (rename_i h; simp only [decide_eq_false_iff_not] at h; exact absurd hii.2 h)
      all_goals conv => whnf
      all_goals refine ⟨[⟨0, [55, 56, 57, 58, 59, 60, 61, 62, 63, 64, 66, 67, 68, 69], [], [], false⟩, ⟨0, [54, 56, 60, 61, 62, 63, 64, 66, 67, 68, 69], [], [], false⟩, ⟨0, [54, 55, 60, 61, 62, 63, 64, 66, 67, 68, 69], [], [], false⟩, ⟨6, [54, 60, 61, 62, 63, 64, 66, 67, 68, 69], [], [], false⟩, ⟨14, [54, 60, 61, 62, 63, 64, 66, 67, 68, 69], [], [], false⟩, ⟨30, [54, 60, 61, 62, 63, 64, 66, 67, 68, 69], [], [], false⟩, ⟨0, [54, 55, 56, 57, 58, 59, 61, 66, 67, 68, 69], [], [], false⟩, ⟨0, [54, 55, 56, 57, 58, 59, 60, 66, 67, 68, 69], [], [], false⟩, ⟨192, [54, 55, 56, 57, 58, 59, 66, 67, 68, 69], [], [], false⟩, ⟨448, [54, 55, 56, 57, 58, 59, 66, 67, 68, 69], [], [], false⟩, ⟨960, [54, 55, 56, 57, 58, 59, 66, 67, 68, 69], [], [], false⟩, ⟨2047, [66, 67, 68, 69], [], [40], false⟩, ⟨0, [54, 55, 56, 57, 58, 59, 60, 61, 62, 63, 64, 65, 67], [40], [], false⟩, ⟨0, [54, 55, 56, 57, 58, 59, 60, 61, 62, 63, 64, 65, 66], [40], [], false⟩, ⟨12288, [54, 55, 56, 57, 58, 59, 60, 61, 62, 63, 64, 65], [40], [], false⟩, ⟨28672, [54, 55, 56, 57, 58, 59, 60, 61, 62, 63, 64, 65], [40], [], false⟩, ⟨65535, [], [], [], true⟩, ⟨131071, [], [], [], true⟩, ⟨262143, [74, 75, 76, 77, 78], [], [], false⟩, ⟨524287, [74, 75, 76, 77, 78], [], [40], false⟩, ⟨262143, [72, 73, 75], [40], [], false⟩, ⟨262143, [72, 73, 74], [40], [], false⟩, ⟨3407871, [72, 73], [40], [], false⟩, ⟨7602175, [72, 73], [40], [], false⟩, ⟨15990783, [72, 73], [40], [], false⟩, ⟨33554431, [], [], [], true⟩, ⟨67108863, [], [], [], true⟩], by decide +kernel, ?_⟩
      all_goals conv => whnf
      all_goals refine ⟨hii, ?_⟩
      all_goals conv => whnf
      all_goals refine ⟨hii, ?_⟩
      all_goals conv => whnf
      all_goals refine ⟨_, hD, ⟨_, rfl⟩, ?_⟩
      all_goals rintro o rfl
      all_goals conv => whnf
      all_goals refine ⟨hii, ?_⟩
      all_goals conv => whnf
      all_goals refine bool_split (fun h => absurd (hne1.symm.trans h) (by decide)) (fun _ => ?_)
      all_goals conv => whnf
      all_goals refine ⟨_, hC, ⟨_, rfl⟩, ?_⟩
      all_goals rintro o rfl
      all_goals conv => whnf
      all_goals refine ⟨hii, ?_⟩
      all_goals conv => whnf
      all_goals refine bool_split (fun h => absurd (hne2.symm.trans h) (by decide)) (fun _ => ?_)
      all_goals conv => whnf
      · refine ⟨⟨(i + 1, false, ⟨last', R', true, (X.getD i E0).taken⟩), hil, hfull, hb'⟩, by dsimp only; omega, ?_⟩
        exact ⟨⟨_, rfl, leC_d _, leC_d _, leC_d _, leC_d _, trivial⟩, leV_d _, ⟨_, rfl, leC_d _, leC_d _, trivial⟩, ⟨_, rfl, leC_d _, leC_d _, leC_d _, leC_d _, leC_d _, leC_d _, leC_d _, leC_d _, trivial⟩, leV_d _, leV_d _, leV_own (fun _ _ => rfl), leV_ref _ _, leV_int (by show ((i + 1 : Nat) : Int) = IntKind.i64.wrap ((i : Int) + 1); rw [wrap_id] <;> omega), ⟨_, rfl, leC_d _, leC_d _, leC_d _, leC_d _, leC_d _, leC_d _, leC_d _, leC_d _, trivial⟩, trivial⟩
      · refine ⟨⟨(i + 1, true, ⟨last', R', true, (X.getD i E0).taken⟩), hil, hfull, hb'⟩, by dsimp only; omega, ?_⟩
        exact ⟨⟨_, rfl, leC_d _, leC_d _, leC_d _, leC_d _, trivial⟩, leV_d _, ⟨_, rfl, leC_d _, leC_d _, trivial⟩, ⟨_, rfl, leC_d _, leC_d _, leC_d _, leC_d _, leC_d _, leC_d _, leC_d _, leC_d _, trivial⟩, leV_d _, leV_d _, leV_own (fun _ _ => rfl), leV_ref _ _, leV_int (by show ((i + 1 : Nat) : Int) = IntKind.i64.wrap ((i : Int) + 1); rw [wrap_id] <;> omega), ⟨_, rfl, leC_d _, leC_imap _ _, leC_d _, leC_d _, leC_d _, leC_d _, leC_d _, leC_d _, trivial⟩, trivial⟩
      · refine ⟨⟨(i + 1, false, ⟨last', R', true, (X.getD i E0).taken⟩), hil, hfull, hb'⟩, by dsimp only; omega, ?_⟩
        exact ⟨⟨_, rfl, leC_d _, leC_d _, leC_d _, leC_d _, trivial⟩, leV_d _, ⟨_, rfl, leC_d _, leC_d _, trivial⟩, ⟨_, rfl, leC_d _, leC_d _, leC_d _, leC_d _, leC_d _, leC_d _, leC_d _, leC_d _, trivial⟩, leV_d _, leV_d _, leV_own (fun _ _ => rfl), leV_ref _ _, leV_int (by show ((i + 1 : Nat) : Int) = IntKind.i64.wrap ((i : Int) + 1); rw [wrap_id] <;> omega), ⟨_, rfl, leC_d _, leC_d _, leC_d _, leC_d _, leC_d _, leC_d _, leC_d _, leC_d _, trivial⟩, trivial⟩
      · refine ⟨⟨(i + 1, true, ⟨last', R', true, (X.getD i E0).taken⟩), hil, hfull, hb'⟩, by dsimp only; omega, ?_⟩
        exact ⟨⟨_, rfl, leC_d _, leC_d _, leC_d _, leC_d _, trivial⟩, leV_d _, ⟨_, rfl, leC_d _, leC_d _, trivial⟩, ⟨_, rfl, leC_d _, leC_d _, leC_d _, leC_d _, leC_d _, leC_d _, leC_d _, leC_d _, trivial⟩, leV_d _, leV_d _, leV_own (fun _ _ => rfl), leV_ref _ _, leV_int (by show ((i + 1 : Nat) : Int) = IntKind.i64.wrap ((i : Int) + 1); rw [wrap_id] <;> omega), ⟨_, rfl, leC_d _, leC_imap _ _, leC_d _, leC_d _, leC_d _, leC_d _, leC_d _, leC_d _, trivial⟩, trivial⟩
    · cases bb
      all_goals conv => whnf
      all_goals split
      all_goals try (rename_i h; simp only [decide_eq_true_eq] at h; exact absurd (by omega) hil)
      all_goals conv => whnf
      all_goals refine ⟨⟨k + 1, hlt⟩, by dsimp only; omega, ?_⟩
      all_goals exact ⟨⟨_, rfl, leC_d _, leC_d _, leC_d _, leC_d _, trivial⟩, leV_d _, ⟨_, rfl, leC_d _, leC_d _, trivial⟩, ⟨_, rfl, leC_d _, leC_d _, leC_d _, leC_d _, leC_d _, leC_d _, leC_d _, leC_d _, trivial⟩, leV_int (by show ((k + 1 : Nat) : Int) = IntKind.i64.wrap ((k : Int) + 1); rw [wrap_id] <;> omega), trivial⟩
  next hge =>
    conv => whnf
    refine ⟨[⟨0, [], [], [], true⟩, ⟨1, [], [], [], true⟩, ⟨3, [85], [], [], false⟩, ⟨7, [85], [], [], false⟩, ⟨3, [83, 84], [], [], false⟩, ⟨31, [], [], [], true⟩, ⟨63, [], [], [], true⟩, ⟨127, [], [], [], true⟩, ⟨255, [], [], [], true⟩, ⟨511, [], [], [], true⟩, ⟨1023, [], [], [], true⟩, ⟨2047, [], [], [], true⟩, ⟨4095, [], [], [], true⟩, ⟨8191, [], [], [], true⟩], by decide +kernel, ?_⟩
    have hr1 := right_spec m d l t
    have hr2 := rightR_spec m d l t
    have hr3 := right_spec m' d' l' t'
    rw [hdr] at hr3
    conv => whnf
    refine ⟨_, hr1, ⟨_, rfl⟩, ?_⟩; rintro o rfl
    conv => whnf
    refine ⟨_, hr2, ⟨_, rfl⟩, ?_⟩; rintro o rfl
    conv => whnf
    refine bool_split (fun _ => ?_) (fun h => by simp at h)
    conv => whnf
    refine ⟨_, hds, ⟨_, rfl⟩, ?_⟩; rintro o rfl
    conv => whnf
    refine ⟨_, hr3, ⟨_, rfl⟩, ?_⟩; rintro o rfl
    conv => whnf
    rfl

end AM

/- The arguments of the pipe's laws. -/
namespace AM
open Go Go.Proofs Go.ChangeShapes Go.WideShapes
set_option maxRecDepth 100000

theorem fit_int {n : Nat} {t : TypeId} {k : IntKind} {ds : List D} (ht : Try.prog.underlying t = some (.int k)) (h : Fit Try.prog (n + 1) t ds) : ∃ x, ds = [.int k x] := by
  simp only [Fit, ht] at h
  obtain ⟨x, rfl, -⟩ := h
  exact ⟨x, rfl⟩

theorem fit_desc {ds : List D} (h : Fit Try.prog 5 24 ds) : ∃ m d l t, ds = [.int .i64 m, .int .i64 d, .int .i64 l, .int .i64 t] := by
  simp only [Fit, Try.underlying24, FitAll] at h
  obtain ⟨a1, b1, rfl, h1, a2, b2, rfl, h2, a3, b3, rfl, h3, a4, b4, rfl, h4, rfl⟩ := h
  obtain ⟨x1, rfl⟩ := fit_int (n := 3) Try.underlying3 (by simp only [Fit]; exact h1)
  obtain ⟨x2, rfl⟩ := fit_int (n := 3) Try.underlying3 (by simp only [Fit]; exact h2)
  obtain ⟨x3, rfl⟩ := fit_int (n := 3) Try.underlying3 (by simp only [Fit]; exact h3)
  obtain ⟨x4, rfl⟩ := fit_int (n := 3) Try.underlying3 (by simp only [Fit]; exact h4)
  exact ⟨x1, x2, x3, x4, rfl⟩

theorem fit_E {ds : List D} (h : Fit Try.prog 4 40 ds) : ∃ x : E, leD x.D (.agg ds) ∧ ds.length = 9 := by
  have hF : FitAll Try.prog 3 [{ name := "I", type := 38, offset := 0, embedded := false, tag := "", pkgPath := "", byteOffset := 0 }, { name := "Taken", type := 4, offset := 8, embedded := false, tag := "", pkgPath := "", byteOffset := 80 }] ds := by
    have := h
    simp only [Fit, Try.underlying40] at this
    exact this
  simp only [FitAll] at hF
  obtain ⟨a, b, rfl, hI, b1, b2, rfl, hT, rfl⟩ := hF
  have hT' : ∃ tk, b1 = [.bool tk] := by
    simp only [Fit, Try.underlying4] at hT; exact hT
  obtain ⟨tk, rfl⟩ := hT'
  have hI' : FitAll Try.prog 2 [{ name := "Op", type := 3, offset := 0, embedded := false, tag := "", pkgPath := "", byteOffset := 0 },
        { name := "D", type := 3, offset := 1, embedded := false, tag := "", pkgPath := "", byteOffset := 8 },
        { name := "E", type := 3, offset := 2, embedded := false, tag := "", pkgPath := "", byteOffset := 16 },
        { name := "A", type := 3, offset := 3, embedded := false, tag := "", pkgPath := "", byteOffset := 24 },
        { name := "B", type := 3, offset := 4, embedded := false, tag := "", pkgPath := "", byteOffset := 32 },
        { name := "C", type := 3, offset := 5, embedded := false, tag := "", pkgPath := "", byteOffset := 40 },
        { name := "Imm", type := 21, offset := 6, embedded := false, tag := "", pkgPath := "", byteOffset := 48 },
        { name := "Args", type := 36, offset := 7, embedded := false, tag := "", pkgPath := "", byteOffset := 56 }] a := by
    have := hI
    rw [show (3 : Nat) = 2 + 1 from rfl] at this
    unfold Fit at this
    simp only [Try.underlying38] at this
    exact this
  unfold FitAll at hI'
  obtain ⟨p1, r1, rfl, g1, hI'⟩ := hI'
  unfold FitAll at hI'
  obtain ⟨p2, r2, rfl, g2, hI'⟩ := hI'
  unfold FitAll at hI'
  obtain ⟨p3, r3, rfl, g3, hI'⟩ := hI'
  unfold FitAll at hI'
  obtain ⟨p4, r4, rfl, g4, hI'⟩ := hI'
  unfold FitAll at hI'
  obtain ⟨p5, r5, rfl, g5, hI'⟩ := hI'
  unfold FitAll at hI'
  obtain ⟨p6, r6, rfl, g6, hI'⟩ := hI'
  unfold FitAll at hI'
  obtain ⟨p7, r7, rfl, g7, hI'⟩ := hI'
  unfold FitAll at hI'
  obtain ⟨p8, r8, rfl, g8, hI'⟩ := hI'
  unfold FitAll at hI'
  subst hI'
  obtain ⟨x1, rfl⟩ := fit_int (n := 1) Try.underlying3 g1
  obtain ⟨x2, rfl⟩ := fit_int (n := 1) Try.underlying3 g2
  obtain ⟨x3, rfl⟩ := fit_int (n := 1) Try.underlying3 g3
  obtain ⟨x4, rfl⟩ := fit_int (n := 1) Try.underlying3 g4
  obtain ⟨x5, rfl⟩ := fit_int (n := 1) Try.underlying3 g5
  obtain ⟨x6, rfl⟩ := fit_int (n := 1) Try.underlying3 g6
  obtain ⟨x7, rfl⟩ := fit_int (n := 1) Try.underlying21 g7
  obtain ⟨m, get, L, rfl, hm, hg, -⟩ := fit_row (n := 0) Try.underlying36 Try.underlying3 (by decide +kernel) g8
  refine ⟨⟨⟨x1, x2, x3, x4, x5, x6, x7, L⟩, tk⟩, ?_, rfl⟩
  refine ⟨_, rfl, leD_refl _, leD_refl _, leD_refl _, leD_refl _, leD_refl _, leD_refl _, leD_refl _, ?_, leD_refl _, trivial⟩
  exact leD_dat hm.symm fun i hi => (hg i (by rw [hm]; exact hi)).symm

theorem fit_list {ds : List D} (h : Fit Try.prog 5 22 ds) : ∃ (x : D) (es : List E), ds = [x] ∧ leD (dE es) x := by
  have h' : ∃ m get, ds = [.dat (Try.prog.cellsOf 40) m get] ∧ m ≤ maxLen ∧ ∀ i, i < m → ∃ cs, get i = elemD Try.prog 40 cs ∧ cs.length = Try.prog.cellsOf 40 ∧ Fit Try.prog 4 40 cs := by
    have := h
    unfold Fit at this
    simp only [Try.underlying22] at this
    exact this
  obtain ⟨m, get, rfl, -, hg⟩ := h'
  have hx : ∀ i, i < m → ∃ x : E, leD x.D (get i) ∧ (get i).cells.length = 9 := fun i hi => by
    obtain ⟨cs, h1, -, h3⟩ := hg i hi
    obtain ⟨x, h4, h5⟩ := fit_E h3
    have : get i = .agg cs := by rw [h1]; unfold elemD; simp only [Try.underlying40]
    rw [this]
    exact ⟨x, h4, h5⟩
  classical
  let f : Nat → E := fun i => if h : i < m then (hx i h).choose else E0
  have hf : ∀ i, (h : i < m) → leD (f i).D (get i) ∧ (get i).cells.length = 9 := fun i hi => by
    have := (hx i hi).choose_spec
    have he : f i = (hx i hi).choose := by simp only [f, dif_pos hi]
    rw [he]; exact this
  refine ⟨_, (List.range m).map f, rfl, ?_⟩
  have hl : ((List.range m).map f).length = m := by simp
  rw [show Try.prog.cellsOf 40 = 9 by decide +kernel]
  unfold dE
  rw [hl]
  unfold leD
  refine .inl ⟨_, rfl, fun i hi => ?_⟩
  have he : eF ((List.range m).map f) i = (f i).D := by
    unfold eF; rw [List.getD_eq_getElem?_getD, List.getElem?_map, List.getElem?_range hi]; rfl
  rw [he]
  exact ⟨(hf i hi).1, by rw [(hf i hi).2]; rfl⟩

end AM

/- The walks of digits, row, PrintIns. -/
namespace AM
open Go Go.Proofs
set_option maxRecDepth 100000
set_option maxHeartbeats 8000000
set_option linter.unusedSimpArgs false
set_option pp.maxSteps 20000

def sE : ByteArray := ⟨#[]⟩
theorem sE_size : sE.size = 0 := rfl

theorem strEq_e (s : ByteArray) : strEq s sE = decide (s.size = 0) := by
  unfold strEq
  rw [ByteArray.toList_eq, ByteArray.toList_eq]
  have h1 : sE.data.toList = [] := rfl
  rw [h1]
  have h2 : s.size = s.data.toList.length := by rw [Array.length_toList]; rfl
  rw [h2]
  cases s.data.toList <;> rfl

/-- one digit ahead -/
def digS (s : ByteArray) (u : Int) : ByteArray := bytesStr 1 (fun _ => .int .u8 (IntKind.u8.wrap (IntKind.u64.wrap (48 + u.tmod 10)))) ++ s

theorem digS_size (s : ByteArray) (u : Int) : (digS s u).size = 1 + s.size := by
  unfold digS bytesStr
  rw [ByteArray.size_append, strOfNums_size]; simp

/-- what the loop of digits comes to -/
def digTo : Nat → ByteArray → Int → ByteArray
  | 0, s, _ => s
  | n + 1, s, u => if u > 0 ∨ s.size = 0 then digTo n (digS s u) (u.tdiv 10) else s

theorem digTo_size : ∀ (f : Nat) (s : ByteArray) (u : Int), (digTo f s u).size ≤ f + s.size := by
  intro f
  induction f with
  | zero => intro s u; simp [digTo]
  | succ f ih =>
    intro s u
    simp only [digTo]
    split
    · have := ih (digS s u) (u.tdiv 10); rw [digS_size] at this; omega
    · omega

theorem digits_spec (n : Int) : ∃ s : ByteArray, s.size ≤ 23 ∧ Spec Try.prog 23 [.d (.int .i64 n)] (fun o => o = .ret (.d (.str s)) [.d .und]) := by
  obtain ⟨u0, hu0⟩ : ∃ u, u = if n < 0 then IntKind.u64.wrap (0 - IntKind.u64.wrap n) else IntKind.u64.wrap n := ⟨_, rfl⟩
  obtain ⟨s1, hs1⟩ : ∃ s, s = digTo 21 sE u0 := ⟨_, rfl⟩
  have hur : 0 ≤ u0 ∧ u0 < 10 ^ 20 := by
    rw [hu0, IntKind.wrap_u64, IntKind.wrap_u64]; split <;> constructor <;> omega
  have h1 : s1.size ≤ 21 := by have := digTo_size 21 sE u0; rw [hs1]; rw [sE_size] at this; exact this
  obtain ⟨s2, hs2⟩ : ∃ s : ByteArray, s = if n < 0 then ⟨#[45]⟩ ++ s1 else s1 := ⟨_, rfl⟩
  have h2 : s2.size ≤ 22 := by
    rw [hs2]; split
    · rw [ByteArray.size_append]; have : (⟨#[45]⟩ : ByteArray).size = 1 := rfl; omega
    · omega
  have h3 : (⟨#[32]⟩ : ByteArray).size = 1 := rfl
  refine ⟨s2 ++ ⟨#[32]⟩, by rw [ByteArray.size_append]; omega, ?_⟩
  refine specR mixed Try.func23 (by decide +kernel) (keep := [0, 2, 3, 4, 8, 16, 28, 33]) [6, 11] ?_
  conv => whnf
  refine ⟨Unit, fun _ => [(0, .d (.int .i64 n)), (3, .d (.str sE)), (4, .d (.int .u64 u0))], ?_, ?_⟩
  · conv => whnf
    refine bool_split (fun h => ?_) (fun h => ?_)
    · have h : n < 0 := by simpa using h
      conv => whnf
      exact ⟨(), leV_d _, leV_d _, leV_int (by rw [hu0, if_pos h]), trivial⟩
    · have h : ¬ n < 0 := by simpa using h
      conv => whnf
      exact ⟨(), leV_d _, leV_d _, leV_int (by rw [hu0, if_neg h]), trivial⟩
  intro _
  conv => whnf
  refine ⟨{p : Nat × ByteArray × Int // 0 ≤ p.2.2 ∧ p.2.2 < 10 ^ 20 ∧ p.2.2 < 10 ^ (p.1 - 1) ∧ 1 ≤ p.1 ∧ p.2.1.size + p.1 = 21 ∧ digTo p.1 p.2.1 p.2.2 = s1}, fun ⟨⟨_, s, u⟩, _⟩ => [(0, .d (.int .i64 n)), (3, .d (.str s)), (4, .d (.int .u64 u))],
    fun p => p.1.1, ⟨(21, sE, u0), hur.1, hur.2, hur.2, Nat.le_add_left 1 20, rfl, hs1.symm⟩, ?_, ?_⟩
  · exact ⟨leV_d _, leV_d _, leV_d _, trivial⟩
  rintro ⟨⟨f, s, u⟩, hu, hub, huf, hf, hsf, hd⟩
  dsimp only at hu hub huf hf hsf hd
  obtain ⟨f, rfl⟩ : ∃ g, f = g + 1 := ⟨f - 1, by omega⟩
  have more : (u > 0 ∨ s.size = 0) → 0 ≤ u.tdiv 10 ∧ u.tdiv 10 < 10 ^ 20 ∧ u.tdiv 10 < 10 ^ (f - 1) ∧ 1 ≤ f ∧ (digS s u).size + f = 21 ∧ digTo f (digS s u) (u.tdiv 10) = s1 := fun hc => by
    have hd' := hd
    rw [digTo, if_pos hc] at hd'
    have hf1 : 1 ≤ f := by
      rcases Nat.eq_zero_or_pos f with h0 | h0
      · exfalso; subst h0
        have : u < 1 := by simpa using huf
        omega
      · exact h0
    have ht : u.tdiv 10 = u / 10 := Int.tdiv_eq_ediv_of_nonneg hu
    refine ⟨by rw [ht]; omega, by rw [ht]; omega, ?_, hf1, by rw [digS_size]; omega, hd'⟩
    rw [ht]
    obtain ⟨g, rfl⟩ : ∃ g, f = g + 1 := ⟨f - 1, by omega⟩
    have hp : (10 : Int) ^ (g + 1 + 1 - 1) = 10 ^ g * 10 := by rw [show g + 1 + 1 - 1 = g + 1 by omega]; exact Int.pow_succ 10 g
    rw [hp] at huf
    rw [show g + 1 - 1 = g by omega]
    omega
  have hadd : ∀ x : ByteArray, x.size = 1 → (x.size + s.size : Nat) ≤ 9223372036854775807 := fun x hx => by omega
  conv => whnf
  refine bool_split (fun h => ?_) (fun h => ?_)
  · have h : u > 0 := by simpa using h
    have hm := more (.inl h)
    conv => whnf
    refine ⟨by decide, ?_⟩
    conv => whnf
    refine ⟨fun i hi => ?_, ?_⟩
    · obtain rfl : i = 0 := by omega
      rfl
    conv => whnf
    refine ⟨hadd _ rfl, ?_⟩
    conv => whnf
    refine ⟨by decide, ?_⟩
    conv => whnf
    refine ⟨⟨(f, digS s u, u.tdiv 10), hm⟩, by dsimp only; omega, ?_⟩
    refine ⟨leV_d _, leV_d _, leV_int ?_, trivial⟩
    rw [IntKind.wrap_u64]
    have h10 : u.tdiv 10 = u / 10 := Int.tdiv_eq_ediv_of_nonneg hu
    omega
  · have h : ¬ u > 0 := by simpa using h
    conv => whnf
    refine bool_split (fun h2 => ?_) (fun h2 => ?_)
    · have h2 : strEq s sE = true := h2
      rw [strEq_e] at h2
      have hm := more (.inr (by simpa using h2))
      conv => whnf
      refine ⟨by decide, ?_⟩
      conv => whnf
      refine ⟨fun i hi => ?_, ?_⟩
      · obtain rfl : i = 0 := by omega
        rfl
      conv => whnf
      refine ⟨hadd _ rfl, ?_⟩
      conv => whnf
      refine ⟨by decide, ?_⟩
      conv => whnf
      refine ⟨⟨(f, digS s u, u.tdiv 10), hm⟩, by dsimp only; omega, ?_⟩
      refine ⟨leV_d _, leV_d _, leV_int ?_, trivial⟩
      rw [IntKind.wrap_u64]
      have h10 : u.tdiv 10 = u / 10 := Int.tdiv_eq_ediv_of_nonneg hu
      omega
    · have h2 : strEq s sE = false := h2
      rw [strEq_e] at h2
      have h2 : ¬ s.size = 0 := by simpa using h2
      have hs : s = s1 := by
        have hd' := hd
        rw [digTo, if_neg (by omega)] at hd'; exact hd'
      conv => whnf
      refine ⟨Unit, fun _ => [(3, .d (.str s2))], ?_, ?_⟩
      · conv => whnf
        refine bool_split (fun h => ?_) (fun h => ?_)
        · have h : n < 0 := by simpa using h
          conv => whnf
          refine ⟨by show 1 + s.size ≤ 9223372036854775807; omega, ?_⟩
          conv => whnf
          exact ⟨(), ⟨_, rfl, by rw [hs2, if_pos h, hs]; exact leD_refl _⟩, trivial⟩
        · have h : ¬ n < 0 := by simpa using h
          conv => whnf
          exact ⟨(), ⟨_, rfl, by rw [hs2, if_neg h, hs]; exact leD_refl _⟩, trivial⟩
      intro _
      conv => whnf
      refine ⟨by show s2.size + 1 ≤ 9223372036854775807; omega, ?_⟩
      conv => whnf
      rfl

noncomputable def dgs (n : Int) : ByteArray := (digits_spec n).choose
theorem dgs_size (n : Int) : (dgs n).size ≤ 23 := (digits_spec n).choose_spec.1
theorem dgs_spec (n : Int) : Spec Try.prog 23 [.d (.int .i64 n)] (fun o => o = .ret (.d (.str (dgs n))) [.d .und]) := (digits_spec n).choose_spec.2

noncomputable def rowS (L : List Int) : Nat → ByteArray
  | 0 => dgs L.length
  | i + 1 => rowS L i ++ dgs (L.getD i 0)

theorem rowS_size (L : List Int) : ∀ i, (rowS L i).size ≤ 23 * (i + 1)
  | 0 => by simp only [rowS]; have := dgs_size L.length; omega
  | i + 1 => by simp only [rowS]; rw [ByteArray.size_append]; have := dgs_size (L.getD i 0); have := rowS_size L i; omega

theorem row_spec (L : List Int) (hL : L.length ≤ 1000) : Spec Try.prog 24 [.d (dRow L)] (fun o => o = .ret (.d (.str (rowS L L.length))) [.d .und]) := by
  have h0 := dgs_spec L.length
  refine specR mixed Try.func24 (by decide +kernel) (keep := [0, 2, 3, 4, 11, 22]) [] ?_
  conv => whnf
  refine ⟨_, h0, ⟨_, rfl⟩, ?_⟩; rintro o rfl
  conv => whnf
  refine ⟨{p : Nat × ByteArray // p.1 ≤ L.length ∧ p.2 = rowS L p.1}, fun ⟨⟨i, s⟩, _⟩ => [(0, .d (dRow L)), (3, .d (.str s)), (4, .d (.int .i64 i))], fun p => L.length - p.1.1, ⟨(0, rowS L 0), Nat.zero_le _, rfl⟩, ?_, ?_⟩
  · exact ⟨leV_d _, leV_d _, leV_d _, trivial⟩
  rintro ⟨⟨i, s⟩, hi, hs⟩
  dsimp only at hi hs
  have hd := dgs_spec (L.getD i 0)
  conv => whnf
  refine bool_split (fun h => ?_) (fun h => ?_)
  · have hlt : i < L.length := by simpa using h
    conv => whnf
    refine ⟨⟨by omega, by omega⟩, ?_⟩
    conv => whnf
    refine ⟨_, hd, ⟨_, rfl⟩, ?_⟩; rintro o rfl
    conv => whnf
    refine ⟨by rw [hs]; have := rowS_size L i; have := dgs_size (L.getD i 0); omega, ?_⟩
    conv => whnf
    refine ⟨⟨(i + 1, rowS L (i + 1)), hlt, rfl⟩, by dsimp only; omega, ?_⟩
    exact ⟨leV_d _, ⟨_, rfl, by rw [hs]; exact leD_refl _⟩, leV_int (by show ((i + 1 : Nat) : Int) = IntKind.i64.wrap ((i : Int) + 1); rw [wrap_id] <;> omega), trivial⟩
  · have hge : ¬ i < L.length := by simpa using h
    have he : i = L.length := by omega
    conv => whnf
    rw [hs, he]; rfl

noncomputable def insS (x : M) : ByteArray :=
  dgs x.op ++ dgs x.d ++ dgs x.e ++ dgs x.a ++ dgs x.b ++ dgs x.c ++ dgs (IntKind.i64.wrap x.imm) ++ rowS x.args x.args.length

theorem ins_spec (x : M) (hL : x.args.length ≤ 1000) : Spec Try.prog 10 [.d x.D] (fun o => o = .ret (.d (.str (insS x))) [.d .und]) := by
  have h1 := dgs_spec x.op
  have h2 := dgs_spec x.d
  have h3 := dgs_spec x.e
  have h4 := dgs_spec x.a
  have h5 := dgs_spec x.b
  have h6 := dgs_spec x.c
  have h7 := dgs_spec (IntKind.i64.wrap x.imm)
  have h8 := row_spec x.args hL
  have s1 := dgs_size x.op
  have s2 := dgs_size x.d
  have s3 := dgs_size x.e
  have s4 := dgs_size x.a
  have s5 := dgs_size x.b
  have s6 := dgs_size x.c
  have s7 := dgs_size (IntKind.i64.wrap x.imm)
  have s8 := rowS_size x.args x.args.length
  unfold insS
  generalize dgs x.op = d1 at *
  generalize dgs x.d = d2 at *
  generalize dgs x.e = d3 at *
  generalize dgs x.a = d4 at *
  generalize dgs x.b = d5 at *
  generalize dgs x.c = d6 at *
  generalize dgs (IntKind.i64.wrap x.imm) = d7 at *
  generalize rowS x.args x.args.length = d8 at *
  refine specR mixed Try.func10 (by decide +kernel) (keep := [0, 1, 2, 35]) [] ?_
  conv => whnf
  refine ⟨[⟨0, [6, 7, 10, 11, 14, 15, 18, 19, 22, 23, 26, 27, 28, 31, 32], [], [], false⟩, ⟨1, [6, 7, 10, 11, 14, 15, 18, 19, 22, 23, 26, 27, 28, 31, 32], [], [], false⟩, ⟨3, [6, 7, 10, 11, 14, 15, 18, 19, 22, 23, 26, 27, 28, 31, 32], [], [], false⟩, ⟨0, [3, 4, 5, 10, 11, 14, 15, 18, 19, 22, 23, 26, 27, 28, 31, 32], [], [], false⟩, ⟨8, [3, 4, 5, 10, 11, 14, 15, 18, 19, 22, 23, 26, 27, 28, 31, 32], [], [], false⟩, ⟨31, [10, 11, 14, 15, 18, 19, 22, 23, 26, 27, 28, 31, 32], [], [], false⟩, ⟨63, [10, 11, 12, 14, 15, 16, 18, 19, 20, 22, 23, 24, 26, 27, 28, 29, 31, 32, 33], [], [], false⟩, ⟨0, [3, 4, 5, 6, 7, 8, 9, 14, 15, 18, 19, 22, 23, 26, 27, 28, 31, 32], [], [], false⟩, ⟨128, [3, 4, 5, 6, 7, 8, 9, 14, 15, 18, 19, 22, 23, 26, 27, 28, 31, 32], [], [], false⟩, ⟨447, [9, 14, 15, 18, 19, 22, 23, 26, 27, 28, 31, 32], [], [], false⟩, ⟨1023, [14, 15, 16, 18, 19, 20, 22, 23, 24, 26, 27, 28, 29, 31, 32, 33], [], [], false⟩, ⟨0, [3, 4, 5, 6, 7, 8, 9, 10, 11, 12, 13, 18, 19, 22, 23, 26, 27, 28, 31, 32], [], [], false⟩, ⟨2048, [3, 4, 5, 6, 7, 8, 9, 10, 11, 12, 13, 18, 19, 22, 23, 26, 27, 28, 31, 32], [], [], false⟩, ⟨7103, [9, 13, 18, 19, 22, 23, 26, 27, 28, 31, 32], [], [], false⟩, ⟨16383, [18, 19, 20, 22, 23, 24, 26, 27, 28, 29, 31, 32, 33], [], [], false⟩, ⟨0, [3, 4, 5, 6, 7, 8, 9, 10, 11, 12, 13, 14, 15, 16, 17, 22, 23, 26, 27, 28, 31, 32], [], [], false⟩, ⟨32768, [3, 4, 5, 6, 7, 8, 9, 10, 11, 12, 13, 14, 15, 16, 17, 22, 23, 26, 27, 28, 31, 32], [], [], false⟩, ⟨113599, [9, 13, 17, 22, 23, 26, 27, 28, 31, 32], [], [], false⟩, ⟨262143, [22, 23, 24, 26, 27, 28, 29, 31, 32, 33], [], [], false⟩, ⟨0, [3, 4, 5, 6, 7, 8, 9, 10, 11, 12, 13, 14, 15, 16, 17, 18, 19, 20, 21, 26, 27, 28, 31, 32], [], [], false⟩, ⟨524288, [3, 4, 5, 6, 7, 8, 9, 10, 11, 12, 13, 14, 15, 16, 17, 18, 19, 20, 21, 26, 27, 28, 31, 32], [], [], false⟩, ⟨1817535, [9, 13, 17, 21, 26, 27, 28, 31, 32], [], [], false⟩, ⟨4194303, [26, 27, 28, 29, 31, 32, 33], [], [], false⟩, ⟨0, [3, 4, 5, 6, 7, 8, 9, 10, 11, 12, 13, 14, 15, 16, 17, 18, 19, 20, 21, 22, 23, 24, 25, 31, 32], [], [], false⟩, ⟨8388608, [3, 4, 5, 6, 7, 8, 9, 10, 11, 12, 13, 14, 15, 16, 17, 18, 19, 20, 21, 22, 23, 24, 25, 31, 32], [], [], false⟩, ⟨25165824, [3, 4, 5, 6, 7, 8, 9, 10, 11, 12, 13, 14, 15, 16, 17, 18, 19, 20, 21, 22, 23, 24, 25, 31, 32], [], [], false⟩, ⟨62634943, [9, 13, 17, 21, 25, 31, 32], [], [], false⟩, ⟨134217727, [31, 32, 33], [], [], false⟩, ⟨0, [3, 4, 5, 6, 7, 8, 9, 10, 11, 12, 13, 14, 15, 16, 17, 18, 19, 20, 21, 22, 23, 24, 25, 26, 27, 28, 29, 30], [], [], false⟩, ⟨268435456, [3, 4, 5, 6, 7, 8, 9, 10, 11, 12, 13, 14, 15, 16, 17, 18, 19, 20, 21, 22, 23, 24, 25, 26, 27, 28, 29, 30], [], [], false⟩, ⟨935050175, [9, 13, 17, 21, 25, 30], [], [], false⟩, ⟨2147483647, [], [], [], true⟩, ⟨4294967295, [], [], [], true⟩], by decide +kernel, ?_⟩
  conv => whnf
  refine ⟨_, h1, ⟨_, rfl⟩, ?_⟩; rintro o rfl
  conv => whnf
  refine ⟨_, h2, ⟨_, rfl⟩, ?_⟩; rintro o rfl
  conv => whnf
  refine ⟨by omega, ?_⟩
  conv => whnf
  refine ⟨_, h3, ⟨_, rfl⟩, ?_⟩; rintro o rfl
  conv => whnf
  refine ⟨by rw [ByteArray.size_append]; omega, ?_⟩
  conv => whnf
  refine ⟨_, h4, ⟨_, rfl⟩, ?_⟩; rintro o rfl
  conv => whnf
  refine ⟨by rw [ByteArray.size_append, ByteArray.size_append]; omega, ?_⟩
  conv => whnf
  refine ⟨_, h5, ⟨_, rfl⟩, ?_⟩; rintro o rfl
  conv => whnf
  refine ⟨by rw [ByteArray.size_append, ByteArray.size_append, ByteArray.size_append]; omega, ?_⟩
  conv => whnf
  refine ⟨_, h6, ⟨_, rfl⟩, ?_⟩; rintro o rfl
  conv => whnf
  refine ⟨by rw [ByteArray.size_append, ByteArray.size_append, ByteArray.size_append, ByteArray.size_append]; omega, ?_⟩
  conv => whnf
  refine ⟨_, h7, ⟨_, rfl⟩, ?_⟩; rintro o rfl
  conv => whnf
  refine ⟨by rw [ByteArray.size_append, ByteArray.size_append, ByteArray.size_append, ByteArray.size_append, ByteArray.size_append]; omega, ?_⟩
  conv => whnf
  refine ⟨_, h8, ⟨_, rfl⟩, ?_⟩; rintro o rfl
  conv => whnf
  refine ⟨by rw [ByteArray.size_append, ByteArray.size_append, ByteArray.size_append, ByteArray.size_append, ByteArray.size_append, ByteArray.size_append]; omega, ?_⟩
  conv => whnf
  rfl

end AM

/- The walk of PipeApart. -/
namespace AM
open Go Go.Proofs
set_option maxRecDepth 100000
set_option maxHeartbeats 16000000
set_option linter.unusedSimpArgs false
set_option pp.maxSteps 20000

def tab3_14 : List Row := [⟨0, [52, 53, 54, 55, 56, 57, 58, 59, 60, 61], [], [], false⟩, ⟨0, [51, 53, 57, 58, 59, 60, 61], [], [], false⟩, ⟨0, [51, 52, 57, 58, 59, 60, 61], [], [], false⟩, ⟨6, [51, 57, 58, 59, 60, 61], [], [], false⟩, ⟨14, [51, 57, 58, 59, 60, 61], [], [], false⟩, ⟨30, [51, 57, 58, 59, 60, 61], [], [], false⟩, ⟨0, [51, 52, 53, 54, 55, 56, 58], [], [], false⟩, ⟨0, [51, 52, 53, 54, 55, 56, 57], [], [], false⟩, ⟨192, [51, 52, 53, 54, 55, 56], [], [], false⟩, ⟨448, [51, 52, 53, 54, 55, 56], [], [], false⟩, ⟨960, [51, 52, 53, 54, 55, 56], [], [], false⟩, ⟨2047, [], [], [21], true⟩, ⟨4095, [], [], [], true⟩]

def tab3_15 : List Row := [⟨0, [64, 65, 66, 67, 68, 69, 70, 71, 72, 73, 74, 75, 76, 77, 78], [], [], false⟩, ⟨0, [63, 65, 66, 67, 68, 69, 73, 74, 75, 76, 77, 78], [], [], false⟩, ⟨0, [63, 64, 68, 73, 74, 75, 76, 77, 78], [], [], false⟩, ⟨4, [63, 64, 68, 73, 74, 75, 76, 77, 78], [], [], false⟩, ⟨12, [63, 64, 68, 73, 74, 75, 76, 77, 78], [], [], false⟩, ⟨0, [63, 64, 65, 66, 67, 73, 74, 75, 76, 77, 78], [], [], false⟩, ⟨60, [63, 64, 73, 74, 75, 76, 77, 78], [], [], false⟩, ⟨126, [63, 73, 74, 75, 76, 77, 78], [], [], false⟩, ⟨254, [63, 73, 74, 75, 76, 77, 78], [], [], false⟩, ⟨510, [63, 73, 74, 75, 76, 77, 78], [], [], false⟩, ⟨0, [63, 64, 65, 66, 67, 68, 69, 70, 71, 72, 74], [], [], false⟩, ⟨0, [63, 64, 65, 66, 67, 68, 69, 70, 71, 72, 73], [], [], false⟩, ⟨3072, [63, 64, 65, 66, 67, 68, 69, 70, 71, 72], [], [], false⟩, ⟨7168, [63, 64, 65, 66, 67, 68, 69, 70, 71, 72], [], [], false⟩, ⟨15360, [63, 64, 65, 66, 67, 68, 69, 70, 71, 72], [], [], false⟩, ⟨31744, [63, 64, 65, 66, 67, 68, 69, 70, 71, 72], [], [], false⟩, ⟨65535, [], [], [24], true⟩]

def tab3_16 : List Row := [⟨0, [81, 82, 83, 84, 85, 86, 87, 88, 89, 90, 92, 93, 94, 95, 96, 97, 98, 99, 100, 101, 102], [], [], false⟩, ⟨0, [80, 82, 86, 87, 88, 89, 90, 92, 93, 94, 95, 96, 97, 98, 99, 100, 101, 102], [], [], false⟩, ⟨0, [80, 81, 86, 87, 88, 89, 90, 92, 93, 94, 95, 96, 97, 98, 99, 100, 101, 102], [], [], false⟩, ⟨6, [80, 86, 87, 88, 89, 90, 92, 93, 94, 95, 96, 97, 98, 99, 100, 101, 102], [], [], false⟩, ⟨14, [80, 86, 87, 88, 89, 90, 92, 93, 94, 95, 96, 97, 98, 99, 100, 101, 102], [], [], false⟩, ⟨30, [80, 86, 87, 88, 89, 90, 92, 93, 94, 95, 96, 97, 98, 99, 100, 101, 102], [], [], false⟩, ⟨0, [80, 81, 82, 83, 84, 85, 87, 92, 93, 94, 95, 96, 97, 98, 99, 100, 101, 102], [], [], false⟩, ⟨0, [80, 81, 82, 83, 84, 85, 86, 92, 93, 94, 95, 96, 97, 98, 99, 100, 101, 102], [], [], false⟩, ⟨192, [80, 81, 82, 83, 84, 85, 92, 93, 94, 95, 96, 97, 98, 99, 100, 101, 102], [], [], false⟩, ⟨448, [80, 81, 82, 83, 84, 85, 92, 93, 94, 95, 96, 97, 98, 99, 100, 101, 102], [], [], false⟩, ⟨960, [80, 81, 82, 83, 84, 85, 92, 93, 94, 95, 96, 97, 98, 99, 100, 101, 102], [], [], false⟩, ⟨2047, [92, 93, 94, 95, 96, 97, 98, 99, 100, 101, 102], [], [28], false⟩, ⟨0, [80, 81, 82, 83, 84, 85, 86, 87, 88, 89, 90, 91, 93, 94, 95, 96, 97, 98, 99, 100, 101, 102], [28], [], false⟩, ⟨0, [80, 81, 82, 83, 84, 85, 86, 87, 88, 89, 90, 91, 92, 94, 98, 99, 100, 101, 102], [28], [], false⟩, ⟨0, [80, 81, 82, 83, 84, 85, 86, 87, 88, 89, 90, 91, 92, 93, 98, 99, 100, 101, 102], [28], [], false⟩, ⟨24576, [80, 81, 82, 83, 84, 85, 86, 87, 88, 89, 90, 91, 92, 98, 99, 100, 101, 102], [28], [], false⟩, ⟨57344, [80, 81, 82, 83, 84, 85, 86, 87, 88, 89, 90, 91, 92, 98, 99, 100, 101, 102], [28], [], false⟩, ⟨122880, [80, 81, 82, 83, 84, 85, 86, 87, 88, 89, 90, 91, 92, 98, 99, 100, 101, 102], [28], [], false⟩, ⟨0, [80, 81, 82, 83, 84, 85, 86, 87, 88, 89, 90, 91, 92, 93, 94, 95, 96, 97, 99], [28], [], false⟩, ⟨0, [80, 81, 82, 83, 84, 85, 86, 87, 88, 89, 90, 91, 92, 93, 94, 95, 96, 97, 98], [28], [], false⟩, ⟨786432, [80, 81, 82, 83, 84, 85, 86, 87, 88, 89, 90, 91, 92, 93, 94, 95, 96, 97], [28], [], false⟩, ⟨1835008, [80, 81, 82, 83, 84, 85, 86, 87, 88, 89, 90, 91, 92, 93, 94, 95, 96, 97], [28], [], false⟩, ⟨3932160, [80, 81, 82, 83, 84, 85, 86, 87, 88, 89, 90, 91, 92, 93, 94, 95, 96, 97], [28], [], false⟩, ⟨8388607, [], [], [30], true⟩, ⟨16777215, [], [], [], true⟩, ⟨33554431, [], [], [], true⟩, ⟨67108863, [107, 108, 109, 110, 111, 112, 113, 114, 115, 116], [], [], false⟩, ⟨67108863, [106, 108, 112, 113, 114, 115, 116], [], [], false⟩, ⟨67108863, [106, 107, 112, 113, 114, 115, 116], [], [], false⟩, ⟨469762047, [106, 112, 113, 114, 115, 116], [], [], false⟩, ⟨1006632959, [106, 112, 113, 114, 115, 116], [], [], false⟩, ⟨2080374783, [106, 112, 113, 114, 115, 116], [], [], false⟩, ⟨67108863, [106, 107, 108, 109, 110, 111, 113], [], [], false⟩, ⟨67108863, [106, 107, 108, 109, 110, 111, 112], [], [], false⟩, ⟨12952010751, [106, 107, 108, 109, 110, 111], [], [], false⟩, ⟨30131879935, [106, 107, 108, 109, 110, 111], [], [], false⟩, ⟨64491618303, [106, 107, 108, 109, 110, 111], [], [], false⟩, ⟨137438953471, [], [], [], true⟩, ⟨274877906943, [], [], [], true⟩, ⟨549755813887, [], [], [], true⟩, ⟨1099511627775, [], [], [], true⟩, ⟨2199023255551, [122, 123, 124, 125, 126, 127, 128, 129, 130, 131, 133], [], [], false⟩, ⟨2199023255551, [121, 123, 127, 128, 129, 130, 131, 133], [], [], false⟩, ⟨2199023255551, [121, 122, 127, 128, 129, 130, 131, 133], [], [], false⟩, ⟨15393162788863, [121, 127, 128, 129, 130, 131, 133], [], [], false⟩, ⟨32985348833279, [121, 127, 128, 129, 130, 131, 133], [], [], false⟩, ⟨68169720922111, [121, 127, 128, 129, 130, 131, 133], [], [], false⟩, ⟨2199023255551, [121, 122, 123, 124, 125, 126, 128, 133], [], [], false⟩, ⟨2199023255551, [121, 122, 123, 124, 125, 126, 127, 133], [], [], false⟩, ⟨424411488321535, [121, 122, 123, 124, 125, 126, 133], [], [], false⟩, ⟨987361441742847, [121, 122, 123, 124, 125, 126, 133], [], [], false⟩, ⟨2113261348585471, [121, 122, 123, 124, 125, 126, 133], [], [], false⟩, ⟨4503599627370495, [133], [], [26], false⟩, ⟨2199023255551, [121, 122, 123, 124, 125, 126, 127, 128, 129, 130, 131, 132], [26], [], false⟩, ⟨18014398509481983, [], [], [], true⟩, ⟨36028797018963967, [], [], [], true⟩]

def tab3_22 : List Row := [⟨0, [145, 150, 151, 152, 153, 154], [], [], false⟩, ⟨0, [144, 150, 151, 152, 153, 154], [], [], false⟩, ⟨3, [150, 151, 152, 153, 154], [], [], false⟩, ⟨7, [150, 151, 152, 153, 154], [], [], false⟩, ⟨15, [150, 151, 152, 153, 154], [], [], false⟩, ⟨31, [150, 151, 152, 153, 154], [], [], false⟩, ⟨0, [144, 145, 146, 147, 148, 149, 151], [], [], false⟩, ⟨0, [144, 145, 146, 147, 148, 149, 150], [], [], false⟩, ⟨192, [144, 145, 146, 147, 148, 149], [], [], false⟩, ⟨448, [144, 145, 146, 147, 148, 149], [], [], false⟩, ⟨960, [144, 145, 146, 147, 148, 149], [], [], false⟩, ⟨2047, [], [], [], true⟩, ⟨4095, [], [], [], true⟩]

/-- Done, the choice for the map told -/
theorem done_to (s : Ck) (b : Bool) (hR : b = false → ∀ k, s.R k = none) (m d l t : Int) (x : M) (hb : x.args.length ≤ 999) (tk : Bool) :
    ((cond x.isCtl b true) = false → ∀ k, (stepC m d l t s x tk).R k = none) ∧
      Spec Try.prog 9 [.box (clockB s.last (rcB b s.R) s.begun m d l t s.away) 0, .d x.D, .d (.bool tk)]
        (fun o => o = .ret (.d (.int .i64 (stepC m d l t s x tk).last)) [.obox (clockB (stepC m d l t s x tk).last (rcB (cond x.isCtl b true) (stepC m d l t s x tk).R) true m d l t tk), .d .und, .d .und]) := by
  have h := done_spec s (rcB b s.R) (rcB_ok hR) m d l t x hb tk
  have h1 : (stepC m d l t s x tk).begun = true := by unfold stepC; split <;> rfl
  have h2 : (stepC m d l t s x tk).away = tk := by unfold stepC; split <;> rfl
  unfold doneO at h
  rw [h1, h2] at h
  cases hc : x.isCtl with
  | true =>
    have hR' : (stepC m d l t s x tk).R = s.R := by unfold stepC; rw [hc]; rfl
    refine ⟨by rw [hR']; exact hR, ?_⟩
    unfold rcOf at h
    rw [hc] at h
    rw [hR']
    exact h
  | false =>
    refine ⟨fun h => by simp at h, ?_⟩
    unfold rcOf at h
    rw [hc] at h
    exact h

theorem doneNil_spec (x : M) (tk : Bool) : Spec Try.prog 9 [.d .nilp, .d x.D, .d (.bool tk)] (fun o => o = .ret (.d (.int .i64 0)) [.d .und, .d .und, .d .und]) := by
  refine specR mixed Try.func9 (by decide +kernel) (keep := [0, 1, 2, 4, 6, 7, 8, 9, 10, 11, 13, 17, 36, 73, 74, 75]) [] ?_
  conv => whnf
  rfl

theorem leC_rc (q : Bool) (R : Int → Option Int) : leC (rcB q R) (rcB q R) := by
  cases q
  · exact leC_d _
  · exact leC_imap _ _

theorem pipeApart_spec (es : List E) (m d l t : Int) : Spec Try.prog 3 [.d (dE es), .d (encDesc m d l t)] (fun o => o = .ret (.d (.bool true)) [.d .und, .d .und]) := by
  have hf1 := few_row es true
  have hds := desc_spec m d l t
  obtain ⟨X, hX⟩ : ∃ L, L = fewL true es := ⟨_, rfl⟩
  rw [← hX] at hf1
  have hX1 : X.length ≤ 40 := by rw [hX, fewL_len]; omega
  have hX2 : ∀ x ∈ X, x.i.args.length ≤ 999 := fun x hx => by rw [hX] at hx; have := fewL_args _ _ x hx; omega
  have hXi : ∀ i, i < X.length → (X.getD i E0).i.args.length ≤ 999 := fun i hi => hX2 _ (by rw [List.getD_eq_getElem?_getD, List.getElem?_eq_getElem hi]; exact List.getElem_mem hi)
  obtain ⟨m', hm'⟩ : ∃ y, y = oneP m := ⟨_, rfl⟩
  obtain ⟨d', hd'⟩ : ∃ y, y = oneP d := ⟨_, rfl⟩
  obtain ⟨l', hl'⟩ : ∃ y, y = oneP l := ⟨_, rfl⟩
  obtain ⟨t', ht'⟩ : ∃ y, y = restI t 21 := ⟨_, rfl⟩
  rw [← hm', ← hd', ← hl', ← ht'] at hds
  refine specR mixed Try.func3 (by decide +kernel) (keep := [0, 1, 3, 4, 5, 6, 7, 8, 9, 10, 11, 12, 13, 14, 15, 16, 21, 24, 26, 28, 30, 44, 48, 135, 141, 156, 187, 188]) [16, 17] ?_
  conv => whnf
  refine ⟨_, shown_spec, ⟨_, rfl⟩, ?_⟩; rintro o rfl
  conv => whnf
  refine ⟨_, hf1, ⟨_, rfl⟩, ?_⟩; rintro o rfl
  conv => whnf
  refine ⟨_, new_spec m d l t, ⟨_, rfl⟩, ?_⟩; rintro o rfl
  conv => whnf
  refine ⟨_, hds, ⟨_, rfl⟩, ?_⟩; rintro o rfl
  conv => whnf
  refine ⟨_, new_spec m' d' l' t', ⟨_, rfl⟩, ?_⟩; rintro o rfl
  conv => whnf
  refine ⟨_, new_spec m d l t, ⟨_, rfl⟩, ?_⟩; rintro o rfl
  conv => whnf
  refine ⟨_, new_spec 0 0 0 0, ⟨_, rfl⟩, ?_⟩; rintro o rfl
  conv => whnf
  refine ⟨{p : Nat × Bool × Bool × Ck × Ck × Ck // p.1 ≤ X.length ∧ (p.2.1 = false → ∀ k, p.2.2.2.1.R k = none) ∧ (p.2.1 = false → ∀ k, p.2.2.2.2.2.R k = none) ∧ (p.2.2.1 = false → ∀ k, p.2.2.2.2.1.R k = none) ∧ (p.1 = 0 → p.2.2.2.1.begun = false)},
    fun ⟨⟨i, q, qb, ⟨la, Ra, ba, aa⟩, ⟨lb, Rb, bb, ab⟩, ⟨lz, Rz, bz, az⟩⟩, _⟩ => [(0, .d (dE es)), (5, .d (.bool true)), (6, .d (dE X)), (7, .ref 21 0), (8, .ref 24 0), (9, .ref 26 0), (10, .ref 28 0), (11, .ref 30 0), (12, .d .nilp), (13, .d (.int .i64 i)), (21, (.obox (clockB la (rcB q Ra) ba m d l t aa))), (24, (.obox (clockB lb (rcB qb Rb) bb m' d' l' t' ab))), (26, (.obox (clockB la (rcB q Ra) ba m d l t aa))), (28, (.obox (clockB lz (rcB q Rz) bz 0 0 0 0 az))), (30, (.obox (clockB lz (rcB q Rz) bz 0 0 0 0 az)))], fun p => X.length - p.1.1, ⟨(0, false, false, ck0, ck0, ck0), Nat.zero_le _, fun _ _ => rfl, fun _ _ => rfl, fun _ _ => rfl, fun _ => rfl⟩, ?_, ?_⟩
  · exact ⟨leV_d _, leV_d _, leV_d _, leV_ref _ _, leV_ref _ _, leV_ref _ _, leV_ref _ _, leV_ref _ _, leV_d _, leV_d _, ⟨_, rfl, leC_d _, leC_rc _ _, leC_d _, leC_d _, leC_d _, leC_d _, leC_d _, leC_d _, trivial⟩, ⟨_, rfl, leC_d _, leC_rc _ _, leC_d _, leC_d _, leC_d _, leC_d _, leC_d _, leC_d _, trivial⟩, ⟨_, rfl, leC_d _, leC_rc _ _, leC_d _, leC_d _, leC_d _, leC_d _, leC_d _, leC_d _, trivial⟩, ⟨_, rfl, leC_d _, leC_rc _ _, leC_d _, leC_d _, leC_d _, leC_d _, leC_d _, leC_d _, trivial⟩, ⟨_, rfl, leC_d _, leC_rc _ _, leC_d _, leC_d _, leC_d _, leC_d _, leC_d _, leC_d _, trivial⟩, trivial⟩
  rintro ⟨⟨i, q, qb, ⟨la, Ra, ba, aa⟩, ⟨lb, Rb, bb, ab⟩, ⟨lz, Rz, bz, az⟩⟩, hi, hfa, hfz, hfb, hbe⟩
  dsimp only at hi hfa hfz hfb hbe
  by_cases hil : i < X.length
  · have hii : (0 : Int) ≤ (i : Int) ∧ (i : Int) < (X.length : Int) := ⟨by omega, by omega⟩
    have hj : IntKind.i64.wrap (IntKind.i64.wrap ((X.length : Int) - 1) - (i : Int)) = ((X.length - 1 - i : Nat) : Int) := by
      rw [wrap_id (n := (X.length : Int) - 1) (by omega) (by omega), wrap_id (by omega) (by omega)]; omega
    have hjj : (0 : Int) ≤ IntKind.i64.wrap (IntKind.i64.wrap ((X.length : Int) - 1) - (i : Int)) ∧ IntKind.i64.wrap (IntKind.i64.wrap ((X.length : Int) - 1) - (i : Int)) < (X.length : Int) := by rw [hj]; omega
    obtain ⟨ha1, hA⟩ := done_to ⟨la, Ra, ba, aa⟩ q hfa m d l t (X.getD i E0).i (hXi i hil) (X.getD i E0).taken
    obtain ⟨hz1, hZ⟩ := done_to ⟨lz, Rz, bz, az⟩ q hfz 0 0 0 0 (X.getD i E0).i (hXi i hil) (X.getD i E0).taken
    obtain ⟨hb1, hB⟩ := done_to ⟨lb, Rb, bb, ab⟩ qb hfb m' d' l' t' (X.getD (IntKind.i64.wrap (IntKind.i64.wrap ((X.length : Int) - 1) - (i : Int))).toNat E0).i (hXi _ (by rw [hj]; simp; omega)) (!(X.getD i E0).taken)
    have hN := doneNil_spec (X.getD i E0).i (X.getD i E0).taken
    have hq1 : q = true → (cond (X.getD i E0).i.isCtl q true) = true := fun h => by rw [h]; cases (X.getD i E0).i.isCtl <;> rfl
    have hq2 : qb = true → (cond (X.getD (IntKind.i64.wrap (IntKind.i64.wrap ((X.length : Int) - 1) - (i : Int))).toNat E0).i.isCtl qb true) = true := fun h => by rw [h]; cases (X.getD (IntKind.i64.wrap (IntKind.i64.wrap ((X.length : Int) - 1) - (i : Int))).toNat E0).i.isCtl <;> rfl
    generalize (cond (X.getD i E0).i.isCtl q true) = q' at ha1 hA hz1 hZ hq1
    generalize (cond (X.getD (IntKind.i64.wrap (IntKind.i64.wrap ((X.length : Int) - 1) - (i : Int))).toNat E0).i.isCtl qb true) = qb' at hb1 hB hq2
    generalize (stepC m d l t ⟨la, Ra, ba, aa⟩ (X.getD i E0).i (X.getD i E0).taken) = sA at ha1 hA
    generalize (stepC 0 0 0 0 ⟨lz, Rz, bz, az⟩ (X.getD i E0).i (X.getD i E0).taken) = sZ at hz1 hZ
    generalize (stepC m' d' l' t' ⟨lb, Rb, bb, ab⟩ (X.getD (IntKind.i64.wrap (IntKind.i64.wrap ((X.length : Int) - 1) - (i : Int))).toNat E0).i (!(X.getD i E0).taken)) = sB at hb1 hB
    obtain ⟨la', Ra', u1, u2⟩ := sA
    obtain ⟨lz', Rz', u3, u4⟩ := sZ
    obtain ⟨lb', Rb', u5, u6⟩ := sB
    dsimp only at ha1 hA hz1 hZ hb1 hB
    have hnA : (la' != la') = false := by simp
    have hnZ : (lz' != lz') = false := by simp
    cases q <;> cases q' <;> cases qb <;> cases qb'
    · conv => whnf
      refine bool_split (fun _ => ?_) (fun h => absurd hii.2 (by simpa using h))
      conv => whnf
      refine ⟨Unit, fun _ => [(0, .d (dE es)), (5, .d (.bool true)), (6, .d (dE X)), (7, .ref 21 0), (8, .ref 24 0), (9, .ref 26 0), (10, .ref 28 0), (11, .ref 30 0), (12, .d .nilp), (13, .d (.int .i64 i)), (14, .d (.int .i64 la')), (21, (.obox (clockB la' (rcB false Ra') true m d l t (X.getD i E0).taken))), (24, (.obox (clockB lb (rcB false Rb) bb m' d' l' t' ab))), (26, (.obox (clockB la (rcB false Ra) ba m d l t aa))), (28, (.obox (clockB lz (rcB false Rz) bz 0 0 0 0 az))), (30, (.obox (clockB lz (rcB false Rz) bz 0 0 0 0 az)))], ?_, ?_⟩
      · conv => whnf
        refine ⟨tab3_14, by decide +kernel, ?_⟩
        conv => whnf
        refine ⟨hii, ?_⟩
        conv => whnf
        refine ⟨hii, ?_⟩
        conv => whnf
        refine ⟨_, hA, ⟨_, rfl⟩, ?_⟩; rintro o rfl
        conv => whnf
        exact ⟨(), leV_d _, leV_d _, leV_d _, leV_ref _ _, leV_ref _ _, leV_ref _ _, leV_ref _ _, leV_ref _ _, leV_d _, leV_d _, leV_d _, ⟨_, rfl, leC_d _, leC_rc _ _, leC_d _, leC_d _, leC_d _, leC_d _, leC_d _, leC_d _, trivial⟩, ⟨_, rfl, leC_d _, leC_rc _ _, leC_d _, leC_d _, leC_d _, leC_d _, leC_d _, leC_d _, trivial⟩, ⟨_, rfl, leC_d _, leC_rc _ _, leC_d _, leC_d _, leC_d _, leC_d _, leC_d _, leC_d _, trivial⟩, ⟨_, rfl, leC_d _, leC_rc _ _, leC_d _, leC_d _, leC_d _, leC_d _, leC_d _, leC_d _, trivial⟩, ⟨_, rfl, leC_d _, leC_rc _ _, leC_d _, leC_d _, leC_d _, leC_d _, leC_d _, leC_d _, trivial⟩, trivial⟩
      intro _
      conv => whnf
      refine ⟨Unit, fun _ => [(0, .d (dE es)), (5, .d (.bool true)), (6, .d (dE X)), (7, .ref 21 0), (8, .ref 24 0), (9, .ref 26 0), (10, .ref 28 0), (11, .ref 30 0), (12, .d .nilp), (13, .d (.int .i64 i)), (14, .d (.int .i64 la')), (21, (.obox (clockB la' (rcB false Ra') true m d l t (X.getD i E0).taken))), (24, (.obox (clockB lb' (rcB false Rb') true m' d' l' t' (!(X.getD i E0).taken)))), (26, (.obox (clockB la (rcB false Ra) ba m d l t aa))), (28, (.obox (clockB lz (rcB false Rz) bz 0 0 0 0 az))), (30, (.obox (clockB lz (rcB false Rz) bz 0 0 0 0 az)))], ?_, ?_⟩
      · conv => whnf
        refine ⟨tab3_15, by decide +kernel, ?_⟩
        conv => whnf
        refine ⟨hjj, ?_⟩
        conv => whnf
        refine ⟨hii, ?_⟩
        conv => whnf
        refine ⟨_, hB, ⟨_, rfl⟩, ?_⟩; rintro o rfl
        conv => whnf
        exact ⟨(), leV_d _, leV_d _, leV_d _, leV_ref _ _, leV_ref _ _, leV_ref _ _, leV_ref _ _, leV_ref _ _, leV_d _, leV_d _, leV_d _, ⟨_, rfl, leC_d _, leC_rc _ _, leC_d _, leC_d _, leC_d _, leC_d _, leC_d _, leC_d _, trivial⟩, ⟨_, rfl, leC_d _, leC_rc _ _, leC_d _, leC_d _, leC_d _, leC_d _, leC_d _, leC_d _, trivial⟩, ⟨_, rfl, leC_d _, leC_rc _ _, leC_d _, leC_d _, leC_d _, leC_d _, leC_d _, leC_d _, trivial⟩, ⟨_, rfl, leC_d _, leC_rc _ _, leC_d _, leC_d _, leC_d _, leC_d _, leC_d _, leC_d _, trivial⟩, ⟨_, rfl, leC_d _, leC_rc _ _, leC_d _, leC_d _, leC_d _, leC_d _, leC_d _, leC_d _, trivial⟩, trivial⟩
      intro _
      conv => whnf
      refine ⟨tab3_16, by decide +kernel, ?_⟩
      conv => whnf
      refine ⟨hii, ?_⟩
      conv => whnf
      refine ⟨hii, ?_⟩
      conv => whnf
      refine ⟨_, hZ, ⟨_, rfl⟩, ?_⟩; rintro o rfl
      conv => whnf
      refine ⟨hii, ?_⟩
      conv => whnf
      refine ⟨hii, ?_⟩
      conv => whnf
      refine ⟨_, hZ, ⟨_, rfl⟩, ?_⟩; rintro o rfl
      conv => whnf
      refine bool_split (fun h => absurd (hnZ.symm.trans h) (by decide)) (fun _ => ?_)
      conv => whnf
      refine ⟨hii, ?_⟩
      conv => whnf
      refine ⟨hii, ?_⟩
      conv => whnf
      refine ⟨_, hN, ⟨_, rfl⟩, ?_⟩; rintro o rfl
      conv => whnf
      refine ⟨hii, ?_⟩
      conv => whnf
      refine ⟨hii, ?_⟩
      conv => whnf
      refine ⟨_, hA, ⟨_, rfl⟩, ?_⟩; rintro o rfl
      conv => whnf
      refine bool_split (fun h => absurd (hnA.symm.trans h) (by decide)) (fun _ => ?_)
      conv => whnf
      refine ⟨⟨(i + 1, false, false, ⟨la', Ra', true, (X.getD i E0).taken⟩, ⟨lb', Rb', true, !(X.getD i E0).taken⟩, ⟨lz', Rz', true, (X.getD i E0).taken⟩), hil, ha1, hz1, hb1, fun h => absurd h (by simp)⟩, by dsimp only; omega, ?_⟩
      exact ⟨leV_d _, leV_d _, leV_d _, leV_ref _ _, leV_ref _ _, leV_ref _ _, leV_ref _ _, leV_ref _ _, leV_d _, leV_int (by show ((i + 1 : Nat) : Int) = IntKind.i64.wrap ((i : Int) + 1); rw [wrap_id] <;> omega), ⟨_, rfl, leC_d _, leC_rc _ _, leC_d _, leC_d _, leC_d _, leC_d _, leC_d _, leC_d _, trivial⟩, ⟨_, rfl, leC_d _, leC_rc _ _, leC_d _, leC_d _, leC_d _, leC_d _, leC_d _, leC_d _, trivial⟩, ⟨_, rfl, leC_d _, leC_rc _ _, leC_d _, leC_d _, leC_d _, leC_d _, leC_d _, leC_d _, trivial⟩, ⟨_, rfl, leC_d _, leC_rc _ _, leC_d _, leC_d _, leC_d _, leC_d _, leC_d _, leC_d _, trivial⟩, ⟨_, rfl, leC_d _, leC_rc _ _, leC_d _, leC_d _, leC_d _, leC_d _, leC_d _, leC_d _, trivial⟩, trivial⟩
    · conv => whnf
      refine bool_split (fun _ => ?_) (fun h => absurd hii.2 (by simpa using h))
      conv => whnf
      refine ⟨Unit, fun _ => [(0, .d (dE es)), (5, .d (.bool true)), (6, .d (dE X)), (7, .ref 21 0), (8, .ref 24 0), (9, .ref 26 0), (10, .ref 28 0), (11, .ref 30 0), (12, .d .nilp), (13, .d (.int .i64 i)), (14, .d (.int .i64 la')), (21, (.obox (clockB la' (rcB false Ra') true m d l t (X.getD i E0).taken))), (24, (.obox (clockB lb (rcB false Rb) bb m' d' l' t' ab))), (26, (.obox (clockB la (rcB false Ra) ba m d l t aa))), (28, (.obox (clockB lz (rcB false Rz) bz 0 0 0 0 az))), (30, (.obox (clockB lz (rcB false Rz) bz 0 0 0 0 az)))], ?_, ?_⟩
      · conv => whnf
        refine ⟨tab3_14, by decide +kernel, ?_⟩
        conv => whnf
        refine ⟨hii, ?_⟩
        conv => whnf
        refine ⟨hii, ?_⟩
        conv => whnf
        refine ⟨_, hA, ⟨_, rfl⟩, ?_⟩; rintro o rfl
        conv => whnf
        exact ⟨(), leV_d _, leV_d _, leV_d _, leV_ref _ _, leV_ref _ _, leV_ref _ _, leV_ref _ _, leV_ref _ _, leV_d _, leV_d _, leV_d _, ⟨_, rfl, leC_d _, leC_rc _ _, leC_d _, leC_d _, leC_d _, leC_d _, leC_d _, leC_d _, trivial⟩, ⟨_, rfl, leC_d _, leC_rc _ _, leC_d _, leC_d _, leC_d _, leC_d _, leC_d _, leC_d _, trivial⟩, ⟨_, rfl, leC_d _, leC_rc _ _, leC_d _, leC_d _, leC_d _, leC_d _, leC_d _, leC_d _, trivial⟩, ⟨_, rfl, leC_d _, leC_rc _ _, leC_d _, leC_d _, leC_d _, leC_d _, leC_d _, leC_d _, trivial⟩, ⟨_, rfl, leC_d _, leC_rc _ _, leC_d _, leC_d _, leC_d _, leC_d _, leC_d _, leC_d _, trivial⟩, trivial⟩
      intro _
      conv => whnf
      refine ⟨Unit, fun _ => [(0, .d (dE es)), (5, .d (.bool true)), (6, .d (dE X)), (7, .ref 21 0), (8, .ref 24 0), (9, .ref 26 0), (10, .ref 28 0), (11, .ref 30 0), (12, .d .nilp), (13, .d (.int .i64 i)), (14, .d (.int .i64 la')), (21, (.obox (clockB la' (rcB false Ra') true m d l t (X.getD i E0).taken))), (24, (.obox (clockB lb' (rcB true Rb') true m' d' l' t' (!(X.getD i E0).taken)))), (26, (.obox (clockB la (rcB false Ra) ba m d l t aa))), (28, (.obox (clockB lz (rcB false Rz) bz 0 0 0 0 az))), (30, (.obox (clockB lz (rcB false Rz) bz 0 0 0 0 az)))], ?_, ?_⟩
      · conv => whnf
        refine ⟨tab3_15, by decide +kernel, ?_⟩
        conv => whnf
        refine ⟨hjj, ?_⟩
        conv => whnf
        refine ⟨hii, ?_⟩
        conv => whnf
        refine ⟨_, hB, ⟨_, rfl⟩, ?_⟩; rintro o rfl
        conv => whnf
        exact ⟨(), leV_d _, leV_d _, leV_d _, leV_ref _ _, leV_ref _ _, leV_ref _ _, leV_ref _ _, leV_ref _ _, leV_d _, leV_d _, leV_d _, ⟨_, rfl, leC_d _, leC_rc _ _, leC_d _, leC_d _, leC_d _, leC_d _, leC_d _, leC_d _, trivial⟩, ⟨_, rfl, leC_d _, leC_rc _ _, leC_d _, leC_d _, leC_d _, leC_d _, leC_d _, leC_d _, trivial⟩, ⟨_, rfl, leC_d _, leC_rc _ _, leC_d _, leC_d _, leC_d _, leC_d _, leC_d _, leC_d _, trivial⟩, ⟨_, rfl, leC_d _, leC_rc _ _, leC_d _, leC_d _, leC_d _, leC_d _, leC_d _, leC_d _, trivial⟩, ⟨_, rfl, leC_d _, leC_rc _ _, leC_d _, leC_d _, leC_d _, leC_d _, leC_d _, leC_d _, trivial⟩, trivial⟩
      intro _
      conv => whnf
      refine ⟨tab3_16, by decide +kernel, ?_⟩
      conv => whnf
      refine ⟨hii, ?_⟩
      conv => whnf
      refine ⟨hii, ?_⟩
      conv => whnf
      refine ⟨_, hZ, ⟨_, rfl⟩, ?_⟩; rintro o rfl
      conv => whnf
      refine ⟨hii, ?_⟩
      conv => whnf
      refine ⟨hii, ?_⟩
      conv => whnf
      refine ⟨_, hZ, ⟨_, rfl⟩, ?_⟩; rintro o rfl
      conv => whnf
      refine bool_split (fun h => absurd (hnZ.symm.trans h) (by decide)) (fun _ => ?_)
      conv => whnf
      refine ⟨hii, ?_⟩
      conv => whnf
      refine ⟨hii, ?_⟩
      conv => whnf
      refine ⟨_, hN, ⟨_, rfl⟩, ?_⟩; rintro o rfl
      conv => whnf
      refine ⟨hii, ?_⟩
      conv => whnf
      refine ⟨hii, ?_⟩
      conv => whnf
      refine ⟨_, hA, ⟨_, rfl⟩, ?_⟩; rintro o rfl
      conv => whnf
      refine bool_split (fun h => absurd (hnA.symm.trans h) (by decide)) (fun _ => ?_)
      conv => whnf
      refine ⟨⟨(i + 1, false, true, ⟨la', Ra', true, (X.getD i E0).taken⟩, ⟨lb', Rb', true, !(X.getD i E0).taken⟩, ⟨lz', Rz', true, (X.getD i E0).taken⟩), hil, ha1, hz1, hb1, fun h => absurd h (by simp)⟩, by dsimp only; omega, ?_⟩
      exact ⟨leV_d _, leV_d _, leV_d _, leV_ref _ _, leV_ref _ _, leV_ref _ _, leV_ref _ _, leV_ref _ _, leV_d _, leV_int (by show ((i + 1 : Nat) : Int) = IntKind.i64.wrap ((i : Int) + 1); rw [wrap_id] <;> omega), ⟨_, rfl, leC_d _, leC_rc _ _, leC_d _, leC_d _, leC_d _, leC_d _, leC_d _, leC_d _, trivial⟩, ⟨_, rfl, leC_d _, leC_rc _ _, leC_d _, leC_d _, leC_d _, leC_d _, leC_d _, leC_d _, trivial⟩, ⟨_, rfl, leC_d _, leC_rc _ _, leC_d _, leC_d _, leC_d _, leC_d _, leC_d _, leC_d _, trivial⟩, ⟨_, rfl, leC_d _, leC_rc _ _, leC_d _, leC_d _, leC_d _, leC_d _, leC_d _, leC_d _, trivial⟩, ⟨_, rfl, leC_d _, leC_rc _ _, leC_d _, leC_d _, leC_d _, leC_d _, leC_d _, leC_d _, trivial⟩, trivial⟩
    · exact absurd (hq2 rfl) (by decide)
    · conv => whnf
      refine bool_split (fun _ => ?_) (fun h => absurd hii.2 (by simpa using h))
      conv => whnf
      refine ⟨Unit, fun _ => [(0, .d (dE es)), (5, .d (.bool true)), (6, .d (dE X)), (7, .ref 21 0), (8, .ref 24 0), (9, .ref 26 0), (10, .ref 28 0), (11, .ref 30 0), (12, .d .nilp), (13, .d (.int .i64 i)), (14, .d (.int .i64 la')), (21, (.obox (clockB la' (rcB false Ra') true m d l t (X.getD i E0).taken))), (24, (.obox (clockB lb (rcB true Rb) bb m' d' l' t' ab))), (26, (.obox (clockB la (rcB false Ra) ba m d l t aa))), (28, (.obox (clockB lz (rcB false Rz) bz 0 0 0 0 az))), (30, (.obox (clockB lz (rcB false Rz) bz 0 0 0 0 az)))], ?_, ?_⟩
      · conv => whnf
        refine ⟨tab3_14, by decide +kernel, ?_⟩
        conv => whnf
        refine ⟨hii, ?_⟩
        conv => whnf
        refine ⟨hii, ?_⟩
        conv => whnf
        refine ⟨_, hA, ⟨_, rfl⟩, ?_⟩; rintro o rfl
        conv => whnf
        exact ⟨(), leV_d _, leV_d _, leV_d _, leV_ref _ _, leV_ref _ _, leV_ref _ _, leV_ref _ _, leV_ref _ _, leV_d _, leV_d _, leV_d _, ⟨_, rfl, leC_d _, leC_rc _ _, leC_d _, leC_d _, leC_d _, leC_d _, leC_d _, leC_d _, trivial⟩, ⟨_, rfl, leC_d _, leC_rc _ _, leC_d _, leC_d _, leC_d _, leC_d _, leC_d _, leC_d _, trivial⟩, ⟨_, rfl, leC_d _, leC_rc _ _, leC_d _, leC_d _, leC_d _, leC_d _, leC_d _, leC_d _, trivial⟩, ⟨_, rfl, leC_d _, leC_rc _ _, leC_d _, leC_d _, leC_d _, leC_d _, leC_d _, leC_d _, trivial⟩, ⟨_, rfl, leC_d _, leC_rc _ _, leC_d _, leC_d _, leC_d _, leC_d _, leC_d _, leC_d _, trivial⟩, trivial⟩
      intro _
      conv => whnf
      refine ⟨Unit, fun _ => [(0, .d (dE es)), (5, .d (.bool true)), (6, .d (dE X)), (7, .ref 21 0), (8, .ref 24 0), (9, .ref 26 0), (10, .ref 28 0), (11, .ref 30 0), (12, .d .nilp), (13, .d (.int .i64 i)), (14, .d (.int .i64 la')), (21, (.obox (clockB la' (rcB false Ra') true m d l t (X.getD i E0).taken))), (24, (.obox (clockB lb' (rcB true Rb') true m' d' l' t' (!(X.getD i E0).taken)))), (26, (.obox (clockB la (rcB false Ra) ba m d l t aa))), (28, (.obox (clockB lz (rcB false Rz) bz 0 0 0 0 az))), (30, (.obox (clockB lz (rcB false Rz) bz 0 0 0 0 az)))], ?_, ?_⟩
      · conv => whnf
        refine ⟨tab3_15, by decide +kernel, ?_⟩
        conv => whnf
        refine ⟨hjj, ?_⟩
        conv => whnf
        refine ⟨hii, ?_⟩
        conv => whnf
        refine ⟨_, hB, ⟨_, rfl⟩, ?_⟩; rintro o rfl
        conv => whnf
        exact ⟨(), leV_d _, leV_d _, leV_d _, leV_ref _ _, leV_ref _ _, leV_ref _ _, leV_ref _ _, leV_ref _ _, leV_d _, leV_d _, leV_d _, ⟨_, rfl, leC_d _, leC_rc _ _, leC_d _, leC_d _, leC_d _, leC_d _, leC_d _, leC_d _, trivial⟩, ⟨_, rfl, leC_d _, leC_rc _ _, leC_d _, leC_d _, leC_d _, leC_d _, leC_d _, leC_d _, trivial⟩, ⟨_, rfl, leC_d _, leC_rc _ _, leC_d _, leC_d _, leC_d _, leC_d _, leC_d _, leC_d _, trivial⟩, ⟨_, rfl, leC_d _, leC_rc _ _, leC_d _, leC_d _, leC_d _, leC_d _, leC_d _, leC_d _, trivial⟩, ⟨_, rfl, leC_d _, leC_rc _ _, leC_d _, leC_d _, leC_d _, leC_d _, leC_d _, leC_d _, trivial⟩, trivial⟩
      intro _
      conv => whnf
      refine ⟨tab3_16, by decide +kernel, ?_⟩
      conv => whnf
      refine ⟨hii, ?_⟩
      conv => whnf
      refine ⟨hii, ?_⟩
      conv => whnf
      refine ⟨_, hZ, ⟨_, rfl⟩, ?_⟩; rintro o rfl
      conv => whnf
      refine ⟨hii, ?_⟩
      conv => whnf
      refine ⟨hii, ?_⟩
      conv => whnf
      refine ⟨_, hZ, ⟨_, rfl⟩, ?_⟩; rintro o rfl
      conv => whnf
      refine bool_split (fun h => absurd (hnZ.symm.trans h) (by decide)) (fun _ => ?_)
      conv => whnf
      refine ⟨hii, ?_⟩
      conv => whnf
      refine ⟨hii, ?_⟩
      conv => whnf
      refine ⟨_, hN, ⟨_, rfl⟩, ?_⟩; rintro o rfl
      conv => whnf
      refine ⟨hii, ?_⟩
      conv => whnf
      refine ⟨hii, ?_⟩
      conv => whnf
      refine ⟨_, hA, ⟨_, rfl⟩, ?_⟩; rintro o rfl
      conv => whnf
      refine bool_split (fun h => absurd (hnA.symm.trans h) (by decide)) (fun _ => ?_)
      conv => whnf
      refine ⟨⟨(i + 1, false, true, ⟨la', Ra', true, (X.getD i E0).taken⟩, ⟨lb', Rb', true, !(X.getD i E0).taken⟩, ⟨lz', Rz', true, (X.getD i E0).taken⟩), hil, ha1, hz1, hb1, fun h => absurd h (by simp)⟩, by dsimp only; omega, ?_⟩
      exact ⟨leV_d _, leV_d _, leV_d _, leV_ref _ _, leV_ref _ _, leV_ref _ _, leV_ref _ _, leV_ref _ _, leV_d _, leV_int (by show ((i + 1 : Nat) : Int) = IntKind.i64.wrap ((i : Int) + 1); rw [wrap_id] <;> omega), ⟨_, rfl, leC_d _, leC_rc _ _, leC_d _, leC_d _, leC_d _, leC_d _, leC_d _, leC_d _, trivial⟩, ⟨_, rfl, leC_d _, leC_rc _ _, leC_d _, leC_d _, leC_d _, leC_d _, leC_d _, leC_d _, trivial⟩, ⟨_, rfl, leC_d _, leC_rc _ _, leC_d _, leC_d _, leC_d _, leC_d _, leC_d _, leC_d _, trivial⟩, ⟨_, rfl, leC_d _, leC_rc _ _, leC_d _, leC_d _, leC_d _, leC_d _, leC_d _, leC_d _, trivial⟩, ⟨_, rfl, leC_d _, leC_rc _ _, leC_d _, leC_d _, leC_d _, leC_d _, leC_d _, leC_d _, trivial⟩, trivial⟩
    · conv => whnf
      refine bool_split (fun _ => ?_) (fun h => absurd hii.2 (by simpa using h))
      conv => whnf
      refine ⟨Unit, fun _ => [(0, .d (dE es)), (5, .d (.bool true)), (6, .d (dE X)), (7, .ref 21 0), (8, .ref 24 0), (9, .ref 26 0), (10, .ref 28 0), (11, .ref 30 0), (12, .d .nilp), (13, .d (.int .i64 i)), (14, .d (.int .i64 la')), (21, (.obox (clockB la' (rcB true Ra') true m d l t (X.getD i E0).taken))), (24, (.obox (clockB lb (rcB false Rb) bb m' d' l' t' ab))), (26, (.obox (clockB la (rcB false Ra) ba m d l t aa))), (28, (.obox (clockB lz (rcB false Rz) bz 0 0 0 0 az))), (30, (.obox (clockB lz (rcB false Rz) bz 0 0 0 0 az)))], ?_, ?_⟩
      · conv => whnf
        refine ⟨tab3_14, by decide +kernel, ?_⟩
        conv => whnf
        refine ⟨hii, ?_⟩
        conv => whnf
        refine ⟨hii, ?_⟩
        conv => whnf
        refine ⟨_, hA, ⟨_, rfl⟩, ?_⟩; rintro o rfl
        conv => whnf
        exact ⟨(), leV_d _, leV_d _, leV_d _, leV_ref _ _, leV_ref _ _, leV_ref _ _, leV_ref _ _, leV_ref _ _, leV_d _, leV_d _, leV_d _, ⟨_, rfl, leC_d _, leC_rc _ _, leC_d _, leC_d _, leC_d _, leC_d _, leC_d _, leC_d _, trivial⟩, ⟨_, rfl, leC_d _, leC_rc _ _, leC_d _, leC_d _, leC_d _, leC_d _, leC_d _, leC_d _, trivial⟩, ⟨_, rfl, leC_d _, leC_rc _ _, leC_d _, leC_d _, leC_d _, leC_d _, leC_d _, leC_d _, trivial⟩, ⟨_, rfl, leC_d _, leC_rc _ _, leC_d _, leC_d _, leC_d _, leC_d _, leC_d _, leC_d _, trivial⟩, ⟨_, rfl, leC_d _, leC_rc _ _, leC_d _, leC_d _, leC_d _, leC_d _, leC_d _, leC_d _, trivial⟩, trivial⟩
      intro _
      conv => whnf
      refine ⟨Unit, fun _ => [(0, .d (dE es)), (5, .d (.bool true)), (6, .d (dE X)), (7, .ref 21 0), (8, .ref 24 0), (9, .ref 26 0), (10, .ref 28 0), (11, .ref 30 0), (12, .d .nilp), (13, .d (.int .i64 i)), (14, .d (.int .i64 la')), (21, (.obox (clockB la' (rcB true Ra') true m d l t (X.getD i E0).taken))), (24, (.obox (clockB lb' (rcB false Rb') true m' d' l' t' (!(X.getD i E0).taken)))), (26, (.obox (clockB la (rcB false Ra) ba m d l t aa))), (28, (.obox (clockB lz (rcB false Rz) bz 0 0 0 0 az))), (30, (.obox (clockB lz (rcB false Rz) bz 0 0 0 0 az)))], ?_, ?_⟩
      · conv => whnf
        refine ⟨tab3_15, by decide +kernel, ?_⟩
        conv => whnf
        refine ⟨hjj, ?_⟩
        conv => whnf
        refine ⟨hii, ?_⟩
        conv => whnf
        refine ⟨_, hB, ⟨_, rfl⟩, ?_⟩; rintro o rfl
        conv => whnf
        exact ⟨(), leV_d _, leV_d _, leV_d _, leV_ref _ _, leV_ref _ _, leV_ref _ _, leV_ref _ _, leV_ref _ _, leV_d _, leV_d _, leV_d _, ⟨_, rfl, leC_d _, leC_rc _ _, leC_d _, leC_d _, leC_d _, leC_d _, leC_d _, leC_d _, trivial⟩, ⟨_, rfl, leC_d _, leC_rc _ _, leC_d _, leC_d _, leC_d _, leC_d _, leC_d _, leC_d _, trivial⟩, ⟨_, rfl, leC_d _, leC_rc _ _, leC_d _, leC_d _, leC_d _, leC_d _, leC_d _, leC_d _, trivial⟩, ⟨_, rfl, leC_d _, leC_rc _ _, leC_d _, leC_d _, leC_d _, leC_d _, leC_d _, leC_d _, trivial⟩, ⟨_, rfl, leC_d _, leC_rc _ _, leC_d _, leC_d _, leC_d _, leC_d _, leC_d _, leC_d _, trivial⟩, trivial⟩
      intro _
      conv => whnf
      refine ⟨tab3_16, by decide +kernel, ?_⟩
      conv => whnf
      refine ⟨hii, ?_⟩
      conv => whnf
      refine ⟨hii, ?_⟩
      conv => whnf
      refine ⟨_, hZ, ⟨_, rfl⟩, ?_⟩; rintro o rfl
      conv => whnf
      refine ⟨hii, ?_⟩
      conv => whnf
      refine ⟨hii, ?_⟩
      conv => whnf
      refine ⟨_, hZ, ⟨_, rfl⟩, ?_⟩; rintro o rfl
      conv => whnf
      refine bool_split (fun h => absurd (hnZ.symm.trans h) (by decide)) (fun _ => ?_)
      conv => whnf
      refine ⟨hii, ?_⟩
      conv => whnf
      refine ⟨hii, ?_⟩
      conv => whnf
      refine ⟨_, hN, ⟨_, rfl⟩, ?_⟩; rintro o rfl
      conv => whnf
      refine ⟨hii, ?_⟩
      conv => whnf
      refine ⟨hii, ?_⟩
      conv => whnf
      refine ⟨_, hA, ⟨_, rfl⟩, ?_⟩; rintro o rfl
      conv => whnf
      refine bool_split (fun h => absurd (hnA.symm.trans h) (by decide)) (fun _ => ?_)
      conv => whnf
      refine ⟨⟨(i + 1, true, false, ⟨la', Ra', true, (X.getD i E0).taken⟩, ⟨lb', Rb', true, !(X.getD i E0).taken⟩, ⟨lz', Rz', true, (X.getD i E0).taken⟩), hil, ha1, hz1, hb1, fun h => absurd h (by simp)⟩, by dsimp only; omega, ?_⟩
      exact ⟨leV_d _, leV_d _, leV_d _, leV_ref _ _, leV_ref _ _, leV_ref _ _, leV_ref _ _, leV_ref _ _, leV_d _, leV_int (by show ((i + 1 : Nat) : Int) = IntKind.i64.wrap ((i : Int) + 1); rw [wrap_id] <;> omega), ⟨_, rfl, leC_d _, leC_rc _ _, leC_d _, leC_d _, leC_d _, leC_d _, leC_d _, leC_d _, trivial⟩, ⟨_, rfl, leC_d _, leC_rc _ _, leC_d _, leC_d _, leC_d _, leC_d _, leC_d _, leC_d _, trivial⟩, ⟨_, rfl, leC_d _, leC_rc _ _, leC_d _, leC_d _, leC_d _, leC_d _, leC_d _, leC_d _, trivial⟩, ⟨_, rfl, leC_d _, leC_rc _ _, leC_d _, leC_d _, leC_d _, leC_d _, leC_d _, leC_d _, trivial⟩, ⟨_, rfl, leC_d _, leC_rc _ _, leC_d _, leC_d _, leC_d _, leC_d _, leC_d _, leC_d _, trivial⟩, trivial⟩
    · conv => whnf
      refine bool_split (fun _ => ?_) (fun h => absurd hii.2 (by simpa using h))
      conv => whnf
      refine ⟨Unit, fun _ => [(0, .d (dE es)), (5, .d (.bool true)), (6, .d (dE X)), (7, .ref 21 0), (8, .ref 24 0), (9, .ref 26 0), (10, .ref 28 0), (11, .ref 30 0), (12, .d .nilp), (13, .d (.int .i64 i)), (14, .d (.int .i64 la')), (21, (.obox (clockB la' (rcB true Ra') true m d l t (X.getD i E0).taken))), (24, (.obox (clockB lb (rcB false Rb) bb m' d' l' t' ab))), (26, (.obox (clockB la (rcB false Ra) ba m d l t aa))), (28, (.obox (clockB lz (rcB false Rz) bz 0 0 0 0 az))), (30, (.obox (clockB lz (rcB false Rz) bz 0 0 0 0 az)))], ?_, ?_⟩
      · conv => whnf
        refine ⟨tab3_14, by decide +kernel, ?_⟩
        conv => whnf
        refine ⟨hii, ?_⟩
        conv => whnf
        refine ⟨hii, ?_⟩
        conv => whnf
        refine ⟨_, hA, ⟨_, rfl⟩, ?_⟩; rintro o rfl
        conv => whnf
        exact ⟨(), leV_d _, leV_d _, leV_d _, leV_ref _ _, leV_ref _ _, leV_ref _ _, leV_ref _ _, leV_ref _ _, leV_d _, leV_d _, leV_d _, ⟨_, rfl, leC_d _, leC_rc _ _, leC_d _, leC_d _, leC_d _, leC_d _, leC_d _, leC_d _, trivial⟩, ⟨_, rfl, leC_d _, leC_rc _ _, leC_d _, leC_d _, leC_d _, leC_d _, leC_d _, leC_d _, trivial⟩, ⟨_, rfl, leC_d _, leC_rc _ _, leC_d _, leC_d _, leC_d _, leC_d _, leC_d _, leC_d _, trivial⟩, ⟨_, rfl, leC_d _, leC_rc _ _, leC_d _, leC_d _, leC_d _, leC_d _, leC_d _, leC_d _, trivial⟩, ⟨_, rfl, leC_d _, leC_rc _ _, leC_d _, leC_d _, leC_d _, leC_d _, leC_d _, leC_d _, trivial⟩, trivial⟩
      intro _
      conv => whnf
      refine ⟨Unit, fun _ => [(0, .d (dE es)), (5, .d (.bool true)), (6, .d (dE X)), (7, .ref 21 0), (8, .ref 24 0), (9, .ref 26 0), (10, .ref 28 0), (11, .ref 30 0), (12, .d .nilp), (13, .d (.int .i64 i)), (14, .d (.int .i64 la')), (21, (.obox (clockB la' (rcB true Ra') true m d l t (X.getD i E0).taken))), (24, (.obox (clockB lb' (rcB true Rb') true m' d' l' t' (!(X.getD i E0).taken)))), (26, (.obox (clockB la (rcB false Ra) ba m d l t aa))), (28, (.obox (clockB lz (rcB false Rz) bz 0 0 0 0 az))), (30, (.obox (clockB lz (rcB false Rz) bz 0 0 0 0 az)))], ?_, ?_⟩
      · conv => whnf
        refine ⟨tab3_15, by decide +kernel, ?_⟩
        conv => whnf
        refine ⟨hjj, ?_⟩
        conv => whnf
        refine ⟨hii, ?_⟩
        conv => whnf
        refine ⟨_, hB, ⟨_, rfl⟩, ?_⟩; rintro o rfl
        conv => whnf
        exact ⟨(), leV_d _, leV_d _, leV_d _, leV_ref _ _, leV_ref _ _, leV_ref _ _, leV_ref _ _, leV_ref _ _, leV_d _, leV_d _, leV_d _, ⟨_, rfl, leC_d _, leC_rc _ _, leC_d _, leC_d _, leC_d _, leC_d _, leC_d _, leC_d _, trivial⟩, ⟨_, rfl, leC_d _, leC_rc _ _, leC_d _, leC_d _, leC_d _, leC_d _, leC_d _, leC_d _, trivial⟩, ⟨_, rfl, leC_d _, leC_rc _ _, leC_d _, leC_d _, leC_d _, leC_d _, leC_d _, leC_d _, trivial⟩, ⟨_, rfl, leC_d _, leC_rc _ _, leC_d _, leC_d _, leC_d _, leC_d _, leC_d _, leC_d _, trivial⟩, ⟨_, rfl, leC_d _, leC_rc _ _, leC_d _, leC_d _, leC_d _, leC_d _, leC_d _, leC_d _, trivial⟩, trivial⟩
      intro _
      conv => whnf
      refine ⟨tab3_16, by decide +kernel, ?_⟩
      conv => whnf
      refine ⟨hii, ?_⟩
      conv => whnf
      refine ⟨hii, ?_⟩
      conv => whnf
      refine ⟨_, hZ, ⟨_, rfl⟩, ?_⟩; rintro o rfl
      conv => whnf
      refine ⟨hii, ?_⟩
      conv => whnf
      refine ⟨hii, ?_⟩
      conv => whnf
      refine ⟨_, hZ, ⟨_, rfl⟩, ?_⟩; rintro o rfl
      conv => whnf
      refine bool_split (fun h => absurd (hnZ.symm.trans h) (by decide)) (fun _ => ?_)
      conv => whnf
      refine ⟨hii, ?_⟩
      conv => whnf
      refine ⟨hii, ?_⟩
      conv => whnf
      refine ⟨_, hN, ⟨_, rfl⟩, ?_⟩; rintro o rfl
      conv => whnf
      refine ⟨hii, ?_⟩
      conv => whnf
      refine ⟨hii, ?_⟩
      conv => whnf
      refine ⟨_, hA, ⟨_, rfl⟩, ?_⟩; rintro o rfl
      conv => whnf
      refine bool_split (fun h => absurd (hnA.symm.trans h) (by decide)) (fun _ => ?_)
      conv => whnf
      refine ⟨⟨(i + 1, true, true, ⟨la', Ra', true, (X.getD i E0).taken⟩, ⟨lb', Rb', true, !(X.getD i E0).taken⟩, ⟨lz', Rz', true, (X.getD i E0).taken⟩), hil, ha1, hz1, hb1, fun h => absurd h (by simp)⟩, by dsimp only; omega, ?_⟩
      exact ⟨leV_d _, leV_d _, leV_d _, leV_ref _ _, leV_ref _ _, leV_ref _ _, leV_ref _ _, leV_ref _ _, leV_d _, leV_int (by show ((i + 1 : Nat) : Int) = IntKind.i64.wrap ((i : Int) + 1); rw [wrap_id] <;> omega), ⟨_, rfl, leC_d _, leC_rc _ _, leC_d _, leC_d _, leC_d _, leC_d _, leC_d _, leC_d _, trivial⟩, ⟨_, rfl, leC_d _, leC_rc _ _, leC_d _, leC_d _, leC_d _, leC_d _, leC_d _, leC_d _, trivial⟩, ⟨_, rfl, leC_d _, leC_rc _ _, leC_d _, leC_d _, leC_d _, leC_d _, leC_d _, leC_d _, trivial⟩, ⟨_, rfl, leC_d _, leC_rc _ _, leC_d _, leC_d _, leC_d _, leC_d _, leC_d _, leC_d _, trivial⟩, ⟨_, rfl, leC_d _, leC_rc _ _, leC_d _, leC_d _, leC_d _, leC_d _, leC_d _, leC_d _, trivial⟩, trivial⟩
    · exact absurd (hq2 rfl) (by decide)
    · conv => whnf
      refine bool_split (fun _ => ?_) (fun h => absurd hii.2 (by simpa using h))
      conv => whnf
      refine ⟨Unit, fun _ => [(0, .d (dE es)), (5, .d (.bool true)), (6, .d (dE X)), (7, .ref 21 0), (8, .ref 24 0), (9, .ref 26 0), (10, .ref 28 0), (11, .ref 30 0), (12, .d .nilp), (13, .d (.int .i64 i)), (14, .d (.int .i64 la')), (21, (.obox (clockB la' (rcB true Ra') true m d l t (X.getD i E0).taken))), (24, (.obox (clockB lb (rcB true Rb) bb m' d' l' t' ab))), (26, (.obox (clockB la (rcB false Ra) ba m d l t aa))), (28, (.obox (clockB lz (rcB false Rz) bz 0 0 0 0 az))), (30, (.obox (clockB lz (rcB false Rz) bz 0 0 0 0 az)))], ?_, ?_⟩
      · conv => whnf
        refine ⟨tab3_14, by decide +kernel, ?_⟩
        conv => whnf
        refine ⟨hii, ?_⟩
        conv => whnf
        refine ⟨hii, ?_⟩
        conv => whnf
        refine ⟨_, hA, ⟨_, rfl⟩, ?_⟩; rintro o rfl
        conv => whnf
        exact ⟨(), leV_d _, leV_d _, leV_d _, leV_ref _ _, leV_ref _ _, leV_ref _ _, leV_ref _ _, leV_ref _ _, leV_d _, leV_d _, leV_d _, ⟨_, rfl, leC_d _, leC_rc _ _, leC_d _, leC_d _, leC_d _, leC_d _, leC_d _, leC_d _, trivial⟩, ⟨_, rfl, leC_d _, leC_rc _ _, leC_d _, leC_d _, leC_d _, leC_d _, leC_d _, leC_d _, trivial⟩, ⟨_, rfl, leC_d _, leC_rc _ _, leC_d _, leC_d _, leC_d _, leC_d _, leC_d _, leC_d _, trivial⟩, ⟨_, rfl, leC_d _, leC_rc _ _, leC_d _, leC_d _, leC_d _, leC_d _, leC_d _, leC_d _, trivial⟩, ⟨_, rfl, leC_d _, leC_rc _ _, leC_d _, leC_d _, leC_d _, leC_d _, leC_d _, leC_d _, trivial⟩, trivial⟩
      intro _
      conv => whnf
      refine ⟨Unit, fun _ => [(0, .d (dE es)), (5, .d (.bool true)), (6, .d (dE X)), (7, .ref 21 0), (8, .ref 24 0), (9, .ref 26 0), (10, .ref 28 0), (11, .ref 30 0), (12, .d .nilp), (13, .d (.int .i64 i)), (14, .d (.int .i64 la')), (21, (.obox (clockB la' (rcB true Ra') true m d l t (X.getD i E0).taken))), (24, (.obox (clockB lb' (rcB true Rb') true m' d' l' t' (!(X.getD i E0).taken)))), (26, (.obox (clockB la (rcB false Ra) ba m d l t aa))), (28, (.obox (clockB lz (rcB false Rz) bz 0 0 0 0 az))), (30, (.obox (clockB lz (rcB false Rz) bz 0 0 0 0 az)))], ?_, ?_⟩
      · conv => whnf
        refine ⟨tab3_15, by decide +kernel, ?_⟩
        conv => whnf
        refine ⟨hjj, ?_⟩
        conv => whnf
        refine ⟨hii, ?_⟩
        conv => whnf
        refine ⟨_, hB, ⟨_, rfl⟩, ?_⟩; rintro o rfl
        conv => whnf
        exact ⟨(), leV_d _, leV_d _, leV_d _, leV_ref _ _, leV_ref _ _, leV_ref _ _, leV_ref _ _, leV_ref _ _, leV_d _, leV_d _, leV_d _, ⟨_, rfl, leC_d _, leC_rc _ _, leC_d _, leC_d _, leC_d _, leC_d _, leC_d _, leC_d _, trivial⟩, ⟨_, rfl, leC_d _, leC_rc _ _, leC_d _, leC_d _, leC_d _, leC_d _, leC_d _, leC_d _, trivial⟩, ⟨_, rfl, leC_d _, leC_rc _ _, leC_d _, leC_d _, leC_d _, leC_d _, leC_d _, leC_d _, trivial⟩, ⟨_, rfl, leC_d _, leC_rc _ _, leC_d _, leC_d _, leC_d _, leC_d _, leC_d _, leC_d _, trivial⟩, ⟨_, rfl, leC_d _, leC_rc _ _, leC_d _, leC_d _, leC_d _, leC_d _, leC_d _, leC_d _, trivial⟩, trivial⟩
      intro _
      conv => whnf
      refine ⟨tab3_16, by decide +kernel, ?_⟩
      conv => whnf
      refine ⟨hii, ?_⟩
      conv => whnf
      refine ⟨hii, ?_⟩
      conv => whnf
      refine ⟨_, hZ, ⟨_, rfl⟩, ?_⟩; rintro o rfl
      conv => whnf
      refine ⟨hii, ?_⟩
      conv => whnf
      refine ⟨hii, ?_⟩
      conv => whnf
      refine ⟨_, hZ, ⟨_, rfl⟩, ?_⟩; rintro o rfl
      conv => whnf
      refine bool_split (fun h => absurd (hnZ.symm.trans h) (by decide)) (fun _ => ?_)
      conv => whnf
      refine ⟨hii, ?_⟩
      conv => whnf
      refine ⟨hii, ?_⟩
      conv => whnf
      refine ⟨_, hN, ⟨_, rfl⟩, ?_⟩; rintro o rfl
      conv => whnf
      refine ⟨hii, ?_⟩
      conv => whnf
      refine ⟨hii, ?_⟩
      conv => whnf
      refine ⟨_, hA, ⟨_, rfl⟩, ?_⟩; rintro o rfl
      conv => whnf
      refine bool_split (fun h => absurd (hnA.symm.trans h) (by decide)) (fun _ => ?_)
      conv => whnf
      refine ⟨⟨(i + 1, true, true, ⟨la', Ra', true, (X.getD i E0).taken⟩, ⟨lb', Rb', true, !(X.getD i E0).taken⟩, ⟨lz', Rz', true, (X.getD i E0).taken⟩), hil, ha1, hz1, hb1, fun h => absurd h (by simp)⟩, by dsimp only; omega, ?_⟩
      exact ⟨leV_d _, leV_d _, leV_d _, leV_ref _ _, leV_ref _ _, leV_ref _ _, leV_ref _ _, leV_ref _ _, leV_d _, leV_int (by show ((i + 1 : Nat) : Int) = IntKind.i64.wrap ((i : Int) + 1); rw [wrap_id] <;> omega), ⟨_, rfl, leC_d _, leC_rc _ _, leC_d _, leC_d _, leC_d _, leC_d _, leC_d _, leC_d _, trivial⟩, ⟨_, rfl, leC_d _, leC_rc _ _, leC_d _, leC_d _, leC_d _, leC_d _, leC_d _, leC_d _, trivial⟩, ⟨_, rfl, leC_d _, leC_rc _ _, leC_d _, leC_d _, leC_d _, leC_d _, leC_d _, leC_d _, trivial⟩, ⟨_, rfl, leC_d _, leC_rc _ _, leC_d _, leC_d _, leC_d _, leC_d _, leC_d _, leC_d _, trivial⟩, ⟨_, rfl, leC_d _, leC_rc _ _, leC_d _, leC_d _, leC_d _, leC_d _, leC_d _, leC_d _, trivial⟩, trivial⟩
    · exact absurd (hq1 rfl) (by decide)
    · exact absurd (hq1 rfl) (by decide)
    · exact absurd (hq1 rfl) (by decide)
    · exact absurd (hq1 rfl) (by decide)
    · conv => whnf
      refine bool_split (fun _ => ?_) (fun h => absurd hii.2 (by simpa using h))
      conv => whnf
      refine ⟨Unit, fun _ => [(0, .d (dE es)), (5, .d (.bool true)), (6, .d (dE X)), (7, .ref 21 0), (8, .ref 24 0), (9, .ref 26 0), (10, .ref 28 0), (11, .ref 30 0), (12, .d .nilp), (13, .d (.int .i64 i)), (14, .d (.int .i64 la')), (21, (.obox (clockB la' (rcB true Ra') true m d l t (X.getD i E0).taken))), (24, (.obox (clockB lb (rcB false Rb) bb m' d' l' t' ab))), (26, (.obox (clockB la (rcB true Ra) ba m d l t aa))), (28, (.obox (clockB lz (rcB true Rz) bz 0 0 0 0 az))), (30, (.obox (clockB lz (rcB true Rz) bz 0 0 0 0 az)))], ?_, ?_⟩
      · conv => whnf
        refine ⟨tab3_14, by decide +kernel, ?_⟩
        conv => whnf
        refine ⟨hii, ?_⟩
        conv => whnf
        refine ⟨hii, ?_⟩
        conv => whnf
        refine ⟨_, hA, ⟨_, rfl⟩, ?_⟩; rintro o rfl
        conv => whnf
        exact ⟨(), leV_d _, leV_d _, leV_d _, leV_ref _ _, leV_ref _ _, leV_ref _ _, leV_ref _ _, leV_ref _ _, leV_d _, leV_d _, leV_d _, ⟨_, rfl, leC_d _, leC_rc _ _, leC_d _, leC_d _, leC_d _, leC_d _, leC_d _, leC_d _, trivial⟩, ⟨_, rfl, leC_d _, leC_rc _ _, leC_d _, leC_d _, leC_d _, leC_d _, leC_d _, leC_d _, trivial⟩, ⟨_, rfl, leC_d _, leC_rc _ _, leC_d _, leC_d _, leC_d _, leC_d _, leC_d _, leC_d _, trivial⟩, ⟨_, rfl, leC_d _, leC_rc _ _, leC_d _, leC_d _, leC_d _, leC_d _, leC_d _, leC_d _, trivial⟩, ⟨_, rfl, leC_d _, leC_rc _ _, leC_d _, leC_d _, leC_d _, leC_d _, leC_d _, leC_d _, trivial⟩, trivial⟩
      intro _
      conv => whnf
      refine ⟨Unit, fun _ => [(0, .d (dE es)), (5, .d (.bool true)), (6, .d (dE X)), (7, .ref 21 0), (8, .ref 24 0), (9, .ref 26 0), (10, .ref 28 0), (11, .ref 30 0), (12, .d .nilp), (13, .d (.int .i64 i)), (14, .d (.int .i64 la')), (21, (.obox (clockB la' (rcB true Ra') true m d l t (X.getD i E0).taken))), (24, (.obox (clockB lb' (rcB false Rb') true m' d' l' t' (!(X.getD i E0).taken)))), (26, (.obox (clockB la (rcB true Ra) ba m d l t aa))), (28, (.obox (clockB lz (rcB true Rz) bz 0 0 0 0 az))), (30, (.obox (clockB lz (rcB true Rz) bz 0 0 0 0 az)))], ?_, ?_⟩
      · conv => whnf
        refine ⟨tab3_15, by decide +kernel, ?_⟩
        conv => whnf
        refine ⟨hjj, ?_⟩
        conv => whnf
        refine ⟨hii, ?_⟩
        conv => whnf
        refine ⟨_, hB, ⟨_, rfl⟩, ?_⟩; rintro o rfl
        conv => whnf
        exact ⟨(), leV_d _, leV_d _, leV_d _, leV_ref _ _, leV_ref _ _, leV_ref _ _, leV_ref _ _, leV_ref _ _, leV_d _, leV_d _, leV_d _, ⟨_, rfl, leC_d _, leC_rc _ _, leC_d _, leC_d _, leC_d _, leC_d _, leC_d _, leC_d _, trivial⟩, ⟨_, rfl, leC_d _, leC_rc _ _, leC_d _, leC_d _, leC_d _, leC_d _, leC_d _, leC_d _, trivial⟩, ⟨_, rfl, leC_d _, leC_rc _ _, leC_d _, leC_d _, leC_d _, leC_d _, leC_d _, leC_d _, trivial⟩, ⟨_, rfl, leC_d _, leC_rc _ _, leC_d _, leC_d _, leC_d _, leC_d _, leC_d _, leC_d _, trivial⟩, ⟨_, rfl, leC_d _, leC_rc _ _, leC_d _, leC_d _, leC_d _, leC_d _, leC_d _, leC_d _, trivial⟩, trivial⟩
      intro _
      conv => whnf
      refine ⟨tab3_16, by decide +kernel, ?_⟩
      conv => whnf
      refine ⟨hii, ?_⟩
      conv => whnf
      refine ⟨hii, ?_⟩
      conv => whnf
      refine ⟨_, hZ, ⟨_, rfl⟩, ?_⟩; rintro o rfl
      conv => whnf
      refine ⟨hii, ?_⟩
      conv => whnf
      refine ⟨hii, ?_⟩
      conv => whnf
      refine ⟨_, hZ, ⟨_, rfl⟩, ?_⟩; rintro o rfl
      conv => whnf
      refine bool_split (fun h => absurd (hnZ.symm.trans h) (by decide)) (fun _ => ?_)
      conv => whnf
      refine ⟨hii, ?_⟩
      conv => whnf
      refine ⟨hii, ?_⟩
      conv => whnf
      refine ⟨_, hN, ⟨_, rfl⟩, ?_⟩; rintro o rfl
      conv => whnf
      refine ⟨hii, ?_⟩
      conv => whnf
      refine ⟨hii, ?_⟩
      conv => whnf
      refine ⟨_, hA, ⟨_, rfl⟩, ?_⟩; rintro o rfl
      conv => whnf
      refine bool_split (fun h => absurd (hnA.symm.trans h) (by decide)) (fun _ => ?_)
      conv => whnf
      refine ⟨⟨(i + 1, true, false, ⟨la', Ra', true, (X.getD i E0).taken⟩, ⟨lb', Rb', true, !(X.getD i E0).taken⟩, ⟨lz', Rz', true, (X.getD i E0).taken⟩), hil, ha1, hz1, hb1, fun h => absurd h (by simp)⟩, by dsimp only; omega, ?_⟩
      exact ⟨leV_d _, leV_d _, leV_d _, leV_ref _ _, leV_ref _ _, leV_ref _ _, leV_ref _ _, leV_ref _ _, leV_d _, leV_int (by show ((i + 1 : Nat) : Int) = IntKind.i64.wrap ((i : Int) + 1); rw [wrap_id] <;> omega), ⟨_, rfl, leC_d _, leC_rc _ _, leC_d _, leC_d _, leC_d _, leC_d _, leC_d _, leC_d _, trivial⟩, ⟨_, rfl, leC_d _, leC_rc _ _, leC_d _, leC_d _, leC_d _, leC_d _, leC_d _, leC_d _, trivial⟩, ⟨_, rfl, leC_d _, leC_rc _ _, leC_d _, leC_d _, leC_d _, leC_d _, leC_d _, leC_d _, trivial⟩, ⟨_, rfl, leC_d _, leC_rc _ _, leC_d _, leC_d _, leC_d _, leC_d _, leC_d _, leC_d _, trivial⟩, ⟨_, rfl, leC_d _, leC_rc _ _, leC_d _, leC_d _, leC_d _, leC_d _, leC_d _, leC_d _, trivial⟩, trivial⟩
    · conv => whnf
      refine bool_split (fun _ => ?_) (fun h => absurd hii.2 (by simpa using h))
      conv => whnf
      refine ⟨Unit, fun _ => [(0, .d (dE es)), (5, .d (.bool true)), (6, .d (dE X)), (7, .ref 21 0), (8, .ref 24 0), (9, .ref 26 0), (10, .ref 28 0), (11, .ref 30 0), (12, .d .nilp), (13, .d (.int .i64 i)), (14, .d (.int .i64 la')), (21, (.obox (clockB la' (rcB true Ra') true m d l t (X.getD i E0).taken))), (24, (.obox (clockB lb (rcB false Rb) bb m' d' l' t' ab))), (26, (.obox (clockB la (rcB true Ra) ba m d l t aa))), (28, (.obox (clockB lz (rcB true Rz) bz 0 0 0 0 az))), (30, (.obox (clockB lz (rcB true Rz) bz 0 0 0 0 az)))], ?_, ?_⟩
      · conv => whnf
        refine ⟨tab3_14, by decide +kernel, ?_⟩
        conv => whnf
        refine ⟨hii, ?_⟩
        conv => whnf
        refine ⟨hii, ?_⟩
        conv => whnf
        refine ⟨_, hA, ⟨_, rfl⟩, ?_⟩; rintro o rfl
        conv => whnf
        exact ⟨(), leV_d _, leV_d _, leV_d _, leV_ref _ _, leV_ref _ _, leV_ref _ _, leV_ref _ _, leV_ref _ _, leV_d _, leV_d _, leV_d _, ⟨_, rfl, leC_d _, leC_rc _ _, leC_d _, leC_d _, leC_d _, leC_d _, leC_d _, leC_d _, trivial⟩, ⟨_, rfl, leC_d _, leC_rc _ _, leC_d _, leC_d _, leC_d _, leC_d _, leC_d _, leC_d _, trivial⟩, ⟨_, rfl, leC_d _, leC_rc _ _, leC_d _, leC_d _, leC_d _, leC_d _, leC_d _, leC_d _, trivial⟩, ⟨_, rfl, leC_d _, leC_rc _ _, leC_d _, leC_d _, leC_d _, leC_d _, leC_d _, leC_d _, trivial⟩, ⟨_, rfl, leC_d _, leC_rc _ _, leC_d _, leC_d _, leC_d _, leC_d _, leC_d _, leC_d _, trivial⟩, trivial⟩
      intro _
      conv => whnf
      refine ⟨Unit, fun _ => [(0, .d (dE es)), (5, .d (.bool true)), (6, .d (dE X)), (7, .ref 21 0), (8, .ref 24 0), (9, .ref 26 0), (10, .ref 28 0), (11, .ref 30 0), (12, .d .nilp), (13, .d (.int .i64 i)), (14, .d (.int .i64 la')), (21, (.obox (clockB la' (rcB true Ra') true m d l t (X.getD i E0).taken))), (24, (.obox (clockB lb' (rcB true Rb') true m' d' l' t' (!(X.getD i E0).taken)))), (26, (.obox (clockB la (rcB true Ra) ba m d l t aa))), (28, (.obox (clockB lz (rcB true Rz) bz 0 0 0 0 az))), (30, (.obox (clockB lz (rcB true Rz) bz 0 0 0 0 az)))], ?_, ?_⟩
      · conv => whnf
        refine ⟨tab3_15, by decide +kernel, ?_⟩
        conv => whnf
        refine ⟨hjj, ?_⟩
        conv => whnf
        refine ⟨hii, ?_⟩
        conv => whnf
        refine ⟨_, hB, ⟨_, rfl⟩, ?_⟩; rintro o rfl
        conv => whnf
        exact ⟨(), leV_d _, leV_d _, leV_d _, leV_ref _ _, leV_ref _ _, leV_ref _ _, leV_ref _ _, leV_ref _ _, leV_d _, leV_d _, leV_d _, ⟨_, rfl, leC_d _, leC_rc _ _, leC_d _, leC_d _, leC_d _, leC_d _, leC_d _, leC_d _, trivial⟩, ⟨_, rfl, leC_d _, leC_rc _ _, leC_d _, leC_d _, leC_d _, leC_d _, leC_d _, leC_d _, trivial⟩, ⟨_, rfl, leC_d _, leC_rc _ _, leC_d _, leC_d _, leC_d _, leC_d _, leC_d _, leC_d _, trivial⟩, ⟨_, rfl, leC_d _, leC_rc _ _, leC_d _, leC_d _, leC_d _, leC_d _, leC_d _, leC_d _, trivial⟩, ⟨_, rfl, leC_d _, leC_rc _ _, leC_d _, leC_d _, leC_d _, leC_d _, leC_d _, leC_d _, trivial⟩, trivial⟩
      intro _
      conv => whnf
      refine ⟨tab3_16, by decide +kernel, ?_⟩
      conv => whnf
      refine ⟨hii, ?_⟩
      conv => whnf
      refine ⟨hii, ?_⟩
      conv => whnf
      refine ⟨_, hZ, ⟨_, rfl⟩, ?_⟩; rintro o rfl
      conv => whnf
      refine ⟨hii, ?_⟩
      conv => whnf
      refine ⟨hii, ?_⟩
      conv => whnf
      refine ⟨_, hZ, ⟨_, rfl⟩, ?_⟩; rintro o rfl
      conv => whnf
      refine bool_split (fun h => absurd (hnZ.symm.trans h) (by decide)) (fun _ => ?_)
      conv => whnf
      refine ⟨hii, ?_⟩
      conv => whnf
      refine ⟨hii, ?_⟩
      conv => whnf
      refine ⟨_, hN, ⟨_, rfl⟩, ?_⟩; rintro o rfl
      conv => whnf
      refine ⟨hii, ?_⟩
      conv => whnf
      refine ⟨hii, ?_⟩
      conv => whnf
      refine ⟨_, hA, ⟨_, rfl⟩, ?_⟩; rintro o rfl
      conv => whnf
      refine bool_split (fun h => absurd (hnA.symm.trans h) (by decide)) (fun _ => ?_)
      conv => whnf
      refine ⟨⟨(i + 1, true, true, ⟨la', Ra', true, (X.getD i E0).taken⟩, ⟨lb', Rb', true, !(X.getD i E0).taken⟩, ⟨lz', Rz', true, (X.getD i E0).taken⟩), hil, ha1, hz1, hb1, fun h => absurd h (by simp)⟩, by dsimp only; omega, ?_⟩
      exact ⟨leV_d _, leV_d _, leV_d _, leV_ref _ _, leV_ref _ _, leV_ref _ _, leV_ref _ _, leV_ref _ _, leV_d _, leV_int (by show ((i + 1 : Nat) : Int) = IntKind.i64.wrap ((i : Int) + 1); rw [wrap_id] <;> omega), ⟨_, rfl, leC_d _, leC_rc _ _, leC_d _, leC_d _, leC_d _, leC_d _, leC_d _, leC_d _, trivial⟩, ⟨_, rfl, leC_d _, leC_rc _ _, leC_d _, leC_d _, leC_d _, leC_d _, leC_d _, leC_d _, trivial⟩, ⟨_, rfl, leC_d _, leC_rc _ _, leC_d _, leC_d _, leC_d _, leC_d _, leC_d _, leC_d _, trivial⟩, ⟨_, rfl, leC_d _, leC_rc _ _, leC_d _, leC_d _, leC_d _, leC_d _, leC_d _, leC_d _, trivial⟩, ⟨_, rfl, leC_d _, leC_rc _ _, leC_d _, leC_d _, leC_d _, leC_d _, leC_d _, leC_d _, trivial⟩, trivial⟩
    · exact absurd (hq2 rfl) (by decide)
    · conv => whnf
      refine bool_split (fun _ => ?_) (fun h => absurd hii.2 (by simpa using h))
      conv => whnf
      refine ⟨Unit, fun _ => [(0, .d (dE es)), (5, .d (.bool true)), (6, .d (dE X)), (7, .ref 21 0), (8, .ref 24 0), (9, .ref 26 0), (10, .ref 28 0), (11, .ref 30 0), (12, .d .nilp), (13, .d (.int .i64 i)), (14, .d (.int .i64 la')), (21, (.obox (clockB la' (rcB true Ra') true m d l t (X.getD i E0).taken))), (24, (.obox (clockB lb (rcB true Rb) bb m' d' l' t' ab))), (26, (.obox (clockB la (rcB true Ra) ba m d l t aa))), (28, (.obox (clockB lz (rcB true Rz) bz 0 0 0 0 az))), (30, (.obox (clockB lz (rcB true Rz) bz 0 0 0 0 az)))], ?_, ?_⟩
      · conv => whnf
        refine ⟨tab3_14, by decide +kernel, ?_⟩
        conv => whnf
        refine ⟨hii, ?_⟩
        conv => whnf
        refine ⟨hii, ?_⟩
        conv => whnf
        refine ⟨_, hA, ⟨_, rfl⟩, ?_⟩; rintro o rfl
        conv => whnf
        exact ⟨(), leV_d _, leV_d _, leV_d _, leV_ref _ _, leV_ref _ _, leV_ref _ _, leV_ref _ _, leV_ref _ _, leV_d _, leV_d _, leV_d _, ⟨_, rfl, leC_d _, leC_rc _ _, leC_d _, leC_d _, leC_d _, leC_d _, leC_d _, leC_d _, trivial⟩, ⟨_, rfl, leC_d _, leC_rc _ _, leC_d _, leC_d _, leC_d _, leC_d _, leC_d _, leC_d _, trivial⟩, ⟨_, rfl, leC_d _, leC_rc _ _, leC_d _, leC_d _, leC_d _, leC_d _, leC_d _, leC_d _, trivial⟩, ⟨_, rfl, leC_d _, leC_rc _ _, leC_d _, leC_d _, leC_d _, leC_d _, leC_d _, leC_d _, trivial⟩, ⟨_, rfl, leC_d _, leC_rc _ _, leC_d _, leC_d _, leC_d _, leC_d _, leC_d _, leC_d _, trivial⟩, trivial⟩
      intro _
      conv => whnf
      refine ⟨Unit, fun _ => [(0, .d (dE es)), (5, .d (.bool true)), (6, .d (dE X)), (7, .ref 21 0), (8, .ref 24 0), (9, .ref 26 0), (10, .ref 28 0), (11, .ref 30 0), (12, .d .nilp), (13, .d (.int .i64 i)), (14, .d (.int .i64 la')), (21, (.obox (clockB la' (rcB true Ra') true m d l t (X.getD i E0).taken))), (24, (.obox (clockB lb' (rcB true Rb') true m' d' l' t' (!(X.getD i E0).taken)))), (26, (.obox (clockB la (rcB true Ra) ba m d l t aa))), (28, (.obox (clockB lz (rcB true Rz) bz 0 0 0 0 az))), (30, (.obox (clockB lz (rcB true Rz) bz 0 0 0 0 az)))], ?_, ?_⟩
      · conv => whnf
        refine ⟨tab3_15, by decide +kernel, ?_⟩
        conv => whnf
        refine ⟨hjj, ?_⟩
        conv => whnf
        refine ⟨hii, ?_⟩
        conv => whnf
        refine ⟨_, hB, ⟨_, rfl⟩, ?_⟩; rintro o rfl
        conv => whnf
        exact ⟨(), leV_d _, leV_d _, leV_d _, leV_ref _ _, leV_ref _ _, leV_ref _ _, leV_ref _ _, leV_ref _ _, leV_d _, leV_d _, leV_d _, ⟨_, rfl, leC_d _, leC_rc _ _, leC_d _, leC_d _, leC_d _, leC_d _, leC_d _, leC_d _, trivial⟩, ⟨_, rfl, leC_d _, leC_rc _ _, leC_d _, leC_d _, leC_d _, leC_d _, leC_d _, leC_d _, trivial⟩, ⟨_, rfl, leC_d _, leC_rc _ _, leC_d _, leC_d _, leC_d _, leC_d _, leC_d _, leC_d _, trivial⟩, ⟨_, rfl, leC_d _, leC_rc _ _, leC_d _, leC_d _, leC_d _, leC_d _, leC_d _, leC_d _, trivial⟩, ⟨_, rfl, leC_d _, leC_rc _ _, leC_d _, leC_d _, leC_d _, leC_d _, leC_d _, leC_d _, trivial⟩, trivial⟩
      intro _
      conv => whnf
      refine ⟨tab3_16, by decide +kernel, ?_⟩
      conv => whnf
      refine ⟨hii, ?_⟩
      conv => whnf
      refine ⟨hii, ?_⟩
      conv => whnf
      refine ⟨_, hZ, ⟨_, rfl⟩, ?_⟩; rintro o rfl
      conv => whnf
      refine ⟨hii, ?_⟩
      conv => whnf
      refine ⟨hii, ?_⟩
      conv => whnf
      refine ⟨_, hZ, ⟨_, rfl⟩, ?_⟩; rintro o rfl
      conv => whnf
      refine bool_split (fun h => absurd (hnZ.symm.trans h) (by decide)) (fun _ => ?_)
      conv => whnf
      refine ⟨hii, ?_⟩
      conv => whnf
      refine ⟨hii, ?_⟩
      conv => whnf
      refine ⟨_, hN, ⟨_, rfl⟩, ?_⟩; rintro o rfl
      conv => whnf
      refine ⟨hii, ?_⟩
      conv => whnf
      refine ⟨hii, ?_⟩
      conv => whnf
      refine ⟨_, hA, ⟨_, rfl⟩, ?_⟩; rintro o rfl
      conv => whnf
      refine bool_split (fun h => absurd (hnA.symm.trans h) (by decide)) (fun _ => ?_)
      conv => whnf
      refine ⟨⟨(i + 1, true, true, ⟨la', Ra', true, (X.getD i E0).taken⟩, ⟨lb', Rb', true, !(X.getD i E0).taken⟩, ⟨lz', Rz', true, (X.getD i E0).taken⟩), hil, ha1, hz1, hb1, fun h => absurd h (by simp)⟩, by dsimp only; omega, ?_⟩
      exact ⟨leV_d _, leV_d _, leV_d _, leV_ref _ _, leV_ref _ _, leV_ref _ _, leV_ref _ _, leV_ref _ _, leV_d _, leV_int (by show ((i + 1 : Nat) : Int) = IntKind.i64.wrap ((i : Int) + 1); rw [wrap_id] <;> omega), ⟨_, rfl, leC_d _, leC_rc _ _, leC_d _, leC_d _, leC_d _, leC_d _, leC_d _, leC_d _, trivial⟩, ⟨_, rfl, leC_d _, leC_rc _ _, leC_d _, leC_d _, leC_d _, leC_d _, leC_d _, leC_d _, trivial⟩, ⟨_, rfl, leC_d _, leC_rc _ _, leC_d _, leC_d _, leC_d _, leC_d _, leC_d _, leC_d _, trivial⟩, ⟨_, rfl, leC_d _, leC_rc _ _, leC_d _, leC_d _, leC_d _, leC_d _, leC_d _, leC_d _, trivial⟩, ⟨_, rfl, leC_d _, leC_rc _ _, leC_d _, leC_d _, leC_d _, leC_d _, leC_d _, leC_d _, trivial⟩, trivial⟩
  · have hie : i = X.length := by omega
    have h8 : X.length = 0 → cyc la ba = 0 := fun h => by rw [hbe (by omega)]; rfl
    have hCa := cycles_spec la (rcB q Ra) Ra (rcB_ok hfa) ba m d l t aa
    have hCz := cycles_spec lz (rcB q Rz) Rz (rcB_ok hfz) bz 0 0 0 0 az
    have hca : (cyc la ba == cyc la ba) = true := by simp
    have hcz : (cyc lz bz == cyc lz bz) = true := by simp
    cases q <;> cases qb
    all_goals conv => whnf
    all_goals refine bool_split (fun h => absurd (by simpa using h) hil) (fun _ => ?_)
    all_goals conv => whnf
    all_goals refine ⟨_, hf1, ⟨_, rfl⟩, ?_⟩
    all_goals rintro o rfl
    · conv => whnf
      refine ⟨{j : Nat // j ≤ X.length}, fun ⟨j, _⟩ => [(5, .d (.bool true)), (6, .d (dE X)), (7, .ref 21 0), (9, .ref 26 0), (10, .ref 28 0), (11, .ref 30 0), (12, .d .nilp), (15, .d (dE X)), (16, .d (.int .i64 j)), (21, (.obox (clockB la (rcB false Ra) ba m d l t aa))), (26, (.obox (clockB la (rcB false Ra) ba m d l t aa))), (28, (.obox (clockB lz (rcB false Rz) bz 0 0 0 0 az))), (30, (.obox (clockB lz (rcB false Rz) bz 0 0 0 0 az)))], fun j => X.length - j.1, ⟨0, Nat.zero_le _⟩, ?_, ?_⟩
      · exact ⟨leV_d _, leV_d _, leV_ref _ _, leV_ref _ _, leV_ref _ _, leV_ref _ _, leV_d _, leV_d _, leV_d _, ⟨_, rfl, leC_d _, leC_rc _ _, leC_d _, leC_d _, leC_d _, leC_d _, leC_d _, leC_d _, trivial⟩, ⟨_, rfl, leC_d _, leC_rc _ _, leC_d _, leC_d _, leC_d _, leC_d _, leC_d _, leC_d _, trivial⟩, ⟨_, rfl, leC_d _, leC_rc _ _, leC_d _, leC_d _, leC_d _, leC_d _, leC_d _, leC_d _, trivial⟩, ⟨_, rfl, leC_d _, leC_rc _ _, leC_d _, leC_d _, leC_d _, leC_d _, leC_d _, leC_d _, trivial⟩, trivial⟩
      rintro ⟨j, hj⟩
      conv => whnf
      refine bool_split (fun h => ?_) (fun h => ?_)
      · have hjl : j < X.length := by simpa using h
        have hjj : (0 : Int) ≤ (j : Int) ∧ (j : Int) < (X.length : Int) := ⟨by omega, by omega⟩
        have hI := ins_spec (X.getD j E0).i (Nat.le_trans (hXi j hjl) (by omega))
        generalize insS (X.getD j E0).i = si at hI
        have hne : (!strEq si si) = false := by simp [strEq]
        conv => whnf
        refine ⟨tab3_22, by decide +kernel, ?_⟩
        conv => whnf
        refine ⟨hjj, ?_⟩
        conv => whnf
        refine ⟨_, hI, ⟨_, rfl⟩, ?_⟩; rintro o rfl
        conv => whnf
        refine ⟨hjj, ?_⟩
        conv => whnf
        refine ⟨_, hI, ⟨_, rfl⟩, ?_⟩; rintro o rfl
        conv => whnf
        refine bool_split (fun h => absurd (hne.symm.trans h) (by decide)) (fun _ => ?_)
        conv => whnf
        refine ⟨⟨j + 1, hjl⟩, by dsimp only; omega, ?_⟩
        exact ⟨leV_d _, leV_d _, leV_ref _ _, leV_ref _ _, leV_ref _ _, leV_ref _ _, leV_d _, leV_d _, leV_int (by show ((j + 1 : Nat) : Int) = IntKind.i64.wrap ((j : Int) + 1); rw [wrap_id] <;> omega), ⟨_, rfl, leC_d _, leC_rc _ _, leC_d _, leC_d _, leC_d _, leC_d _, leC_d _, leC_d _, trivial⟩, ⟨_, rfl, leC_d _, leC_rc _ _, leC_d _, leC_d _, leC_d _, leC_d _, leC_d _, leC_d _, trivial⟩, ⟨_, rfl, leC_d _, leC_rc _ _, leC_d _, leC_d _, leC_d _, leC_d _, leC_d _, leC_d _, trivial⟩, ⟨_, rfl, leC_d _, leC_rc _ _, leC_d _, leC_d _, leC_d _, leC_d _, leC_d _, leC_d _, trivial⟩, trivial⟩
      · conv => whnf
        refine ⟨_, hCa, ⟨_, rfl⟩, ?_⟩; rintro o rfl
        conv => whnf
        refine ⟨_, hCa, ⟨_, rfl⟩, ?_⟩; rintro o rfl
        conv => whnf
        refine bool_split (fun _ => ?_) (fun h => absurd (hca.symm.trans h) (by decide))
        conv => whnf
        refine ⟨_, hCz, ⟨_, rfl⟩, ?_⟩; rintro o rfl
        conv => whnf
        refine ⟨_, hCz, ⟨_, rfl⟩, ?_⟩; rintro o rfl
        conv => whnf
        refine bool_split (fun _ => ?_) (fun h => absurd (hcz.symm.trans h) (by decide))
        conv => whnf
        refine ⟨_, cyclesN_spec, ⟨_, rfl⟩, ?_⟩; rintro o rfl
        conv => whnf
        refine bool_split (fun _ => ?_) (fun h => ?_)
        · conv => whnf
          rfl
        · have h : X.length = 0 := by have h9 := of_decide_eq_false h; omega
          have hc0 : (cyc la ba == 0) = true := by rw [h8 h]; rfl
          conv => whnf
          refine ⟨_, hCa, ⟨_, rfl⟩, ?_⟩; rintro o rfl
          conv => whnf
          rw [show (cyc la ba == 0) = true from hc0]; rfl
    · conv => whnf
      refine ⟨{j : Nat // j ≤ X.length}, fun ⟨j, _⟩ => [(5, .d (.bool true)), (6, .d (dE X)), (7, .ref 21 0), (9, .ref 26 0), (10, .ref 28 0), (11, .ref 30 0), (12, .d .nilp), (15, .d (dE X)), (16, .d (.int .i64 j)), (21, (.obox (clockB la (rcB false Ra) ba m d l t aa))), (26, (.obox (clockB la (rcB false Ra) ba m d l t aa))), (28, (.obox (clockB lz (rcB false Rz) bz 0 0 0 0 az))), (30, (.obox (clockB lz (rcB false Rz) bz 0 0 0 0 az)))], fun j => X.length - j.1, ⟨0, Nat.zero_le _⟩, ?_, ?_⟩
      · exact ⟨leV_d _, leV_d _, leV_ref _ _, leV_ref _ _, leV_ref _ _, leV_ref _ _, leV_d _, leV_d _, leV_d _, ⟨_, rfl, leC_d _, leC_rc _ _, leC_d _, leC_d _, leC_d _, leC_d _, leC_d _, leC_d _, trivial⟩, ⟨_, rfl, leC_d _, leC_rc _ _, leC_d _, leC_d _, leC_d _, leC_d _, leC_d _, leC_d _, trivial⟩, ⟨_, rfl, leC_d _, leC_rc _ _, leC_d _, leC_d _, leC_d _, leC_d _, leC_d _, leC_d _, trivial⟩, ⟨_, rfl, leC_d _, leC_rc _ _, leC_d _, leC_d _, leC_d _, leC_d _, leC_d _, leC_d _, trivial⟩, trivial⟩
      rintro ⟨j, hj⟩
      conv => whnf
      refine bool_split (fun h => ?_) (fun h => ?_)
      · have hjl : j < X.length := by simpa using h
        have hjj : (0 : Int) ≤ (j : Int) ∧ (j : Int) < (X.length : Int) := ⟨by omega, by omega⟩
        have hI := ins_spec (X.getD j E0).i (Nat.le_trans (hXi j hjl) (by omega))
        generalize insS (X.getD j E0).i = si at hI
        have hne : (!strEq si si) = false := by simp [strEq]
        conv => whnf
        refine ⟨tab3_22, by decide +kernel, ?_⟩
        conv => whnf
        refine ⟨hjj, ?_⟩
        conv => whnf
        refine ⟨_, hI, ⟨_, rfl⟩, ?_⟩; rintro o rfl
        conv => whnf
        refine ⟨hjj, ?_⟩
        conv => whnf
        refine ⟨_, hI, ⟨_, rfl⟩, ?_⟩; rintro o rfl
        conv => whnf
        refine bool_split (fun h => absurd (hne.symm.trans h) (by decide)) (fun _ => ?_)
        conv => whnf
        refine ⟨⟨j + 1, hjl⟩, by dsimp only; omega, ?_⟩
        exact ⟨leV_d _, leV_d _, leV_ref _ _, leV_ref _ _, leV_ref _ _, leV_ref _ _, leV_d _, leV_d _, leV_int (by show ((j + 1 : Nat) : Int) = IntKind.i64.wrap ((j : Int) + 1); rw [wrap_id] <;> omega), ⟨_, rfl, leC_d _, leC_rc _ _, leC_d _, leC_d _, leC_d _, leC_d _, leC_d _, leC_d _, trivial⟩, ⟨_, rfl, leC_d _, leC_rc _ _, leC_d _, leC_d _, leC_d _, leC_d _, leC_d _, leC_d _, trivial⟩, ⟨_, rfl, leC_d _, leC_rc _ _, leC_d _, leC_d _, leC_d _, leC_d _, leC_d _, leC_d _, trivial⟩, ⟨_, rfl, leC_d _, leC_rc _ _, leC_d _, leC_d _, leC_d _, leC_d _, leC_d _, leC_d _, trivial⟩, trivial⟩
      · conv => whnf
        refine ⟨_, hCa, ⟨_, rfl⟩, ?_⟩; rintro o rfl
        conv => whnf
        refine ⟨_, hCa, ⟨_, rfl⟩, ?_⟩; rintro o rfl
        conv => whnf
        refine bool_split (fun _ => ?_) (fun h => absurd (hca.symm.trans h) (by decide))
        conv => whnf
        refine ⟨_, hCz, ⟨_, rfl⟩, ?_⟩; rintro o rfl
        conv => whnf
        refine ⟨_, hCz, ⟨_, rfl⟩, ?_⟩; rintro o rfl
        conv => whnf
        refine bool_split (fun _ => ?_) (fun h => absurd (hcz.symm.trans h) (by decide))
        conv => whnf
        refine ⟨_, cyclesN_spec, ⟨_, rfl⟩, ?_⟩; rintro o rfl
        conv => whnf
        refine bool_split (fun _ => ?_) (fun h => ?_)
        · conv => whnf
          rfl
        · have h : X.length = 0 := by have h9 := of_decide_eq_false h; omega
          have hc0 : (cyc la ba == 0) = true := by rw [h8 h]; rfl
          conv => whnf
          refine ⟨_, hCa, ⟨_, rfl⟩, ?_⟩; rintro o rfl
          conv => whnf
          rw [show (cyc la ba == 0) = true from hc0]; rfl
    · conv => whnf
      refine ⟨{j : Nat // j ≤ X.length}, fun ⟨j, _⟩ => [(5, .d (.bool true)), (6, .d (dE X)), (7, .ref 21 0), (9, .ref 26 0), (10, .ref 28 0), (11, .ref 30 0), (12, .d .nilp), (15, .d (dE X)), (16, .d (.int .i64 j)), (21, (.obox (clockB la (rcB true Ra) ba m d l t aa))), (26, (.obox (clockB la (rcB true Ra) ba m d l t aa))), (28, (.obox (clockB lz (rcB true Rz) bz 0 0 0 0 az))), (30, (.obox (clockB lz (rcB true Rz) bz 0 0 0 0 az)))], fun j => X.length - j.1, ⟨0, Nat.zero_le _⟩, ?_, ?_⟩
      · exact ⟨leV_d _, leV_d _, leV_ref _ _, leV_ref _ _, leV_ref _ _, leV_ref _ _, leV_d _, leV_d _, leV_d _, ⟨_, rfl, leC_d _, leC_rc _ _, leC_d _, leC_d _, leC_d _, leC_d _, leC_d _, leC_d _, trivial⟩, ⟨_, rfl, leC_d _, leC_rc _ _, leC_d _, leC_d _, leC_d _, leC_d _, leC_d _, leC_d _, trivial⟩, ⟨_, rfl, leC_d _, leC_rc _ _, leC_d _, leC_d _, leC_d _, leC_d _, leC_d _, leC_d _, trivial⟩, ⟨_, rfl, leC_d _, leC_rc _ _, leC_d _, leC_d _, leC_d _, leC_d _, leC_d _, leC_d _, trivial⟩, trivial⟩
      rintro ⟨j, hj⟩
      conv => whnf
      refine bool_split (fun h => ?_) (fun h => ?_)
      · have hjl : j < X.length := by simpa using h
        have hjj : (0 : Int) ≤ (j : Int) ∧ (j : Int) < (X.length : Int) := ⟨by omega, by omega⟩
        have hI := ins_spec (X.getD j E0).i (Nat.le_trans (hXi j hjl) (by omega))
        generalize insS (X.getD j E0).i = si at hI
        have hne : (!strEq si si) = false := by simp [strEq]
        conv => whnf
        refine ⟨tab3_22, by decide +kernel, ?_⟩
        conv => whnf
        refine ⟨hjj, ?_⟩
        conv => whnf
        refine ⟨_, hI, ⟨_, rfl⟩, ?_⟩; rintro o rfl
        conv => whnf
        refine ⟨hjj, ?_⟩
        conv => whnf
        refine ⟨_, hI, ⟨_, rfl⟩, ?_⟩; rintro o rfl
        conv => whnf
        refine bool_split (fun h => absurd (hne.symm.trans h) (by decide)) (fun _ => ?_)
        conv => whnf
        refine ⟨⟨j + 1, hjl⟩, by dsimp only; omega, ?_⟩
        exact ⟨leV_d _, leV_d _, leV_ref _ _, leV_ref _ _, leV_ref _ _, leV_ref _ _, leV_d _, leV_d _, leV_int (by show ((j + 1 : Nat) : Int) = IntKind.i64.wrap ((j : Int) + 1); rw [wrap_id] <;> omega), ⟨_, rfl, leC_d _, leC_rc _ _, leC_d _, leC_d _, leC_d _, leC_d _, leC_d _, leC_d _, trivial⟩, ⟨_, rfl, leC_d _, leC_rc _ _, leC_d _, leC_d _, leC_d _, leC_d _, leC_d _, leC_d _, trivial⟩, ⟨_, rfl, leC_d _, leC_rc _ _, leC_d _, leC_d _, leC_d _, leC_d _, leC_d _, leC_d _, trivial⟩, ⟨_, rfl, leC_d _, leC_rc _ _, leC_d _, leC_d _, leC_d _, leC_d _, leC_d _, leC_d _, trivial⟩, trivial⟩
      · conv => whnf
        refine ⟨_, hCa, ⟨_, rfl⟩, ?_⟩; rintro o rfl
        conv => whnf
        refine ⟨_, hCa, ⟨_, rfl⟩, ?_⟩; rintro o rfl
        conv => whnf
        refine bool_split (fun _ => ?_) (fun h => absurd (hca.symm.trans h) (by decide))
        conv => whnf
        refine ⟨_, hCz, ⟨_, rfl⟩, ?_⟩; rintro o rfl
        conv => whnf
        refine ⟨_, hCz, ⟨_, rfl⟩, ?_⟩; rintro o rfl
        conv => whnf
        refine bool_split (fun _ => ?_) (fun h => absurd (hcz.symm.trans h) (by decide))
        conv => whnf
        refine ⟨_, cyclesN_spec, ⟨_, rfl⟩, ?_⟩; rintro o rfl
        conv => whnf
        refine bool_split (fun _ => ?_) (fun h => ?_)
        · conv => whnf
          rfl
        · have h : X.length = 0 := by have h9 := of_decide_eq_false h; omega
          have hc0 : (cyc la ba == 0) = true := by rw [h8 h]; rfl
          conv => whnf
          refine ⟨_, hCa, ⟨_, rfl⟩, ?_⟩; rintro o rfl
          conv => whnf
          rw [show (cyc la ba == 0) = true from hc0]; rfl
    · conv => whnf
      refine ⟨{j : Nat // j ≤ X.length}, fun ⟨j, _⟩ => [(5, .d (.bool true)), (6, .d (dE X)), (7, .ref 21 0), (9, .ref 26 0), (10, .ref 28 0), (11, .ref 30 0), (12, .d .nilp), (15, .d (dE X)), (16, .d (.int .i64 j)), (21, (.obox (clockB la (rcB true Ra) ba m d l t aa))), (26, (.obox (clockB la (rcB true Ra) ba m d l t aa))), (28, (.obox (clockB lz (rcB true Rz) bz 0 0 0 0 az))), (30, (.obox (clockB lz (rcB true Rz) bz 0 0 0 0 az)))], fun j => X.length - j.1, ⟨0, Nat.zero_le _⟩, ?_, ?_⟩
      · exact ⟨leV_d _, leV_d _, leV_ref _ _, leV_ref _ _, leV_ref _ _, leV_ref _ _, leV_d _, leV_d _, leV_d _, ⟨_, rfl, leC_d _, leC_rc _ _, leC_d _, leC_d _, leC_d _, leC_d _, leC_d _, leC_d _, trivial⟩, ⟨_, rfl, leC_d _, leC_rc _ _, leC_d _, leC_d _, leC_d _, leC_d _, leC_d _, leC_d _, trivial⟩, ⟨_, rfl, leC_d _, leC_rc _ _, leC_d _, leC_d _, leC_d _, leC_d _, leC_d _, leC_d _, trivial⟩, ⟨_, rfl, leC_d _, leC_rc _ _, leC_d _, leC_d _, leC_d _, leC_d _, leC_d _, leC_d _, trivial⟩, trivial⟩
      rintro ⟨j, hj⟩
      conv => whnf
      refine bool_split (fun h => ?_) (fun h => ?_)
      · have hjl : j < X.length := by simpa using h
        have hjj : (0 : Int) ≤ (j : Int) ∧ (j : Int) < (X.length : Int) := ⟨by omega, by omega⟩
        have hI := ins_spec (X.getD j E0).i (Nat.le_trans (hXi j hjl) (by omega))
        generalize insS (X.getD j E0).i = si at hI
        have hne : (!strEq si si) = false := by simp [strEq]
        conv => whnf
        refine ⟨tab3_22, by decide +kernel, ?_⟩
        conv => whnf
        refine ⟨hjj, ?_⟩
        conv => whnf
        refine ⟨_, hI, ⟨_, rfl⟩, ?_⟩; rintro o rfl
        conv => whnf
        refine ⟨hjj, ?_⟩
        conv => whnf
        refine ⟨_, hI, ⟨_, rfl⟩, ?_⟩; rintro o rfl
        conv => whnf
        refine bool_split (fun h => absurd (hne.symm.trans h) (by decide)) (fun _ => ?_)
        conv => whnf
        refine ⟨⟨j + 1, hjl⟩, by dsimp only; omega, ?_⟩
        exact ⟨leV_d _, leV_d _, leV_ref _ _, leV_ref _ _, leV_ref _ _, leV_ref _ _, leV_d _, leV_d _, leV_int (by show ((j + 1 : Nat) : Int) = IntKind.i64.wrap ((j : Int) + 1); rw [wrap_id] <;> omega), ⟨_, rfl, leC_d _, leC_rc _ _, leC_d _, leC_d _, leC_d _, leC_d _, leC_d _, leC_d _, trivial⟩, ⟨_, rfl, leC_d _, leC_rc _ _, leC_d _, leC_d _, leC_d _, leC_d _, leC_d _, leC_d _, trivial⟩, ⟨_, rfl, leC_d _, leC_rc _ _, leC_d _, leC_d _, leC_d _, leC_d _, leC_d _, leC_d _, trivial⟩, ⟨_, rfl, leC_d _, leC_rc _ _, leC_d _, leC_d _, leC_d _, leC_d _, leC_d _, leC_d _, trivial⟩, trivial⟩
      · conv => whnf
        refine ⟨_, hCa, ⟨_, rfl⟩, ?_⟩; rintro o rfl
        conv => whnf
        refine ⟨_, hCa, ⟨_, rfl⟩, ?_⟩; rintro o rfl
        conv => whnf
        refine bool_split (fun _ => ?_) (fun h => absurd (hca.symm.trans h) (by decide))
        conv => whnf
        refine ⟨_, hCz, ⟨_, rfl⟩, ?_⟩; rintro o rfl
        conv => whnf
        refine ⟨_, hCz, ⟨_, rfl⟩, ?_⟩; rintro o rfl
        conv => whnf
        refine bool_split (fun _ => ?_) (fun h => absurd (hcz.symm.trans h) (by decide))
        conv => whnf
        refine ⟨_, cyclesN_spec, ⟨_, rfl⟩, ?_⟩; rintro o rfl
        conv => whnf
        refine bool_split (fun _ => ?_) (fun h => ?_)
        · conv => whnf
          rfl
        · have h : X.length = 0 := by have h9 := of_decide_eq_false h; omega
          have hc0 : (cyc la ba == 0) = true := by rw [h8 h]; rfl
          conv => whnf
          refine ⟨_, hCa, ⟨_, rfl⟩, ?_⟩; rintro o rfl
          conv => whnf
          rw [show (cyc la ba == 0) = true from hc0]; rfl

end AM
