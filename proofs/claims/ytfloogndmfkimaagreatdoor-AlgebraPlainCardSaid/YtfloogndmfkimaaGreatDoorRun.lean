/- known comes to true; AlgebraPlain comes to true in the evaluator. -/
import Derived.Test.YtfloogndmfkimaaGreatDoorK1
import Derived.Test.YtfloogndmfkimaaGreatDoorK4
import Derived.Test.YtfloogndmfkimaaGreatDoorK5
import Derived.Test.YtfloogndmfkimaaGreatDoorK6
import Derived.Test.YtfloogndmfkimaaGreatDoorK7
import Derived.Test.YtfloogndmfkimaaGreatDoorEvl

namespace Go.Proofs.YtfloogndmfkimaaGreatDoor
open Go Go.AM Go.Proofs

theorem part_of {k : Nat} {t t' : TT} {H H' : Heap} (h : execQ E9 3000 3 (partAt k code7) t H [] = some ⟨.normal, t', H', []⟩) {n : Nat} (hn : 3000 ≤ n) : exec E9 n 3 (partAt k code7) t H [] = some ⟨.normal, t', H', []⟩ := by
  rw [execQ_eq] at h
  exact exec_mono hn _ _ _ _ _ _ h

theorem body7 : bodyOf E9 7 = some (Tryz.f7, code7) := by kernel_rfl
set_option maxRecDepth 100000

theorem known_runs : call E9 3020 7 [] (bare 3) = some ⟨.bool true, bare 3, []⟩ := by
  refine call_runs rfl body7 rfl ?_
  show Runs E9 3020 3 code7 .leaf (bare 3) [] _
  refine Runs.seq (part_of part0 (by omega)) ?_
  refine Runs.seq (part_of part1 (by omega)) ?_
  refine Runs.seq (part_of part2 (by omega)) ?_
  refine Runs.seq (part_of part3 (by omega)) ?_
  refine Runs.seq (part_of part4 (by omega)) ?_
  refine Runs.seq (part_of part5 (by omega)) ?_
  refine Runs.seq (part_of part6 (by omega)) ?_
  refine Runs.seq (part_of part7 (by omega)) ?_
  refine Runs.seq (part_of part8 (by omega)) ?_
  exact .now rfl ⟨trivial, _, rfl, rfl⟩

end Go.Proofs.YtfloogndmfkimaaGreatDoor

namespace Go.Proofs.YtfloogndmfkimaaGreatDoor
open Go Go.AM Go.Proofs
set_option maxRecDepth 100000

theorem callOk_env {E E' : Env} (hP : E'.P = E.P) {f : FuncId} {args : List Value} {H : Heap} {r : CallRes} (h : CallOk E f args H r) : CallOk E' f args H r := by
  unfold CallOk at h ⊢
  rw [hP]
  exact h

theorem evRes_keeps (H : Heap) (c0 c1 : Value) : HeapKeeps H (evRes H c0 c1).H [] := by
  refine ⟨by show H.n ≤ H.n + 5; omega, fun x hx _ => ?_⟩
  show ((evHeap H c0 c1).push _).get x = _
  rw [Heap.get_push_lt (by rw [evHeap_n]; omega), evHeap_old H c0 c1 hx]

theorem newEvX_ok {E : Env} (hP : E.P = Tryz.prog) {args : List Value} {H : Heap} {r : CallRes} (h : newEvX args H = some r) : CallOk E 55 args H r ∧ HeapKeeps H r.H r.dirty := by
  unfold newEvX at h
  split at h
  · rename_i cs
    obtain ⟨cl⟩ := cs
    split at h
    · rename_i hb
      cases h
      simp only [Bool.and_eq_true] at hb
      obtain ⟨h1, h2⟩ := hb
      have hl := Nat.eq_of_beq_eq_true h2
      match cl, hl, h1 with
      | [c0, c1], _, h1 =>
        simp only [List.all_cons, Bool.and_eq_true] at h1
        exact ⟨callOk_env hP (newEv_call h1.1 h1.2.1), evRes_keeps H c0 c1⟩
    · cases h
  · cases h

theorem ext8_ok {E : Env} (hP : E.P = Tryz.prog) {f : FuncId} {k : List Value → Heap → Option CallRes} (hf : ext8 f = some k) {args : List Value} {H : Heap} {r : CallRes} (h : k args H = some r) : CallOk E f args H r ∧ HeapKeeps H r.H r.dirty := by
  unfold ext8 at hf
  split at hf
  · rename_i hb
    obtain rfl := Nat.eq_of_beq_eq_true hb
    cases hf
    exact newEvX_ok hP h
  · exact ext7_ok hP hf h

theorem eqsOk8 : EqsOk E8 := eqs8_ok rfl rfl
theorem extOk8 : ExtOk E8 := fun f args H r h => by
  unfold told at h
  split at h
  · rename_i k hk
    exact ext8_ok rfl hk h
  · cases h

theorem eqsOk9 : EqsOk E9 := eqs8_ok rfl rfl
theorem extOk9 : ExtOk E9 := fun f args H r h => by
  unfold told at h
  split at h
  · rename_i k hk
    have hk' : ext9 f = some k := hk
    unfold ext9 at hk'
    split at hk'
    · cases hk'
      unfold cx at h
      split at h
      · rename_i q hq
        have := compact_ok (call_ok eqsOk8 extOk8 3000 f args H q (callT_le tabAll_ok 3000 hq)) h
        exact ⟨callOk_env rfl this.1, this.2⟩
      · cases h
    · exact ext8_ok rfl hk' h
  · cases h
theorem g9 : E9.P.globals.size = 3 := by kernel_rfl

/-! AlgebraPlain's surroundings. -/

noncomputable def knownX : List Value → Heap → Option CallRes
  | [], H => some ⟨.bool true, H, []⟩
  | _, _ => none

/-- A call of plain values that comes to a plain value in the bare heap: told for any heap. -/
noncomputable def plainX (E : Env) (n : Nat) (f : FuncId) (args : List Value) (H : Heap) : Option CallRes :=
  match args.all plain, call E n f args (bare 3) with
  | true, some ⟨v, ⟨3, .leaf⟩, []⟩ => match plain v with
    | true => some ⟨v, H, []⟩
    | false => none
  | _, _ => none

theorem plainX_ok {E E' : Env} (hP : E'.P = E.P) (hE : EqsOk E) (hX : ExtOk E) (hg : E.P.globals.size = 3) {n : Nat} {f : FuncId} {args : List Value} {H : Heap} {r : CallRes} (h : plainX E n f args H = some r) : CallOk E' f args H r ∧ HeapKeeps H r.H r.dirty := by
  unfold plainX at h
  split at h
  · rename_i v ha hc
    split at h
    · rename_i hv
      cases h
      exact told_ok hP hE hX hg hc ha hv H
    · cases h
  · cases h

theorem plainX_at {E : Env} {n : Nat} {f : FuncId} {args : List Value} {v : Value} (ha : args.all plain = true) (hv : plain v = true) (h : call E n f args (bare 3) = some ⟨v, bare 3, []⟩) (H : Heap) : plainX E n f args H = some ⟨v, H, []⟩ := by
  unfold plainX
  rw [ha, h]
  show (match plain v with | true => some (CallRes.mk v H []) | false => none) = _
  rw [hv]

noncomputable def ext10 (f : FuncId) : Option (List Value → Heap → Option CallRes) :=
  match Nat.beq f 7 with
  | true => some knownX
  | false => match Nat.beq f 5 with
    | true => some (plainX E6 60 5)
    | false => match Nat.beq f 8 with
      | true => some (plainX E6 60 8)
      | false => ext7 f

noncomputable def E10 : Env := { P := Tryz.prog, eqs := fun _ => none, ext := ext10 }
theorem eqs10 : EqsOk E10 := fun t ks h => by cases h
theorem g10 : E10.P.globals.size = 3 := by kernel_rfl
theorem extOk10 : ExtOk E10 := fun f args H r h => by
  unfold told at h
  split at h
  · rename_i k hk
    have hk' : ext10 f = some k := hk
    unfold ext10 at hk'
    split at hk'
    · rename_i hb
      obtain rfl := Nat.eq_of_beq_eq_true hb
      cases hk'
      unfold knownX at h
      split at h
      · cases h
        exact told_ok (E := E9) rfl eqsOk9 extOk9 g9 known_runs rfl rfl H
      · cases h
    split at hk'
    · rename_i hb
      obtain rfl := Nat.eq_of_beq_eq_true hb
      cases hk'
      exact plainX_ok (E := E6) rfl eqs6 extOk6 g6 h
    split at hk'
    · rename_i hb
      obtain rfl := Nat.eq_of_beq_eq_true hb
      cases hk'
      exact plainX_ok (E := E6) rfl eqs6 extOk6 g6 h
    exact ext7_ok rfl hk' h
  · cases h

end Go.Proofs.YtfloogndmfkimaaGreatDoor

namespace Go.Proofs.YtfloogndmfkimaaGreatDoor
open Go Go.AM Go.Proofs

theorem fromInts10 {n : Int} (h : isI64 n = true) (H : Heap) (k : Nat) : call E10 k 4 [.int .i64 n, .int .i64 4] H = some ⟨fromInts4V n, H, []⟩ := by
  refine call_told ?_ k
  show fromIntsX [.int .i64 n, .int .i64 (.ofNat 4)] H = _
  simp only [fromIntsX, h]
  rfl

theorem ratInt10 {n : Int} (h : isI64 n = true) (H : Heap) (k : Nat) : call E10 k 6 [.int .i64 n] H = some ⟨ratIntV n, H, []⟩ := by
  refine call_told ?_ k
  show ratIntX [.int .i64 n] H = _
  simp only [ratIntX, h]

theorem known10 (H : Heap) (k : Nat) : call E10 k 7 [] H = some ⟨.bool true, H, []⟩ := call_told rfl k

set_option maxRecDepth 100000
theorem told5 (args : List Value) (H : Heap) : told E10 5 args H = plainX E6 60 5 args H := rfl
theorem told8 (args : List Value) (H : Heap) : told E10 8 args H = plainX E6 60 8 args H := rfl

theorem atNum10 (s s' : Bool) (n d n' d' : List UInt8) (H : Heap) (k : Nat) : call E10 k 5 [vOf [(0, .int .i64 2), (2, rV s n d)], rV s' n' d'] H = some ⟨.tuple #[zero37, .int .i64 14], H, []⟩ := by
  refine call_told ?_ k
  rw [told5]
  exact plainX_at (by kernel_rfl) (by kernel_rfl) (at_num s s' n d n' d') H
theorem atBool10 (b s' : Bool) (n' d' : List UInt8) (H : Heap) (k : Nat) : call E10 k 5 [vOf [(0, .int .i64 1), (1, .bool b)], rV s' n' d'] H = some ⟨.tuple #[zero37, .int .i64 14], H, []⟩ := by
  refine call_told ?_ k
  rw [told5]
  exact plainX_at (by kernel_rfl) (by kernel_rfl) (at_bool b s' n' d') H
theorem atPeriod10 (s' : Bool) (n' d' : List UInt8) (H : Heap) (k : Nat) : call E10 k 5 [vOf [(0, .int .i64 4)], rV s' n' d'] H = some ⟨.tuple #[zero37, .int .i64 14], H, []⟩ := by
  refine call_told ?_ k
  rw [told5]
  exact plainX_at (by kernel_rfl) (by kernel_rfl) (at_period s' n' d') H
theorem same10 (H : Heap) (k : Nat) : call E10 k 8 [zero37, zero37] H = some ⟨.bool true, H, []⟩ := by
  refine call_told ?_ k
  rw [told8]
  exact plainX_at (by kernel_rfl) (by kernel_rfl) same_zero H

theorem body3 : bodyOf E10 3 = some (Tryz.f3, Tryz.f3.body.getD .skip) := by kernel_rfl

set_option maxRecDepth 100000
set_option maxHeartbeats 8000000

theorem plain_walk {n : Int} {b : Bool} {q : Int} (hn : isI64 n = true) (hq : isI64 (wrapF .i64 q) = true) : call E10 90 3 [.int .i64 n, .bool b, .int .i16 q] (bare 3) = some ⟨.bool true, bare 3, []⟩ := by
  have h1 := fun H k => fromInts10 hq H k
  have h2 := fun H k => ratInt10 hn H k
  refine call_runs rfl body3 rfl ?_
  refine .seq rfl ?_
  refine .seqK (.region ?_)
  refine .cons rfl rfl (.cons rfl rfl ?_)
  refine .cons rfl (step_told (h1 _ _) rfl) ?_
  refine .cons rfl rfl (.cons rfl rfl (.cons rfl rfl (.cons rfl rfl (.cons rfl rfl (.cons rfl rfl (.nil ?_))))))
  refine .seqK (.drawn (l := [8, 0, 1, 2, 3, 4, 5, 6, 7, 9, 10]) (by kernel_rfl) (by kernel_rfl) ?_)
  refine .cons rfl rfl rfl (.cons rfl rfl rfl ?_)
  refine .cons rfl rfl (step_told (h2 _ _) rfl) ?_
  refine .cons rfl rfl rfl (.cons rfl rfl rfl ?_)
  refine .cons rfl rfl (step_told (atNum10 _ _ _ _ _ _ _ _) rfl) ?_
  refine .cons rfl rfl rfl (.cons rfl rfl rfl (.cons rfl rfl rfl (.cons rfl rfl rfl (.cons rfl rfl rfl (.nil ?_)))))
  refine ⟨by kernel_rfl, by kernel_rfl, by kernel_rfl, by kernel_rfl, by kernel_rfl, by kernel_rfl, by kernel_rfl, by kernel_rfl, by kernel_rfl, by kernel_rfl, by kernel_rfl, ?_⟩
  refine .seqK (.region ?_)
  refine .cons rfl rfl (.cons rfl rfl (.cons rfl rfl ?_))
  refine .cons rfl (step_told (atBool10 _ _ _ _ _ _) rfl) ?_
  refine .cons rfl rfl (.cons rfl rfl (.cons rfl rfl (.cons rfl rfl (.cons rfl rfl (.cons rfl rfl (.nil ?_))))))
  refine .seqK (.region ?_)
  refine .cons rfl rfl (.cons rfl rfl ?_)
  refine .cons rfl (step_told (atPeriod10 _ _ _ _ _) rfl) ?_
  refine .cons rfl rfl (.cons rfl rfl (.cons rfl rfl (.cons rfl rfl (.cons rfl rfl (.cons rfl rfl (.nil ?_))))))
  refine .seqK (.region ?_)
  refine .cons rfl (step_told (known10 _ _) rfl) ?_
  refine .cons rfl rfl (.cons rfl rfl (.cons rfl rfl (.cons rfl rfl (.cons rfl rfl ?_))))
  refine .cons rfl rfl (.cons rfl rfl (.cons rfl rfl (.cons rfl rfl ?_)))
  refine .cons rfl rfl (.cons rfl rfl (.cons rfl rfl (.cons rfl rfl ?_)))
  refine .cons rfl rfl (.cons rfl rfl ?_)
  refine .cons rfl (step_told (same10 _ _) rfl) ?_
  refine .cons rfl rfl (.cons rfl rfl (.cons rfl rfl (.cons rfl rfl ?_)))
  refine .cons rfl (step_told (same10 _ _) rfl) ?_
  refine .cons rfl rfl (.cons rfl rfl (.cons rfl rfl (.cons rfl rfl ?_)))
  refine .cons rfl (step_told (same10 _ _) rfl) ?_
  refine .cons rfl rfl (.cons rfl rfl (.nil ?_))
  exact .now rfl ⟨trivial, _, rfl, rfl⟩

end Go.Proofs.YtfloogndmfkimaaGreatDoor
