/- AlgebraPlain (viatorlaw45): for every int n, bool b and int16 quarters the call returns true, and its arguments read behind the call as they read before; the card ties the two tables that the row lists to the text of the program. Conditions: none. -/
import Derived.Test.YtfloogndmfkimaaGreatDoorJa
import Derived.Test.YtfloogndmfkimaaGreatDoorJb
import Derived.Test.YtfloogndmfkimaaGreatDoorJc
import Derived.Test.YtfloogndmfkimaaGreatDoorJd
import Derived.Test.YtfloogndmfkimaaGreatDoorRun
import Derived.Test.YtfloogndmfkimaaGreatDoorRows
import Derived.Test.YtfloogndmfkimaaGreatDoorTie
import Derived.Test.YtfloogndmfkimaaGreatDoorWit
import Derived.Test.YtfloogndmfkimaaGreatDoorCards
import Derived.ProofKit
import Derived.OpenShut
import Derived.LaidMore
import Derived.Lay
import Derived.SevenTiedAt
import Derived.Stop.Joined
import Derived.Deep.Onto

namespace Go.Proofs.YtfloogndmfkimaaGreatDoor
open Go
set_option maxRecDepth 100000

theorem andT {a b : Bool} (ha : a = true) (hb : b = true) : (a && b) = true := by rw [ha, hb]; rfl

theorem joined_all : joinedFacts Tryz.pinned.checked.prog 3 Tryz.f3 Rows.algebraPlainSpec Rows.algebraPlainRow = true := (andT (andT (andT (andT (andT (andT (andT (andT (andT (andT (andT (andT (andT (andT (andT (andT (andT (andT (andT (andT (andT (andT (andT (andT (andT (andT (andT (andT (andT (andT (andT j0 j1) j2) j3) j4) j5) j6) j7) j8) j9) j10) j11) j12) j13) j14) j15) j16) j17) j18) j19) j20) j21) j22) j23) j24) j25) j26) j27) j28) j29) j30) j31)
end Go.Proofs.YtfloogndmfkimaaGreatDoor

namespace Go.Proofs.YtfloogndmfkimaaGreatDoor
open Go Go.AM Go.Proofs
open Go.ChangeShapes Go.WideShapes Go.ChangeAt Go.RowKit

theorem own : ownKnob Tryz.prog.godebug = none := by kernel_rfl

/-- The program's variables lie in memory. -/
theorem three_blocks {W : World} (h : laidMetH Tryz.prog laidL W) : 3 ≤ W.heap.size := by
  rw [MakeChecks.laidMetH_plain _ _ _ w8] at h
  obtain ⟨ps, ⟨g, t, cs, fuel, p, q, hg, ht, hv, hd, _, _⟩, _, _⟩ := h
  obtain rfl := Option.some.inj ((show Tryz.prog.globalNamed "unicode/utf8.acceptRanges" = some 2 by kernel_rfl).symm.trans hg)
  simp only [World.var?, hg, Option.bind_some] at hv
  rcases Nat.lt_or_ge 2 W.heap.size with h2 | h2
  · exact h2
  · rw [Array.getElem?_eq_none h2] at hv
    cases hv

theorem isI64_of {n : Int} (h1 : -9223372036854775808 ≤ n) (h2 : n ≤ 9223372036854775807) : isI64 n = true := by
  cases n with
  | ofNat k =>
    show Nat.blt k 9223372036854775808 = true
    rw [Nat.blt_eq]
    have : Int.ofNat k = (k : Int) := rfl
    omega
  | negSucc k =>
    show Nat.blt k 9223372036854775808 = true
    rw [Nat.blt_eq]
    rw [Int.negSucc_eq] at h1
    omega

theorem wrap_small (x : Int) : isI64 (wrapF .i64 x) = true := by
  have h1 : 0 ≤ x % 18446744073709551616 := Int.emod_nonneg x (by decide)
  have h2 : x % 18446744073709551616 < 18446744073709551616 := Int.emod_lt_of_pos x (by decide)
  have gen : ∀ y : Int, 0 ≤ y → y < 18446744073709551616 → isI64 (match y with
      | .ofNat m => match Nat.blt m 9223372036854775808 with | true => .ofNat m | false => (Int.ofNat m) - 18446744073709551616
      | .negSucc m => .negSucc m) = true := by
    intro y h1 h2
    cases y with
    | ofNat m =>
      have e : Int.ofNat m = (m : Int) := rfl
      simp only
      cases hb : Nat.blt m 9223372036854775808 with
      | true => exact hb
      | false =>
        have : ¬ m < 9223372036854775808 := fun h => by rw [← Nat.blt_eq, hb] at h; cases h
        rw [e] at h2
        show isI64 ((m : Int) - 18446744073709551616) = true
        exact isI64_of (by omega) (by omega)
    | negSucc m => omega
  exact gen _ h1 h2

/-- The call, in whatever memory. -/
theorem plain_calls {n q : Int} (b : Bool) (hn : isI64 n = true) (hq : isI64 (wrapF .i64 q) = true) (W : World) (hW : 3 ≤ W.heap.size) :
    Calls Tryz.prog 3 #[.int .i64 n, .bool b, .int .i16 q] W fun e w' => e = .returned (.bool true) ∧ w'.os = W.os ∧ w'.output = W.output ∧ ∀ i, i < W.heap.size → w'.heap[i]? = W.heap[i]? := by
  have h := (call_ok eqs10 extOk10 90 3 _ _ _ (plain_walk (b := b) hn hq)).1
  have hP : Rel E10.P.globals.size (barePhi 3) (bare 3) W := by rw [g10]; exact Rel.bare hW
  have turn : ∀ v' w', Out E10.P.globals.size (bare 3).n (barePhi 3) W (.bool true) (bare 3) [] v' w' → v' = .bool true ∧ w'.os = W.os ∧ w'.output = W.output ∧ ∀ i, i < W.heap.size → w'.heap[i]? = W.heap[i]? := by
    rintro v' w' ⟨φ', _, e2, _, e4, _, _⟩
    exact ⟨e2.bool_inv, e4.os, e4.output, fun i hi => e4.heap i hi (fun j L hj => by cases hj)⟩
  have hargs : VRs (barePhi 3) [.int .i64 n, .bool b, .int .i16 q] [.int .i64 n, .bool b, .int .i16 q] := .cons (.atom rfl) (.cons (.atom rfl) (.cons (.atom rfl) .nil))
  rcases h (barePhi 3) W _ hP hargs with ⟨v', w', h1, _⟩ | ⟨_, h2⟩
  · have hb := bodyOf_spec body3
    have := callFunc_enter (args := ⟨[.int .i64 n, .bool b, .int .i16 q]⟩) (w := W) hb.1 hb.2.1 hb.2.2.2.2.2
    rw [this] at h1
    cases h1
  · refine h2.mono fun e w' ⟨v', he, ho⟩ => ?_
    obtain ⟨h3, h4⟩ := turn v' w' ho
    exact ⟨by rw [he, h3], h4⟩

set_option maxRecDepth 1000000 in
theorem lifted (os : Os) (started : os.Started) (H : Type) (enc : TypeId × Value → H) :
    ReturnsInHanded {} Tryz.checked os 3 .any (fun w args => (Rows.algebraPlainSpec.pre enc Tryz.prog Tryz.f3 [] false w args ∧ laidMetH Tryz.prog laidL w) ∧ sizedMet enc Tryz.prog Tryz.f3 (OpenSpec.ofChange Rows.algebraPlainSpec) false w args)
      (Rows.algebraPlainSpec.post enc Tryz.prog Tryz.f3 false true false false) := by
  refine returnsInHanded_of_change_and (C := Tryz.checked) (X := fun w _ => laidMetH Tryz.prog laidL w) (fun _ _ _ hh h => h.of_heap hh) own started (by kernel_rfl) Tryz.func3
    (ChangeSpec.witness_shaped (enc := enc) (C := Tryz.checked) (os := os) (X := fun w _ => laidMetH Tryz.prog laidL w) false (W0 os) wArgs 8 (World.laidAll_os _ _ _)
      (World.shaped_of_ZipB (w1 os) (w2 os)) (w3 os) (w4 os H enc) (w5 os H enc)
      (by rw [MakeChecks.laidMetH_plain _ _ _ w8]; exact laidMet_laidAll _ (w6 os) (w7 os))) ?_
  intro W base args ds gs before hval0 hW _ _ hL _
  have hval : ∀ (j : Nat) t v, Tryz.f3.params[j]? = some t → args[j]? = some v → Value.okWide Tryz.prog W .any base t v := hval0
  have hW' := hW
  obtain ⟨p, q, hA0, hV, rfl, _, _⟩ := hW
  have hA : DataW.TrodAll enc Tryz.prog W 0 (fun _ => true) true Tryz.f3.params.toList args.toList ds p := hA0
  rw [Tryz.params3] at hA hval
  obtain ⟨v0, v1, v2, d0, d1, d2, p0, p1, p2, rfl, rfl, rfl, h0, h1, h2⟩ := trodAll_three hA
  obtain ⟨rfl, rfl⟩ := trodVars_none hV
  obtain ⟨n, rfl, rfl, rfl, wn⟩ := open_int Tryz.underlying3 (hval 0 3 v0 rfl rfl) h0
  obtain ⟨b, rfl, rfl, rfl⟩ := open_bool Tryz.underlying4 (hval 1 4 v1 rfl rfl) h1
  obtain ⟨x, rfl, rfl, rfl, wx⟩ := open_int Tryz.underlying22 (hval 2 22 v2 rfl rfl) h2
  have bn := bounds_i64 wn
  have hx64 : isI64 (wrapF .i64 x) = true := wrap_small x
  simp only [List.append_nil] at hW'
  refine (plain_calls (n := n) (q := x) b (isI64_of bn.1 bn.2) hx64 W (three_blocks hL)).mono fun e W' ⟨he, hos, hout, hheap⟩ => ?_
  subst he
  exact ⟨_, rfl, _, _, _, [], [], [], hW', trodAll_mk1 (shut_bool Tryz.underlying4 _), trodAll_mk3 (shut_int Tryz.underlying3 wn) (shut_bool Tryz.underlying4 _) (shut_int Tryz.underlying22 wx), rfl,
    (World.keptBut_refl W _).congr hos hout hheap, fun h => by cases h⟩

theorem algebraPlain_holds : Rows.AlgebraPlainSaid :=
  OpenClaim.holds_of_wide 3 Tryz.f3 rfl rfl rfl rfl rfl rfl rfl ⟨rfl, rfl, rfl, rfl, rfl⟩ rfl rfl rfl rfl rfl (by kernel_rfl) Tryz.func3 joined_all
    (of_decide_eq_true (by kernel_rfl)) (by unfold Func.isWrapper; first | (rw [if_pos (by decide +kernel)]; kernel_rfl) | (rw [if_neg (by decide +kernel)]; exact ⟨rfl, rfl⟩))
    (fun os started H enc _ => lifted os started H enc)
#print axioms algebraPlain_holds
end Go.Proofs.YtfloogndmfkimaaGreatDoor

namespace Go.Proofs.YtfloogndmfkimaaGreatDoor
open Go
set_option maxRecDepth 100000

theorem no_go : Tryz.prog.funcs.any Func.goes = false := by kernel_rfl

theorem row_goes : false = Rows.algebraPlainRow.goesBy Tryz.pinned.checked.prog := by
  show false = Rows.algebraPlainRow.goesBy Tryz.prog
  have hf : Tryz.prog.funcNamed "viator/viatorlaw45.AlgebraPlain" = some 3 := by kernel_rfl
  have one : ∀ g : Nat, (Tryz.prog.funcs[g]?).any Func.goes = false := fun g => by
    cases hg : Tryz.prog.funcs[g]? with
    | none => rfl
    | some fn =>
      show Func.goes fn = false
      have hm := Array.mem_of_getElem? hg
      cases hgo : Func.goes fn with
      | false => rfl
      | true =>
        have : Tryz.prog.funcs.any Func.goes = true := Array.any_eq_true'.2 ⟨fn, hm, hgo⟩
        rw [no_go] at this
        cases this
  have hgoes : Tryz.prog.goes 3 = false := by
    unfold Program.goes
    have h1 : ((Tryz.prog.closure 3).any fun g => (Tryz.prog.funcs[g]?).any Func.goes) = false := by
      simp only [one]
      cases h : (Tryz.prog.closure 3).any (fun _ => false) with
      | false => rfl
      | true => simp at h
    rw [h1, no_go]
    simp
  have hfrom : Tryz.prog.goesFrom "viator/viatorlaw45.AlgebraPlain" = false := by
    unfold Program.goesFrom
    rw [hf, Option.any_some, hgoes]
  have hat : Rows.algebraPlainRow.goesBy Tryz.prog = (Tryz.prog.goesFrom "viator/viatorlaw45.AlgebraPlain" || false) := rfl
  rw [hat, hfrom]
  rfl

theorem card_holds : Rows.AlgebraPlainCardSaid :=
  Claim7.holds_tied_plain_at .later [] [.data, .pinned] true (true, "75885a6b000ff9bd1132648ce398705bb346b8725f886424b993f47b380488cc") false algebraPlain_holds (fun _ h => by cases h) (by kernel_rfl) (fun _ h => by cases h) algebraPlain_row_tie rfl ⟨rfl, rfl⟩ (by kernel_rfl) rfl
    (fun f fn hf hfn => by
      obtain rfl : f = 3 := Option.some.inj ((show Tryz.prog.funcNamed "viator/viatorlaw45.AlgebraPlain" = some 3 by kernel_rfl).symm.trans hf) |>.symm
      obtain rfl : fn = Tryz.f3 := (Option.some.inj (Tryz.func3.symm.trans hfn)).symm
      exact ⟨by kernel_rfl, fun j t ht => by
        rw [Tryz.params3] at ht
        have hm : t ∈ [3, 4, 22] := by simpa using Array.mem_of_getElem? ht
        have hall : ([3, 4, 22].all fun u => !Tryz.prog.wantsStandIn u) = true := by kernel_rfl
        exact (show Tryz.prog.wantsStandIn t = false by simpa using List.all_eq_true.1 hall t hm)⟩)
    row_goes
#print axioms card_holds
end Go.Proofs.YtfloogndmfkimaaGreatDoor
