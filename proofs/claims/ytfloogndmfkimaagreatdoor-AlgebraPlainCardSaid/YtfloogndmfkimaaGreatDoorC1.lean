/- Contracts of the functions of integer, told to the evaluator. -/
import Derived.Test.YtfloogndmfkimaaGreatDoorAm3
import Derived.Test.YtfloogndmfkimaaGreatDoorProg
import Derived.KernelRfl
import Derived.Lib.Bytealg

namespace Go.Proofs.YtfloogndmfkimaaGreatDoor
open Go Go.AM Go.Proofs

/-- The evaluator's surroundings, with nothing told. -/
noncomputable def Ea : Env := { P := Tryz.prog, eqs := fun _ => none, ext := fun _ => none }
theorem gsize : Ea.P.globals.size = 3 := by kernel_rfl
theorem body74 : bodyOf Ea 74 = some (Tryz.f74, Tryz.f74.body.getD .skip) := by kernel_rfl

/-- The number of binary digits. -/
def BL (u n : Nat) : Prop := u < 2 ^ n ∧ (n = 0 ∨ 2 ^ (n - 1) ≤ u)

def tab : List UInt8 := [0, 1, 2, 2, 3, 3, 3, 3, 4, 4, 4, 4, 4, 4, 4, 4] ++ List.replicate 16 5 ++ List.replicate 32 6 ++ List.replicate 64 7 ++ List.replicate 128 8

theorem tab_all : (List.range 256).all (fun k => match tab[k]? with | some b => decide (k < 2 ^ b.toNat) && (decide (b.toNat = 0) || decide (2 ^ (b.toNat - 1) ≤ k)) && decide (b.toNat ≤ 8) | none => false) = true := by kernel_rfl

theorem tab_spec {k : Nat} (hk : k < 256) : ∃ b, tab[k]? = some b ∧ BL k b.toNat ∧ b.toNat ≤ 8 := by
  have := List.all_eq_true.1 tab_all k (by simpa using hk)
  split at this
  · rename_i b hb
    simp only [Bool.and_eq_true, Bool.or_eq_true, decide_eq_true_eq] at this
    exact ⟨b, hb, ⟨this.1.1, this.1.2⟩, this.2⟩
  · cases this

theorem idx_tab {H : Heap} {k : Nat} {b : UInt8} (h : tab[k]? = some b) : indexOp Ea H 9 (.string ⟨⟨tab⟩⟩) (.int .u8 (.ofNat k)) = some ⟨.int .u8 (.ofNat b.toNat), H, [], false, []⟩ := by
  have hu : Ea.P.underlying 9 = some .string := by kernel_rfl
  unfold indexOp
  simp [asNat, hu, h, done]

theorem wrap64 {n : Nat} (h : n < 9223372036854775808) : wrapF .i64 (.ofNat n) = .ofNat n := by
  have e : (Int.ofNat n % 18446744073709551616) = .ofNat n := by
    have : (n : Int) % 18446744073709551616 = n := Int.emod_eq_of_lt (by omega) (by omega)
    exact this
  have hb : Nat.blt n 9223372036854775808 = true := by rw [Nat.blt_eq]; exact h
  simp only [wrapF, e, hb]

theorem BL.shift {u s k n : Nat} (h : u / 2 ^ s = k) (hk : 1 ≤ k ∨ s = 0) (b : BL k n) : BL u (s + n) := by
  obtain ⟨h1, h2⟩ := b
  have hp : 0 < 2 ^ s := Nat.two_pow_pos s
  refine ⟨?_, ?_⟩
  · rw [Nat.pow_add, Nat.mul_comm]
    exact (Nat.div_lt_iff_lt_mul hp).1 (h ▸ h1)
  · by_cases hn : n = 0
    · subst hn
      have : k = 0 := by simpa using h1
      rcases hk with hk | hk
      · omega
      · exact .inl (by omega)
    · right
      have h2' : 2 ^ (n - 1) ≤ k := h2.resolve_left hn
      rw [show s + n - 1 = (n - 1) + s by omega, Nat.pow_add]
      exact (Nat.le_div_iff_mul_le hp).1 (h ▸ h2')

set_option maxRecDepth 100000
set_option maxHeartbeats 4000000

theorem len_fff (u : Nat) {b : UInt8} (h1 : ¬ (4294967296 : Int) ≤ Int.ofNat (u)) (h2 : ¬ (65536 : Int) ≤ Int.ofNat (u)) (h3 : ¬ (256 : Int) ≤ Int.ofNat (u)) (hb : tab[(u) % 256]? = some b) :
    call Ea 20 74 [.int .u64 (.ofNat u)] (bare 3) = some ⟨.int .i64 (wrapF .i64 (0 + wrapF .i64 (.ofNat b.toNat))), bare 3, []⟩ := by
  refine call_runs rfl body74 rfl ?_
  refine .seq rfl ?_
  refine .seqK (.seq rfl ?_)
  refine .condF (boolF h1) (.now rfl ?_)
  refine .seqK (.seq rfl ?_)
  refine .condF (boolF h2) (.now rfl ?_)
  refine .seqK (.seq rfl ?_)
  refine .condF (boolF h3) (.now rfl ?_)
  refine .seqK (.region ?_)
  refine .cons rfl rfl (.cons rfl rfl (.cons rfl rfl ?_))
  refine .cons rfl (idx_tab hb) ?_
  refine .cons rfl rfl (.cons rfl rfl (.cons rfl rfl (.nil ?_)))
  exact .now rfl ⟨trivial, _, rfl, rfl⟩

theorem len_fft (u : Nat) {b : UInt8} (h1 : ¬ (4294967296 : Int) ≤ Int.ofNat (u)) (h2 : ¬ (65536 : Int) ≤ Int.ofNat (u)) (h3 : (256 : Int) ≤ Int.ofNat (u)) (hb : tab[(Nat.div (u) (2 ^ 8)) % 256]? = some b) :
    call Ea 20 74 [.int .u64 (.ofNat u)] (bare 3) = some ⟨.int .i64 (wrapF .i64 ((wrapF .i64 (0 + 8)) + wrapF .i64 (.ofNat b.toNat))), bare 3, []⟩ := by
  refine call_runs rfl body74 rfl ?_
  refine .seq rfl ?_
  refine .seqK (.seq rfl ?_)
  refine .condF (boolF h1) (.now rfl ?_)
  refine .seqK (.seq rfl ?_)
  refine .condF (boolF h2) (.now rfl ?_)
  refine .seqK (.seq rfl ?_)
  refine .condT (boolT h3) (.now rfl ?_)
  refine .seqK (.region ?_)
  refine .cons rfl rfl (.cons rfl rfl (.cons rfl rfl ?_))
  refine .cons rfl (idx_tab hb) ?_
  refine .cons rfl rfl (.cons rfl rfl (.cons rfl rfl (.nil ?_)))
  exact .now rfl ⟨trivial, _, rfl, rfl⟩

theorem len_ftf (u : Nat) {b : UInt8} (h1 : ¬ (4294967296 : Int) ≤ Int.ofNat (u)) (h2 : (65536 : Int) ≤ Int.ofNat (u)) (h3 : ¬ (256 : Int) ≤ Int.ofNat (Nat.div (u) (2 ^ 16))) (hb : tab[(Nat.div (u) (2 ^ 16)) % 256]? = some b) :
    call Ea 20 74 [.int .u64 (.ofNat u)] (bare 3) = some ⟨.int .i64 (wrapF .i64 ((wrapF .i64 (0 + 16)) + wrapF .i64 (.ofNat b.toNat))), bare 3, []⟩ := by
  refine call_runs rfl body74 rfl ?_
  refine .seq rfl ?_
  refine .seqK (.seq rfl ?_)
  refine .condF (boolF h1) (.now rfl ?_)
  refine .seqK (.seq rfl ?_)
  refine .condT (boolT h2) (.now rfl ?_)
  refine .seqK (.seq rfl ?_)
  refine .condF (boolF h3) (.now rfl ?_)
  refine .seqK (.region ?_)
  refine .cons rfl rfl (.cons rfl rfl (.cons rfl rfl ?_))
  refine .cons rfl (idx_tab hb) ?_
  refine .cons rfl rfl (.cons rfl rfl (.cons rfl rfl (.nil ?_)))
  exact .now rfl ⟨trivial, _, rfl, rfl⟩

theorem len_ftt (u : Nat) {b : UInt8} (h1 : ¬ (4294967296 : Int) ≤ Int.ofNat (u)) (h2 : (65536 : Int) ≤ Int.ofNat (u)) (h3 : (256 : Int) ≤ Int.ofNat (Nat.div (u) (2 ^ 16))) (hb : tab[(Nat.div (Nat.div (u) (2 ^ 16)) (2 ^ 8)) % 256]? = some b) :
    call Ea 20 74 [.int .u64 (.ofNat u)] (bare 3) = some ⟨.int .i64 (wrapF .i64 ((wrapF .i64 ((wrapF .i64 (0 + 16)) + 8)) + wrapF .i64 (.ofNat b.toNat))), bare 3, []⟩ := by
  refine call_runs rfl body74 rfl ?_
  refine .seq rfl ?_
  refine .seqK (.seq rfl ?_)
  refine .condF (boolF h1) (.now rfl ?_)
  refine .seqK (.seq rfl ?_)
  refine .condT (boolT h2) (.now rfl ?_)
  refine .seqK (.seq rfl ?_)
  refine .condT (boolT h3) (.now rfl ?_)
  refine .seqK (.region ?_)
  refine .cons rfl rfl (.cons rfl rfl (.cons rfl rfl ?_))
  refine .cons rfl (idx_tab hb) ?_
  refine .cons rfl rfl (.cons rfl rfl (.cons rfl rfl (.nil ?_)))
  exact .now rfl ⟨trivial, _, rfl, rfl⟩

theorem len_tff (u : Nat) {b : UInt8} (h1 : (4294967296 : Int) ≤ Int.ofNat (u)) (h2 : ¬ (65536 : Int) ≤ Int.ofNat (Nat.div (u) (2 ^ 32))) (h3 : ¬ (256 : Int) ≤ Int.ofNat (Nat.div (u) (2 ^ 32))) (hb : tab[(Nat.div (u) (2 ^ 32)) % 256]? = some b) :
    call Ea 20 74 [.int .u64 (.ofNat u)] (bare 3) = some ⟨.int .i64 (wrapF .i64 (32 + wrapF .i64 (.ofNat b.toNat))), bare 3, []⟩ := by
  refine call_runs rfl body74 rfl ?_
  refine .seq rfl ?_
  refine .seqK (.seq rfl ?_)
  refine .condT (boolT h1) (.now rfl ?_)
  refine .seqK (.seq rfl ?_)
  refine .condF (boolF h2) (.now rfl ?_)
  refine .seqK (.seq rfl ?_)
  refine .condF (boolF h3) (.now rfl ?_)
  refine .seqK (.region ?_)
  refine .cons rfl rfl (.cons rfl rfl (.cons rfl rfl ?_))
  refine .cons rfl (idx_tab hb) ?_
  refine .cons rfl rfl (.cons rfl rfl (.cons rfl rfl (.nil ?_)))
  exact .now rfl ⟨trivial, _, rfl, rfl⟩

theorem len_tft (u : Nat) {b : UInt8} (h1 : (4294967296 : Int) ≤ Int.ofNat (u)) (h2 : ¬ (65536 : Int) ≤ Int.ofNat (Nat.div (u) (2 ^ 32))) (h3 : (256 : Int) ≤ Int.ofNat (Nat.div (u) (2 ^ 32))) (hb : tab[(Nat.div (Nat.div (u) (2 ^ 32)) (2 ^ 8)) % 256]? = some b) :
    call Ea 20 74 [.int .u64 (.ofNat u)] (bare 3) = some ⟨.int .i64 (wrapF .i64 ((wrapF .i64 (32 + 8)) + wrapF .i64 (.ofNat b.toNat))), bare 3, []⟩ := by
  refine call_runs rfl body74 rfl ?_
  refine .seq rfl ?_
  refine .seqK (.seq rfl ?_)
  refine .condT (boolT h1) (.now rfl ?_)
  refine .seqK (.seq rfl ?_)
  refine .condF (boolF h2) (.now rfl ?_)
  refine .seqK (.seq rfl ?_)
  refine .condT (boolT h3) (.now rfl ?_)
  refine .seqK (.region ?_)
  refine .cons rfl rfl (.cons rfl rfl (.cons rfl rfl ?_))
  refine .cons rfl (idx_tab hb) ?_
  refine .cons rfl rfl (.cons rfl rfl (.cons rfl rfl (.nil ?_)))
  exact .now rfl ⟨trivial, _, rfl, rfl⟩

theorem len_ttf (u : Nat) {b : UInt8} (h1 : (4294967296 : Int) ≤ Int.ofNat (u)) (h2 : (65536 : Int) ≤ Int.ofNat (Nat.div (u) (2 ^ 32))) (h3 : ¬ (256 : Int) ≤ Int.ofNat (Nat.div (Nat.div (u) (2 ^ 32)) (2 ^ 16))) (hb : tab[(Nat.div (Nat.div (u) (2 ^ 32)) (2 ^ 16)) % 256]? = some b) :
    call Ea 20 74 [.int .u64 (.ofNat u)] (bare 3) = some ⟨.int .i64 (wrapF .i64 ((wrapF .i64 (32 + 16)) + wrapF .i64 (.ofNat b.toNat))), bare 3, []⟩ := by
  refine call_runs rfl body74 rfl ?_
  refine .seq rfl ?_
  refine .seqK (.seq rfl ?_)
  refine .condT (boolT h1) (.now rfl ?_)
  refine .seqK (.seq rfl ?_)
  refine .condT (boolT h2) (.now rfl ?_)
  refine .seqK (.seq rfl ?_)
  refine .condF (boolF h3) (.now rfl ?_)
  refine .seqK (.region ?_)
  refine .cons rfl rfl (.cons rfl rfl (.cons rfl rfl ?_))
  refine .cons rfl (idx_tab hb) ?_
  refine .cons rfl rfl (.cons rfl rfl (.cons rfl rfl (.nil ?_)))
  exact .now rfl ⟨trivial, _, rfl, rfl⟩

theorem len_ttt (u : Nat) {b : UInt8} (h1 : (4294967296 : Int) ≤ Int.ofNat (u)) (h2 : (65536 : Int) ≤ Int.ofNat (Nat.div (u) (2 ^ 32))) (h3 : (256 : Int) ≤ Int.ofNat (Nat.div (Nat.div (u) (2 ^ 32)) (2 ^ 16))) (hb : tab[(Nat.div (Nat.div (Nat.div (u) (2 ^ 32)) (2 ^ 16)) (2 ^ 8)) % 256]? = some b) :
    call Ea 20 74 [.int .u64 (.ofNat u)] (bare 3) = some ⟨.int .i64 (wrapF .i64 ((wrapF .i64 ((wrapF .i64 (32 + 16)) + 8)) + wrapF .i64 (.ofNat b.toNat))), bare 3, []⟩ := by
  refine call_runs rfl body74 rfl ?_
  refine .seq rfl ?_
  refine .seqK (.seq rfl ?_)
  refine .condT (boolT h1) (.now rfl ?_)
  refine .seqK (.seq rfl ?_)
  refine .condT (boolT h2) (.now rfl ?_)
  refine .seqK (.seq rfl ?_)
  refine .condT (boolT h3) (.now rfl ?_)
  refine .seqK (.region ?_)
  refine .cons rfl rfl (.cons rfl rfl (.cons rfl rfl ?_))
  refine .cons rfl (idx_tab hb) ?_
  refine .cons rfl rfl (.cons rfl rfl (.cons rfl rfl (.nil ?_)))
  exact .now rfl ⟨trivial, _, rfl, rfl⟩

/-- The contract. -/
theorem len_ok {u : Nat} (hu : u < 18446744073709551616) : ∃ n, BL u n ∧ n ≤ 64 ∧ call Ea 20 74 [.int .u64 (.ofNat u)] (bare 3) = some ⟨.int .i64 (.ofNat n), bare 3, []⟩ := by
  by_cases h1 : (4294967296 : Int) ≤ Int.ofNat (u)
  · have g1 : 4294967296 ≤ u := by exact Int.ofNat_le.1 h1
    by_cases h2 : (65536 : Int) ≤ Int.ofNat ((u / 2 ^ 32))
    · have g2 : 65536 ≤ (u / 2 ^ 32) := by exact Int.ofNat_le.1 h2
      by_cases h3 : (256 : Int) ≤ Int.ofNat (((u / 2 ^ 32) / 2 ^ 16))
      · have g3 : 256 ≤ ((u / 2 ^ 32) / 2 ^ 16) := by exact Int.ofNat_le.1 h3
        have hk : (((u / 2 ^ 32) / 2 ^ 16) / 2 ^ 8) % 256 = u / 2 ^ 56 := by
          omega
        obtain ⟨b, e1, e2, e3⟩ := tab_spec (k := (((u / 2 ^ 32) / 2 ^ 16) / 2 ^ 8) % 256) (by omega)
        refine ⟨56 + b.toNat, BL.shift (hk.symm) (.inl (by omega)) e2, by omega, ?_⟩
        have hr := len_ttt u h1 h2 h3 e1
        rw [hr]
        have hv : wrapF .i64 ((wrapF .i64 ((wrapF .i64 (32 + 16)) + 8)) + wrapF .i64 (.ofNat b.toNat)) = .ofNat (56 + b.toNat) := by
          rw [wrap64 (n := b.toNat) (by omega)]
          exact wrap64 (n := 56 + b.toNat) (by omega)
        rw [hv]
      · have g3 : ¬ 256 ≤ ((u / 2 ^ 32) / 2 ^ 16) := fun h => h3 (Int.ofNat_le.2 h)
        have hk : ((u / 2 ^ 32) / 2 ^ 16) % 256 = u / 2 ^ 48 := by
          omega
        obtain ⟨b, e1, e2, e3⟩ := tab_spec (k := ((u / 2 ^ 32) / 2 ^ 16) % 256) (by omega)
        refine ⟨48 + b.toNat, BL.shift (hk.symm) (.inl (by omega)) e2, by omega, ?_⟩
        have hr := len_ttf u h1 h2 h3 e1
        rw [hr]
        have hv : wrapF .i64 ((wrapF .i64 (32 + 16)) + wrapF .i64 (.ofNat b.toNat)) = .ofNat (48 + b.toNat) := by
          rw [wrap64 (n := b.toNat) (by omega)]
          exact wrap64 (n := 48 + b.toNat) (by omega)
        rw [hv]
    · have g2 : ¬ 65536 ≤ (u / 2 ^ 32) := fun h => h2 (Int.ofNat_le.2 h)
      by_cases h3 : (256 : Int) ≤ Int.ofNat ((u / 2 ^ 32))
      · have g3 : 256 ≤ (u / 2 ^ 32) := by exact Int.ofNat_le.1 h3
        have hk : ((u / 2 ^ 32) / 2 ^ 8) % 256 = u / 2 ^ 40 := by
          omega
        obtain ⟨b, e1, e2, e3⟩ := tab_spec (k := ((u / 2 ^ 32) / 2 ^ 8) % 256) (by omega)
        refine ⟨40 + b.toNat, BL.shift (hk.symm) (.inl (by omega)) e2, by omega, ?_⟩
        have hr := len_tft u h1 h2 h3 e1
        rw [hr]
        have hv : wrapF .i64 ((wrapF .i64 (32 + 8)) + wrapF .i64 (.ofNat b.toNat)) = .ofNat (40 + b.toNat) := by
          rw [wrap64 (n := b.toNat) (by omega)]
          exact wrap64 (n := 40 + b.toNat) (by omega)
        rw [hv]
      · have g3 : ¬ 256 ≤ (u / 2 ^ 32) := fun h => h3 (Int.ofNat_le.2 h)
        have hk : (u / 2 ^ 32) % 256 = u / 2 ^ 32 := by
          omega
        obtain ⟨b, e1, e2, e3⟩ := tab_spec (k := (u / 2 ^ 32) % 256) (by omega)
        refine ⟨32 + b.toNat, BL.shift (hk.symm) (.inl (by omega)) e2, by omega, ?_⟩
        have hr := len_tff u h1 h2 h3 e1
        rw [hr]
        have hv : wrapF .i64 (32 + wrapF .i64 (.ofNat b.toNat)) = .ofNat (32 + b.toNat) := by
          rw [wrap64 (n := b.toNat) (by omega)]
          exact wrap64 (n := 32 + b.toNat) (by omega)
        rw [hv]
  · have g1 : ¬ 4294967296 ≤ u := fun h => h1 (Int.ofNat_le.2 h)
    by_cases h2 : (65536 : Int) ≤ Int.ofNat (u)
    · have g2 : 65536 ≤ u := by exact Int.ofNat_le.1 h2
      by_cases h3 : (256 : Int) ≤ Int.ofNat ((u / 2 ^ 16))
      · have g3 : 256 ≤ (u / 2 ^ 16) := by exact Int.ofNat_le.1 h3
        have hk : ((u / 2 ^ 16) / 2 ^ 8) % 256 = u / 2 ^ 24 := by
          omega
        obtain ⟨b, e1, e2, e3⟩ := tab_spec (k := ((u / 2 ^ 16) / 2 ^ 8) % 256) (by omega)
        refine ⟨24 + b.toNat, BL.shift (hk.symm) (.inl (by omega)) e2, by omega, ?_⟩
        have hr := len_ftt u h1 h2 h3 e1
        rw [hr]
        have hv : wrapF .i64 ((wrapF .i64 ((wrapF .i64 (0 + 16)) + 8)) + wrapF .i64 (.ofNat b.toNat)) = .ofNat (24 + b.toNat) := by
          rw [wrap64 (n := b.toNat) (by omega)]
          exact wrap64 (n := 24 + b.toNat) (by omega)
        rw [hv]
      · have g3 : ¬ 256 ≤ (u / 2 ^ 16) := fun h => h3 (Int.ofNat_le.2 h)
        have hk : (u / 2 ^ 16) % 256 = u / 2 ^ 16 := by
          omega
        obtain ⟨b, e1, e2, e3⟩ := tab_spec (k := (u / 2 ^ 16) % 256) (by omega)
        refine ⟨16 + b.toNat, BL.shift (hk.symm) (.inl (by omega)) e2, by omega, ?_⟩
        have hr := len_ftf u h1 h2 h3 e1
        rw [hr]
        have hv : wrapF .i64 ((wrapF .i64 (0 + 16)) + wrapF .i64 (.ofNat b.toNat)) = .ofNat (16 + b.toNat) := by
          rw [wrap64 (n := b.toNat) (by omega)]
          exact wrap64 (n := 16 + b.toNat) (by omega)
        rw [hv]
    · have g2 : ¬ 65536 ≤ u := fun h => h2 (Int.ofNat_le.2 h)
      by_cases h3 : (256 : Int) ≤ Int.ofNat (u)
      · have g3 : 256 ≤ u := by exact Int.ofNat_le.1 h3
        have hk : (u / 2 ^ 8) % 256 = u / 2 ^ 8 := by
          omega
        obtain ⟨b, e1, e2, e3⟩ := tab_spec (k := (u / 2 ^ 8) % 256) (by omega)
        refine ⟨8 + b.toNat, BL.shift (hk.symm) (.inl (by omega)) e2, by omega, ?_⟩
        have hr := len_fft u h1 h2 h3 e1
        rw [hr]
        have hv : wrapF .i64 ((wrapF .i64 (0 + 8)) + wrapF .i64 (.ofNat b.toNat)) = .ofNat (8 + b.toNat) := by
          rw [wrap64 (n := b.toNat) (by omega)]
          exact wrap64 (n := 8 + b.toNat) (by omega)
        rw [hv]
      · have g3 : ¬ 256 ≤ u := fun h => h3 (Int.ofNat_le.2 h)
        have hk : u % 256 = u / 2 ^ 0 := by
          omega
        obtain ⟨b, e1, e2, e3⟩ := tab_spec (k := u % 256) (by omega)
        refine ⟨0 + b.toNat, BL.shift (hk.symm) (.inr rfl) e2, by omega, ?_⟩
        have hr := len_fff u h1 h2 h3 e1
        rw [hr]
        have hv : wrapF .i64 (0 + wrapF .i64 (.ofNat b.toNat)) = .ofNat (0 + b.toNat) := by
          rw [wrap64 (n := b.toNat) (by omega)]
          exact wrap64 (n := 0 + b.toNat) (by omega)
        rw [hv]

end Go.Proofs.YtfloogndmfkimaaGreatDoor

namespace Go.Proofs.YtfloogndmfkimaaGreatDoor
open Go Go.AM Go.Proofs
theorem body29 : bodyOf Ea 29 = some (Tryz.f29, Tryz.f29.body.getD .skip) := by kernel_rfl

/-- The n lowest bytes of a number, the highest one first. -/
def magL : Nat → Nat → List UInt8
  | 0, _ => []
  | n + 1, u => UInt8.ofNat (u / 256 ^ n % 256) :: magL n u

theorem quo8 {L n : Nat} (h : (L + 7) / 8 = n) (hL : L ≤ 64) : wrapF .i64 ((wrapF .i64 (.ofNat L + 7)).tdiv 8) = .ofNat n := by
  have e1 : wrapF .i64 (.ofNat L + 7) = .ofNat (L + 7) := wrap64 (n := L + 7) (by omega)
  rw [e1]
  have e2 : (Int.ofNat (L + 7)).tdiv 8 = .ofNat ((L + 7) / 8) := rfl
  rw [e2, h]
  exact wrap64 (by omega)

set_option maxRecDepth 100000
set_option maxHeartbeats 4000000

theorem mag_1 {u L : Nat} (h0 : ¬ Int.ofNat u = 0) (hc : call Ea 30 74 [.int .u64 (.ofNat u)] (bare 3) = some ⟨.int .i64 (.ofNat L), bare 3, []⟩) (hn : (L + 7) / 8 = 1) (hL : L ≤ 64) :
    call Ea 34 29 [.int .u64 (.ofNat u)] (bare 3) = some ⟨.string ⟨⟨magL 1 u⟩⟩, bare 3, []⟩ := by
  refine call_runs rfl body29 rfl ?_
  refine .seq rfl ?_
  refine .seqK (.seq rfl ?_)
  refine .condF (boolF h0) (.now rfl ?_)
  refine .seqK (.region ?_)
  refine .cons rfl rfl (.cons rfl (step_told hc rfl) (.cons rfl rfl ?_))
  refine .cons rfl (q := ⟨.int .i64 (.ofNat 1), bare 3, [], false, []⟩) (congrArg (fun z => some (OpRes.mk (Value.int .i64 z) (bare 3) [] false [])) (quo8 hn hL)) ?_
  refine .cons rfl rfl (.nil ?_)
  refine .seq rfl ?_
  refine .seq rfl ?_
  refine .seq rfl ?_
  exact .now rfl ⟨trivial, _, rfl, rfl⟩

theorem mag_2 {u L : Nat} (h0 : ¬ Int.ofNat u = 0) (hc : call Ea 30 74 [.int .u64 (.ofNat u)] (bare 3) = some ⟨.int .i64 (.ofNat L), bare 3, []⟩) (hn : (L + 7) / 8 = 2) (hL : L ≤ 64) :
    call Ea 34 29 [.int .u64 (.ofNat u)] (bare 3) = some ⟨.string ⟨⟨magL 2 u⟩⟩, bare 3, []⟩ := by
  refine call_runs rfl body29 rfl ?_
  refine .seq rfl ?_
  refine .seqK (.seq rfl ?_)
  refine .condF (boolF h0) (.now rfl ?_)
  refine .seqK (.region ?_)
  refine .cons rfl rfl (.cons rfl (step_told hc rfl) (.cons rfl rfl ?_))
  refine .cons rfl (q := ⟨.int .i64 (.ofNat 2), bare 3, [], false, []⟩) (congrArg (fun z => some (OpRes.mk (Value.int .i64 z) (bare 3) [] false [])) (quo8 hn hL)) ?_
  refine .cons rfl rfl (.nil ?_)
  refine .seq rfl ?_
  refine .seq rfl ?_
  refine .seq rfl ?_
  exact .now rfl ⟨trivial, _, rfl, rfl⟩

theorem mag_3 {u L : Nat} (h0 : ¬ Int.ofNat u = 0) (hc : call Ea 30 74 [.int .u64 (.ofNat u)] (bare 3) = some ⟨.int .i64 (.ofNat L), bare 3, []⟩) (hn : (L + 7) / 8 = 3) (hL : L ≤ 64) :
    call Ea 34 29 [.int .u64 (.ofNat u)] (bare 3) = some ⟨.string ⟨⟨magL 3 u⟩⟩, bare 3, []⟩ := by
  refine call_runs rfl body29 rfl ?_
  refine .seq rfl ?_
  refine .seqK (.seq rfl ?_)
  refine .condF (boolF h0) (.now rfl ?_)
  refine .seqK (.region ?_)
  refine .cons rfl rfl (.cons rfl (step_told hc rfl) (.cons rfl rfl ?_))
  refine .cons rfl (q := ⟨.int .i64 (.ofNat 3), bare 3, [], false, []⟩) (congrArg (fun z => some (OpRes.mk (Value.int .i64 z) (bare 3) [] false [])) (quo8 hn hL)) ?_
  refine .cons rfl rfl (.nil ?_)
  refine .seq rfl ?_
  refine .seq rfl ?_
  refine .seq rfl ?_
  exact .now rfl ⟨trivial, _, rfl, rfl⟩

theorem mag_4 {u L : Nat} (h0 : ¬ Int.ofNat u = 0) (hc : call Ea 30 74 [.int .u64 (.ofNat u)] (bare 3) = some ⟨.int .i64 (.ofNat L), bare 3, []⟩) (hn : (L + 7) / 8 = 4) (hL : L ≤ 64) :
    call Ea 34 29 [.int .u64 (.ofNat u)] (bare 3) = some ⟨.string ⟨⟨magL 4 u⟩⟩, bare 3, []⟩ := by
  refine call_runs rfl body29 rfl ?_
  refine .seq rfl ?_
  refine .seqK (.seq rfl ?_)
  refine .condF (boolF h0) (.now rfl ?_)
  refine .seqK (.region ?_)
  refine .cons rfl rfl (.cons rfl (step_told hc rfl) (.cons rfl rfl ?_))
  refine .cons rfl (q := ⟨.int .i64 (.ofNat 4), bare 3, [], false, []⟩) (congrArg (fun z => some (OpRes.mk (Value.int .i64 z) (bare 3) [] false [])) (quo8 hn hL)) ?_
  refine .cons rfl rfl (.nil ?_)
  refine .seq rfl ?_
  refine .seq rfl ?_
  refine .seq rfl ?_
  exact .now rfl ⟨trivial, _, rfl, rfl⟩

theorem mag_5 {u L : Nat} (h0 : ¬ Int.ofNat u = 0) (hc : call Ea 30 74 [.int .u64 (.ofNat u)] (bare 3) = some ⟨.int .i64 (.ofNat L), bare 3, []⟩) (hn : (L + 7) / 8 = 5) (hL : L ≤ 64) :
    call Ea 34 29 [.int .u64 (.ofNat u)] (bare 3) = some ⟨.string ⟨⟨magL 5 u⟩⟩, bare 3, []⟩ := by
  refine call_runs rfl body29 rfl ?_
  refine .seq rfl ?_
  refine .seqK (.seq rfl ?_)
  refine .condF (boolF h0) (.now rfl ?_)
  refine .seqK (.region ?_)
  refine .cons rfl rfl (.cons rfl (step_told hc rfl) (.cons rfl rfl ?_))
  refine .cons rfl (q := ⟨.int .i64 (.ofNat 5), bare 3, [], false, []⟩) (congrArg (fun z => some (OpRes.mk (Value.int .i64 z) (bare 3) [] false [])) (quo8 hn hL)) ?_
  refine .cons rfl rfl (.nil ?_)
  refine .seq rfl ?_
  refine .seq rfl ?_
  refine .seq rfl ?_
  exact .now rfl ⟨trivial, _, rfl, rfl⟩

theorem mag_6 {u L : Nat} (h0 : ¬ Int.ofNat u = 0) (hc : call Ea 30 74 [.int .u64 (.ofNat u)] (bare 3) = some ⟨.int .i64 (.ofNat L), bare 3, []⟩) (hn : (L + 7) / 8 = 6) (hL : L ≤ 64) :
    call Ea 34 29 [.int .u64 (.ofNat u)] (bare 3) = some ⟨.string ⟨⟨magL 6 u⟩⟩, bare 3, []⟩ := by
  refine call_runs rfl body29 rfl ?_
  refine .seq rfl ?_
  refine .seqK (.seq rfl ?_)
  refine .condF (boolF h0) (.now rfl ?_)
  refine .seqK (.region ?_)
  refine .cons rfl rfl (.cons rfl (step_told hc rfl) (.cons rfl rfl ?_))
  refine .cons rfl (q := ⟨.int .i64 (.ofNat 6), bare 3, [], false, []⟩) (congrArg (fun z => some (OpRes.mk (Value.int .i64 z) (bare 3) [] false [])) (quo8 hn hL)) ?_
  refine .cons rfl rfl (.nil ?_)
  refine .seq rfl ?_
  refine .seq rfl ?_
  refine .seq rfl ?_
  exact .now rfl ⟨trivial, _, rfl, rfl⟩

theorem mag_7 {u L : Nat} (h0 : ¬ Int.ofNat u = 0) (hc : call Ea 30 74 [.int .u64 (.ofNat u)] (bare 3) = some ⟨.int .i64 (.ofNat L), bare 3, []⟩) (hn : (L + 7) / 8 = 7) (hL : L ≤ 64) :
    call Ea 34 29 [.int .u64 (.ofNat u)] (bare 3) = some ⟨.string ⟨⟨magL 7 u⟩⟩, bare 3, []⟩ := by
  refine call_runs rfl body29 rfl ?_
  refine .seq rfl ?_
  refine .seqK (.seq rfl ?_)
  refine .condF (boolF h0) (.now rfl ?_)
  refine .seqK (.region ?_)
  refine .cons rfl rfl (.cons rfl (step_told hc rfl) (.cons rfl rfl ?_))
  refine .cons rfl (q := ⟨.int .i64 (.ofNat 7), bare 3, [], false, []⟩) (congrArg (fun z => some (OpRes.mk (Value.int .i64 z) (bare 3) [] false [])) (quo8 hn hL)) ?_
  refine .cons rfl rfl (.nil ?_)
  refine .seq rfl ?_
  refine .seq rfl ?_
  refine .seq rfl ?_
  exact .now rfl ⟨trivial, _, rfl, rfl⟩

theorem mag_8 {u L : Nat} (h0 : ¬ Int.ofNat u = 0) (hc : call Ea 30 74 [.int .u64 (.ofNat u)] (bare 3) = some ⟨.int .i64 (.ofNat L), bare 3, []⟩) (hn : (L + 7) / 8 = 8) (hL : L ≤ 64) :
    call Ea 34 29 [.int .u64 (.ofNat u)] (bare 3) = some ⟨.string ⟨⟨magL 8 u⟩⟩, bare 3, []⟩ := by
  refine call_runs rfl body29 rfl ?_
  refine .seq rfl ?_
  refine .seqK (.seq rfl ?_)
  refine .condF (boolF h0) (.now rfl ?_)
  refine .seqK (.region ?_)
  refine .cons rfl rfl (.cons rfl (step_told hc rfl) (.cons rfl rfl ?_))
  refine .cons rfl (q := ⟨.int .i64 (.ofNat 8), bare 3, [], false, []⟩) (congrArg (fun z => some (OpRes.mk (Value.int .i64 z) (bare 3) [] false [])) (quo8 hn hL)) ?_
  refine .cons rfl rfl (.nil ?_)
  refine .seq rfl ?_
  refine .seq rfl ?_
  refine .seq rfl ?_
  exact .now rfl ⟨trivial, _, rfl, rfl⟩

theorem mag_0 : call Ea 34 29 [.int .u64 0] (bare 3) = some ⟨.string ⟨⟨[]⟩⟩, bare 3, []⟩ := by kernel_rfl

/-- The contract: as many bytes as are needed. -/
theorem mag_ok {u : Nat} (hu : u < 18446744073709551616) : ∃ n, n ≤ 8 ∧ u < 256 ^ n ∧ (n = 0 ∨ 256 ^ (n - 1) ≤ u) ∧ call Ea 34 29 [.int .u64 (.ofNat u)] (bare 3) = some ⟨.string ⟨⟨magL n u⟩⟩, bare 3, []⟩ := by
  by_cases h0 : u = 0
  · subst h0
    exact ⟨0, by omega, by decide, .inl rfl, mag_0⟩
  · obtain ⟨L, ⟨h1, h2⟩, h3, h4⟩ := len_ok hu
    have hc := call_mono (show 20 ≤ 30 by omega) _ _ _ _ h4
    have h0' : ¬ Int.ofNat u = 0 := by
      intro h
      exact h0 (by simpa using h)
    have hL0 : L ≠ 0 := by
      intro h
      subst h
      simp at h1
      omega
    have h2' := h2.resolve_left hL0
    have key : ∀ n, 1 ≤ n → (L + 7) / 8 = n → u < 256 ^ n ∧ (n = 0 ∨ 256 ^ (n - 1) ≤ u) := by
      intro n h1n hn
      have e1 : (256 : Nat) ^ n = 2 ^ (8 * n) := by rw [Nat.pow_mul]
      have e2 : (256 : Nat) ^ (n - 1) = 2 ^ (8 * (n - 1)) := by rw [Nat.pow_mul]
      rw [e1, e2]
      exact ⟨Nat.lt_of_lt_of_le h1 (Nat.pow_le_pow_right (by omega) (by omega)), .inr (Nat.le_trans (Nat.pow_le_pow_right (by omega) (by omega)) h2')⟩
    have hcase : (L + 7) / 8 = 1 ∨ (L + 7) / 8 = 2 ∨ (L + 7) / 8 = 3 ∨ (L + 7) / 8 = 4 ∨ (L + 7) / 8 = 5 ∨ (L + 7) / 8 = 6 ∨ (L + 7) / 8 = 7 ∨ (L + 7) / 8 = 8 := by omega
    rcases hcase with h | h | h | h | h | h | h | h
    · obtain ⟨k1, k2⟩ := key 1 (by omega) h
      exact ⟨1, by omega, k1, k2, mag_1 h0' hc h h3⟩
    · obtain ⟨k1, k2⟩ := key 2 (by omega) h
      exact ⟨2, by omega, k1, k2, mag_2 h0' hc h h3⟩
    · obtain ⟨k1, k2⟩ := key 3 (by omega) h
      exact ⟨3, by omega, k1, k2, mag_3 h0' hc h h3⟩
    · obtain ⟨k1, k2⟩ := key 4 (by omega) h
      exact ⟨4, by omega, k1, k2, mag_4 h0' hc h h3⟩
    · obtain ⟨k1, k2⟩ := key 5 (by omega) h
      exact ⟨5, by omega, k1, k2, mag_5 h0' hc h h3⟩
    · obtain ⟨k1, k2⟩ := key 6 (by omega) h
      exact ⟨6, by omega, k1, k2, mag_6 h0' hc h h3⟩
    · obtain ⟨k1, k2⟩ := key 7 (by omega) h
      exact ⟨7, by omega, k1, k2, mag_7 h0' hc h h3⟩
    · obtain ⟨k1, k2⟩ := key 8 (by omega) h
      exact ⟨8, by omega, k1, k2, mag_8 h0' hc h h3⟩

end Go.Proofs.YtfloogndmfkimaaGreatDoor

namespace Go.Proofs.YtfloogndmfkimaaGreatDoor
open Go Go.AM Go.Proofs
theorem body250 : bodyOf Ea 250 = some (Tryz.f250, Tryz.f250.body.getD .skip) := by kernel_rfl
theorem body125 : bodyOf Ea 125 = some (Tryz.f125, Tryz.f125.body.getD .skip) := by kernel_rfl

/-- The number that bytes are, the highest one first. -/
def wordV : Nat → List UInt8 → Nat
  | a, [] => a
  | a, b :: l => wordV (a * 256 + b.toNat) l

def shV : Int → List UInt8 → Int
  | a, [] => a
  | a, b :: l => shV (wrapF .u64 (.ofNat (Nat.lor (toU .u64 (wrapF .u64 (a * (2 ^ (min 8 64) : Nat)))) (toU .u64 (wrapF .u64 (.ofNat b.toNat)))))) l

theorem wrapU {n : Nat} (h : n < 18446744073709551616) : wrapF .u64 (.ofNat n) = .ofNat n := by
  have : (n : Int) % 18446744073709551616 = n := Int.emod_eq_of_lt (by omega) (by omega)
  exact this

theorem toU64 {n : Nat} (h : n < 18446744073709551616) : toU .u64 (.ofNat n) = n := by
  have : (n : Int) % 18446744073709551616 = n := Int.emod_eq_of_lt (by omega) (by omega)
  show ((n : Int) % 18446744073709551616).toNat = n
  rw [this]
  rfl

theorem sh_step {a : Nat} (h : a < 72057594037927936) (b : UInt8) :
    wrapF .u64 (.ofNat (Nat.lor (toU .u64 (wrapF .u64 (.ofNat a * (2 ^ (min 8 64) : Nat)))) (toU .u64 (wrapF .u64 (.ofNat b.toNat))))) = .ofNat (a * 256 + b.toNat) := by
  have hb : b.toNat < 256 := b.toNat_lt
  have e1 : (Int.ofNat a * ((2 ^ (min 8 64) : Nat) : Int)) = .ofNat (a * 256) := rfl
  rw [e1, wrapU (n := a * 256) (by omega), wrapU (n := b.toNat) (by omega), toU64 (n := a * 256) (by omega), toU64 (n := b.toNat) (by omega)]
  have e2 : Nat.lor (a * 256) b.toNat = a * 256 + b.toNat := by
    have := Nat.two_pow_add_eq_or_of_lt (i := 8) (b := b.toNat) hb a
    rw [Nat.mul_comm a 256]
    exact this.symm
  rw [e2]
  exact wrapU (by omega)

theorem shV_eq : ∀ (l : List UInt8) (a : Nat), a * 256 ^ l.length < 18446744073709551616 → l.length ≤ 8 → (a + 1) * 256 ^ l.length ≤ 18446744073709551616 → shV (.ofNat a) l = .ofNat (wordV a l)
  | [], _, _, _, _ => rfl
  | b :: l, a, h, hl, h2 => by
    have hb : b.toNat < 256 := b.toNat_lt
    have hp : 0 < 256 ^ l.length := Nat.pow_pos (by omega)
    simp only [List.length_cons, Nat.pow_succ] at h h2 hl
    have h3 : (a + 1) * 256 * 256 ^ l.length ≤ 18446744073709551616 := by rw [Nat.mul_assoc, Nat.mul_comm 256]; exact h2
    have ha : (a + 1) * 256 ≤ 18446744073709551616 := Nat.le_trans (Nat.le_mul_of_pos_right _ hp) h3
    rw [shV, sh_step (by omega) b, shV_eq l (a * 256 + b.toNat) ?_ (by omega) ?_]
    · rfl
    · refine Nat.lt_of_lt_of_le (Nat.mul_lt_mul_of_pos_right (show a * 256 + b.toNat < (a + 1) * 256 by omega) hp) h3
    · exact Nat.le_trans (Nat.mul_le_mul_right _ (show a * 256 + b.toNat + 1 ≤ (a + 1) * 256 by omega)) h3

set_option maxRecDepth 100000
set_option maxHeartbeats 4000000

theorem word_0 : call Ea 34 250 [.string ⟨⟨[]⟩⟩] (bare 3) = some ⟨.tuple #[.int .u64 (shV 0 []), .bool true], bare 3, []⟩ := by
  refine call_runs rfl body250 rfl ?_
  refine .seq rfl ?_
  refine .seqK (.seq rfl ?_)
  refine .condF rfl (.now rfl ?_)
  refine .seq rfl ?_
  refine .seq rfl ?_
  refine .seq rfl ?_
  exact .now rfl ⟨trivial, _, rfl, rfl⟩

theorem word_1 (b0 : UInt8) : call Ea 34 250 [.string ⟨⟨[b0]⟩⟩] (bare 3) = some ⟨.tuple #[.int .u64 (shV 0 [b0]), .bool true], bare 3, []⟩ := by
  refine call_runs rfl body250 rfl ?_
  refine .seq rfl ?_
  refine .seqK (.seq rfl ?_)
  refine .condF rfl (.now rfl ?_)
  refine .seq rfl ?_
  refine .seq rfl ?_
  refine .seq rfl ?_
  exact .now rfl ⟨trivial, _, rfl, rfl⟩

theorem word_2 (b0 b1 : UInt8) : call Ea 34 250 [.string ⟨⟨[b0, b1]⟩⟩] (bare 3) = some ⟨.tuple #[.int .u64 (shV 0 [b0, b1]), .bool true], bare 3, []⟩ := by
  refine call_runs rfl body250 rfl ?_
  refine .seq rfl ?_
  refine .seqK (.seq rfl ?_)
  refine .condF rfl (.now rfl ?_)
  refine .seq rfl ?_
  refine .seq rfl ?_
  refine .seq rfl ?_
  exact .now rfl ⟨trivial, _, rfl, rfl⟩

theorem word_3 (b0 b1 b2 : UInt8) : call Ea 34 250 [.string ⟨⟨[b0, b1, b2]⟩⟩] (bare 3) = some ⟨.tuple #[.int .u64 (shV 0 [b0, b1, b2]), .bool true], bare 3, []⟩ := by
  refine call_runs rfl body250 rfl ?_
  refine .seq rfl ?_
  refine .seqK (.seq rfl ?_)
  refine .condF rfl (.now rfl ?_)
  refine .seq rfl ?_
  refine .seq rfl ?_
  refine .seq rfl ?_
  exact .now rfl ⟨trivial, _, rfl, rfl⟩

theorem word_4 (b0 b1 b2 b3 : UInt8) : call Ea 34 250 [.string ⟨⟨[b0, b1, b2, b3]⟩⟩] (bare 3) = some ⟨.tuple #[.int .u64 (shV 0 [b0, b1, b2, b3]), .bool true], bare 3, []⟩ := by
  refine call_runs rfl body250 rfl ?_
  refine .seq rfl ?_
  refine .seqK (.seq rfl ?_)
  refine .condF rfl (.now rfl ?_)
  refine .seq rfl ?_
  refine .seq rfl ?_
  refine .seq rfl ?_
  exact .now rfl ⟨trivial, _, rfl, rfl⟩

theorem word_5 (b0 b1 b2 b3 b4 : UInt8) : call Ea 34 250 [.string ⟨⟨[b0, b1, b2, b3, b4]⟩⟩] (bare 3) = some ⟨.tuple #[.int .u64 (shV 0 [b0, b1, b2, b3, b4]), .bool true], bare 3, []⟩ := by
  refine call_runs rfl body250 rfl ?_
  refine .seq rfl ?_
  refine .seqK (.seq rfl ?_)
  refine .condF rfl (.now rfl ?_)
  refine .seq rfl ?_
  refine .seq rfl ?_
  refine .seq rfl ?_
  exact .now rfl ⟨trivial, _, rfl, rfl⟩

theorem word_6 (b0 b1 b2 b3 b4 b5 : UInt8) : call Ea 34 250 [.string ⟨⟨[b0, b1, b2, b3, b4, b5]⟩⟩] (bare 3) = some ⟨.tuple #[.int .u64 (shV 0 [b0, b1, b2, b3, b4, b5]), .bool true], bare 3, []⟩ := by
  refine call_runs rfl body250 rfl ?_
  refine .seq rfl ?_
  refine .seqK (.seq rfl ?_)
  refine .condF rfl (.now rfl ?_)
  refine .seq rfl ?_
  refine .seq rfl ?_
  refine .seq rfl ?_
  exact .now rfl ⟨trivial, _, rfl, rfl⟩

theorem word_7 (b0 b1 b2 b3 b4 b5 b6 : UInt8) : call Ea 34 250 [.string ⟨⟨[b0, b1, b2, b3, b4, b5, b6]⟩⟩] (bare 3) = some ⟨.tuple #[.int .u64 (shV 0 [b0, b1, b2, b3, b4, b5, b6]), .bool true], bare 3, []⟩ := by
  refine call_runs rfl body250 rfl ?_
  refine .seq rfl ?_
  refine .seqK (.seq rfl ?_)
  refine .condF rfl (.now rfl ?_)
  refine .seq rfl ?_
  refine .seq rfl ?_
  refine .seq rfl ?_
  exact .now rfl ⟨trivial, _, rfl, rfl⟩

theorem word_8 (b0 b1 b2 b3 b4 b5 b6 b7 : UInt8) : call Ea 34 250 [.string ⟨⟨[b0, b1, b2, b3, b4, b5, b6, b7]⟩⟩] (bare 3) = some ⟨.tuple #[.int .u64 (shV 0 [b0, b1, b2, b3, b4, b5, b6, b7]), .bool true], bare 3, []⟩ := by
  refine call_runs rfl body250 rfl ?_
  refine .seq rfl ?_
  refine .seqK (.seq rfl ?_)
  refine .condF rfl (.now rfl ?_)
  refine .seq rfl ?_
  refine .seq rfl ?_
  refine .seq rfl ?_
  exact .now rfl ⟨trivial, _, rfl, rfl⟩

theorem word_long {l : List UInt8} (h : 8 < (l.length : Int)) : call Ea 34 250 [.string ⟨⟨l⟩⟩] (bare 3) = some ⟨.tuple #[.int .u64 0, .bool false], bare 3, []⟩ := by
  refine call_runs rfl body250 rfl ?_
  refine .seq rfl ?_
  refine .seqK (.seq rfl ?_)
  refine .condT (boolT h) ?_
  refine .seq rfl ?_
  refine .now rfl ?_
  exact ⟨trivial, _, rfl, rfl⟩

theorem word_ok : ∀ (l : List UInt8), l.length ≤ 8 → call Ea 34 250 [.string ⟨⟨l⟩⟩] (bare 3) = some ⟨.tuple #[.int .u64 (.ofNat (wordV 0 l)), .bool true], bare 3, []⟩ := by
  intro l hl
  have e : shV 0 l = .ofNat (wordV 0 l) := shV_eq l 0 (by simp) hl (by
    rw [Nat.zero_add, Nat.one_mul]
    exact Nat.le_trans (Nat.pow_le_pow_right (by omega) hl) (show (256 : Nat) ^ 8 ≤ 18446744073709551616 by decide))
  rw [← e]
  match l, hl with
  | [], _ => exact word_0 
  | [b0], _ => exact word_1 b0
  | [b0, b1], _ => exact word_2 b0 b1
  | [b0, b1, b2], _ => exact word_3 b0 b1 b2
  | [b0, b1, b2, b3], _ => exact word_4 b0 b1 b2 b3
  | [b0, b1, b2, b3, b4], _ => exact word_5 b0 b1 b2 b3 b4
  | [b0, b1, b2, b3, b4, b5], _ => exact word_6 b0 b1 b2 b3 b4 b5
  | [b0, b1, b2, b3, b4, b5, b6], _ => exact word_7 b0 b1 b2 b3 b4 b5 b6
  | [b0, b1, b2, b3, b4, b5, b6, b7], _ => exact word_8 b0 b1 b2 b3 b4 b5 b6 b7
  | _ :: _ :: _ :: _ :: _ :: _ :: _ :: _ :: _ :: _, h => simp at h

def wordN (l : List UInt8) : Nat := match Nat.ble l.length 8 with | true => wordV 0 l | false => 0

theorem word_all (l : List UInt8) : call Ea 34 250 [.string ⟨⟨l⟩⟩] (bare 3) = some ⟨.tuple #[.int .u64 (.ofNat (wordN l)), .bool (Nat.ble l.length 8)], bare 3, []⟩ := by
  unfold wordN
  cases h : Nat.ble l.length 8 with
  | true => exact word_ok l (Nat.le_of_ble_eq_true h)
  | false =>
    refine word_long ?_
    have : ¬ l.length ≤ 8 := fun g => by rw [Nat.ble_eq_true_of_le g] at h; cases h
    omega

theorem words_t {a b : List UInt8} {x y : Int} (h1 : ∀ n, 34 ≤ n → call Ea n 250 [.string ⟨⟨a⟩⟩] (bare 3) = some ⟨.tuple #[.int .u64 x, .bool true], bare 3, []⟩) {c : Bool} (h2 : ∀ n, 34 ≤ n → call Ea n 250 [.string ⟨⟨b⟩⟩] (bare 3) = some ⟨.tuple #[.int .u64 y, .bool c], bare 3, []⟩) :
    call Ea 40 125 [.string ⟨⟨a⟩⟩, .string ⟨⟨b⟩⟩] (bare 3) = some ⟨.tuple #[.int .u64 x, .int .u64 y, .bool c], bare 3, []⟩ := by
  refine call_runs rfl body125 rfl ?_
  refine .seq rfl ?_
  refine .seqK (.region ?_)
  refine .cons rfl rfl (.cons rfl (step_told (h1 _ (by omega)) rfl) (.cons rfl rfl (.cons rfl rfl (.cons rfl rfl (.cons rfl rfl (.cons rfl rfl (.nil ?_)))))))
  refine .seqK (.region ?_)
  refine .cons rfl rfl (.cons rfl (step_told (h2 _ (by omega)) rfl) (.cons rfl rfl (.cons rfl rfl (.cons rfl rfl (.cons rfl rfl (.cons rfl rfl (.nil ?_)))))))
  refine .seq rfl ?_
  exact .now rfl ⟨trivial, _, rfl, rfl⟩

theorem words_f {a b : List UInt8} {x y : Int} (h1 : ∀ n, 34 ≤ n → call Ea n 250 [.string ⟨⟨a⟩⟩] (bare 3) = some ⟨.tuple #[.int .u64 x, .bool false], bare 3, []⟩) {c : Bool} (h2 : ∀ n, 34 ≤ n → call Ea n 250 [.string ⟨⟨b⟩⟩] (bare 3) = some ⟨.tuple #[.int .u64 y, .bool c], bare 3, []⟩) :
    call Ea 40 125 [.string ⟨⟨a⟩⟩, .string ⟨⟨b⟩⟩] (bare 3) = some ⟨.tuple #[.int .u64 x, .int .u64 y, .bool false], bare 3, []⟩ := by
  refine call_runs rfl body125 rfl ?_
  refine .seq rfl ?_
  refine .seqK (.region ?_)
  refine .cons rfl rfl (.cons rfl (step_told (h1 _ (by omega)) rfl) (.cons rfl rfl (.cons rfl rfl (.cons rfl rfl (.cons rfl rfl (.cons rfl rfl (.nil ?_)))))))
  refine .seqK (.region ?_)
  refine .cons rfl rfl (.cons rfl (step_told (h2 _ (by omega)) rfl) (.cons rfl rfl (.cons rfl rfl (.cons rfl rfl (.cons rfl rfl (.cons rfl rfl (.nil ?_)))))))
  refine .seq rfl ?_
  exact .now rfl ⟨trivial, _, rfl, rfl⟩

theorem words_ok (a b : List UInt8) : call Ea 40 125 [.string ⟨⟨a⟩⟩, .string ⟨⟨b⟩⟩] (bare 3) = some ⟨.tuple #[.int .u64 (.ofNat (wordN a)), .int .u64 (.ofNat (wordN b)), .bool (Nat.ble a.length 8 && Nat.ble b.length 8)], bare 3, []⟩ := by
  have ha := fun n (h : 34 ≤ n) => call_mono h _ _ _ _ (word_all a)
  have hb := fun n (h : 34 ≤ n) => call_mono h _ _ _ _ (word_all b)
  cases h : Nat.ble a.length 8 with
  | true => rw [h] at ha; exact words_t ha hb
  | false => rw [h] at ha; exact words_f ha hb

end Go.Proofs.YtfloogndmfkimaaGreatDoor

namespace Go.Proofs.YtfloogndmfkimaaGreatDoor
open Go Go.AM Go.Proofs

/-- The bytes of a number, the highest one first. -/
def magF (u : Nat) : List UInt8 :=
  match Nat.beq u 0 with
  | true => []
  | false => magL (Nat.log2 u / 8 + 1) u

theorem mag_F {u : Nat} (hu : u < 18446744073709551616) : call Ea 34 29 [.int .u64 (.ofNat u)] (bare 3) = some ⟨.string ⟨⟨magF u⟩⟩, bare 3, []⟩ := by
  obtain ⟨n, h1, h2, h3, h4⟩ := mag_ok hu
  rw [h4]
  by_cases h0 : u = 0
  · subst h0
    have : n = 0 := by
      rcases h3 with h3 | h3
      · exact h3
      · have := Nat.pow_pos (n := n - 1) (show 0 < 256 by omega)
        omega
    subst this
    rfl
  · have hb : Nat.beq u 0 = false := by
      cases hb : Nat.beq u 0 with
      | false => rfl
      | true => exact absurd (Nat.eq_of_beq_eq_true hb) h0
    have hn : Nat.log2 u / 8 + 1 = n := by
      have hn0 : n ≠ 0 := by
        intro h
        subst h
        simp at h2
        omega
      have h3' := h3.resolve_left hn0
      rw [show 256 = 2 ^ 8 from rfl, ← Nat.pow_mul] at h2 h3'
      have a1 := (Nat.log2_lt h0).2 h2
      have a2 := (Nat.le_log2 h0).2 h3'
      omega
    simp only [magF, hb, hn]

def magX : List Value → Heap → Option CallRes
  | [.int .u64 (.ofNat u)], H => match Nat.blt u 18446744073709551616 with
    | true => some ⟨.string ⟨⟨magF u⟩⟩, H, []⟩
    | false => none
  | _, _ => none

def wordX : List Value → Heap → Option CallRes
  | [.string ⟨⟨a⟩⟩], H => some ⟨.tuple #[.int .u64 (.ofNat (wordN a)), .bool (Nat.ble a.length 8)], H, []⟩
  | _, _ => none

def wordsX : List Value → Heap → Option CallRes
  | [.string ⟨⟨a⟩⟩, .string ⟨⟨b⟩⟩], H => some ⟨.tuple #[.int .u64 (.ofNat (wordN a)), .int .u64 (.ofNat (wordN b)), .bool (Nat.ble a.length 8 && Nat.ble b.length 8)], H, []⟩
  | _, _ => none

def addX : List Value → Heap → Option CallRes
  | [.int .u64 (.ofNat a), .int .u64 (.ofNat b), .int .u64 (.ofNat c)], H => match Nat.ble c 1 with
    | true => some ⟨.tuple #[.int .u64 ((Int.ofNat a + Int.ofNat b + Int.ofNat c) % 18446744073709551616), .int .u64 ((Int.ofNat a + Int.ofNat b + Int.ofNat c) / 18446744073709551616)], H, []⟩
    | false => none
  | _, _ => none

def indexX : List Value → Heap → Option CallRes
  | [.string s, .int .u8 c], H => some ⟨.int .i64 (Lib.indexByte s.data.toList c.toNat.toUInt8), H, []⟩
  | _, _ => none

def cmpX : List Value → Heap → Option CallRes
  | [.string a, .string b], H => some ⟨.int .i64 (Lib.compareBytes a.data.toList b.data.toList), H, []⟩
  | _, _ => none

def ext1 (f : FuncId) : Option (List Value → Heap → Option CallRes) :=
  match Nat.beq f 29 with
  | true => some magX
  | false => match Nat.beq f 250 with
    | true => some wordX
    | false => match Nat.beq f 125 with
      | true => some wordsX
      | false => match Nat.beq f 355 with
        | true => some addX
        | false => match Nat.beq f 360 with
          | true => some indexX
          | false => match Nat.beq f 435 with
            | true => some cmpX
            | false => none

theorem eqsA : EqsOk Ea := fun t ks h => by cases h
theorem extA : ExtOk Ea := fun f args H r h => by cases h

/-- A call that is an entry of the model's. -/
theorem entry_ok {E : Env} {f : FuncId} {args : List Value} {v : Value} {H : Heap} (ha : args.all atomV = true) (hv : atomV v = true) (h : ∀ w, (callFunc f ⟨args⟩).run E.P w = .ok (.value v) w) :
    CallOk E f args H ⟨v, H, []⟩ ∧ HeapKeeps H H [] := by
  refine ⟨fun φ w args' hR hargs => .inl ⟨v, w, ?_, .same hR (.atom hv) rfl rfl rfl rfl⟩, Nat.le_refl _, fun _ _ _ => rfl⟩
  have : args' = args := by
    refine List.ext_getElem? fun k => ?_
    cases hk : args[k]? with
    | none =>
      have : args.length ≤ k := by simpa using hk
      simp [← hargs.1, this]
    | some u =>
      obtain ⟨u', h1, h2⟩ := hargs.get hk
      rw [h1]
      have hu := List.all_eq_true.1 ha u (List.mem_of_getElem? hk)
      cases h2 <;> first | rfl | (simp [atomV] at hu)
  rw [this]
  exact h w

theorem entry_ok2 {E : Env} {f : FuncId} {args : List Value} {v u : Value} {H : Heap} (ha : args.all atomV = true) (hv : atomV v = true) (hu : atomV u = true) (h : ∀ w, (callFunc f ⟨args⟩).run E.P w = .ok (.value (.tuple #[v, u])) w) :
    CallOk E f args H ⟨.tuple #[v, u], H, []⟩ ∧ HeapKeeps H H [] := by
  refine ⟨fun φ w args' hR hargs => .inl ⟨.tuple #[v, u], w, ?_, .same hR (VR.mkTuple (.cons (.atom hv) (.cons (.atom hu) .nil))) rfl rfl rfl rfl⟩, Nat.le_refl _, fun _ _ _ => rfl⟩
  have : args' = args := by
    refine List.ext_getElem? fun k => ?_
    cases hk : args[k]? with
    | none =>
      have : args.length ≤ k := by simpa using hk
      simp [← hargs.1, this]
    | some u =>
      obtain ⟨u', h1, h2⟩ := hargs.get hk
      rw [h1]
      have hu := List.all_eq_true.1 ha u (List.mem_of_getElem? hk)
      cases h2 <;> first | rfl | (simp [atomV] at hu)
  rw [this]
  exact h w

/-- A call that is told by its run in the bare heap. -/
theorem told_ok {E E' : Env} (hP : E'.P = E.P) (hE : EqsOk E) (hX : ExtOk E) (hg : E.P.globals.size = 3) {f : FuncId} {args : List Value} {v : Value} {n : Nat} (h : call E n f args (bare 3) = some ⟨v, bare 3, []⟩) (ha : args.all plain = true) (hv : plain v = true) (H : Heap) :
    CallOk E' f args H ⟨v, H, []⟩ ∧ HeapKeeps H H [] := by
  have := Plain.ok hE hX (f := f) (args := args) (v := v) ⟨n, by rw [hg]; exact h⟩ ha hv H
  unfold CallOk at this ⊢
  rw [hP]
  exact this

theorem ext1_ok {E : Env} (hP : E.P = Tryz.prog) {f : FuncId} {k : List Value → Heap → Option CallRes} (hf : ext1 f = some k) {args : List Value} {H : Heap} {r : CallRes} (h : k args H = some r) : CallOk E f args H r ∧ HeapKeeps H r.H r.dirty := by
  unfold ext1 at hf
  split at hf
  · rename_i hb
    obtain rfl := Nat.eq_of_beq_eq_true hb
    cases hf
    unfold magX at h
    split at h
    · split at h
      · rename_i hlt
        cases h
        exact told_ok (E := Ea) hP eqsA extA gsize (mag_F (blt_spec hlt)) rfl rfl H
      · cases h
    · cases h
  split at hf
  · rename_i hb
    obtain rfl := Nat.eq_of_beq_eq_true hb
    cases hf
    unfold wordX at h
    split at h
    · cases h
      exact told_ok (E := Ea) hP eqsA extA gsize (word_all _) rfl rfl H
    · cases h
  split at hf
  · rename_i hb
    obtain rfl := Nat.eq_of_beq_eq_true hb
    cases hf
    unfold wordsX at h
    split at h
    · cases h
      exact told_ok (E := Ea) hP eqsA extA gsize (words_ok _ _) rfl rfl H
    · cases h
  split at hf
  · rename_i hb
    obtain rfl := Nat.eq_of_beq_eq_true hb
    cases hf
    unfold addX at h
    split at h
    · split at h
      · rename_i hc
        cases h
        refine entry_ok2 rfl rfl rfl fun w => ?_
        rw [hP, run_callFunc_extern (e := add64Entry) Tryz.func355 (by kernel_rfl) (by kernel_rfl) (by kernel_rfl) (by kernel_rfl)]
        have hc' := Nat.le_of_ble_eq_true hc
        exact congrArg (fun z => Result.andThen z fun v w' => Result.ok (Next.value v) w') (run_add64 (P := Tryz.prog) (.ofNat _) (.ofNat _) (.ofNat _) (Int.natCast_nonneg _) (Int.natCast_nonneg _) (Int.natCast_nonneg _) (Int.ofNat_le.2 hc') w)
      · cases h
    · cases h
  split at hf
  · rename_i hb
    obtain rfl := Nat.eq_of_beq_eq_true hb
    cases hf
    unfold indexX at h
    split at h
    · cases h
      refine entry_ok rfl rfl fun w => ?_
      rw [hP, run_callFunc_extern (e := Extern.BytealgIndexByte.indexByte) Tryz.func360 (by kernel_rfl) (by kernel_rfl) (by kernel_rfl) (by kernel_rfl)]
      rw [Lib.run_indexByteString]
      rfl
    · cases h
  split at hf
  · rename_i hb
    obtain rfl := Nat.eq_of_beq_eq_true hb
    cases hf
    unfold cmpX at h
    split at h
    · cases h
      refine entry_ok rfl rfl fun w => ?_
      rw [hP, run_callFunc_extern (e := Extern.BytealgCompare.compare) Tryz.func435 (by kernel_rfl) (by kernel_rfl) (by kernel_rfl) (by kernel_rfl)]
      rw [Lib.run_compareString]
      rfl
    · cases h
  cases hf

/-- The first surroundings. -/
noncomputable def E1 : Env := { P := Tryz.prog, eqs := fun _ => none, ext := ext1 }
theorem eqs1 : EqsOk E1 := fun t ks h => by cases h
theorem extOk1 : ExtOk E1 := fun f args H r h => by
  unfold told at h
  split at h
  · rename_i k hk
    exact ext1_ok rfl hk h
  · cases h

end Go.Proofs.YtfloogndmfkimaaGreatDoor

namespace Go.Proofs.YtfloogndmfkimaaGreatDoor
open Go Go.AM Go.Proofs

/-- An api.Int. -/
def iV (neg : Bool) (l : List UInt8) : Value := .agg #[.bool neg, .string ⟨⟨l⟩⟩]
def signed (neg : Bool) (l : List UInt8) : Value := iV (neg && !decide (l = [])) l

theorem mag1 {u : Nat} (hu : u < 18446744073709551616) (H : Heap) (n : Nat) : call E1 n 29 [.int .u64 (.ofNat u)] H = some ⟨.string ⟨⟨magF u⟩⟩, H, []⟩ := by
  refine call_told ?_ n
  have hb : Nat.blt u 18446744073709551616 = true := by rw [Nat.blt_eq]; exact hu
  show magX [.int .u64 (.ofNat u)] H = _
  simp only [magX, hb]

theorem words1 {a b : List UInt8} (ha : a.length ≤ 8) (hb : b.length ≤ 8) (H : Heap) (n : Nat) : call E1 n 125 [.string ⟨⟨a⟩⟩, .string ⟨⟨b⟩⟩] H = some ⟨.tuple #[.int .u64 (.ofNat (wordV 0 a)), .int .u64 (.ofNat (wordV 0 b)), .bool true], H, []⟩ := by
  refine call_told ?_ n
  have h1 : Nat.ble a.length 8 = true := Nat.ble_eq_true_of_le ha
  have h2 : Nat.ble b.length 8 = true := Nat.ble_eq_true_of_le hb
  show wordsX [.string ⟨⟨a⟩⟩, .string ⟨⟨b⟩⟩] H = _
  simp [wordsX, wordN, h1, h2]

theorem body28 : bodyOf E1 28 = some (Tryz.f28, Tryz.f28.body.getD .skip) := by kernel_rfl
theorem body10 : bodyOf E1 10 = some (Tryz.f10, Tryz.f10.body.getD .skip) := by kernel_rfl
theorem body71 : bodyOf E1 71 = some (Tryz.f71, Tryz.f71.body.getD .skip) := by kernel_rfl
theorem body126 : bodyOf E1 126 = some (Tryz.f126, Tryz.f126.body.getD .skip) := by kernel_rfl

set_option maxRecDepth 100000
set_option maxHeartbeats 4000000

theorem made_ok (b : Bool) (l : List UInt8) : call E1 20 28 [.bool b, .string ⟨⟨l⟩⟩] (bare 3) = some ⟨signed b l, bare 3, []⟩ := by
  cases b <;> kernel_rfl

theorem sign_0 (b : Bool) : call E1 20 26 [iV b []] (bare 3) = some ⟨.int .i64 0, bare 3, []⟩ := by
  cases b <;> kernel_rfl
theorem sign_n (c : UInt8) (l : List UInt8) : call E1 20 26 [iV true (c :: l)] (bare 3) = some ⟨.int .i64 (.negSucc 0), bare 3, []⟩ := by kernel_rfl
theorem sign_p (c : UInt8) (l : List UInt8) : call E1 20 26 [iV false (c :: l)] (bare 3) = some ⟨.int .i64 1, bare 3, []⟩ := by kernel_rfl

theorem negate_ok (b : Bool) (l : List UInt8) : call E1 20 70 [iV b l] (bare 3) = some ⟨signed (!b) l, bare 3, []⟩ := by
  cases b <;> kernel_rfl

/-- What FromInt gives. -/
def fromIntV (n : Int) : Value := signed (decide (n < 0)) (magF n.natAbs)

theorem fromInt_p {k : Nat} (hk : k < 9223372036854775808) : call E1 20 10 [.int .i64 (.ofNat k)] (bare 3) = some ⟨fromIntV (.ofNat k), bare 3, []⟩ := by
  have h0 : ¬ (Int.ofNat k < 0) := by
    have : (0 : Int) ≤ Int.ofNat k := Int.natCast_nonneg k
    omega
  have hm : k % 18446744073709551616 = k := Nat.mod_eq_of_lt (by omega)
  have hc := fun H n => mag1 (u := k % 18446744073709551616) (Nat.mod_lt _ (by omega)) H n
  have e : fromIntV (.ofNat k) = signed false (magF (k % 18446744073709551616)) := by
    unfold fromIntV
    rw [decide_eq_false h0, hm]
    rfl
  rw [e]
  refine call_runs rfl body10 rfl ?_
  refine .seq rfl ?_
  refine .seq rfl ?_
  refine .seqK (.seq rfl ?_)
  refine .condF (boolF h0) (.now rfl ?_)
  refine .seqK (.region ?_)
  refine .cons rfl rfl ?_
  refine .cons rfl (q := ⟨.bool false, (bare 3).push (.cells [.bool false, .string ⟨⟨[]⟩⟩] 24 false), [], false, []⟩) (congrArg (fun z => some (OpRes.mk (Value.bool z) ((bare 3).push (.cells [.bool false, .string ⟨⟨[]⟩⟩] 24 false)) [] false [])) (decide_eq_false h0)) ?_
  refine .cons rfl rfl ?_
  refine .cons rfl (step_told (hc _ _) rfl) ?_
  refine .cons rfl rfl (.cons rfl rfl (.nil ?_))
  exact .now rfl ⟨trivial, _, rfl, rfl⟩

def cell24 : AObj := .cells [.bool false, .string ⟨⟨[]⟩⟩] 24 false

theorem wrapU_neg {k : Nat} (hk : k < 9223372036854775808) : wrapF .u64 (.negSucc k) = .ofNat (18446744073709551616 - (k + 1)) := by
  have : (Int.negSucc k) % 18446744073709551616 = ((18446744073709551616 - (k + 1) : Nat) : Int) := by
    rw [Int.negSucc_eq]
    omega
  exact this

theorem wrapU_back {k : Nat} (hk : k < 9223372036854775808) : wrapF .u64 (0 - .ofNat (18446744073709551616 - (k + 1))) = .ofNat (k + 1) := by
  have : ((0 : Int) - ((18446744073709551616 - (k + 1) : Nat) : Int)) % 18446744073709551616 = ((k + 1 : Nat) : Int) := by omega
  exact this

theorem fromInt_m {k : Nat} (hk : k < 9223372036854775808) : call E1 20 10 [.int .i64 (.negSucc k)] (bare 3) = some ⟨fromIntV (.negSucc k), bare 3, []⟩ := by
  have h0 : Int.negSucc k < 0 := Int.negSucc_lt_zero k
  have hc := fun H n => mag1 (u := k + 1) (by omega) H n
  have e : fromIntV (.negSucc k) = signed true (magF (k + 1)) := by
    unfold fromIntV
    rw [decide_eq_true h0]
    rfl
  rw [e]
  refine call_runs rfl body10 rfl ?_
  refine .seq rfl ?_
  refine .seqK (.region ?_)
  refine .cons rfl rfl ?_
  refine .cons rfl (q := ⟨.int .u64 (.ofNat (18446744073709551616 - (k + 1))), (bare 3).push cell24, [], false, []⟩) (congrArg (fun z => some (OpRes.mk (Value.int .u64 z) ((bare 3).push cell24) [] false [])) (wrapU_neg hk)) ?_
  refine .cons rfl rfl (.nil ?_)
  refine .seqK (.seq rfl ?_)
  refine .condT (boolT h0) (.region ?_)
  refine .cons rfl rfl ?_
  refine .cons rfl (q := ⟨.int .u64 (.ofNat (k + 1)), (bare 3).push cell24, [], false, []⟩) (congrArg (fun z => some (OpRes.mk (Value.int .u64 z) ((bare 3).push cell24) [] false [])) (wrapU_back hk)) ?_
  refine .cons rfl rfl (.nil ?_)
  refine .seqK (.region ?_)
  refine .cons rfl rfl ?_
  refine .cons rfl (q := ⟨.bool true, (bare 3).push cell24, [], false, []⟩) (congrArg (fun z => some (OpRes.mk (Value.bool z) ((bare 3).push cell24) [] false [])) (decide_eq_true h0)) ?_
  refine .cons rfl rfl ?_
  refine .cons rfl (step_told (hc _ _) rfl) ?_
  refine .cons rfl rfl (.cons rfl rfl (.nil ?_))
  exact .now rfl ⟨trivial, _, rfl, rfl⟩

/-- A number of 64 bits with its sign. -/
def i64 (n : Int) : Prop := -9223372036854775808 ≤ n ∧ n < 9223372036854775808

theorem fromInt_ok {n : Int} (h : i64 n) : call E1 20 10 [.int .i64 n] (bare 3) = some ⟨fromIntV n, bare 3, []⟩ := by
  obtain ⟨h1, h2⟩ := h
  cases n with
  | ofNat k => exact fromInt_p (by have : (Int.ofNat k) = (k : Int) := rfl; omega)
  | negSucc k => exact fromInt_m (by rw [Int.negSucc_eq] at h1; omega)

/-! Division of two numbers of 64 bits. -/

theorem div_fast {a b : List UInt8} (ha : a.length ≤ 8) (hb : b.length ≤ 8) (h0 : ¬ Int.ofNat (wordV 0 b) = 0) (hx : wordV 0 a < 18446744073709551616) (hy : wordV 0 b < 18446744073709551616) :
    call E1 20 126 [.string ⟨⟨a⟩⟩, .string ⟨⟨b⟩⟩] (bare 3) = some ⟨.tuple #[.string ⟨⟨magF (wordV 0 a / wordV 0 b)⟩⟩, .string ⟨⟨magF (wordV 0 a % wordV 0 b)⟩⟩], bare 3, []⟩ := by
  have hw := fun H n => words1 ha hb H n
  have hq : wordV 0 a / wordV 0 b < 18446744073709551616 := Nat.lt_of_le_of_lt (Nat.div_le_self _ _) hx
  have hr : wordV 0 a % wordV 0 b < 18446744073709551616 := Nat.lt_of_le_of_lt (Nat.mod_le _ _) hx
  have c1 := fun H n => mag1 hq H n
  have c2 := fun H n => mag1 hr H n
  refine call_runs rfl body126 rfl ?_
  refine .seq rfl ?_
  refine .seqK (.seqK (.region ?_))
  refine .cons rfl rfl (.cons rfl rfl ?_)
  refine .cons rfl (step_told (hw _ _) rfl) ?_
  refine .cons rfl rfl (.cons rfl rfl (.cons rfl rfl (.cons rfl rfl (.cons rfl rfl (.cons rfl rfl (.cons rfl rfl (.nil ?_)))))))
  refine .seq rfl ?_
  refine .condT rfl ?_
  refine .seqK (.drawn (l := [0, 1, 2, 3, 4, 5, 6, 7, 8, 9]) (by kernel_rfl) (by kernel_rfl) ?_)
  refine .cons rfl rfl rfl (.cons rfl rfl rfl ?_)
  refine .cons rfl rfl (q := ⟨.int .u64 (.ofNat (wordV 0 a / wordV 0 b)), bare 3, [], false, []⟩) ?_ ?_
  · have e1 : wrapF .u64 ((Int.ofNat (wordV 0 a)).tdiv (Int.ofNat (wordV 0 b))) = .ofNat (wordV 0 a / wordV 0 b) := wrapU hq
    show (match (match decide (Int.ofNat (wordV 0 b) = 0) with | true => (none : Option Value) | false => some (.int .u64 (wrapF .u64 ((Int.ofNat (wordV 0 a)).tdiv (Int.ofNat (wordV 0 b)))))) with | some v => done v (bare 3) | none => none) = _
    rw [decide_eq_false h0, e1]
    rfl
  refine .cons rfl rfl (step_told (c1 _ _) rfl) ?_
  refine .cons rfl rfl rfl (.cons rfl rfl rfl ?_)
  refine .cons rfl rfl (q := ⟨.int .u64 (.ofNat (wordV 0 a % wordV 0 b)), bare 3, [], false, []⟩) ?_ ?_
  · show (match (match decide (Int.ofNat (wordV 0 b) = 0) with | true => (none : Option Value) | false => some (.int .u64 ((Int.ofNat (wordV 0 a)).tmod (Int.ofNat (wordV 0 b))))) with | some v => done v (bare 3) | none => none) = _
    rw [decide_eq_false h0]
    rfl
  refine .cons rfl rfl (step_told (c2 _ _) rfl) ?_
  refine .cons rfl rfl rfl (.cons rfl rfl rfl (.nil ?_))
  refine ⟨by kernel_rfl, by kernel_rfl, by kernel_rfl, by kernel_rfl, by kernel_rfl, by kernel_rfl, by kernel_rfl, by kernel_rfl, by kernel_rfl, by kernel_rfl, ?_⟩
  exact .now rfl ⟨trivial, _, rfl, rfl⟩

end Go.Proofs.YtfloogndmfkimaaGreatDoor

namespace Go.Proofs.YtfloogndmfkimaaGreatDoor
open Go Go.AM Go.Proofs

theorem wordV_lt : ∀ (l : List UInt8) (a : Nat), wordV a l < (a + 1) * 256 ^ l.length
  | [], a => by simp [wordV]
  | b :: l, a => by
    have hb : b.toNat < 256 := b.toNat_lt
    have h := wordV_lt l (a * 256 + b.toNat)
    rw [wordV, List.length_cons, Nat.pow_succ, Nat.mul_comm (256 ^ l.length) 256, ← Nat.mul_assoc]
    exact Nat.lt_of_lt_of_le h (Nat.mul_le_mul_right _ (by omega))

theorem wordV_64 {l : List UInt8} (h : l.length ≤ 8) : wordV 0 l < 18446744073709551616 := by
  have h1 := wordV_lt l 0
  rw [Nat.zero_add, Nat.one_mul] at h1
  exact Nat.lt_of_lt_of_le h1 (Nat.le_trans (Nat.pow_le_pow_right (by omega) h) (show (256 : Nat) ^ 8 ≤ 18446744073709551616 by decide))

def madeX : List Value → Heap → Option CallRes
  | [.bool b, .string ⟨⟨l⟩⟩], H => some ⟨signed b l, H, []⟩
  | _, _ => none

def signV (b : Bool) (l : List UInt8) : Int :=
  match l with
  | [] => 0
  | _ :: _ => match b with
    | true => .negSucc 0
    | false => 1

/-- An api.Int, read. -/
def asI : Value → Option (Bool × List UInt8)
  | .agg ⟨[.bool b, .string ⟨⟨l⟩⟩]⟩ => some (b, l)
  | _ => none

theorem asI_spec {v : Value} {b : Bool} {l : List UInt8} (h : asI v = some (b, l)) : v = iV b l := by
  unfold asI at h
  split at h
  · cases h; rfl
  · cases h

def signX : List Value → Heap → Option CallRes
  | [x], H => match asI x with
    | some (b, l) => some ⟨.int .i64 (signV b l), H, []⟩
    | none => none
  | _, _ => none

def negateX : List Value → Heap → Option CallRes
  | [x], H => match asI x with
    | some (b, l) => some ⟨signed (!b) l, H, []⟩
    | none => none
  | _, _ => none

def isI64 : Int → Bool
  | .ofNat k => Nat.blt k 9223372036854775808
  | .negSucc k => Nat.blt k 9223372036854775808

theorem isI64_spec {n : Int} (h : isI64 n = true) : i64 n := by
  cases n with
  | ofNat k =>
    have := blt_spec h
    exact ⟨by have : (0 : Int) ≤ Int.ofNat k := Int.natCast_nonneg k; omega, by have : Int.ofNat k = (k : Int) := rfl; omega⟩
  | negSucc k =>
    have := blt_spec h
    exact ⟨by rw [Int.negSucc_eq]; omega, by have := Int.negSucc_lt_zero k; omega⟩

def fromIntX : List Value → Heap → Option CallRes
  | [.int .i64 n], H => match isI64 n with
    | true => some ⟨fromIntV n, H, []⟩
    | false => none
  | _, _ => none

def divX : List Value → Heap → Option CallRes
  | [.string ⟨⟨a⟩⟩, .string ⟨⟨b⟩⟩], H => match Nat.ble a.length 8 && Nat.ble b.length 8 && !Nat.beq (wordV 0 b) 0 with
    | true => some ⟨.tuple #[.string ⟨⟨magF (wordV 0 a / wordV 0 b)⟩⟩, .string ⟨⟨magF (wordV 0 a % wordV 0 b)⟩⟩], H, []⟩
    | false => none
  | _, _ => none

def ext2 (f : FuncId) : Option (List Value → Heap → Option CallRes) :=
  match Nat.beq f 28 with
  | true => some madeX
  | false => match Nat.beq f 26 with
    | true => some signX
    | false => match Nat.beq f 70 with
      | true => some negateX
      | false => match Nat.beq f 10 with
        | true => some fromIntX
        | false => match Nat.beq f 126 with
          | true => some divX
          | false => ext1 f

theorem g1 : E1.P.globals.size = 3 := by kernel_rfl

theorem sign_all (b : Bool) (l : List UInt8) : call E1 20 26 [iV b l] (bare 3) = some ⟨.int .i64 (signV b l), bare 3, []⟩ := by
  cases l with
  | nil => exact sign_0 b
  | cons c l => cases b with
    | true => exact sign_n c l
    | false => exact sign_p c l

theorem ext2_ok {E : Env} (hP : E.P = Tryz.prog) {f : FuncId} {k : List Value → Heap → Option CallRes} (hf : ext2 f = some k) {args : List Value} {H : Heap} {r : CallRes} (h : k args H = some r) : CallOk E f args H r ∧ HeapKeeps H r.H r.dirty := by
  unfold ext2 at hf
  split at hf
  · rename_i hb
    obtain rfl := Nat.eq_of_beq_eq_true hb
    cases hf
    unfold madeX at h
    split at h
    · cases h
      exact told_ok (E := E1) hP eqs1 extOk1 g1 (made_ok _ _) rfl rfl H
    · cases h
  split at hf
  · rename_i hb
    obtain rfl := Nat.eq_of_beq_eq_true hb
    cases hf
    unfold signX at h
    split at h
    · split at h
      · rename_i hs
        cases h
        rw [asI_spec hs]
        exact told_ok (E := E1) hP eqs1 extOk1 g1 (sign_all _ _) rfl rfl H
      · cases h
    · cases h
  split at hf
  · rename_i hb
    obtain rfl := Nat.eq_of_beq_eq_true hb
    cases hf
    unfold negateX at h
    split at h
    · split at h
      · rename_i hs
        cases h
        rw [asI_spec hs]
        exact told_ok (E := E1) hP eqs1 extOk1 g1 (negate_ok _ _) rfl rfl H
      · cases h
    · cases h
  split at hf
  · rename_i hb
    obtain rfl := Nat.eq_of_beq_eq_true hb
    cases hf
    unfold fromIntX at h
    split at h
    · split at h
      · rename_i hs
        cases h
        exact told_ok (E := E1) hP eqs1 extOk1 g1 (fromInt_ok (isI64_spec hs)) rfl rfl H
      · cases h
    · cases h
  split at hf
  · rename_i hb
    obtain rfl := Nat.eq_of_beq_eq_true hb
    cases hf
    unfold divX at h
    split at h
    · split at h
      · rename_i hs
        cases h
        simp only [Bool.and_eq_true, Bool.not_eq_true'] at hs
        have ha := Nat.le_of_ble_eq_true hs.1.1
        have hb := Nat.le_of_ble_eq_true hs.1.2
        refine told_ok (E := E1) hP eqs1 extOk1 g1 (div_fast ha hb (fun h0 => ?_) (wordV_64 ha) (wordV_64 hb)) rfl rfl H
        have hz := hs.2
        rw [Int.ofNat.inj h0] at hz
        cases hz
      · cases h
    · cases h
  exact ext1_ok hP hf h

/-- The second surroundings. -/
noncomputable def E2 : Env := { P := Tryz.prog, eqs := fun _ => none, ext := ext2 }
theorem eqs2 : EqsOk E2 := fun t ks h => by cases h
theorem extOk2 : ExtOk E2 := fun f args H r h => by
  unfold told at h
  split at h
  · rename_i k hk
    exact ext2_ok rfl hk h
  · cases h
theorem g2 : E2.P.globals.size = 3 := by kernel_rfl

end Go.Proofs.YtfloogndmfkimaaGreatDoor

namespace Go.Proofs.YtfloogndmfkimaaGreatDoor
open Go Go.AM Go.Proofs

/-- The inner loop of Gcd. -/
noncomputable def gcdIn : Code :=
  match Tryz.f71.body with
  | some (.seq _ (.seq _ (.seq (.block _ (.loop (.seq _ (.block _ (.seq (.seq _ (.seq _ (.cond _ (.seq (.block _ (.loop c)) _) _))) _))))) _))) => c
  | _ => .skip

theorem getN {t : TT} {j k : Nat} {v w : Value} (h : t.get j = w) (hj : j < 1048576 := by decide) (hk : k < 1048576 := by decide) (hne : j ≠ k := by decide) : (t.set k v).get j = w := by
  rw [TT.get_set_ne hj hk hne]; exact h

set_option maxRecDepth 100000
set_option maxHeartbeats 4000000

theorem gcd_loop {base : Nat} {H : Heap} {d : List Nat} {p : Value} (v : Nat) : ∀ (u : Nat) (t : TT), t.get 7 = .int .u64 (.ofNat u) → t.get 8 = .int .u64 (.ofNat v) → t.get 4 = p → v < 18446744073709551616 → ∀ n, 10 * (v + 1) ≤ n → Runs E2 n base (.loop gcdIn) t H d fun r => r.e = .exit 2 ∧ r.t.get 7 = .int .u64 (.ofNat (Nat.gcd u v)) ∧ r.t.get 4 = p ∧ r.H = H ∧ r.dirty = d := by
  induction v using Nat.strongRecOn with
  | _ v ih =>
    intro u t h7 h8 h4 hv n hn10
    obtain ⟨n', rfl⟩ : ∃ n', n = n' + 10 := ⟨n - 10, by omega⟩
    by_cases h0 : v = 0
    · subst h0
      refine .round (.seqK (.seqK (.region ?_)))
      refine .cons rfl (q := ⟨.int .u64 (.ofNat 0), H, [], false, []⟩) (by show done (t.get 8) H = _; rw [h8]; rfl) ?_
      refine .cons rfl (q := ⟨.bool false, H, [], false, []⟩) (by
        show binOpOp E2 H .neq 102 ((t.set 26 (.int .u64 (.ofNat 0))).get 26) (.int .u64 0) = _
        rw [TT.get_set]; rfl) (.nil ?_)
      refine .condF (show ((t.set 26 (.int .u64 (.ofNat 0))).set 27 (.bool false)).get 27 = .bool false from TT.get_set) (.now rfl ?_)
      have g7 : ((t.set 26 (.int .u64 (.ofNat 0))).set 27 (.bool false)).get 7 = .int .u64 (.ofNat u) := getN (getN h7)
      have g4 : ((t.set 26 (.int .u64 (.ofNat 0))).set 27 (.bool false)).get 4 = p := getN (getN h4)
      refine ⟨rfl, ?_, g4, rfl, rfl⟩
      rw [Nat.gcd_zero_right]
      exact g7
    · have hn : ¬ Int.ofNat v = 0 := fun h => h0 (by simpa using h)
      have hm : u % v < v := Nat.mod_lt _ (by omega)
      let s : TT := (((((((t.set 26 (.int .u64 (.ofNat v))).set 27 (.bool true)).set 28 (.int .u64 (.ofNat v))).set 29 (.int .u64 (.ofNat u))).set 30 (.int .u64 (.ofNat v))).set 31 (.int .u64 (.ofNat (u % v)))).set 7 (.int .u64 (.ofNat v))).set 8 (.int .u64 (.ofNat (u % v)))
      have k7 : s.get 7 = .int .u64 (.ofNat v) := getN TT.get_set
      have k8 : s.get 8 = .int .u64 (.ofNat (u % v)) := TT.get_set
      have k4 : s.get 4 = p := getN (getN (getN (getN (getN (getN (getN (getN h4)))))))
      have hr := ih (u % v) hm v s k7 k8 k4 (by omega) (n' + 9) (by omega)
      have hg : Nat.gcd v (u % v) = Nat.gcd u v := by rw [Nat.gcd_comm u v, Nat.gcd_rec v u, Nat.gcd_comm]
      refine .round (.seqK (.seqK (.region ?_)))
      refine .cons rfl (q := ⟨.int .u64 (.ofNat v), H, [], false, []⟩) (by show done (t.get 8) H = _; rw [h8]; rfl) ?_
      refine .cons rfl (q := ⟨.bool true, H, [], false, []⟩) (by
        show binOpOp E2 H .neq 102 ((t.set 26 (.int .u64 (.ofNat v))).get 26) (.int .u64 0) = _
        rw [TT.get_set]
        show done (.bool (!decide (Int.ofNat v = 0))) H = _
        rw [decide_eq_false hn]; rfl) (.nil ?_)
      refine .condT (show ((t.set 26 (.int .u64 (.ofNat v))).set 27 (.bool true)).get 27 = .bool true from TT.get_set) (.now rfl ?_)
      refine .block (.drawn (l := [0, 1, 2, 3, 4, 5]) (by kernel_rfl) (by kernel_rfl) ?_)
      refine .cons rfl rfl (q := ⟨.int .u64 (.ofNat v), H, [], false, []⟩) (by
        show done (((t.set 26 (.int .u64 (.ofNat v))).set 27 (.bool true)).get 8) H = _
        rw [getN (getN h8)]; rfl) ?_
      refine .cons rfl rfl (q := ⟨.int .u64 (.ofNat u), H, [], false, []⟩) (by
        show done ((((t.set 26 (.int .u64 (.ofNat v))).set 27 (.bool true)).set 28 (.int .u64 (.ofNat v))).get 7) H = _
        rw [getN (getN (getN h7))]; rfl) ?_
      refine .cons rfl rfl (q := ⟨.int .u64 (.ofNat v), H, [], false, []⟩) (by
        show done (((((t.set 26 (.int .u64 (.ofNat v))).set 27 (.bool true)).set 28 (.int .u64 (.ofNat v))).set 29 (.int .u64 (.ofNat u))).get 8) H = _
        rw [getN (getN (getN (getN h8)))]; rfl) ?_
      refine .cons rfl rfl (q := ⟨.int .u64 (.ofNat (u % v)), H, [], false, []⟩) (by
        show binOpOp E2 H .rem 102 ((((((t.set 26 (.int .u64 (.ofNat v))).set 27 (.bool true)).set 28 (.int .u64 (.ofNat v))).set 29 (.int .u64 (.ofNat u))).set 30 (.int .u64 (.ofNat v))).get 29)
          ((((((t.set 26 (.int .u64 (.ofNat v))).set 27 (.bool true)).set 28 (.int .u64 (.ofNat v))).set 29 (.int .u64 (.ofNat u))).set 30 (.int .u64 (.ofNat v))).get 30) = _
        rw [TT.get_set, getN (j := 29) TT.get_set]
        show (match (match decide (Int.ofNat v = 0) with | true => (none : Option Value) | false => some (.int .u64 ((Int.ofNat u).tmod (Int.ofNat v)))) with | some v => done v H | none => none) = _
        rw [decide_eq_false hn]; rfl) ?_
      refine .cons rfl rfl (q := ⟨.int .u64 (.ofNat v), H, [], false, []⟩) (by
        show done (((((((t.set 26 (.int .u64 (.ofNat v))).set 27 (.bool true)).set 28 (.int .u64 (.ofNat v))).set 29 (.int .u64 (.ofNat u))).set 30 (.int .u64 (.ofNat v))).set 31 (.int .u64 (.ofNat (u % v)))).get 28) H = _
        rw [getN (getN (getN TT.get_set))]; rfl) ?_
      refine .cons rfl rfl (q := ⟨.int .u64 (.ofNat (u % v)), H, [], false, []⟩) (by
        show done ((((((((t.set 26 (.int .u64 (.ofNat v))).set 27 (.bool true)).set 28 (.int .u64 (.ofNat v))).set 29 (.int .u64 (.ofNat u))).set 30 (.int .u64 (.ofNat v))).set 31 (.int .u64 (.ofNat (u % v)))).set 7 (.int .u64 (.ofNat v))).get 31) H = _
        rw [getN TT.get_set]; rfl) (.nil ?_)
      refine ⟨by kernel_rfl, by kernel_rfl, by kernel_rfl, by kernel_rfl, by kernel_rfl, by kernel_rfl, ?_⟩
      rw [hg] at hr
      exact hr

theorem body71b : bodyOf E2 71 = some (Tryz.f71, Tryz.f71.body.getD .skip) := by kernel_rfl

theorem words2 {a b : List UInt8} (ha : a.length ≤ 8) (hb : b.length ≤ 8) (H : Heap) (n : Nat) : call E2 n 125 [.string ⟨⟨a⟩⟩, .string ⟨⟨b⟩⟩] H = some ⟨.tuple #[.int .u64 (.ofNat (wordV 0 a)), .int .u64 (.ofNat (wordV 0 b)), .bool true], H, []⟩ := by
  refine call_told ?_ n
  have h1 : Nat.ble a.length 8 = true := Nat.ble_eq_true_of_le ha
  have h2 : Nat.ble b.length 8 = true := Nat.ble_eq_true_of_le hb
  show wordsX [.string ⟨⟨a⟩⟩, .string ⟨⟨b⟩⟩] H = _
  simp [wordsX, wordN, h1, h2]

theorem mag2 {u : Nat} (hu : u < 18446744073709551616) (H : Heap) (n : Nat) : call E2 n 29 [.int .u64 (.ofNat u)] H = some ⟨.string ⟨⟨magF u⟩⟩, H, []⟩ := by
  refine call_told ?_ n
  have hb : Nat.blt u 18446744073709551616 = true := by rw [Nat.blt_eq]; exact hu
  show magX [.int .u64 (.ofNat u)] H = _
  simp only [magX, hb]

theorem made2 (b : Bool) (l : List UInt8) (H : Heap) (n : Nat) : call E2 n 28 [.bool b, .string ⟨⟨l⟩⟩] H = some ⟨signed b l, H, []⟩ := call_told rfl n

theorem gcd_zero (x y : Bool) (a : List UInt8) : call E2 20 71 [iV x a, iV y []] (bare 3) = some ⟨signed false a, bare 3, []⟩ := by kernel_rfl

theorem gcd_words (x y : Bool) {a : List UInt8} {c : UInt8} {b : List UInt8} (ha : a.length ≤ 8) (hb : (c :: b).length ≤ 8) : ∃ n, call E2 n 71 [iV x a, iV y (c :: b)] (bare 3) = some ⟨signed false (magF (Nat.gcd (wordV 0 a) (wordV 0 (c :: b)))), bare 3, []⟩ := by
  have hw := fun H n => words2 ha hb H n
  have hlt : Nat.gcd (wordV 0 a) (wordV 0 (c :: b)) < 18446744073709551616 := by
    by_cases h0 : wordV 0 (c :: b) = 0
    · rw [h0, Nat.gcd_zero_right]; exact wordV_64 ha
    · exact Nat.lt_of_le_of_lt (Nat.gcd_le_right _ (by omega)) (wordV_64 hb)
  have hm := fun H n => mag2 hlt H n
  refine ⟨10 * (wordV 0 (c :: b) + 1) + 40, ?_⟩
  refine call_runs rfl body71b rfl ?_
  refine .seq rfl ?_
  refine .seqK (.drawn (l := [0, 1, 2, 3, 4, 5]) (by kernel_rfl) (by kernel_rfl) ?_)
  refine .cons rfl rfl rfl (.cons rfl rfl rfl (.cons rfl rfl rfl (.cons rfl rfl rfl (.cons rfl rfl rfl (.cons rfl rfl rfl (.nil ?_))))))
  refine ⟨by kernel_rfl, by kernel_rfl, by kernel_rfl, by kernel_rfl, by kernel_rfl, by kernel_rfl, ?_⟩
  refine .seqK (.block (.round (.seqK (.seq rfl ?_))))
  refine .condT rfl (.now rfl ?_)
  refine .block (.seqK (.seqK (.region ?_)))
  refine .cons rfl rfl (.cons rfl rfl ?_)
  refine .cons rfl (step_told (hw _ _) rfl) ?_
  refine .cons rfl rfl (.cons rfl rfl (.cons rfl rfl (.cons rfl rfl (.cons rfl rfl (.cons rfl rfl (.cons rfl rfl (.nil ?_)))))))
  refine .seq rfl ?_
  refine .condT rfl ?_
  refine .seqK (.block ?_)
  have hl := fun t h7 h8 h4 n hn => gcd_loop (base := 3) (H := ((((bare 3).push (.cells [.bool x, .string ⟨⟨a⟩⟩] 24 false)).push (.cells [.bool y, .string ⟨⟨c :: b⟩⟩] 24 false)).push (.cells [.bool false, .string ⟨⟨[]⟩⟩] 24 false))) (d := [])
    (p := .pointer (some ⟨5, 0, none⟩)) (wordV 0 (c :: b)) (wordV 0 a) t h7 h8 h4 (wordV_64 hb) n hn
  refine (hl _ rfl rfl rfl _ (by omega)).mono ?_
  clear hl
  generalize Nat.gcd (wordV 0 a) (wordV 0 (c :: b)) = g at *
  rintro ⟨e, t', H', d'⟩ ⟨k1, k2, k3, k4, k5⟩
  simp only at k1 k2 k3 k4 k5
  subst k1
  subst k4
  subst k5
  show Runs E2 _ _ _ t' _ _ _
  refine .seqK (.region ?_)
  refine .cons rfl (q := ⟨.int .u64 (.ofNat g), _, [], false, []⟩) (by show done (t'.get 7) _ = _; rw [k2]; rfl) ?_
  refine .cons rfl (q := ⟨.string ⟨⟨magF g⟩⟩, _, [], true, []⟩) (by
    show (match call E2 _ 29 [(t'.set 32 (.int .u64 (.ofNat g))).get 32] _ with | some r => some (⟨r.v, r.H, [], true, r.dirty⟩ : OpRes) | none => none) = _
    rw [TT.get_set, hm]) ?_
  refine .cons rfl (q := ⟨signed false (magF g), _, [], true, []⟩) (by
    show (match call E2 _ 28 [.bool false, ((t'.set 32 (.int .u64 (.ofNat g))).set 33 (.string ⟨⟨magF g⟩⟩)).get 33] _ with | some r => some (⟨r.v, r.H, [], true, r.dirty⟩ : OpRes) | none => none) = _
    rw [TT.get_set, made2]) ?_
  refine .cons rfl (q := ⟨undef, (((((bare 3).push (.cells [.bool x, .string ⟨⟨a⟩⟩] 24 false)).push (.cells [.bool y, .string ⟨⟨c :: b⟩⟩] 24 false)).push (.cells [.bool false, .string ⟨⟨[]⟩⟩] 24 false)).set 5 (.cells [.bool false, .string ⟨⟨magF g⟩⟩] 24 false)), [], false, [5]⟩) (by
    show storeOp E2 _ 24 ((((t'.set 32 (.int .u64 (.ofNat g))).set 33 (.string ⟨⟨magF g⟩⟩)).set 34 (signed false (magF g))).get 4) ((((t'.set 32 (.int .u64 (.ofNat g))).set 33 (.string ⟨⟨magF g⟩⟩)).set 34 (signed false (magF g))).get 34) = _
    rw [getN (getN (getN k3)), TT.get_set]
    rfl) (.nil ?_)
  refine .now rfl ⟨trivial, [signed false (magF g)], ?_, rfl⟩
  have g4 : (((t'.set 32 (.int .u64 (.ofNat g))).set 33 (.string ⟨⟨magF g⟩⟩)).set 34 (signed false (magF g))).get 4 = .pointer (some ⟨5, 0, none⟩) := getN (getN (getN k3))
  show (match ptr ((((t'.set 32 (.int .u64 (.ofNat g))).set 33 (.string ⟨⟨magF g⟩⟩)).set 34 (signed false (magF g))).get 4) with
    | some (i, o) => match loadO E2 _ 24 i o, resultVals E2 _ _ [] with
      | some v, some l => some (v :: l)
      | _, _ => none
    | none => none) = _
  rw [g4]
  rfl

end Go.Proofs.YtfloogndmfkimaaGreatDoor
