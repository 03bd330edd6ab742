/-
  Leaves, 1: bits.Add64, bits.Sub64, bits.Mul64; the functions' table of this translation.
-/
import Derived.Test.YtkpihidjolfkoaaTab
import Derived.Test.YtkpihidjolfkoaaEngK
import Derived.Shelf.Spec.BitsCarry
import Derived.Lib.Mul64
namespace Go.Proofs.Ytkpihidjolfkoaa
open Go Go.Eng Go.RowKit

/-- A function of the program, by its number. -/
noncomputable def fn1 (f : FuncId) : Option Fn1 := match Try.prog.funcs[f]? with
  | some fn => match fn.body with
    | some b => match fn.name == "runtime.NumGoroutine" with
      | true => none
      | false => some { body := b, results := fn.results.toList, ntmps := fn.ntmps }
    | none => none
  | none => none
theorem fn1_ok : ∀ f d, fn1 f = some d → FnOk Try.prog f d := by
  intro f d h
  unfold fn1 at h
  split at h
  · rename_i fn hfn
    split at h
    · rename_i b hb
      split at h
      · cases h
      · rename_i hn; cases h; exact ⟨fn, hfn, hb, rfl, rfl, hn⟩
    · cases h
  · cases h

/-- A word's slot. -/
def uw (n : Nat) : AV := ⟨false, [.v (.int .u64 (n : Int))]⟩
def sub64Row : Row where
  f := 78
  ans := fun
    | [⟨false, [.v (.int .u64 x)]⟩, ⟨false, [.v (.int .u64 y)]⟩, ⟨false, [.v (.int .u64 b)]⟩] =>
      some (.tup [uw ((x.toNat + 18446744073709551616 - y.toNat - b.toNat) % 18446744073709551616), uw (if x.toNat < y.toNat + b.toNat then 1 else 0)], [0 ≤ x ∧ 0 ≤ y ∧ 0 ≤ b ∧ b ≤ 1])
    | _ => none
def add64Row : Row where
  f := 60
  ans := fun
    | [⟨false, [.v (.int .u64 x)]⟩, ⟨false, [.v (.int .u64 y)]⟩, ⟨false, [.v (.int .u64 b)]⟩] =>
      some (.tup [uw ((x.toNat + y.toNat + b.toNat) % 18446744073709551616), uw ((x.toNat + y.toNat + b.toNat) / 18446744073709551616)], [0 ≤ x ∧ 0 ≤ y ∧ 0 ≤ b ∧ b ≤ 1])
    | _ => none
theorem run_sub64' (x y b : Nat) (hb : b ≤ 1) (w : World) : (callFunc 78 #[.int .u64 x, .int .u64 y, .int .u64 b]).run Try.prog w =
    .ok (.value (.tuple #[.int .u64 (((x + 18446744073709551616 - y - b) % 18446744073709551616 : Nat) : Int), .int .u64 ((if x < y + b then 1 else 0 : Nat) : Int)])) w := by
  rw [run_callFunc_extern (Try.func78) (by kernel_rfl) (by kernel_rfl) (by kernel_rfl) (e := sub64Entry) (by kernel_rfl), run_sub64 x y b hb]
  rfl
theorem run_add64' (x y b : Nat) (hb : b ≤ 1) (w : World) : (callFunc 60 #[.int .u64 x, .int .u64 y, .int .u64 b]).run Try.prog w =
    .ok (.value (.tuple #[.int .u64 (((x + y + b) % 18446744073709551616 : Nat) : Int), .int .u64 (((x + y + b) / 18446744073709551616 : Nat) : Int)])) w := by
  rw [run_callFunc_extern (Try.func60) (by kernel_rfl) (by kernel_rfl) (by kernel_rfl) (e := add64Entry) (by kernel_rfl), run_add64 x y b (by omega) (by omega) (by omega) (by omega)]
  simp only [Result.andThen]
  congr 5 <;> omega
theorem vals_u3 {ρ : Rho} {x y b : Int} {vs : List Value} (h : vals ρ [⟨false, [.v (.int .u64 x)]⟩, ⟨false, [.v (.int .u64 y)]⟩, ⟨false, [.v (.int .u64 b)]⟩] = some vs) : vs = [.int .u64 x, .int .u64 y, .int .u64 b] := by
  have e : ∀ z : Int, AV.val ρ ⟨false, [.v (.int .u64 z)]⟩ = some (.int .u64 z) := fun z => AV.val_v (ρ := ρ) (x := .int .u64 z) rfl
  simp only [vals, e, Option.some.injEq] at h
  exact h.symm
theorem sub64_ok : RowOk Try.prog sub64Row := by
  intro args s ob h hob ρ vs hv
  unfold sub64Row at h
  simp only at h
  split at h
  · rename_i x y b
    cases h
    obtain ⟨hx, hy, hb0, hb⟩ := hob _ (List.mem_singleton.2 rfl)
    have e := vals_u3 hv
    subst e
    obtain ⟨x, rfl⟩ := Int.eq_ofNat_of_zero_le hx
    obtain ⟨y, rfl⟩ := Int.eq_ofNat_of_zero_le hy
    obtain ⟨b, rfl⟩ := Int.eq_ofNat_of_zero_le hb0
    refine ⟨_, rfl, fun w => .inl ⟨_, run_sub64' x y b (by omega) w, ?_, Below.refl _ _⟩⟩
    simp only [Int.toNat_natCast]
  · cases h
theorem add64_ok : RowOk Try.prog add64Row := by
  intro args s ob h hob ρ vs hv
  unfold add64Row at h
  simp only at h
  split at h
  · rename_i x y b
    cases h
    obtain ⟨hx, hy, hb0, hb⟩ := hob _ (List.mem_singleton.2 rfl)
    have e := vals_u3 hv
    subst e
    obtain ⟨x, rfl⟩ := Int.eq_ofNat_of_zero_le hx
    obtain ⟨y, rfl⟩ := Int.eq_ofNat_of_zero_le hy
    obtain ⟨b, rfl⟩ := Int.eq_ofNat_of_zero_le hb0
    refine ⟨_, rfl, fun w => .inl ⟨_, run_add64' x y b (by omega) w, ?_, Below.refl _ _⟩⟩
    simp only [Int.toNat_natCast]
  · cases h
end Go.Proofs.Ytkpihidjolfkoaa
