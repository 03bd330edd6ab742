/-
  The types that the runs need, told once, and held against the program.
-/
import Derived.Test.YthceokldlinjlaaEb
import Derived.Test.YthceokldlinjlaaChecked
namespace Go.Proofs.Ythceokldlinjlaa
open Go Go.Eng

def u64s (n : Nat) : List K := List.replicate n (some .u64)
def tyInt (k : IntKind) : Ty := { size := 1, agg := false, zero := some [.v (.int k 0)], ik := some k, fields := [], arr := none, sl := none, kinds := [some k] }
def tyBool : Ty := { size := 1, agg := false, zero := some [.v (.bool false)], ik := none, fields := [], arr := none, sl := none, kinds := [none] }
def tyWords (n : Nat) : Ty := { size := n, agg := true, zero := some [.w n 0], ik := none, fields := [], arr := some (n, 1, false), sl := none, kinds := u64s n }
def tyFp2 : Ty := { size := 12, agg := true, zero := some [.w 6 0, .w 6 0], ik := none, fields := [(0, 6, true), (6, 6, true)], arr := none, sl := none, kinds := u64s 12 }
def w0s (n : Nat) : List It := List.replicate n (.w 6 0)
def tyFp6 : Ty := { size := 36, agg := true, zero := some (w0s 6), ik := none, fields := [(0, 12, true), (12, 12, true), (24, 12, true)], arr := none, sl := none, kinds := u64s 36 }
def tyFp12 : Ty := { size := 72, agg := true, zero := some (w0s 12), ik := none, fields := [(0, 36, true), (36, 36, true)], arr := none, sl := none, kinds := u64s 72 }
def tyRow (n s k : Nat) : Ty := { size := n * s, agg := true, zero := some (w0s (n * k)), ik := none, fields := [], arr := some (n, s, true), sl := none, kinds := u64s (n * s) }
def tySlice (s : Nat) : Ty := { size := 1, agg := false, zero := some [.v (.slice none 0 0)], ik := none, fields := [], arr := none, sl := some s, kinds := [] }

theorem ok_mk {t : TypeId} {d : Ty} {l : List It} {vs : List Value} (h1 : core Try.prog t = some (d.size, d.agg, d.ik, d.fields.map some, d.arr, d.sl)) (h2 : d.zero = some l) (h3 : conc rho0 l = some vs) (h4 : zeroP Try.prog t = some vs)
    (h5 : d.kinds = [] ∨ (flat Try.prog 8 t = some d.kinds ∧ Try.prog.eqGuardType Try.prog.depth t = false)) (h6 : d.slz = none ∧ d.ez = none) (h7 : d.str = false := by rfl) (h8 : d.mk8 = false := by rfl) : TyOk Try.prog t d :=
  ⟨h1, fun l' hl => by rw [h2] at hl; cases hl; exact ⟨vs, h3, h4⟩, h5, fun i hi => (by rw [h6.1] at hi; cases hi), fun l hl => (by rw [h6.2] at hl; cases hl), fun hl => (by rw [h7] at hl; cases hl), fun hl => (by rw [h8] at hl; cases hl)⟩
theorem ok_int64 : TyOk Try.prog 3 (tyInt .i64) := ok_mk (by kernel_rfl) rfl rfl (by kernel_rfl) (.inr ⟨by kernel_rfl, by kernel_rfl⟩) ⟨rfl, rfl⟩
theorem ok_bool : TyOk Try.prog 4 tyBool := ok_mk (by kernel_rfl) rfl rfl (by kernel_rfl) (.inr ⟨by kernel_rfl, by kernel_rfl⟩) ⟨rfl, rfl⟩
theorem ok_u64 : TyOk Try.prog 22 (tyInt .u64) := ok_mk (by kernel_rfl) rfl rfl (by kernel_rfl) (.inr ⟨by kernel_rfl, by kernel_rfl⟩) ⟨rfl, rfl⟩
theorem ok_fp : TyOk Try.prog 24 (tyWords 6) := ok_mk (by kernel_rfl) rfl rfl (by kernel_rfl) (.inr ⟨by kernel_rfl, by kernel_rfl⟩) ⟨rfl, rfl⟩
theorem ok_fp2 : TyOk Try.prog 26 tyFp2 := ok_mk (by kernel_rfl) rfl rfl (by kernel_rfl) (.inr ⟨by kernel_rfl, by kernel_rfl⟩) ⟨rfl, rfl⟩
theorem ok_fp6 : TyOk Try.prog 28 tyFp6 := ok_mk (by kernel_rfl) rfl rfl (by kernel_rfl) (.inr ⟨by kernel_rfl, by kernel_rfl⟩) ⟨rfl, rfl⟩
theorem ok_fp12 : TyOk Try.prog 30 tyFp12 := ok_mk (by kernel_rfl) rfl rfl (by kernel_rfl) (.inr ⟨by kernel_rfl, by kernel_rfl⟩) ⟨rfl, rfl⟩
theorem ok_a8 : TyOk Try.prog 128 (tyWords 8) := ok_mk (by kernel_rfl) rfl rfl (by kernel_rfl) (.inr ⟨by kernel_rfl, by kernel_rfl⟩) ⟨rfl, rfl⟩
def tySu64 : Ty := { tySlice 1 with slz := some (.v (.int .u64 0)), ez := some [.v (.int .u64 0)], mk8 := true }
theorem mk8_of {t e : TypeId} (h1 : Try.prog.underlying t = some (.slice e)) (h2 : (match Try.prog.info? e with | some i => decide (i.bytes ≤ 8) | none => false) = true) : ∃ e i, Try.prog.underlying t = some (.slice e) ∧ Try.prog.info? e = some i ∧ i.bytes ≤ 8 := by
  cases hi : Try.prog.info? e with
  | none => rw [hi] at h2; cases h2
  | some i => rw [hi] at h2; exact ⟨e, i, h1, hi, of_decide_eq_true h2⟩
theorem ok_su64 : TyOk Try.prog 32 tySu64 :=
  ⟨by kernel_rfl, fun l hl => by cases hl; exact ⟨_, rfl, by kernel_rfl⟩, .inl rfl, fun i hi => (by cases hi; exact ⟨22, .int .u64 0, by kernel_rfl, rfl, by kernel_rfl⟩), fun l hl => (by cases hl; exact ⟨22, _, by kernel_rfl, rfl, by kernel_rfl⟩), fun hl => (by cases hl), fun _ => mk8_of (e := 22) (by kernel_rfl) (by kernel_rfl)⟩
/-- A slice of rows of numbers. -/
def tySliceE (m : Nat) : Ty := { tySlice (6 * m) with ez := some (w0s m) }
theorem ok_sl {t e : TypeId} {m : Nat} {vs : List Value} (h1 : core Try.prog t = some (1, false, none, [], none, some (6 * m))) (h2 : zeroP Try.prog t = some [.slice none 0 0]) (h3 : Try.prog.underlying t = some (.slice e)) (h4 : conc rho0 (w0s m) = some vs) (h5 : zeroP Try.prog e = some vs) : TyOk Try.prog t (tySliceE m) :=
  ⟨h1, fun l hl => by cases hl; exact ⟨_, rfl, h2⟩, .inl rfl, fun i hi => (by cases hi), fun l hl => (by cases hl; exact ⟨e, vs, h3, h4, h5⟩), fun hl => (by cases hl), fun hl => by cases hl⟩
theorem ok_sfp2 : TyOk Try.prog 127 (tySliceE 2) := ok_sl (e := 26) (by kernel_rfl) (by kernel_rfl) (by kernel_rfl) rfl (by kernel_rfl)

def tyStr : Ty := { size := 1, agg := false, zero := none, ik := none, fields := [], arr := none, sl := none, kinds := [], str := true }
theorem ok_str : TyOk Try.prog 9 tyStr := ⟨by kernel_rfl, fun l hl => (by cases hl), .inl rfl, fun i hi => (by cases hi), fun l hl => (by cases hl), fun _ => (by kernel_rfl), fun hl => by cases hl⟩
theorem ok_u8 : TyOk Try.prog 5 (tyInt .u8) := ok_mk (by kernel_rfl) rfl rfl (by kernel_rfl) (.inr ⟨by kernel_rfl, by kernel_rfl⟩) ⟨rfl, rfl⟩
theorem ok_uint : TyOk Try.prog 105 (tyInt .u64) := ok_mk (by kernel_rfl) rfl rfl (by kernel_rfl) (.inr ⟨by kernel_rfl, by kernel_rfl⟩) ⟨rfl, rfl⟩
/-- Points: m numbers and a bool; points as fractions: three rows of numbers. -/
def tyPt (m : Nat) : Ty := { size := 12 * m + 1, agg := true, zero := some (w0s (2 * m) ++ [.v (.bool false)]), ik := none, fields := [(0, 6 * m, true), (6 * m, 6 * m, true), (12 * m, 1, false)], arr := none, sl := none, kinds := u64s (12 * m) ++ [none] }
def tyFree (m : Nat) : Ty := { size := 18 * m, agg := true, zero := some (w0s (3 * m)), ik := none, fields := [(0, 6 * m, true), (6 * m, 6 * m, true), (12 * m, 6 * m, true)], arr := none, sl := none, kinds := u64s (18 * m) }
/-- A slice of what has these cells. -/
def tySlZ (s : Nat) (l : List It) : Ty := { tySlice s with ez := some l }
theorem ok_slz {t e : TypeId} {s : Nat} {l : List It} {vs : List Value} (h1 : core Try.prog t = some (1, false, none, [], none, some s)) (h2 : zeroP Try.prog t = some [.slice none 0 0]) (h3 : Try.prog.underlying t = some (.slice e)) (h4 : conc rho0 l = some vs) (h5 : zeroP Try.prog e = some vs) : TyOk Try.prog t (tySlZ s l) :=
  ⟨h1, fun l hl => by cases hl; exact ⟨_, rfl, h2⟩, .inl rfl, fun i hi => (by cases hi), fun l hl => (by cases hl; exact ⟨e, vs, h3, h4, h5⟩), fun hl => (by cases hl), fun hl => by cases hl⟩
def tyListP : List (Nat × Ty) :=
  (52, tyPt 1) ::
  (41, tyPt 2) ::
  (98, tyFree 1) ::
  (83, tyFree 2) ::
  (116, tyFree 1) ::
  (109, tyFree 2) ::
  (43, tyInt .i64) ::
  (68, tyWords 4) ::
  (131, tyWords 7) ::
  (120, tyWords 12) ::
  (89, tyWords 10) ::
  (69, tyWords 4) ::
  (59, tySlZ 25 (w0s 4 ++ [.v (.bool false)])) ::
  (58, tySlZ 1 [.v (.slice none 0 0)]) ::
  []
theorem ok_listP : ∀ p ∈ tyListP, TyOk Try.prog p.1 p.2 := by
  unfold tyListP
  refine List.forall_mem_cons.2 ⟨ok_mk (by kernel_rfl) rfl rfl (by kernel_rfl) (.inr ⟨by kernel_rfl, by kernel_rfl⟩) ⟨rfl, rfl⟩, ?_⟩
  refine List.forall_mem_cons.2 ⟨ok_mk (by kernel_rfl) rfl rfl (by kernel_rfl) (.inr ⟨by kernel_rfl, by kernel_rfl⟩) ⟨rfl, rfl⟩, ?_⟩
  refine List.forall_mem_cons.2 ⟨ok_mk (by kernel_rfl) rfl rfl (by kernel_rfl) (.inr ⟨by kernel_rfl, by kernel_rfl⟩) ⟨rfl, rfl⟩, ?_⟩
  refine List.forall_mem_cons.2 ⟨ok_mk (by kernel_rfl) rfl rfl (by kernel_rfl) (.inr ⟨by kernel_rfl, by kernel_rfl⟩) ⟨rfl, rfl⟩, ?_⟩
  refine List.forall_mem_cons.2 ⟨ok_mk (by kernel_rfl) rfl rfl (by kernel_rfl) (.inr ⟨by kernel_rfl, by kernel_rfl⟩) ⟨rfl, rfl⟩, ?_⟩
  refine List.forall_mem_cons.2 ⟨ok_mk (by kernel_rfl) rfl rfl (by kernel_rfl) (.inr ⟨by kernel_rfl, by kernel_rfl⟩) ⟨rfl, rfl⟩, ?_⟩
  refine List.forall_mem_cons.2 ⟨ok_mk (by kernel_rfl) rfl rfl (by kernel_rfl) (.inr ⟨by kernel_rfl, by kernel_rfl⟩) ⟨rfl, rfl⟩, ?_⟩
  refine List.forall_mem_cons.2 ⟨ok_mk (by kernel_rfl) rfl rfl (by kernel_rfl) (.inr ⟨by kernel_rfl, by kernel_rfl⟩) ⟨rfl, rfl⟩, ?_⟩
  refine List.forall_mem_cons.2 ⟨ok_mk (by kernel_rfl) rfl rfl (by kernel_rfl) (.inr ⟨by kernel_rfl, by kernel_rfl⟩) ⟨rfl, rfl⟩, ?_⟩
  refine List.forall_mem_cons.2 ⟨ok_mk (by kernel_rfl) rfl rfl (by kernel_rfl) (.inr ⟨by kernel_rfl, by kernel_rfl⟩) ⟨rfl, rfl⟩, ?_⟩
  refine List.forall_mem_cons.2 ⟨ok_mk (by kernel_rfl) rfl rfl (by kernel_rfl) (.inr ⟨by kernel_rfl, by kernel_rfl⟩) ⟨rfl, rfl⟩, ?_⟩
  refine List.forall_mem_cons.2 ⟨ok_mk (by kernel_rfl) rfl rfl (by kernel_rfl) (.inr ⟨by kernel_rfl, by kernel_rfl⟩) ⟨rfl, rfl⟩, ?_⟩
  refine List.forall_mem_cons.2 ⟨ok_slz (e := 41) (by kernel_rfl) (by kernel_rfl) (by kernel_rfl) rfl (by kernel_rfl), ?_⟩
  refine List.forall_mem_cons.2 ⟨ok_slz (e := 32) (by kernel_rfl) (by kernel_rfl) (by kernel_rfl) rfl (by kernel_rfl), ?_⟩
  intro p hp
  cases hp
def tyListA : List (Nat × Ty) := [(3, tyInt .i64), (4, tyBool), (9, tyStr), (5, tyInt .u8), (105, tyInt .u64), (22, tyInt .u64), (24, tyWords 6), (26, tyFp2), (28, tyFp6), (30, tyFp12),
  (128, tyWords 8), (32, tySu64), (127, tySliceE 2)]
def tyList : List (Nat × Ty) := tyListA ++ tyListP
def tyTab (t : TypeId) : Option Ty := Eng.look tyList t
theorem look_mem {α : Type} : ∀ (l : List (Nat × α)) (k : Nat) (v : α), Eng.look l k = some v → (k, v) ∈ l := by
  intro l
  induction l with
  | nil => intro k v h; cases h
  | cons p l ih =>
    intro k v h
    obtain ⟨k', v'⟩ := p
    simp only [Eng.look, beq_iff_eq] at h
    split at h
    · rename_i e; cases h; subst e; exact List.mem_cons_self
    · exact List.mem_cons_of_mem _ (ih k v h)
theorem tyTab_ok : ∀ t d, tyTab t = some d → TyOk Try.prog t d := by
  intro t d h
  have hA : ∀ p ∈ tyListA, TyOk Try.prog p.1 p.2 := by
    simp only [tyListA, List.forall_mem_cons, List.not_mem_nil, false_imp_iff, implies_true, and_true]
    exact ⟨ok_int64, ok_bool, ok_str, ok_u8, ok_uint, ok_u64, ok_fp, ok_fp2, ok_fp6, ok_fp12, ok_a8, ok_su64, ok_sfp2⟩
  rcases List.mem_append.1 (look_mem _ _ _ h) with hm | hm
  · exact hA _ hm
  · exact ok_listP _ hm
theorem mixed : Try.prog.follows .mixedOrders = true := by kernel_rfl
end Go.Proofs.Ythceokldlinjlaa
