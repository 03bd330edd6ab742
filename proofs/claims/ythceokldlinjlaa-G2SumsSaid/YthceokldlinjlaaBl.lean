/-
  Loops over the bits of a slice of words, from the highest bit on.
-/
import Derived.Test.YthceokldlinjlaaPx
namespace Go.Proofs.Ythceokldlinjlaa
open Go Go.Eng Go.RowKit Go.Wd Go.Alg Go.Pr

/-- The bit at place k, where the place within the word is taken as an unsigned number. -/
def bitW (n : Nat) (k : Int) : Int := Eng.bits .and .u64 ((bitV.word64 n (0 + (IntKind.i64.wrap (k.tdiv 64)).toNat * 1)).fdiv (2 ^ min (IntKind.u64.wrap (k.tmod 64)).toNat IntKind.u64.bits)) 1
theorem wrap_tmod64 (k : Nat) : IntKind.u64.wrap ((k : Int).tmod 64) = ((k % 64 : Nat) : Int) := by
  rw [tmod64]; exact wrap_nat (by omega)
theorem bitW_eq (n : Nat) {k : Nat} (hk : k < 9223372036854775808) : bitW n (k : Int) = ((n / 2 ^ k % 2 : Nat) : Int) := by
  have h := bitV_eq n hk
  unfold bitV at h
  unfold bitW
  rw [wrap_tmod64]
  rw [tmod64] at h
  exact h
/-- What such a round owes: the documents' way (the place as an unsigned number). -/
def obW (len n : Nat) (i : Int) (b : Bool) : List Prop := [i ≥ 0 ↔ true = true, 0 ≤ IntKind.i64.wrap (i.tdiv 64) ∧ IntKind.i64.wrap (i.tdiv 64) < (len : Int), 0 + (IntKind.i64.wrap (i.tdiv 64)).toNat * 1 < len, 0 ≤ IntKind.u64.wrap (i.tmod 64), bitW n i = 1 ↔ b = true]
/-- The program's way: is the bit 0? -/
def obZ (len n : Nat) (i : Int) (b : Bool) : List Prop := [i ≥ 0 ↔ true = true, 0 ≤ IntKind.i64.wrap (i.tdiv 64) ∧ IntKind.i64.wrap (i.tdiv 64) < (len : Int), 0 + (IntKind.i64.wrap (i.tdiv 64)).toNat * 1 < len, 0 ≤ i.tmod 64, bitV n i = 0 ↔ (!b) = true]
theorem obW_ok {len n j : Nat} (h : len < 4294967296) (hj : j < 64 * len) {b : Bool} (hb : n / 2 ^ j % 2 = 1 ↔ b = true) : ∀ p ∈ obW len n (j : Int) b, p := by
  intro p hp
  unfold obW at hp
  rw [wtdiv64 (by omega), wrap_tmod64, bitW_eq _ (by omega)] at hp
  rcases List.mem_cons.1 hp with rfl | hp
  · exact ⟨fun _ => rfl, fun _ => by omega⟩
  rcases List.mem_cons.1 hp with rfl | hp
  · omega
  rcases List.mem_cons.1 hp with rfl | hp
  · rw [Int.toNat_natCast]; omega
  rcases List.mem_cons.1 hp with rfl | hp
  · omega
  rcases List.mem_cons.1 hp with rfl | hp
  · rw [← hb]; omega
  · cases hp
theorem obZ_ok {len n j : Nat} (h : len < 4294967296) (hj : j < 64 * len) {b : Bool} (hb : n / 2 ^ j % 2 = 1 ↔ b = true) : ∀ p ∈ obZ len n (j : Int) b, p := by
  intro p hp
  unfold obZ at hp
  rw [wtdiv64 (by omega), tmod64, bitV_eq _ (by omega)] at hp
  rcases List.mem_cons.1 hp with rfl | hp
  · exact ⟨fun _ => rfl, fun _ => by omega⟩
  rcases List.mem_cons.1 hp with rfl | hp
  · omega
  rcases List.mem_cons.1 hp with rfl | hp
  · rw [Int.toNat_natCast]; omega
  rcases List.mem_cons.1 hp with rfl | hp
  · omega
  rcases List.mem_cons.1 hp with rfl | hp
  · cases b with
    | true =>
      have := hb.2 rfl
      exact ⟨fun e => by omega, fun e => by cases e⟩
    | false =>
      have : ¬ n / 2 ^ j % 2 = 1 := fun e => by cases hb.1 e
      exact ⟨fun e => rfl, fun e => by omega⟩
  · cases hp
def iT (len : Nat) : Int := IntKind.i64.wrap (N64 len - 1)
theorem iT_eq {len : Nat} (h : len < 4294967296) : iT len = ((64 * len : Nat) : Int) - 1 := by
  unfold iT
  rw [N64_eq h, wrap_small (by omega) (by omega)]
def scopeIn : Code → Code
  | .scope c => c
  | c => c
/-- Such a loop: what holds of the state, from the highest bit on. -/
theorem bit_loop {E : Eng} (hE : ∀ t d, E.tab t = some d → TyOk Try.prog t d) (hcall : CallOk Try.prog E.call) {L : Code} {S : Type} (st : Int → S → St) (ks : List Nat) (hk1 : 1 ∈ ks)
    (hk : ∀ i s, keepsB (st i s) ks = true) (hb : ∀ i s, ∀ id ∈ ks, ∃ l, (st i s).blk id = some l) {len n : Nat} (hlen : len < 4294967296) (f g : S → S) (I : Nat → S → Prop) {nid kx : Nat} {hx h0 h1 : List (Nat × Bool)}
    (hexit : ∀ i s, probe E 100 L (st i s) nid hx ((st i s).map (·.1)) = some (kx + 2, [i ≥ 0 ↔ false = true], (st i s).map fun p => some p.2))
    (ob : Int → Bool → S → List Prop) (hob : ∀ (j : Nat) (b : Bool) (s : S), j < 64 * len → I (j + 1) s → (n / 2 ^ j % 2 = 1 ↔ b = true) → ∀ p ∈ ob (j : Int) b s, p)
    (hzero : ∀ i s, probe E 100 L (st i s) nid h0 ((st (IntKind.i64.wrap (i - 1)) (f s)).map (·.1)) = some (0, ob i false s, (st (IntKind.i64.wrap (i - 1)) (f s)).map fun p => some p.2))
    (hone : ∀ i s, probe E 100 L (st i s) nid h1 ((st (IntKind.i64.wrap (i - 1)) (g (f s))).map (·.1)) = some (0, ob i true s, (st (IntKind.i64.wrap (i - 1)) (g (f s))).map fun p => some p.2))
    (hI0 : ∀ j s, j < 64 * len → I (j + 1) s → n % pw len / 2 ^ j % 2 = 0 → I j (f s)) (hI1 : ∀ j s, j < 64 * len → I (j + 1) s → n % pw len / 2 ^ j % 2 = 1 → I j (g (f s)))
    {b o : Nat} {w0 : World} {Q : Exit → Act → World → Prop} (hQ : ∀ s a w, I 0 s → At E.N (rho1 b o) w0 (st (-1) s) a w → Q (.exit kx) a w) {s0 : S} (hs : I (64 * len) s0) {a : Act} {w : World}
    (hA : At E.N (rho1 b o) w0 (st (((64 * len : Nat) : Int) - 1) s0) a w) : (Code.loop L).wp Try.prog Q a w := by
  refine loop_rule (w0 := w0) (ρ0 := rho1 b o) (N := E.N) (ι := Nat × S) (fun x => x.1 ≤ 64 * len ∧ I x.1 x.2) (fun x => st ((x.1 : Int) - 1) x.2) (fun x => x.1) ?_ (64 * len, s0) ⟨Nat.le_refl _, hs⟩ a w hA
  rintro ⟨j, s⟩ ⟨hj, hI⟩ a w hA
  have hj : j ≤ 64 * len := hj
  have hI : I j s := hI
  have hA : At E.N (rho1 b o) w0 (st ((j : Int) - 1) s) a w := hA
  rcases Nat.eq_zero_or_pos j with hz | hpos
  · subst hz
    refine At.probe (E := E) mixed hE hcall (hexit _ s) (fun p hp => ?_) hA ks (hb _ _) (hk _ _) (no_rho1 hk1) fun a' w' hA' => hQ s a' w' hI hA'
    rw [List.mem_singleton] at hp
    subst hp
    exact iff_f (by omega)
  · obtain ⟨k, rfl⟩ : ∃ k, j = k + 1 := ⟨j - 1, by omega⟩
    have ei : ((k + 1 : Nat) : Int) - 1 = (k : Int) := by omega
    rw [ei] at hA
    have hw : IntKind.i64.wrap ((k : Int) - 1) = (k : Int) - 1 := wrap_small (by omega) (by omega)
    have hbit := bit_mod n (len := len) (k := k) (by omega)
    rcases Nat.mod_two_eq_zero_or_one (n % pw len / 2 ^ k) with e | e
    · refine At.probe (E := E) mixed hE hcall (hzero _ s) (hob k false s (by omega) hI (by rw [hbit, e]; exact iff_f (by omega))) hA ks (hb _ _) (hk _ _) (no_rho1 hk1) fun a' w' hA' => ⟨(k, f s), ⟨by show k ≤ _; omega, hI0 k s (by omega) hI e⟩, by show k < k + 1; omega, ?_⟩
      rw [hw] at hA'
      exact hA'
    · refine At.probe (E := E) mixed hE hcall (hone _ s) (hob k true s (by omega) hI (by rw [hbit, e]; exact iff_t rfl)) hA ks (hb _ _) (hk _ _) (no_rho1 hk1) fun a' w' hA' => ⟨(k, g (f s)), ⟨by show k ≤ _; omega, hI1 k s (by omega) hI e⟩, by show k < k + 1; omega, ?_⟩
      rw [hw] at hA'
      exact hA'
end Go.Proofs.Ythceokldlinjlaa
