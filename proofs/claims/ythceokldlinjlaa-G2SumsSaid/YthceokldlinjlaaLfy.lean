/-
  Leaves, 8: fp.even: a number is halved until it is odd, and what it stands for with it.
-/
import Derived.Test.YthceokldlinjlaaLfx
import Derived.Test.YthceokldlinjlaaEb
namespace Go.Proofs.Ythceokldlinjlaa
open Go Go.Eng Go.RowKit Go.Wd

noncomputable def dE : Fn1 := match fn1 133 with
  | some d => d
  | none => ⟨.skip, [], 0⟩
theorem dE_ok : FnOk Try.prog 133 dE := fn1_ok _ _ (by kernel_rfl)
/-- fp.P, its number named: q, which is owed to be the modulus. -/
def pRowQ (q : Nat) : Row where
  f := 131
  ans := fun
    | [] => some (.one (W6 q), [q = pN])
    | _ => none
theorem pQ_ok (q : Nat) : RowOk Try.prog (pRowQ q) := by
  intro args s ob ha hob ρ vs hv
  cases args with
  | nil =>
    have ha : some (SV.one (W6 q), [q = pN]) = some (s, ob) := ha
    cases ha
    have e : q = pN := hob _ (List.mem_singleton.2 rfl)
    subst e
    exact p_ok [] _ _ rfl (fun p hp => by cases hp) ρ vs hv
  | cons a l =>
    have ha : (none : Option (SV × List Prop)) = some (s, ob) := ha
    cases ha
noncomputable def E8 (q : Nat) : Eng := { tab := tyTab, call := callN tyTab (tableT (pRowQ q :: rowsA)) fn1 1000 6, N := 48 }
noncomputable def cEL : Code := loopIn (blockIn dE.body)
theorem dE_body : dE.body = .block 0 (.loop cEL) := by kernel_rfl
theorem dE_ntmps : dE.ntmps = 48 := by kernel_rfl
theorem dE_results : dE.results = [] := by kernel_rfl
set_option maxRecDepth 100000 in
theorem call8 (q : Nat) : CallOk Try.prog (E8 q).call := callN_ok mixed tyTab_ok (tableT_ok (by simp only [List.forall_mem_cons]; exact ⟨pQ_ok q, rowsA_ok⟩)) fn1_ok 1000 6
theorem tab8 (q : Nat) : ∀ t d, (E8 q).tab t = some d → TyOk Try.prog t d := tyTab_ok

/-- A word halved, with the next one's last bit. -/
def hw (a b : Int) : Int := Eng.bits .or .u64 (a.fdiv (2 ^ min (Int.toNat 1) IntKind.u64.bits)) (IntKind.u64.wrap (b * 2 ^ min (Int.toNat 63) IntKind.u64.bits))
def hRow (d : Nat → Int) (h : Int) : Ct := .bl [.v (.int .u64 (hw (d 0) (d 1))), .v (.int .u64 (hw (d 1) (d 2))), .v (.int .u64 (hw (d 2) (d 3))), .v (.int .u64 (hw (d 3) (d 4))), .v (.int .u64 (hw (d 4) (d 5))), .v (.int .u64 (hw (d 5) h))]
def and1 (n : Nat) (b : Bool) : Prop := Eng.bits .and .u64 ((dg n 0 : Nat) : Int) 1 = 0 ↔ b = true
def stE (u x : Nat) : St := [(0, spt 16), (2, spt 17), (33, .bl [.w 6 u]), (35, .bl [.w 6 x])]
def stE2 (a b : Ct) : St := [(0, spt 16), (2, spt 17), (33, a), (35, b)]
def dI (x : Nat) (j : Nat) : Int := ((dg x j : Nat) : Int)
def aI (x q : Nat) (j : Nat) : Int := ((cd 0 (dg x) (dg q) j : Nat) : Int)
theorem ev_exit (u x q : Nat) : probe (E8 q) 100 cEL (stE u x) 18 [(12, false)] ((stE u x).map (·.1)) = some (2, [and1 u false], (stE u x).map fun p => some p.2) := by kernel_rfl
theorem ev_ee (u x q : Nat) : probe (E8 q) 100 cEL (stE u x) 18 [(12, true), (20, true)] ((stE u x).map (·.1)) = some (0, [and1 u true, and1 x true], (stE2 (hRow (dI u) 0) (hRow (dI x) 0)).map fun p => some p.2) := by kernel_rfl
theorem ev_eo (u x q : Nat) : probe (E8 q) 100 cEL (stE u x) 18 [(12, true), (20, false)] ((stE u x).map (·.1)) =
  some (0, [and1 u true, and1 x false, q = pN] ++ (List.range 6).map (addOb 0 (dg x) (dg q)), (stE2 (hRow (dI u) 0) (hRow (aI x q) ((cw 0 (dg x) (dg q) 6 : Nat) : Int))).map fun p => some p.2) := by kernel_rfl

/-! ### words halved -/
theorem and1_eq (x : Nat) : Eng.bits .and .u64 (x : Int) 1 = ((x % 2 : Nat) : Int) := by
  have e : (BitVec.ofInt IntKind.u64.bits (x : Int) &&& BitVec.ofInt IntKind.u64.bits 1).toNat = x % 2 := by
    show (BitVec.ofInt 64 (x : Int) &&& BitVec.ofInt 64 1).toNat = x % 2
    rw [BitVec.toNat_and, BitVec.toNat_ofInt, BitVec.toNat_ofInt]
    have h1 : ((x : Int) % ((2 ^ 64 : Nat) : Int)).toNat = x % 2 ^ 64 := by omega
    have h2 : ((1 : Int) % ((2 ^ 64 : Nat) : Int)).toNat = 2 ^ 1 - 1 := by decide
    rw [h1, h2, Nat.and_two_pow_sub_one_eq_mod, Nat.mod_mod_of_dvd _ (by decide)]
  unfold Eng.bits
  simp only [e]
  exact wrap_nat (by omega)
theorem dg0_mod2 (n : Nat) : dg n 0 % 2 = n % 2 := by
  unfold dg; rw [pw_zero, Nat.div_one, two64]; omega
theorem and1_iff (n : Nat) (b : Bool) : and1 n b ↔ (n % 2 = 0 ↔ b = true) := by
  unfold and1
  rw [and1_eq, dg0_mod2]
  have : ((n % 2 : Nat) : Int) = 0 ↔ n % 2 = 0 := by omega
  rw [this]
theorem hw_eq (a b : Nat) (ha : a < 18446744073709551616) : hw (a : Int) (b : Int) = ((a / 2 + b % 2 * 9223372036854775808 : Nat) : Int) := by
  unfold hw
  have e1 : (2 : Int) ^ min (Int.toNat 1) IntKind.u64.bits = ((2 : Nat) : Int) := by decide
  have e2 : (2 : Int) ^ min (Int.toNat 63) IntKind.u64.bits = ((9223372036854775808 : Nat) : Int) := by decide
  rw [e1, e2, ← Int.ofNat_fdiv, ← Int.natCast_mul, wrap_mod]
  have e3 : b * 9223372036854775808 % 18446744073709551616 = b % 2 * 2 ^ 63 := by omega
  rw [e3]
  have e : (BitVec.ofInt IntKind.u64.bits ((a / 2 : Nat) : Int) ||| BitVec.ofInt IntKind.u64.bits ((b % 2 * 2 ^ 63 : Nat) : Int)).toNat = a / 2 + b % 2 * 9223372036854775808 := by
    show (BitVec.ofInt 64 ((a / 2 : Nat) : Int) ||| BitVec.ofInt 64 ((b % 2 * 2 ^ 63 : Nat) : Int)).toNat = _
    rw [BitVec.toNat_or, BitVec.toNat_ofInt, BitVec.toNat_ofInt]
    have h1 : (((a / 2 : Nat) : Int) % ((2 ^ 64 : Nat) : Int)).toNat = a / 2 := by omega
    have h2 : (((b % 2 * 2 ^ 63 : Nat) : Int) % ((2 ^ 64 : Nat) : Int)).toNat = b % 2 * 2 ^ 63 := by omega
    rw [h1, h2, Nat.or_comm, Nat.mul_comm (b % 2), Nat.two_pow_add_eq_or_of_lt (by omega) (b % 2) |>.symm]
    omega
  unfold Eng.bits
  simp only [e]
  exact wrap_nat (by omega)
/-- The halved words' digits. -/
def hd (d : Nat → Nat) (j : Nat) : Nat := d j / 2 + d (j + 1) % 2 * 9223372036854775808
theorem hd_lt {d : Nat → Nat} {j : Nat} (h : d j < 18446744073709551616) : hd d j < 18446744073709551616 := by unfold hd; omega
theorem num_hd (d : Nat → Nat) : ∀ k, 2 * num (hd d) k + d 0 % 2 = num d k + d k % 2 * pw k := by
  intro k
  induction k with
  | zero => simp [num, pw_zero]
  | succ k ih =>
    simp only [num]
    rw [pw_succ]
    have e : hd d k * 2 + d k % 2 = d k + d (k + 1) % 2 * 18446744073709551616 := by unfold hd; omega
    generalize num (hd d) k = A at *
    generalize num d k = B at *
    generalize hd d k = C at *
    generalize d k % 2 = D at *
    generalize d k = F at *
    generalize d (k + 1) % 2 = G at *
    generalize d 0 % 2 = H at *
    generalize pw k = W at *
    have e2 : (C * 2 + D) * W = (F + G * 18446744073709551616) * W := by rw [e]
    rw [Nat.add_mul, Nat.add_mul, Nat.mul_assoc, Nat.mul_assoc] at e2
    rw [Nat.mul_add, Nat.mul_comm W]
    have e3 : 2 * (C * W) = C * (2 * W) := Nat.mul_left_comm _ _ _
    omega
def d7 (d : Nat → Nat) (h : Nat) (j : Nat) : Nat := if j < 6 then d j else h
theorem w6_of_hRow {t : Nat → Int} {d : Nat → Nat} {h : Nat} {hI : Int} (e : ∀ j, t j = ((d j : Nat) : Int)) (eh : hI = (h : Int)) (hd' : ∀ j, d j < 18446744073709551616) (hh : h ≤ 1) {n : Nat} (hn : num d 6 + h * pw 6 = n) : SameCt (hRow t hI) (.bl [.w 6 (n / 2)]) := by
  intro ρ vs hv
  have e2 : ((List.range 6).map fun j => It.v (.int .u64 ((hd (d7 d h) j : Nat) : Int))) = [.v (.int .u64 (hw (t 0) (t 1))), .v (.int .u64 (hw (t 1) (t 2))), .v (.int .u64 (hw (t 2) (t 3))), .v (.int .u64 (hw (t 3) (t 4))), .v (.int .u64 (hw (t 4) (t 5))), .v (.int .u64 (hw (t 5) hI))] := by
    simp only [e, eh, hw_eq _ _ (hd' _)]
    rfl
  have hv' : conc ρ ((List.range 6).map fun j => It.v (.int .u64 ((hd (d7 d h) j : Nat) : Int))) = some vs := by rw [e2]; exact hv
  have e3 : ((List.range 6).map fun j => It.v (.int .u64 ((hd (d7 d h) j : Nat) : Int))) = ((List.range 6).map fun j => Value.int .u64 ((hd (d7 d h) j : Nat) : Int)).map It.v := by rw [List.map_map]; rfl
  rw [e3, val_plain ρ _ (fun v hv => by obtain ⟨i, _, rfl⟩ := List.mem_map.1 hv; rfl)] at hv'
  have hlt : ∀ i, i < 6 → hd (d7 d h) i < 18446744073709551616 := fun i hi => hd_lt (by unfold d7; rw [if_pos hi]; exact hd' i)
  rw [← words_map 6 hlt] at hv'
  cases hv'
  have k := num_hd (d7 d h) 6
  have k1 : num (d7 d h) 6 = num d 6 := num_congr 6 fun j hj => by unfold d7; rw [if_pos hj]
  have k2 : d7 d h 6 % 2 = h := by show h % 2 = h; omega
  have k3 : num (hd (d7 d h)) 6 = n / 2 := by
    rw [k1, k2, hn] at k
    omega
  rw [k3]
  simp [conc, It.cs]

/-! ### the law -/
def hv (x : Nat) : Nat := if x % 2 = 0 then x / 2 else (x + pN) / 2
def ev : Nat → Nat → Nat → Nat × Nat
  | 0, u, x => (u, x)
  | n + 1, u, x => match u % 2 == 0 with
    | true => ev n (u / 2) (hv x)
    | false => (u, x)
/-- A number halved until it is odd, and what it stands for with it. -/
def evN (u x : Nat) : Nat × Nat := ev (64 * 6) u x
theorem hv_lt {x : Nat} (h : x < M6) : hv x < M6 := by
  have : pN < M6 := pN_lt
  unfold hv; split <;> omega
theorem same_stE {a b : Ct} {u x : Nat} (h1 : SameCt a (.bl [.w 6 u])) (h2 : SameCt b (.bl [.w 6 x])) : ∀ k, match Eng.look (stE2 a b) k, Eng.look (stE u x) k with | some c, some c' => SameCt c c' | none, none => True | _, _ => False := by
  intro k
  by_cases e1 : k = 33
  · subst e1; exact h1
  · by_cases e2 : k = 35
    · subst e2; exact h2
    · have f1 : (33 == k) = false := by simp; omega
      have f2 : (35 == k) = false := by simp; omega
      by_cases e3 : k = 0
      · subst e3; exact SameCt.refl _
      · by_cases e4 : k = 2
        · subst e4; exact SameCt.refl _
        · have f3 : (0 == k) = false := by simp; omega
          have f4 : (2 == k) = false := by simp; omega
          simp only [stE2, stE, Eng.look, f1, f2, f3, f4]
          trivial
structure InvE (R : Nat × Nat) (u x : Nat) : Prop where
  pos : 0 < u
  ult : u < M6
  xlt : x < M6
  fin : ∃ n, u < 2 ^ n ∧ ev n u x = R
theorem InvE.odd {R : Nat × Nat} {u x : Nat} (h : InvE R u x) (ho : u % 2 ≠ 0) : R = (u, x) := by
  obtain ⟨n, h1, h2⟩ := h.fin
  cases n with
  | zero => have := h.pos; simp at h1; omega
  | succ n =>
    rw [ev] at h2
    have e : (u % 2 == 0) = false := by simpa using ho
    rw [e] at h2
    exact h2.symm
theorem InvE.next {R : Nat × Nat} {u x : Nat} (h : InvE R u x) (he : u % 2 = 0) : InvE R (u / 2) (hv x) := by
  obtain ⟨n, h1, h2⟩ := h.fin
  have hp := h.pos
  have hu := h.ult
  refine ⟨by omega, by omega, hv_lt h.xlt, ?_⟩
  cases n with
  | zero => simp at h1; omega
  | succ n =>
    rw [ev] at h2
    have e : (u % 2 == 0) = true := by simpa using he
    rw [e] at h2
    refine ⟨n, ?_, h2⟩
    rw [Nat.pow_succ] at h1
    omega
theorem keeps_stE (u x : Nat) : keepsB (stE u x) [16, 17] = true := by kernel_rfl
theorem keeps_stE2 (t t' : Nat → Int) (h h' : Int) : keepsB (stE2 (hRow t h) (hRow t' h')) [16, 17] = true := by kernel_rfl
theorem in2' {st : St} {A B : List It} (h1 : st.blk 16 = some A) (h2 : st.blk 17 = some B) : ∀ id ∈ [16, 17], ∃ l, st.blk id = some l := in2 h1 h2
theorem num_dg6 {x : Nat} (h : x < M6) : num (dg x) 6 = x := by rw [num_dg]; exact Nat.mod_eq_of_lt h
theorem loopE {R : Nat × Nat} {b1 b2 : Nat} {w0 : World} {Q : Exit → Act → World → Prop} (hQ : ∀ a w, At 48 (rho2 b1 b2) w0 (stE R.1 R.2) a w → Q (.exit 0) a w) {u x : Nat} (hI : InvE R u x) {a : Act} {w : World} (hA : At 48 (rho2 b1 b2) w0 (stE u x) a w) :
    (Code.loop cEL).wp Try.prog Q a w := by
  refine loop_rule (ι := Nat × Nat) (fun p => InvE R p.1 p.2) (fun p => stE p.1 p.2) (fun p => p.1) ?_ (u, x) hI a w hA
  rintro ⟨u, x⟩ hI a w hA
  have hI : InvE R u x := hI
  have hA : At 48 (rho2 b1 b2) w0 (stE u x) a w := hA
  by_cases hu : u % 2 = 0
  · have h0 : SameCt (hRow (dI u) 0) (.bl [.w 6 (u / 2)]) := w6_of_hRow (h := 0) (d := dg u) (fun j => rfl) rfl (fun j => dg_lt u j) (by omega) (by rw [num_dg6 hI.ult, Nat.zero_mul, Nat.add_zero])
    have hlt : u / 2 < u := by have := hI.pos; omega
    by_cases hx : x % 2 = 0
    · refine At.probe (E := E8 0) mixed (tab8 0) (call8 0) (ev_ee u x 0) (fun q hq => ?_) hA [16, 17] (in2 rfl rfl) (keeps_stE2 _ _ _ _) (dom2 b1 b2) fun a' w' hA' => ?_
      · simp only [List.mem_cons, List.not_mem_nil, or_false] at hq
        rcases hq with rfl | rfl
        · rw [and1_iff]; simp [hu]
        · rw [and1_iff]; simp [hx]
      · have h1 : SameCt (hRow (dI x) 0) (.bl [.w 6 (hv x)]) := by
          have := w6_of_hRow (t := dI x) (h := 0) (hI := 0) (d := dg x) (fun j => rfl) rfl (fun j => dg_lt x j) (by omega) (n := x) (by rw [num_dg6 hI.xlt, Nat.zero_mul, Nat.add_zero])
          unfold hv; rw [if_pos hx]; exact this
        exact ⟨(u / 2, hv x), hI.next hu, hlt, hA'.same (same_stE h0 h1)⟩
    · refine At.probe (E := E8 pN) mixed (tab8 pN) (call8 pN) (ev_eo u x pN) (fun q hq => ?_) hA [16, 17] (in2 rfl rfl) (keeps_stE2 _ _ _ _) (dom2 b1 b2) fun a' w' hA' => ?_
      · simp only [List.mem_append, List.mem_cons, List.not_mem_nil, or_false] at hq
        rcases hq with (rfl | rfl | rfl) | hq
        · rw [and1_iff]; simp [hu]
        · rw [and1_iff]; simp [hx]
        · trivial
        · obtain ⟨i, _, rfl⟩ := List.mem_map.1 hq
          have : cw 0 (dg x) (dg pN) i ≤ 1 := cw_le (by omega) i (fun _ _ => dg_lt _ _) (fun _ _ => dg_lt _ _)
          unfold addOb; omega
      · have hs := num_cd (c := 0) (x := dg x) (y := dg pN) 6
        rw [num_dg6 hI.xlt, dg_pN, Nat.add_zero] at hs
        have h1 : SameCt (hRow (aI x pN) ((cw 0 (dg x) (dg pN) 6 : Nat) : Int)) (.bl [.w 6 (hv x)]) := by
          have := w6_of_hRow (t := aI x pN) (h := cw 0 (dg x) (dg pN) 6) (d := cd 0 (dg x) (dg pN)) (fun j => rfl) rfl (fun j => cd_lt _ _ _ j) (cw_le (by omega) 6 (fun _ _ => dg_lt _ _) (fun _ _ => dg_lt _ _)) hs
          unfold hv; rw [if_neg hx]; exact this
        exact ⟨(u / 2, hv x), hI.next hu, hlt, hA'.same (same_stE h0 h1)⟩
  · refine At.probe (E := E8 0) mixed (tab8 0) (call8 0) (ev_exit u x 0) (fun q hq => ?_) hA [16, 17] (in2 rfl rfl) (keeps_stE _ _) (dom2 b1 b2) fun a' w' hA' => ?_
    · simp only [List.mem_cons, List.not_mem_nil, or_false] at hq
      subst hq; rw [and1_iff]; simp [hu]
    · have e := hI.odd hu
      subst e
      exact hQ a' w' hA'

/-! ### the whole -/
def inE : List AV := [⟨false, [.p 16 0]⟩, ⟨false, [.p 17 0]⟩]
theorem headE (u x : Nat) : ((stE u x).map (·.1)).map (Eng.look (initSlots 0 inE (48 - inE.length) ++ mem2 [.w 6 u] [.w 6 x])) = (stE u x).map fun p => some p.2 := by kernel_rfl
theorem even_two (u x : Nat) (h0 : 0 < u) (hu : u < M6) (hx : x < M6) (b1 b2 : Nat) (hne : b1 ≠ b2) :
    Two Try.prog 133 [ptr (b1, 0) 0, ptr (b2, 0) 0] b1 b2 (words 6 u) (words 6 x) (words 6 (evN u x).1) (words 6 (evN u x).2) (.tuple #[]) := by
  have hA : conc (rho2 b1 b2) [.w 6 u] = some (words 6 u) := by simp [conc, It.cs]
  have hB : conc (rho2 b1 b2) [.w 6 x] = some (words 6 x) := by simp [conc, It.cs]
  refine two_of_mem hne hA hB (A' := [.w 6 (evN u x).1]) (B' := [.w 6 (evN u x).2]) (fun ρ us h => by simp [conc, It.cs] at h; exact h.symm) (fun ρ us h => by simp [conc, It.cs] at h; exact h.symm) fun w hM => ?_
  refine .inr ⟨dE_ok.enter _ _, ?_⟩
  have hv : vals (rho2 b1 b2) inE = some [ptr (b1, 0) 0, ptr (b2, 0) 0] := by
    have e2 : AV.val (rho2 b1 b2) ⟨false, [.p 16 0]⟩ = some (ptr (b1, 0) 0) := AV.val_mk (by simp [It.cs, rho2])
    have e4 : AV.val (rho2 b1 b2) ⟨false, [.p 17 0]⟩ = some (ptr (b2, 0) 0) := AV.val_mk (by simp [It.cs, rho2])
    simp only [inE, vals, e2, e4]
  have hI : InvE (evN u x) u x := ⟨h0, hu, hx, 64 * 6, hu, rfl⟩
  refine (calls_of_at (G := fun xs st => xs = [] ∧ st.blk 16 = some [.w 6 (evN u x).1] ∧ st.blk 17 = some [.w 6 (evN u x).2]) tyTab_ok dE_ok hM (by kernel_rfl) hv (by rw [dE_ntmps]; simp [inE]) fun a hA0 => ?_).mono ?_
  · rw [dE_ntmps] at hA0
    rw [dE_body, dE_ntmps, dE_results]
    have h1 : At 48 (rho2 b1 b2) w (stE u x) a w := by
      refine hA0.forget [16, 17] (fun k c hk => ?_) (in2 rfl rfl) (keeps_stE _ _) (dom2 b1 b2)
      have hm := look_some_mem hk
      have he := headE u x
      rw [List.map_map] at he
      simp only [stE, List.map_cons, List.map_nil, Function.comp, List.cons.injEq, and_true] at he
      simp only [stE, List.mem_cons, List.not_mem_nil, or_false, Prod.mk.injEq] at hm
      rcases hm with ⟨rfl, rfl⟩ | ⟨rfl, rfl⟩ | ⟨rfl, rfl⟩ | ⟨rfl, rfl⟩
      · exact he.1
      · exact he.2.1
      · exact he.2.2.1
      · exact he.2.2.2
    refine wp_block (loopE (R := evN u x) (fun a3 w3 h3 => ?_) hI h1)
    exact ⟨.inl rfl, _, [], h3, rfl, rfl, rfl, rfl⟩
  · rintro e w' ⟨v, rfl, xs, st, ρ', hE, hval, hMk, rfl, h1, h2⟩
    refine ⟨v, rfl, ?_, ρ', st, hE, hMk, h1, h2⟩
    simp only [pack, SV.val, vals, Option.some.injEq] at hval
    exact hval.symm
def evenT : CallT := fun f args m _ => match f == 133 with
  | true => match args with
    | [⟨false, [.p a 0]⟩, ⟨false, [.p b 0]⟩] => match m.blk a, m.blk b with
      | some A, some B => match asW6 A, asW6 B with
        | some (u, ob), some (x, ob') => match (a != b && (own a && own b)) with
          | true => some { val := .tup [], wr := [(a, [.w 6 (evN u x).1]), (b, [.w 6 (evN u x).2])], news := [], ob := (0 < u ∧ u < M6 ∧ x < M6) :: (ob ++ ob') }
          | false => none
        | _, _ => none
      | _, _ => none
    | _ => none
  | false => none
theorem evenT_ok : CallOk Try.prog evenT := by
  intro f args m nid out hout hob ρ w vs hv hM hnew
  unfold evenT at hout
  split at hout
  · rename_i hf
    rw [beq_iff_eq] at hf
    subst hf
    split at hout
    · rename_i a b
      split at hout
      · rename_i A B hA hB
        split at hout
        · rename_i u ob x ob' h6 h8
          split at hout
          · rename_i hc
            cases hout
            simp only [Bool.and_eq_true, bne_iff_ne, ne_eq] at hc
            obtain ⟨hab, ha, hb⟩ := hc
            obtain ⟨h0, h1, h2⟩ := hob _ (List.mem_cons_self)
            have ob1 : ∀ p ∈ ob, p := fun p hp => hob p (List.mem_cons_of_mem _ (List.mem_append_left _ hp))
            have ob2 : ∀ p ∈ ob', p := fun p hp => hob p (List.mem_cons_of_mem _ (List.mem_append_right _ hp))
            obtain ⟨v2, r2, e3, e4, rfl⟩ := vals_cons hv
            obtain ⟨v4, r4, e7, e8, rfl⟩ := vals_cons e4
            cases e8
            refine two_call (args := fun q1 q2 => [ptr q1 0, ptr q2 0]) hM hab ha hb hA hB (asW6_ok' h6 ob1) (asW6_ok' h8 ob2) (fun ρ => by simp [conc, It.cs]) (fun ρ => by simp [conc, It.cs])
              (fun b1 b2 hne => even_two u x h0 h1 h2 b1 b2 hne) (fun q1 q2 h1 h2 => ?_) (s := .tup []) rfl
            have c2 : v2 = ptr q1 0 := by
              have : AV.val ρ ⟨false, [.p a 0]⟩ = some (ptr q1 0) := AV.val_mk (by simp [It.cs, h1])
              rw [this] at e3; cases e3; rfl
            have c4 : v4 = ptr q2 0 := by
              have : AV.val ρ ⟨false, [.p b 0]⟩ = some (ptr q2 0) := AV.val_mk (by simp [It.cs, h2])
              rw [this] at e7; cases e7; rfl
            rw [c2, c4]
          · cases hout
        · cases hout
      · cases hout
    · cases hout
  · cases hout
end Go.Proofs.Ythceokldlinjlaa
/-
  Leaves, 9: limb.Cmp of two numbers of six words.
-/
namespace Go.Proofs.Ythceokldlinjlaa
open Go Go.Eng Go.RowKit Go.Wd

noncomputable def dC : Fn1 := match fn1 134 with
  | some d => d
  | none => ⟨.skip, [], 0⟩
theorem dC_ok : FnOk Try.prog 134 dC := fn1_ok _ _ (by kernel_rfl)
def inC : List AV := [⟨false, [.s 16 0 6 6]⟩, ⟨false, [.s 17 0 6 6]⟩]
noncomputable def cmpRun (u x : Nat) (h : List (Nat × Bool)) : Option Out := runFn tyTab (callN tyTab (tableT rowsA) fn1 1000 6) 1000 dC inC (mem2 [.w 6 u] [.w 6 x]) 18 h
def i64 (n : Int) : SV := .one ⟨false, [.v (.int .i64 n)]⟩
def eqO (u x j : Nat) (b : Bool) : Prop := ((dg u j : Nat) : Int) = ((dg x j : Nat) : Int) ↔ b = true
def ltO (u x j : Nat) (b : Bool) : Prop := ((dg u j : Nat) : Int) < ((dg x j : Nat) : Int) ↔ b = true
def cmpH (n : Nat) (b : Bool) : List (Nat × Bool) := List.replicate n (27, true) ++ [(27, false), (31, b)]
def cmpV (b : Bool) : Int := match b with
  | true => -1
  | false => 1
def CmpRun (n : Nat) : Prop := ∀ (u x : Nat) (b : Bool), cmpRun u x (cmpH n b) = some { val := i64 (cmpV b), wr := [], news := [], ob := (List.range n).map (fun j => eqO u x (5 - j) true) ++ [eqO u x (5 - n) false, ltO u x (5 - n) b] }
theorem cmp0 : CmpRun 0 := by intro u x b; cases b <;> kernel_rfl
theorem cmp1 : CmpRun 1 := by intro u x b; cases b <;> kernel_rfl
theorem cmp2 : CmpRun 2 := by intro u x b; cases b <;> kernel_rfl
theorem cmp3 : CmpRun 3 := by intro u x b; cases b <;> kernel_rfl
theorem cmp4 : CmpRun 4 := by intro u x b; cases b <;> kernel_rfl
theorem cmp5 : CmpRun 5 := by intro u x b; cases b <;> kernel_rfl
theorem cmp6 (u x : Nat) : cmpRun u x (List.replicate 6 (27, true)) = some { val := i64 0, wr := [], news := [], ob := (List.range 6).map (fun j => eqO u x (5 - j) true) } := by kernel_rfl
theorem cmpR (n : Nat) (h : n < 6) : CmpRun n := by
  have : n = 0 ∨ n = 1 ∨ n = 2 ∨ n = 3 ∨ n = 4 ∨ n = 5 := by omega
  rcases this with rfl | rfl | rfl | rfl | rfl | rfl
  · exact cmp0
  · exact cmp1
  · exact cmp2
  · exact cmp3
  · exact cmp4
  · exact cmp5
/-- The order of two numbers. -/
def cmpI (u x : Nat) : Int := if u < x then -1 else if u = x then 0 else 1
theorem cmpI_lt {a b : Nat} (h : a < b) : cmpI a b = -1 := if_pos h
theorem cmpI_gt {a b : Nat} (h : b < a) : cmpI a b = 1 := by unfold cmpI; rw [if_neg (by omega), if_neg (by omega)]
theorem cmpI_eq (a : Nat) : cmpI a a = 0 := by unfold cmpI; rw [if_neg (by omega), if_pos rfl]
theorem cmpI_add (a b c : Nat) : cmpI (a + c) (b + c) = cmpI a b := by
  rcases Nat.lt_trichotomy a b with h | h | h
  · rw [cmpI_lt h, cmpI_lt (by omega)]
  · rw [h, cmpI_eq, cmpI_eq]
  · rw [cmpI_gt h, cmpI_gt (by omega)]
theorem cmp_find {u x : Nat} : ∀ m, m ≤ 6 → (∀ j, m ≤ j → j < 6 → dg u j = dg x j) → ∃ (h : List (Nat × Bool)) (ob : List Prop), cmpRun u x h = some { val := i64 (cmpI (num (dg u) m) (num (dg x) m)), wr := [], news := [], ob := ob } ∧ ∀ p ∈ ob, p := by
  intro m
  induction m with
  | zero =>
    intro _ heq
    refine ⟨_, _, cmp6 u x, fun p hp => ?_⟩
    obtain ⟨j, hj, rfl⟩ := List.mem_map.1 hp
    have hj : j < 6 := by simpa using hj
    have := heq (5 - j) (by omega) (by omega)
    unfold eqO; rw [this]; simp
  | succ m ih =>
    intro hm heq
    have hu : num (dg u) m < pw m := num_lt m fun i _ => dg_lt u i
    have hx : num (dg x) m < pw m := num_lt m fun i _ => dg_lt x i
    by_cases h : dg u m = dg x m
    · obtain ⟨hh, ob, h1, h2⟩ := ih (by omega) fun j h1 h2 => by
        by_cases e : j = m
        · rw [e]; exact h
        · exact heq j (by omega) h2
      refine ⟨hh, ob, ?_, h2⟩
      have : cmpI (num (dg u) (m + 1)) (num (dg x) (m + 1)) = cmpI (num (dg u) m) (num (dg x) m) := by
        show cmpI (num (dg u) m + dg u m * pw m) (num (dg x) m + dg x m * pw m) = _
        rw [h, cmpI_add]
      rw [this]; exact h1
    · have hrun := cmpR (5 - m) (by omega) u x (decide (dg u m < dg x m))
      have e5 : 5 - (5 - m) = m := by omega
      rw [e5] at hrun
      have hv : cmpV (decide (dg u m < dg x m)) = cmpI (num (dg u) (m + 1)) (num (dg x) (m + 1)) := by
        show _ = cmpI (num (dg u) m + dg u m * pw m) (num (dg x) m + dg x m * pw m)
        by_cases hl : dg u m < dg x m
        · have hb : (dg u m + 1) * pw m ≤ dg x m * pw m := Nat.mul_le_mul_right _ hl
          rw [Nat.add_mul, Nat.one_mul] at hb
          rw [cmpI_lt (by omega), decide_eq_true hl]; rfl
        · have hb : (dg x m + 1) * pw m ≤ dg u m * pw m := Nat.mul_le_mul_right _ (by omega)
          rw [Nat.add_mul, Nat.one_mul] at hb
          rw [cmpI_gt (by omega), decide_eq_false hl]; rfl
      rw [hv] at hrun
      refine ⟨_, _, hrun, fun p hp => ?_⟩
      simp only [List.mem_append, List.mem_cons, List.not_mem_nil, or_false] at hp
      rcases hp with hp | rfl | rfl
      · obtain ⟨j, hj, rfl⟩ := List.mem_map.1 hp
        have hj : j < 5 - m := by simpa using hj
        have := heq (5 - j) (by omega) (by omega)
        unfold eqO; rw [this]; simp
      · unfold eqO
        have : ((dg u m : Nat) : Int) ≠ ((dg x m : Nat) : Int) := by omega
        simp [this]
      · unfold ltO
        rw [decide_eq_true_iff]; omega
theorem cmp_two (u x : Nat) (hu : u < M6) (hx : x < M6) (b1 b2 : Nat) (hne : b1 ≠ b2) :
    Two Try.prog 134 [.slice (some ⟨b1, 0, none⟩) 6 6, .slice (some ⟨b2, 0, none⟩) 6 6] b1 b2 (words 6 u) (words 6 x) (words 6 u) (words 6 x) (.int .i64 (cmpI u x)) := by
  obtain ⟨h, ob, h1, h2⟩ := cmp_find (u := u) (x := x) 6 (by omega) (fun j hj hj' => by omega)
  rw [num_dg6 hu, num_dg6 hx] at h1
  have hA : conc (rho2 b1 b2) [.w 6 u] = some (words 6 u) := by simp [conc, It.cs]
  have hB : conc (rho2 b1 b2) [.w 6 x] = some (words 6 x) := by simp [conc, It.cs]
  refine two_of_mem hne hA hB (A' := [.w 6 u]) (B' := [.w 6 x]) (fun ρ us h => by simp [conc, It.cs] at h; exact h.symm) (fun ρ us h => by simp [conc, It.cs] at h; exact h.symm) fun w hM => ?_
  have hv : vals (rho2 b1 b2) inC = some [.slice (some ⟨b1, 0, none⟩) 6 6, .slice (some ⟨b2, 0, none⟩) 6 6] := by
    have e2 : AV.val (rho2 b1 b2) ⟨false, [.s 16 0 6 6]⟩ = some (.slice (some ⟨b1, 0, none⟩) 6 6) := AV.val_mk (by simp [It.cs, rho2])
    have e4 : AV.val (rho2 b1 b2) ⟨false, [.s 17 0 6 6]⟩ = some (.slice (some ⟨b2, 0, none⟩) 6 6) := AV.val_mk (by simp [It.cs, rho2])
    simp only [inC, vals, e2, e4]
  refine .inr ⟨dC_ok.enter _ _, (runFn_calls mixed tyTab_ok (callN_ok mixed tyTab_ok (tableT_ok rowsA_ok) fn1_ok 1000 6) dC_ok h1 h2 hv hM).mono ?_⟩
  rintro e w' ⟨v, rfl, ρ', hE, hval, hMk⟩
  refine ⟨v, rfl, ?_, ρ', mem2 [.w 6 u] [.w 6 x], hE, hMk.ok, rfl, rfl⟩
  have : (i64 (cmpI u x)).val ρ' = some (.int .i64 (cmpI u x)) := AV.val_v (ρ := ρ') (x := .int .i64 (cmpI u x)) rfl
  rw [this] at hval
  cases hval; rfl
def cmpT : CallT := fun f args m _ => match f == 134 with
  | true => match args with
    | [⟨false, [.s a 0 6 6]⟩, ⟨false, [.s b 0 6 6]⟩] => match m.blk a, m.blk b with
      | some A, some B => match asW6 A, asW6 B with
        | some (u, ob), some (x, ob') => match (a != b && (own a && own b)) with
          | true => some { val := i64 (cmpI u x), wr := [(a, [.w 6 u]), (b, [.w 6 x])], news := [], ob := (u < M6 ∧ x < M6) :: (ob ++ ob') }
          | false => none
        | _, _ => none
      | _, _ => none
    | _ => none
  | false => none
theorem cmpT_ok : CallOk Try.prog cmpT := by
  intro f args m nid out hout hob ρ w vs hv hM hnew
  unfold cmpT at hout
  split at hout
  · rename_i hf
    rw [beq_iff_eq] at hf
    subst hf
    split at hout
    · rename_i a b
      split at hout
      · rename_i A B hA hB
        split at hout
        · rename_i u ob x ob' h6 h8
          split at hout
          · rename_i hc
            cases hout
            simp only [Bool.and_eq_true, bne_iff_ne, ne_eq] at hc
            obtain ⟨hab, ha, hb⟩ := hc
            obtain ⟨h1, h2⟩ := hob _ (List.mem_cons_self)
            have ob1 : ∀ p ∈ ob, p := fun p hp => hob p (List.mem_cons_of_mem _ (List.mem_append_left _ hp))
            have ob2 : ∀ p ∈ ob', p := fun p hp => hob p (List.mem_cons_of_mem _ (List.mem_append_right _ hp))
            obtain ⟨v2, r2, e3, e4, rfl⟩ := vals_cons hv
            obtain ⟨v4, r4, e7, e8, rfl⟩ := vals_cons e4
            cases e8
            refine two_call (args := fun q1 q2 => [.slice (some ⟨q1.1, q1.2, none⟩) 6 6, .slice (some ⟨q2.1, q2.2, none⟩) 6 6]) hM hab ha hb hA hB (asW6_ok' h6 ob1) (asW6_ok' h8 ob2) (fun ρ => by simp [conc, It.cs]) (fun ρ => by simp [conc, It.cs])
              (fun b1 b2 hne => cmp_two u x h1 h2 b1 b2 hne) (fun q1 q2 h1 h2 => ?_) (s := i64 (cmpI u x)) (AV.val_v (ρ := rho0) (x := .int .i64 (cmpI u x)) rfl)
            have c2 : v2 = .slice (some ⟨q1.1, q1.2, none⟩) 6 6 := by
              have : AV.val ρ ⟨false, [.s a 0 6 6]⟩ = some (.slice (some ⟨q1.1, q1.2, none⟩) 6 6) := AV.val_mk (by simp [It.cs, h1])
              rw [this] at e3; cases e3; rfl
            have c4 : v4 = .slice (some ⟨q2.1, q2.2, none⟩) 6 6 := by
              have : AV.val ρ ⟨false, [.s b 0 6 6]⟩ = some (.slice (some ⟨q2.1, q2.2, none⟩) 6 6) := AV.val_mk (by simp [It.cs, h2])
              rw [this] at e7; cases e7; rfl
            rw [c2, c4]
          · cases hout
        · cases hout
      · cases hout
    · cases hout
  · cases hout
noncomputable def T9 : CallT := orT (tableT rowsA) (orT evenT cmpT)
theorem T9_ok : CallOk Try.prog T9 := orT_ok (tableT_ok rowsA_ok) (orT_ok evenT_ok cmpT_ok)
end Go.Proofs.Ythceokldlinjlaa
/-
  Leaves, 10: inverses by halving and taking away: the plain law.
-/
namespace Go.Proofs.Ythceokldlinjlaa
open Go Go.Eng Go.RowKit Go.Wd

/-- One of the pair of numbers: u stands for x times a. -/
def Std (a u x : Nat) : Prop := u % pN = x * a % pN
theorem pN_odd : pN % 2 = 1 := by decide +kernel
def half2 : Nat := (pN + 1) / 2
theorem half2_ok : 2 * half2 % pN = 1 := by decide +kernel
theorem cancel2 {x y : Nat} (h : 2 * x % pN = 2 * y % pN) : x % pN = y % pN := by
  have h2 : half2 * (2 * x) % pN = half2 * (2 * y) % pN := by rw [Nat.mul_mod, h, ← Nat.mul_mod]
  rw [← Nat.mul_assoc, ← Nat.mul_assoc, Nat.mul_comm half2 2, Nat.mul_mod, half2_ok, Nat.one_mul, Nat.mod_mod, Nat.mul_mod (2 * half2) y, half2_ok, Nat.one_mul, Nat.mod_mod] at h2
  exact h2
theorem hv_spec {x : Nat} (h : x < pN) : hv x < pN ∧ 2 * hv x % pN = x % pN := by
  have ho := pN_odd
  unfold hv
  split
  · rename_i e
    have : 2 * (x / 2) = x := by omega
    exact ⟨by omega, by rw [this]⟩
  · rename_i e
    have : 2 * ((x + pN) / 2) = x + pN := by omega
    exact ⟨by omega, by rw [this, Nat.add_mod_right]⟩
theorem Std.half {a u x : Nat} (h : Std a u x) (he : u % 2 = 0) (hx : x < pN) : Std a (u / 2) (hv x) := by
  unfold Std at *
  apply cancel2
  have e1 : 2 * (u / 2) = u := by omega
  rw [e1, h, ← Nat.mul_assoc, Nat.mul_mod x, ← (hv_spec hx).2, ← Nat.mul_mod]
structure EvOut (a u u' x' : Nat) : Prop where
  pos : 0 < u'
  le : u' ≤ u
  dvd : u' ∣ u
  odd : u' % 2 = 1
  lt : x' < pN
  std : Std a u' x'
theorem ev_spec {a : Nat} : ∀ n u x, 0 < u → u < 2 ^ n → x < pN → Std a u x → EvOut a u (ev n u x).1 (ev n u x).2 := by
  intro n
  induction n with
  | zero => intro u x h0 h1; simp at h1; omega
  | succ n ih =>
    intro u x h0 h1 hx hs
    rw [ev]
    by_cases he : u % 2 = 0
    · have e : (u % 2 == 0) = true := by simpa using he
      rw [e]
      have hp : u / 2 < 2 ^ n := by rw [Nat.pow_succ] at h1; omega
      have := ih (u / 2) (hv x) (by omega) hp (hv_spec hx).1 (hs.half he hx)
      exact ⟨this.pos, Nat.le_trans this.le (Nat.div_le_self _ _), Nat.dvd_trans this.dvd ⟨2, by omega⟩, this.odd, this.lt, this.std⟩
    · have e : (u % 2 == 0) = false := by simpa using he
      rw [e]
      exact ⟨h0, Nat.le_refl _, Nat.dvd_refl _, by show u % 2 = 1; omega, hx, hs⟩
theorem ev_specP (k : Nat) {a u x : Nat} (h0 : 0 < u) (h1 : u < pw k) (hx : x < pN) (hs : Std a u x) : EvOut a u (ev (64 * k) u x).1 (ev (64 * k) u x).2 := ev_spec (64 * k) u x h0 h1 hx hs
theorem evN_spec {a u x : Nat} (h0 : 0 < u) (h1 : u < M6) (hx : x < pN) (hs : Std a u x) : EvOut a u (evN u x).1 (evN u x).2 := ev_specP 6 h0 h1 hx hs
theorem rd_small {x : Nat} (h : x < pN) : rd x = x := by
  have : pN < M6 := pN_lt
  have h2 : x < M6 := Nat.lt_trans h this
  unfold rd; rw [Nat.mod_eq_of_lt h2, Nat.mod_eq_of_lt h]
theorem subN_eq {x y : Nat} (hx : x < pN) (hy : y < pN) : subN x y = (x + (pN - y)) % pN := by
  have h2 : negN y % pN = (pN - y) % pN := by unfold negN; rw [rd_small hy, Nat.mod_mod]
  have h3 : negN y < pN := Nat.mod_lt _ pN_pos
  unfold subN addN
  rw [rd_small hx, rd_small h3, Nat.add_mod, h2, ← Nat.add_mod]
theorem subN_lt (x y : Nat) : subN x y < pN := Nat.mod_lt _ pN_pos
theorem Std.sub {a u v x y : Nat} (hu : Std a u x) (hv : Std a v y) (hx : x < pN) (hy : y < pN) (hvu : v ≤ u) : Std a (u - v) (subN x y) := by
  unfold Std at *
  rw [subN_eq hx hy]
  have key : (u - v + v) % pN = ((x + (pN - y)) % pN * a + y * a) % pN := by
    rw [Nat.sub_add_cancel hvu, hu, Nat.add_mod, Nat.mod_mul_mod, ← Nat.add_mod, ← Nat.add_mul]
    have : x + (pN - y) + y = x + pN := by omega
    rw [this, Nat.add_mul, Nat.mul_comm pN, Nat.add_mul_mod_self_right]
  have k2 : (u - v + v) % pN = (u - v + y * a) % pN := by rw [Nat.add_mod, hv, ← Nat.add_mod]
  rw [k2] at key
  have cancel : ∀ p q r : Nat, (p + r) % pN = (q + r) % pN → p % pN = q % pN := by
    intro p q r h
    have hr := Nat.mod_lt r pN_pos
    have h2 : (p + r + (pN - r % pN)) % pN = (q + r + (pN - r % pN)) % pN := by rw [Nat.add_mod, h, ← Nat.add_mod]
    have e : ∀ z, (z + r + (pN - r % pN)) % pN = z % pN := by
      intro z
      have : z + r + (pN - r % pN) = z + pN * (r / pN) + pN := by
        have := Nat.div_add_mod r pN
        omega
      rw [this, Nat.add_mod_right, Nat.add_mul_mod_self_left]
    rw [e, e] at h2
    exact h2
  exact cancel _ _ _ key
structure InvI (a u v x y : Nat) : Prop where
  upos : 0 < u
  vpos : 0 < v
  ult : u < M6
  vlt : v < M6
  xlt : x < pN
  ylt : y < pN
  us : Std a u x
  vs : Std a v y
  gcd : Nat.gcd u v = 1
theorem gcd_of_dvd {u v u' v' : Nat} (h : Nat.gcd u v = 1) (hu : u' ∣ u) (hv : v' ∣ v) : Nat.gcd u' v' = 1 := by
  have h1 : Nat.gcd u' v' ∣ Nat.gcd u v := Nat.dvd_gcd (Nat.dvd_trans (Nat.gcd_dvd_left _ _) hu) (Nat.dvd_trans (Nat.gcd_dvd_right _ _) hv)
  rw [h] at h1
  exact Nat.dvd_one.1 h1
theorem InvI.gt {a u v x y : Nat} (h : InvI a u v x y) (ho : ¬ (evN u x).1 = 1) (hle : (evN v y).1 ≤ (evN u x).1) : InvI a ((evN u x).1 - (evN v y).1) (evN v y).1 (subN (evN u x).2 (evN v y).2) (evN v y).2 ∧ (evN u x).1 - (evN v y).1 + (evN v y).1 < u + v := by
  have eu := evN_spec h.upos h.ult h.xlt h.us
  have ev' := evN_spec h.vpos h.vlt h.ylt h.vs
  have hg := gcd_of_dvd h.gcd eu.dvd ev'.dvd
  have hu := h.ult; have hv := h.vlt; have hv0 := h.vpos
  have u1 := eu.le; have v1 := ev'.le; have u0 := eu.pos; have v0 := ev'.pos
  have hne : (evN u x).1 ≠ (evN v y).1 := by
    intro e
    rw [← e, Nat.gcd_self] at hg
    exact ho hg
  refine ⟨⟨by omega, v0, by omega, by omega, subN_lt _ _, ev'.lt, eu.std.sub ev'.std eu.lt ev'.lt hle, ev'.std, ?_⟩, by omega⟩
  rw [Nat.gcd_sub_self_left hle, hg]
theorem InvI.lt {a u v x y : Nat} (h : InvI a u v x y) (hlt : (evN u x).1 < (evN v y).1) : InvI a (evN u x).1 ((evN v y).1 - (evN u x).1) (evN u x).2 (subN (evN v y).2 (evN u x).2) ∧ (evN u x).1 + ((evN v y).1 - (evN u x).1) < u + v := by
  have eu := evN_spec h.upos h.ult h.xlt h.us
  have ev' := evN_spec h.vpos h.vlt h.ylt h.vs
  have hg := gcd_of_dvd h.gcd eu.dvd ev'.dvd
  have hu := h.ult; have hv := h.vlt; have hu0 := h.upos
  have u1 := eu.le; have v1 := ev'.le; have u0 := eu.pos; have v0 := ev'.pos
  refine ⟨⟨u0, by omega, by omega, by omega, eu.lt, subN_lt _ _, eu.std, ev'.std.sub eu.std ev'.lt eu.lt (by omega), ?_⟩, by omega⟩
  rw [Nat.gcd_sub_self_right (by omega), hg]
/-- r is a's inverse. -/
def IsInv (a r : Nat) : Prop := r < pN ∧ r * a % pN = 1
theorem IsInv.unique {a r s : Nat} (h : IsInv a r) (k : IsInv a s) : r = s := by
  obtain ⟨h1, h2⟩ := h
  obtain ⟨k1, k2⟩ := k
  have e : r * a * s % pN = s * a * r % pN := by rw [Nat.mul_right_comm]; congr 1; rw [Nat.mul_comm (r * s), Nat.mul_comm s a, Nat.mul_assoc, Nat.mul_comm r s]
  rw [Nat.mul_mod, h2, Nat.mul_mod (s * a), k2, Nat.one_mul, Nat.one_mul, Nat.mod_mod, Nat.mod_mod, Nat.mod_eq_of_lt h1, Nat.mod_eq_of_lt k1] at e
  exact e.symm
theorem one_mod : 1 % pN = 1 := by decide +kernel
theorem isInv_of_std {a x : Nat} (h : Std a 1 x) (hx : x < pN) : IsInv a x := ⟨hx, by unfold Std at h; rw [← h, one_mod]⟩
open Classical in
/-- The inverse of a number; 0 where there is none. -/
noncomputable def invN (a : Nat) : Nat := if h : ∃ r, IsInv (rd a) r then h.choose else 0
theorem invN_eq {a r : Nat} (h : IsInv (rd a) r) : invN a = r := by
  unfold invN
  rw [dif_pos ⟨r, h⟩]
  exact (Exists.choose_spec ⟨r, h⟩ : IsInv (rd a) _).unique h
theorem invN_zero {a : Nat} (h : rd a = 0) : invN a = 0 := by
  unfold invN
  rw [dif_neg]
  rintro ⟨r, _, hr⟩
  rw [h, Nat.mul_zero, Nat.zero_mod] at hr
  omega
theorem invI_start {a : Nat} (h0 : rd a ≠ 0) (hg : Nat.gcd (rd a) pN = 1) : InvI (rd a) (rd a) pN 1 0 := by
  have := rd_lt a
  have hp : pN < M6 := pN_lt
  refine ⟨by omega, pN_pos, by omega, hp, by omega, pN_pos, ?_, ?_, hg⟩
  · unfold Std; rw [Nat.one_mul]
  · unfold Std; rw [Nat.zero_mul, Nat.mod_self, Nat.zero_mod]
end Go.Proofs.Ythceokldlinjlaa
/-
  Leaves, 11: fp.Inv.
-/
namespace Go.Proofs.Ythceokldlinjlaa
open Go Go.Eng Go.RowKit Go.Wd

/-! ### fp.minusOf -/
theorem minus_run (u v : Nat) : run1 (tableT rowsA) 135 [W6 u, W6 v] [] = some (.one ⟨true, (List.range 6).map fun j => .v (.int .u64 ((bd (dg u) (dg v) j : Nat) : Int))⟩, (List.range 6).map (subOb (dg u) (dg v))) := by kernel_rfl
theorem minus_pure (u v : Nat) (hu : u < M6) (hvu : v ≤ u) : Pure Try.prog 135 [.agg (words 6 u).toArray, .agg (words 6 v).toArray] (.agg (words 6 (u - v)).toArray) := by
  have hs := num_bd (x := dg u) (y := dg v) 6 (fun i _ => dg_lt _ _) (fun i _ => dg_lt _ _)
  rw [num_dg6 hu, num_dg6 (Nat.lt_of_le_of_lt hvu hu)] at hs
  have hl : num (bd (dg u) (dg v)) 6 < M6 := num_lt (d := bd (dg u) (dg v)) 6 fun i _ => bd_lt _ _ i
  have hb := bw_le (dg u) (dg v) 6
  have hc : bw (dg u) (dg v) 6 = 0 := by
    rcases Nat.eq_zero_or_pos (bw (dg u) (dg v) 6) with h | h
    · exact h
    · have h1 : bw (dg u) (dg v) 6 = 1 := by omega
      rw [h1, Nat.one_mul] at hs
      have e : M6 = pw 6 := rfl
      omega
  rw [hc, Nat.zero_mul, Nat.add_zero] at hs
  have hn : num (bd (dg u) (dg v)) 6 = u - v := by omega
  refine pure_of_run1 (tableT_ok rowsA_ok) (minus_run u v) ?_ (by simp only [vals, val_W6]) fun ρ z hz => ?_
  · intro q hq
    obtain ⟨i, _, rfl⟩ := List.mem_map.1 hq
    exact subOb_ok _ _ _
  · have hz : AV.val ρ ⟨true, (List.range 6).map fun j => .v (.int .u64 ((bd (dg u) (dg v) j : Nat) : Int))⟩ = some z := hz
    obtain ⟨ws, h1, rfl⟩ := val_agg hz
    have e3 : ((List.range 6).map fun j => It.v (.int .u64 ((bd (dg u) (dg v) j : Nat) : Int))) = ((List.range 6).map fun j => Value.int .u64 ((bd (dg u) (dg v) j : Nat) : Int)).map It.v := by rw [List.map_map]; rfl
    rw [e3, val_plain ρ _ (fun v hv => by obtain ⟨i, _, rfl⟩ := List.mem_map.1 hv; rfl), ← words_map 6 (fun i _ => bd_lt _ _ i), hn] at h1
    cases h1; rfl
def minusRow : Row where
  f := 135
  ans := fun
    | [⟨true, l⟩, ⟨true, m⟩] => match asW6 l, asW6 m with
      | some (n, ob), some (n', ob') => some (.one (W6 (n - n')), (n < M6 ∧ n' ≤ n) :: (ob ++ ob'))
      | _, _ => none
    | _ => none
theorem minusRow_ok : RowOk Try.prog minusRow := by
  intro args s ob ha hob ρ vs hv
  unfold minusRow at ha
  simp only at ha
  split at ha
  · rename_i l m
    split at ha
    · rename_i n ob1 n' ob2 hn hm
      cases ha
      obtain ⟨h1', h2'⟩ := hob _ (List.mem_cons_self)
      obtain ⟨v1, us, h1, h2, rfl⟩ := vals_cons hv
      obtain ⟨v2, us', h3, h4, rfl⟩ := vals_cons h2
      cases h4
      obtain ⟨ws, hw, rfl⟩ := val_agg h1
      obtain ⟨ws', hw', rfl⟩ := val_agg h3
      have e := asW6_ok hn (fun p hp => hob p (List.mem_cons_of_mem _ (List.mem_append_left _ hp))) hw
      have e' := asW6_ok hm (fun p hp => hob p (List.mem_cons_of_mem _ (List.mem_append_right _ hp))) hw'
      subst e; subst e'
      exact ⟨_, val_W6 rho0 _, minus_pure n n' h1' h2'⟩
    · cases ha
  · cases ha

/-! ### fp.Inv: runs -/
noncomputable def dI0 : Fn1 := match fn1 94 with
  | some d => d
  | none => ⟨.skip, [], 0⟩
theorem dI0_ok : FnOk Try.prog 94 dI0 := fn1_ok _ _ (by kernel_rfl)
noncomputable def TB (q : Nat) : CallT := orT (tableT (pRowQ q :: minusRow :: rowsA)) (orT evenT cmpT)
theorem TB_ok (q : Nat) : CallOk Try.prog (TB q) := orT_ok (tableT_ok (by simp only [List.forall_mem_cons]; exact ⟨pQ_ok q, minusRow_ok, rowsA_ok⟩)) (orT_ok evenT_ok cmpT_ok)
noncomputable def EB (q : Nat) : Eng := { tab := tyTab, call := callN tyTab (TB q) fn1 1000 6, N := 47 }
theorem callB (q : Nat) : CallOk Try.prog (EB q).call := callN_ok mixed tyTab_ok (TB_ok q) fn1_ok 1000 6
theorem tabB (q : Nat) : ∀ t d, (EB q).tab t = some d → TyOk Try.prog t d := tyTab_ok
noncomputable def cB1 : Code := seqL dI0.body
noncomputable def cB2 : Code := seqL (seqR dI0.body)
noncomputable def cB3 : Code := seqL (seqR (seqR dI0.body))
noncomputable def cB4 : Code := seqL (seqR (seqR (seqR dI0.body)))
noncomputable def cB5 : Code := seqL (seqR (seqR (seqR (seqR dI0.body))))
noncomputable def cBL : Code := loopIn (blockIn (seqR (seqR (seqR (seqR (seqR dI0.body))))))
theorem dI0_body : dI0.body = .seq cB1 (.seq cB2 (.seq cB3 (.seq cB4 (.seq cB5 (.block 0 (.loop cBL)))))) := by kernel_rfl
theorem dI0_ntmps : dI0.ntmps = 47 := by kernel_rfl
theorem dI0_results : dI0.results = [.cell 2 24] := by kernel_rfl
def oneL : List It := [.v (.int .u64 1), .v (.int .u64 0), .v (.int .u64 0), .v (.int .u64 0), .v (.int .u64 0), .v (.int .u64 0)]
def stB (r : Nat) (u v : Nat) (x : List It) (y : Nat) (o : List It) : St := [(4, spt 17), (6, spt 21), (8, spt 22), (10, spt 27), (12, spt 28), (14, spt 35), (35, .bl [.w 6 r]), (43, .bl [.w 6 u]), (45, .bl [.w 6 v]), (55, .bl x), (57, .bl [.w 6 y]), (71, .bl o)]
def stI (u v x y : Nat) : St := stB 0 u v [.w 6 x] y [.w 6 1]
def stR (r : Nat) : St := [(4, spt 17), (35, .bl [.w 6 r])]
noncomputable def inB (a : Nat) : St := initSlots 0 [W6 a] (47 - [W6 a].length) ++ []
def zeroO (a : Nat) (b : Bool) : Prop := plainVals [.w 6 (rd a)] = plainVals [.w 6 0] ↔ b = true
def oneO (n : Nat) (b : Bool) : Prop := plainVals [.w 6 n] = plainVals [.w 6 1] ↔ b = true
theorem invZ (a q : Nat) : probes (EB q) 100 [cB1, cB2, cB3, cB4] (inB a) 16 [(15, true)] ((stR (rd a)).map (·.1)) = some (1, [q = pN, zeroO a true], (stR (rd a)).map fun p => some p.2) := by kernel_rfl
theorem invS (a q : Nat) : probes (EB q) 100 [cB1, cB2, cB3, cB4, cB5] (inB a) 16 [(15, false)] ((stB 0 (rd a) q oneL 0 oneL).map (·.1)) = some (0, [q = pN, zeroO a false], (stB 0 (rd a) q oneL 0 oneL).map fun p => some p.2) := by kernel_rfl
def evO (u x v y : Nat) : List Prop := [0 < u ∧ u < M6 ∧ x < M6, 0 < v ∧ v < M6 ∧ y < M6]
theorem inv1 (u v x y : Nat) : probe (EB 0) 100 cBL (stI u v x y) 40 [(29, true)] ((stR (evN u x).2).map (·.1)) = some (1, evO u x v y ++ [oneO (evN u x).1 true], (stR (evN u x).2).map fun p => some p.2) := by kernel_rfl
theorem inv2 (u v x y : Nat) : probe (EB 0) 100 cBL (stI u v x y) 40 [(29, false), (34, true)] ((stR (evN v y).2).map (·.1)) = some (1, evO u x v y ++ [oneO (evN u x).1 false, oneO (evN v y).1 true], (stR (evN v y).2).map fun p => some p.2) := by kernel_rfl
def stI3 (u v x y : Nat) : St := stI ((evN u x).1 - (evN v y).1) (evN v y).1 (subN (evN u x).2 (evN v y).2) (evN v y).2
def stI4 (u v x y : Nat) : St := stI (evN u x).1 ((evN v y).1 - (evN u x).1) (evN u x).2 (subN (evN v y).2 (evN u x).2)
def cmpO (u x v y : Nat) (b : Bool) : List Prop := [(evN u x).1 < M6 ∧ (evN v y).1 < M6, cmpI (evN u x).1 (evN v y).1 ≥ 0 ↔ b = true]
theorem inv3 (u v x y : Nat) : probe (EB 0) 100 cBL (stI u v x y) 40 [(29, false), (34, false), (40, true)] ((stI3 u v x y).map (·.1)) =
  some (0, evO u x v y ++ [oneO (evN u x).1 false, oneO (evN v y).1 false] ++ cmpO u x v y true ++ [(evN u x).1 < M6 ∧ (evN v y).1 ≤ (evN u x).1], (stI3 u v x y).map fun p => some p.2) := by kernel_rfl
theorem inv4 (u v x y : Nat) : probe (EB 0) 100 cBL (stI u v x y) 40 [(29, false), (34, false), (40, false)] ((stI4 u v x y).map (·.1)) =
  some (0, evO u x v y ++ [oneO (evN u x).1 false, oneO (evN v y).1 false] ++ cmpO u x v y false ++ [(evN v y).1 < M6 ∧ (evN u x).1 ≤ (evN v y).1], (stI4 u v x y).map fun p => some p.2) := by kernel_rfl
end Go.Proofs.Ythceokldlinjlaa
/-
  Leaves, 12: fp.Inv: the walk.
-/
namespace Go.Proofs.Ythceokldlinjlaa
open Go Go.Eng Go.RowKit Go.Wd

theorem dI0_chain4 : dI0.body = chain [cB1, cB2, cB3, cB4] (.seq cB5 (.block 0 (.loop cBL))) := dI0_body
theorem dI0_chain5 : dI0.body = chain [cB1, cB2, cB3, cB4, cB5] (.block 0 (.loop cBL)) := dI0_body
theorem res_stR (r : Nat) : resultsOf tyTab (stR r) [.cell 2 24] = some [W6 r] := by kernel_rfl
theorem no_rho0 (l : List Nat) : ∀ id q, rho0 id = some q → id ∈ l := fun id q h => by cases h
theorem keep_stR (r : Nat) : keepsB (stR r) [17] = true := by kernel_rfl
theorem keep_stI (u v x y : Nat) : keepsB (stI u v x y) [17, 21, 22, 27, 28, 35] = true := by kernel_rfl
theorem keep_stI3 (u v x y : Nat) : keepsB (stI3 u v x y) [17, 21, 22, 27, 28, 35] = true := by kernel_rfl
theorem keep_stI4 (u v x y : Nat) : keepsB (stI4 u v x y) [17, 21, 22, 27, 28, 35] = true := by kernel_rfl
theorem keep_stS (u v : Nat) : keepsB (stB 0 u v oneL 0 oneL) [17, 21, 22, 27, 28, 35] = true := by kernel_rfl
theorem blk_stR (r : Nat) : ∀ id ∈ [17], ∃ l, (stR r).blk id = some l := by
  intro id hid
  simp only [List.mem_cons, List.not_mem_nil, or_false] at hid
  subst hid
  exact ⟨_, rfl⟩
theorem blk_stB (r u v : Nat) (x : List It) (y : Nat) (o : List It) : ∀ id ∈ [17, 21, 22, 27, 28, 35], ∃ l, (stB r u v x y o).blk id = some l := by
  intro id hid
  simp only [List.mem_cons, List.not_mem_nil, or_false] at hid
  rcases hid with rfl | rfl | rfl | rfl | rfl | rfl <;> exact ⟨_, rfl⟩
theorem w6_iff (n m : Nat) : plainVals [.w 6 n] = plainVals [.w 6 m] ↔ n % M6 = m % M6 := by
  simp only [plainVals, List.append_nil]
  constructor
  · intro h; exact words_inj h
  · intro h; rw [← words_mod 6 n, ← words_mod 6 m]; unfold M6 at h; rw [h]
theorem oneO_iff {n : Nat} (h : n < M6) (b : Bool) : oneO n b ↔ (n = 1 ↔ b = true) := by
  have hp : pN < M6 := pN_lt
  have h1 : 1 < M6 := by have := one_mod; have := pN_odd; have := pN_pos; omega
  unfold oneO
  rw [w6_iff, Nat.mod_eq_of_lt h, Nat.mod_eq_of_lt h1]
theorem zeroO_iff (a : Nat) (b : Bool) : zeroO a b ↔ (rd a = 0 ↔ b = true) := by
  have hp : pN < M6 := pN_lt
  have := rd_lt a
  unfold zeroO
  rw [w6_iff, Nat.mod_eq_of_lt (Nat.lt_trans this hp), Nat.zero_mod]
theorem cmpI_ge (a b : Nat) : cmpI a b ≥ 0 ↔ b ≤ a := by
  rcases Nat.lt_trichotomy a b with h | h | h
  · rw [cmpI_lt h]; omega
  · rw [h, cmpI_eq]; omega
  · rw [cmpI_gt h]; omega
theorem loopI {a : Nat} {w0 : World} {Q : Exit → Act → World → Prop} (hQ : ∀ r a' w, IsInv a r → At 47 rho0 w0 (stR r) a' w → Q .ret a' w) {u v x y : Nat} (hI : InvI a u v x y) {b : Act} {w : World} (hA : At 47 rho0 w0 (stI u v x y) b w) : (Code.loop cBL).wp Try.prog Q b w := by
  refine loop_rule (ι := Nat × Nat × Nat × Nat) (fun p => InvI a p.1 p.2.1 p.2.2.1 p.2.2.2) (fun p => stI p.1 p.2.1 p.2.2.1 p.2.2.2) (fun p => p.1 + p.2.1) ?_ (u, v, x, y) hI b w hA
  rintro ⟨u, v, x, y⟩ hI b w hA
  have hI : InvI a u v x y := hI
  have hA : At 47 rho0 w0 (stI u v x y) b w := hA
  have eu := evN_spec hI.upos hI.ult hI.xlt hI.us
  have ev' := evN_spec hI.vpos hI.vlt hI.ylt hI.vs
  have hp : pN < M6 := pN_lt
  have lu : (evN u x).1 < M6 := Nat.lt_of_le_of_lt eu.le hI.ult
  have lv : (evN v y).1 < M6 := Nat.lt_of_le_of_lt ev'.le hI.vlt
  have hev : ∀ q ∈ evO u x v y, q := by
    intro q hq
    simp only [evO, List.mem_cons, List.not_mem_nil, or_false] at hq
    rcases hq with rfl | rfl
    · exact ⟨hI.upos, hI.ult, Nat.lt_trans hI.xlt hp⟩
    · exact ⟨hI.vpos, hI.vlt, Nat.lt_trans hI.ylt hp⟩
  by_cases h1 : (evN u x).1 = 1
  · refine At.probe (E := EB 0) mixed (tabB 0) (callB 0) (inv1 u v x y) (fun q hq => ?_) hA [17] (blk_stR _) (keep_stR _) (no_rho0 _) fun a' w' hA' => hQ _ a' w' (isInv_of_std (h1 ▸ eu.std) eu.lt) hA'
    rcases List.mem_append.1 hq with hq | hq
    · exact hev q hq
    · simp only [List.mem_cons, List.not_mem_nil, or_false] at hq
      subst hq; rw [oneO_iff lu]; simp [h1]
  · have o1 : oneO (evN u x).1 false := by rw [oneO_iff lu]; simp [h1]
    by_cases h2 : (evN v y).1 = 1
    · refine At.probe (E := EB 0) mixed (tabB 0) (callB 0) (inv2 u v x y) (fun q hq => ?_) hA [17] (blk_stR _) (keep_stR _) (no_rho0 _) fun a' w' hA' => hQ _ a' w' (isInv_of_std (h2 ▸ ev'.std) ev'.lt) hA'
      rcases List.mem_append.1 hq with hq | hq
      · exact hev q hq
      · simp only [List.mem_cons, List.not_mem_nil, or_false] at hq
        rcases hq with rfl | rfl
        · exact o1
        · rw [oneO_iff lv]; simp [h2]
    · have o2 : oneO (evN v y).1 false := by rw [oneO_iff lv]; simp [h2]
      by_cases h3 : (evN v y).1 ≤ (evN u x).1
      · obtain ⟨k1, k2⟩ := hI.gt h1 h3
        refine At.probe (E := EB 0) mixed (tabB 0) (callB 0) (inv3 u v x y) (fun q hq => ?_) hA [17, 21, 22, 27, 28, 35] (blk_stB _ _ _ _ _ _) (keep_stI3 _ _ _ _) (no_rho0 _) fun a' w' hA' => ⟨((evN u x).1 - (evN v y).1, (evN v y).1, subN (evN u x).2 (evN v y).2, (evN v y).2), k1, k2, hA'⟩
        simp only [List.mem_append, cmpO, List.mem_cons, List.not_mem_nil, or_false] at hq
        rcases hq with ((hq | rfl | rfl) | rfl | rfl) | rfl
        · exact hev q hq
        · exact o1
        · exact o2
        · exact ⟨lu, lv⟩
        · rw [cmpI_ge]; simp [h3]
        · exact ⟨lu, h3⟩
      · obtain ⟨k1, k2⟩ := hI.lt (Nat.lt_of_not_le h3)
        refine At.probe (E := EB 0) mixed (tabB 0) (callB 0) (inv4 u v x y) (fun q hq => ?_) hA [17, 21, 22, 27, 28, 35] (blk_stB _ _ _ _ _ _) (keep_stI4 _ _ _ _) (no_rho0 _) fun a' w' hA' => ⟨((evN u x).1, (evN v y).1 - (evN u x).1, (evN u x).2, subN (evN v y).2 (evN u x).2), k1, k2, hA'⟩
        simp only [List.mem_append, cmpO, List.mem_cons, List.not_mem_nil, or_false] at hq
        rcases hq with ((hq | rfl | rfl) | rfl | rfl) | rfl
        · exact hev q hq
        · exact o1
        · exact o2
        · exact ⟨lu, lv⟩
        · rw [cmpI_ge]; simp [h3]
        · exact ⟨lv, Nat.le_of_lt (Nat.lt_of_not_le h3)⟩
theorem one_words : ∀ ρ vs, conc ρ oneL = some vs → conc ρ [.w 6 1] = some vs := by
  intro ρ vs h
  have : conc ρ ([Value.int .u64 1, .int .u64 0, .int .u64 0, .int .u64 0, .int .u64 0, .int .u64 0].map It.v) = some [Value.int .u64 1, .int .u64 0, .int .u64 0, .int .u64 0, .int .u64 0, .int .u64 0] := val_plain ρ _ (by intro v hv; simp only [List.mem_cons, List.not_mem_nil, or_false] at hv; rcases hv with rfl | rfl | rfl | rfl | rfl | rfl <;> rfl)
  rw [show oneL = [Value.int .u64 1, .int .u64 0, .int .u64 0, .int .u64 0, .int .u64 0, .int .u64 0].map It.v from rfl, this] at h
  cases h
  have e : words 6 1 = [Value.int .u64 1, .int .u64 0, .int .u64 0, .int .u64 0, .int .u64 0, .int .u64 0] := by kernel_rfl
  simp [conc, It.cs, e]
theorem same_start (u v : Nat) : ∀ k, match Eng.look (stB 0 u v oneL 0 oneL) k, Eng.look (stI u v 1 0) k with | some c, some c' => SameCt c c' | none, none => True | _, _ => False := by
  intro k
  by_cases e1 : k = 55
  · subst e1; exact one_words
  · by_cases e2 : k = 71
    · subst e2; exact one_words
    · have f1 : (55 == k) = false := by simp; omega
      have f2 : (71 == k) = false := by simp; omega
      have : Eng.look (stB 0 u v oneL 0 oneL) k = Eng.look (stI u v 1 0) k := by
        simp only [stI, stB, Eng.look, f1, f2]
        rfl
      rw [this]
      split
      · rename_i a b e3 e4; rw [e3] at e4; cases e4; exact SameCt.refl _
      · trivial
      · rename_i h3 h4; cases h5 : Eng.look (stI u v 1 0) k with
        | none => exact h4 h5 h5
        | some c => exact h3 c c h5 h5
theorem inv_pure (a : Nat) (hg : rd a = 0 ∨ Nat.gcd (rd a) pN = 1) : Pure Try.prog 94 [.agg (words 6 a).toArray] (.agg (words 6 (invN a)).toArray) := by
  intro w
  refine .inr ⟨dI0_ok.enter _ _, ?_⟩
  have hv : vals rho0 [W6 a] = some [.agg (words 6 a).toArray] := by simp only [vals, val_W6]
  refine (calls_of_at (G := fun xs st => xs = [W6 (invN a)]) tyTab_ok dI0_ok (mem_rho0 w) (by kernel_rfl) hv (by rw [dI0_ntmps]; simp) fun b hA0 => ?_).mono ?_
  · rw [dI0_ntmps] at hA0
    have hA0 : At 47 rho0 w (inB a) b w := hA0
    rw [dI0_ntmps, dI0_results]
    by_cases h0 : rd a = 0
    · rw [dI0_chain4]
      refine At.probes (E := EB pN) mixed (tabB pN) (callB pN) (invZ a pN) (fun q hq => ?_) hA0 [17] (blk_stR _) (keep_stR _) (no_rho0 _) fun a' w' hA' => ?_
      · simp only [List.mem_cons, List.not_mem_nil, or_false] at hq
        rcases hq with rfl | rfl
        · trivial
        · rw [zeroO_iff]; simp [h0]
      · rw [h0] at hA'
        refine ⟨.inr rfl, stR 0, [W6 0], hA', res_stR 0, ?_⟩
        rw [invN_zero h0]
    · have hg' : Nat.gcd (rd a) pN = 1 := hg.resolve_left h0
      rw [dI0_chain5]
      refine At.probes (E := EB pN) mixed (tabB pN) (callB pN) (invS a pN) (fun q hq => ?_) hA0 [17, 21, 22, 27, 28, 35] (blk_stB _ _ _ _ _ _) (keep_stS _ _) (no_rho0 _) fun a' w' hA' => ?_
      · simp only [List.mem_cons, List.not_mem_nil, or_false] at hq
        rcases hq with rfl | rfl
        · trivial
        · rw [zeroO_iff]; simp [h0]
      · show Code.wp _ _ _ _ _
        refine wp_block (loopI (a := rd a) (fun r a3 w3 hr h3 => ?_) (invI_start h0 hg') (hA'.same (same_start _ _)))
        refine ⟨.inr rfl, stR r, [W6 r], h3, res_stR r, ?_⟩
        rw [invN_eq hr]
  · rintro e w' ⟨v, rfl, xs, st, ρ', hE, hval, hMk, rfl⟩
    refine ⟨v, rfl, ?_, hE.below fun b ⟨id, _, _, hq⟩ => by cases hq⟩
    have : (W6 (invN a)).val ρ' = some v := hval
    rw [val_W6] at this
    cases this; rfl
end Go.Proofs.Ythceokldlinjlaa
