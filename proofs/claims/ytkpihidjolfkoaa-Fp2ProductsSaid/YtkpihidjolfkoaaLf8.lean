/-
  Leaves, 8: fp.even: a number is halved until it is odd, and what it stands for with it.
-/
import Derived.Test.YtkpihidjolfkoaaLf7
namespace Go.Proofs.Ytkpihidjolfkoaa
open Go Go.Eng Go.RowKit Go.Wd

noncomputable def dE : Fn1 := match fn1 79 with
  | some d => d
  | none => ⟨.skip, [], 0⟩
theorem dE_ok : FnOk Try.prog 79 dE := fn1_ok _ _ (by kernel_rfl)
/-- fp.P, its number named: q, which is owed to be the modulus. -/
def pRowQ (q : Nat) : Row where
  f := 23
  ans := fun
    | [] => some (.one (W6 q), [q = pN])
    | _ => none
theorem pQ_ok (q : Nat) : RowOk Try.prog (pRowQ q) := by
  intro args s ob ha hob ρ vs hv
  cases args with
  | nil =>
    have ha : some (SV.one (W6 q), [q = pN]) = some (s, ob) := ha
    cases ha
    have e : q = pN := hob _ (List.mem_singleton.2 rfl)
    subst e
    exact p_ok [] _ _ rfl (fun p hp => by cases hp) ρ vs hv
  | cons a l =>
    have ha : (none : Option (SV × List Prop)) = some (s, ob) := ha
    cases ha
noncomputable def E8 (q : Nat) : Eng := { tab := tyTab, call := callN tyTab (tableT (pRowQ q :: rowsA)) fn1 1000 6, N := 48 }
noncomputable def cEL : Code := loopIn (blockIn dE.body)
theorem dE_body : dE.body = .block 0 (.loop cEL) := by kernel_rfl
theorem dE_ntmps : dE.ntmps = 48 := by kernel_rfl
theorem dE_results : dE.results = [] := by kernel_rfl
set_option maxRecDepth 100000 in
theorem call8 (q : Nat) : CallOk Try.prog (E8 q).call := callN_ok mixed tyTab_ok (tableT_ok (by simp only [List.forall_mem_cons]; exact ⟨pQ_ok q, rowsA_ok⟩)) fn1_ok 1000 6
theorem tab8 (q : Nat) : ∀ t d, (E8 q).tab t = some d → TyOk Try.prog t d := tyTab_ok

/-- A word halved, with the next one's last bit. -/
def hw (a b : Int) : Int := Eng.bits .or .u64 (a.fdiv (2 ^ min (Int.toNat 1) IntKind.u64.bits)) (IntKind.u64.wrap (b * 2 ^ min (Int.toNat 63) IntKind.u64.bits))
def hRow (d : Nat → Int) (h : Int) : Ct := .bl [.v (.int .u64 (hw (d 0) (d 1))), .v (.int .u64 (hw (d 1) (d 2))), .v (.int .u64 (hw (d 2) (d 3))), .v (.int .u64 (hw (d 3) (d 4))), .v (.int .u64 (hw (d 4) (d 5))), .v (.int .u64 (hw (d 5) h))]
def and1 (n : Nat) (b : Bool) : Prop := Eng.bits .and .u64 ((dg n 0 : Nat) : Int) 1 = 0 ↔ b = true
def stE (u x : Nat) : St := [(0, spt 16), (2, spt 17), (33, .bl [.w 6 u]), (35, .bl [.w 6 x])]
def stE2 (a b : Ct) : St := [(0, spt 16), (2, spt 17), (33, a), (35, b)]
def dI (x : Nat) (j : Nat) : Int := ((dg x j : Nat) : Int)
def aI (x q : Nat) (j : Nat) : Int := ((cd 0 (dg x) (dg q) j : Nat) : Int)
theorem ev_exit (u x q : Nat) : probe (E8 q) 100 cEL (stE u x) 18 [(12, false)] ((stE u x).map (·.1)) = some (2, [and1 u false], (stE u x).map fun p => some p.2) := by kernel_rfl
theorem ev_ee (u x q : Nat) : probe (E8 q) 100 cEL (stE u x) 18 [(12, true), (20, true)] ((stE u x).map (·.1)) = some (0, [and1 u true, and1 x true], (stE2 (hRow (dI u) 0) (hRow (dI x) 0)).map fun p => some p.2) := by kernel_rfl
theorem ev_eo (u x q : Nat) : probe (E8 q) 100 cEL (stE u x) 18 [(12, true), (20, false)] ((stE u x).map (·.1)) =
  some (0, [and1 u true, and1 x false, q = pN] ++ (List.range 6).map (addOb 0 (dg x) (dg q)), (stE2 (hRow (dI u) 0) (hRow (aI x q) ((cw 0 (dg x) (dg q) 6 : Nat) : Int))).map fun p => some p.2) := by kernel_rfl

/-! ### words halved -/
theorem and1_eq (x : Nat) : Eng.bits .and .u64 (x : Int) 1 = ((x % 2 : Nat) : Int) := by
  have e : (BitVec.ofInt IntKind.u64.bits (x : Int) &&& BitVec.ofInt IntKind.u64.bits 1).toNat = x % 2 := by
    show (BitVec.ofInt 64 (x : Int) &&& BitVec.ofInt 64 1).toNat = x % 2
    rw [BitVec.toNat_and, BitVec.toNat_ofInt, BitVec.toNat_ofInt]
    have h1 : ((x : Int) % ((2 ^ 64 : Nat) : Int)).toNat = x % 2 ^ 64 := by omega
    have h2 : ((1 : Int) % ((2 ^ 64 : Nat) : Int)).toNat = 2 ^ 1 - 1 := by decide
    rw [h1, h2, Nat.and_two_pow_sub_one_eq_mod, Nat.mod_mod_of_dvd _ (by decide)]
  unfold Eng.bits
  simp only [e]
  exact wrap_nat (by omega)
theorem dg0_mod2 (n : Nat) : dg n 0 % 2 = n % 2 := by
  unfold dg; rw [pw_zero, Nat.div_one, two64]; omega
theorem and1_iff (n : Nat) (b : Bool) : and1 n b ↔ (n % 2 = 0 ↔ b = true) := by
  unfold and1
  rw [and1_eq, dg0_mod2]
  have : ((n % 2 : Nat) : Int) = 0 ↔ n % 2 = 0 := by omega
  rw [this]
theorem hw_eq (a b : Nat) (ha : a < 18446744073709551616) : hw (a : Int) (b : Int) = ((a / 2 + b % 2 * 9223372036854775808 : Nat) : Int) := by
  unfold hw
  have e1 : (2 : Int) ^ min (Int.toNat 1) IntKind.u64.bits = ((2 : Nat) : Int) := by decide
  have e2 : (2 : Int) ^ min (Int.toNat 63) IntKind.u64.bits = ((9223372036854775808 : Nat) : Int) := by decide
  rw [e1, e2, ← Int.ofNat_fdiv, ← Int.natCast_mul, wrap_mod]
  have e3 : b * 9223372036854775808 % 18446744073709551616 = b % 2 * 2 ^ 63 := by omega
  rw [e3]
  have e : (BitVec.ofInt IntKind.u64.bits ((a / 2 : Nat) : Int) ||| BitVec.ofInt IntKind.u64.bits ((b % 2 * 2 ^ 63 : Nat) : Int)).toNat = a / 2 + b % 2 * 9223372036854775808 := by
    show (BitVec.ofInt 64 ((a / 2 : Nat) : Int) ||| BitVec.ofInt 64 ((b % 2 * 2 ^ 63 : Nat) : Int)).toNat = _
    rw [BitVec.toNat_or, BitVec.toNat_ofInt, BitVec.toNat_ofInt]
    have h1 : (((a / 2 : Nat) : Int) % ((2 ^ 64 : Nat) : Int)).toNat = a / 2 := by omega
    have h2 : (((b % 2 * 2 ^ 63 : Nat) : Int) % ((2 ^ 64 : Nat) : Int)).toNat = b % 2 * 2 ^ 63 := by omega
    rw [h1, h2, Nat.or_comm, Nat.mul_comm (b % 2), Nat.two_pow_add_eq_or_of_lt (by omega) (b % 2) |>.symm]
    omega
  unfold Eng.bits
  simp only [e]
  exact wrap_nat (by omega)
/-- The halved words' digits. -/
def hd (d : Nat → Nat) (j : Nat) : Nat := d j / 2 + d (j + 1) % 2 * 9223372036854775808
theorem hd_lt {d : Nat → Nat} {j : Nat} (h : d j < 18446744073709551616) : hd d j < 18446744073709551616 := by unfold hd; omega
theorem num_hd (d : Nat → Nat) : ∀ k, 2 * num (hd d) k + d 0 % 2 = num d k + d k % 2 * pw k := by
  intro k
  induction k with
  | zero => simp [num, pw_zero]
  | succ k ih =>
    simp only [num]
    rw [pw_succ]
    have e : hd d k * 2 + d k % 2 = d k + d (k + 1) % 2 * 18446744073709551616 := by unfold hd; omega
    generalize num (hd d) k = A at *
    generalize num d k = B at *
    generalize hd d k = C at *
    generalize d k % 2 = D at *
    generalize d k = F at *
    generalize d (k + 1) % 2 = G at *
    generalize d 0 % 2 = H at *
    generalize pw k = W at *
    have e2 : (C * 2 + D) * W = (F + G * 18446744073709551616) * W := by rw [e]
    rw [Nat.add_mul, Nat.add_mul, Nat.mul_assoc, Nat.mul_assoc] at e2
    rw [Nat.mul_add, Nat.mul_comm W]
    have e3 : 2 * (C * W) = C * (2 * W) := Nat.mul_left_comm _ _ _
    omega
def d7 (d : Nat → Nat) (h : Nat) (j : Nat) : Nat := if j < 6 then d j else h
theorem w6_of_hRow {t : Nat → Int} {d : Nat → Nat} {h : Nat} {hI : Int} (e : ∀ j, t j = ((d j : Nat) : Int)) (eh : hI = (h : Int)) (hd' : ∀ j, d j < 18446744073709551616) (hh : h ≤ 1) {n : Nat} (hn : num d 6 + h * pw 6 = n) : SameCt (hRow t hI) (.bl [.w 6 (n / 2)]) := by
  intro ρ vs hv
  have e2 : ((List.range 6).map fun j => It.v (.int .u64 ((hd (d7 d h) j : Nat) : Int))) = [.v (.int .u64 (hw (t 0) (t 1))), .v (.int .u64 (hw (t 1) (t 2))), .v (.int .u64 (hw (t 2) (t 3))), .v (.int .u64 (hw (t 3) (t 4))), .v (.int .u64 (hw (t 4) (t 5))), .v (.int .u64 (hw (t 5) hI))] := by
    simp only [e, eh, hw_eq _ _ (hd' _)]
    rfl
  have hv' : conc ρ ((List.range 6).map fun j => It.v (.int .u64 ((hd (d7 d h) j : Nat) : Int))) = some vs := by rw [e2]; exact hv
  have e3 : ((List.range 6).map fun j => It.v (.int .u64 ((hd (d7 d h) j : Nat) : Int))) = ((List.range 6).map fun j => Value.int .u64 ((hd (d7 d h) j : Nat) : Int)).map It.v := by rw [List.map_map]; rfl
  rw [e3, val_plain ρ _ (fun v hv => by obtain ⟨i, _, rfl⟩ := List.mem_map.1 hv; rfl)] at hv'
  have hlt : ∀ i, i < 6 → hd (d7 d h) i < 18446744073709551616 := fun i hi => hd_lt (by unfold d7; rw [if_pos hi]; exact hd' i)
  rw [← words_map 6 hlt] at hv'
  cases hv'
  have k := num_hd (d7 d h) 6
  have k1 : num (d7 d h) 6 = num d 6 := num_congr 6 fun j hj => by unfold d7; rw [if_pos hj]
  have k2 : d7 d h 6 % 2 = h := by show h % 2 = h; omega
  have k3 : num (hd (d7 d h)) 6 = n / 2 := by
    rw [k1, k2, hn] at k
    omega
  rw [k3]
  simp [conc, It.cs]

/-! ### the law -/
def hv (x : Nat) : Nat := if x % 2 = 0 then x / 2 else (x + pN) / 2
def ev : Nat → Nat → Nat → Nat × Nat
  | 0, u, x => (u, x)
  | n + 1, u, x => match u % 2 == 0 with
    | true => ev n (u / 2) (hv x)
    | false => (u, x)
/-- A number halved until it is odd, and what it stands for with it. -/
def evN (u x : Nat) : Nat × Nat := ev (64 * 6) u x
theorem hv_lt {x : Nat} (h : x < M6) : hv x < M6 := by
  have : pN < M6 := pN_lt
  unfold hv; split <;> omega
theorem same_stE {a b : Ct} {u x : Nat} (h1 : SameCt a (.bl [.w 6 u])) (h2 : SameCt b (.bl [.w 6 x])) : ∀ k, match Eng.look (stE2 a b) k, Eng.look (stE u x) k with | some c, some c' => SameCt c c' | none, none => True | _, _ => False := by
  intro k
  by_cases e1 : k = 33
  · subst e1; exact h1
  · by_cases e2 : k = 35
    · subst e2; exact h2
    · have f1 : (33 == k) = false := by simp; omega
      have f2 : (35 == k) = false := by simp; omega
      by_cases e3 : k = 0
      · subst e3; exact SameCt.refl _
      · by_cases e4 : k = 2
        · subst e4; exact SameCt.refl _
        · have f3 : (0 == k) = false := by simp; omega
          have f4 : (2 == k) = false := by simp; omega
          simp only [stE2, stE, Eng.look, f1, f2, f3, f4]
          trivial
structure InvE (R : Nat × Nat) (u x : Nat) : Prop where
  pos : 0 < u
  ult : u < M6
  xlt : x < M6
  fin : ∃ n, u < 2 ^ n ∧ ev n u x = R
theorem InvE.odd {R : Nat × Nat} {u x : Nat} (h : InvE R u x) (ho : u % 2 ≠ 0) : R = (u, x) := by
  obtain ⟨n, h1, h2⟩ := h.fin
  cases n with
  | zero => have := h.pos; simp at h1; omega
  | succ n =>
    rw [ev] at h2
    have e : (u % 2 == 0) = false := by simpa using ho
    rw [e] at h2
    exact h2.symm
theorem InvE.next {R : Nat × Nat} {u x : Nat} (h : InvE R u x) (he : u % 2 = 0) : InvE R (u / 2) (hv x) := by
  obtain ⟨n, h1, h2⟩ := h.fin
  have hp := h.pos
  have hu := h.ult
  refine ⟨by omega, by omega, hv_lt h.xlt, ?_⟩
  cases n with
  | zero => simp at h1; omega
  | succ n =>
    rw [ev] at h2
    have e : (u % 2 == 0) = true := by simpa using he
    rw [e] at h2
    refine ⟨n, ?_, h2⟩
    rw [Nat.pow_succ] at h1
    omega
theorem keeps_stE (u x : Nat) : keepsB (stE u x) [16, 17] = true := by kernel_rfl
theorem keeps_stE2 (t t' : Nat → Int) (h h' : Int) : keepsB (stE2 (hRow t h) (hRow t' h')) [16, 17] = true := by kernel_rfl
theorem in2' {st : St} {A B : List It} (h1 : st.blk 16 = some A) (h2 : st.blk 17 = some B) : ∀ id ∈ [16, 17], ∃ l, st.blk id = some l := in2 h1 h2
theorem num_dg6 {x : Nat} (h : x < M6) : num (dg x) 6 = x := by rw [num_dg]; exact Nat.mod_eq_of_lt h
theorem loopE {R : Nat × Nat} {b1 b2 : Nat} {w0 : World} {Q : Exit → Act → World → Prop} (hQ : ∀ a w, At 48 (rho2 b1 b2) w0 (stE R.1 R.2) a w → Q (.exit 0) a w) {u x : Nat} (hI : InvE R u x) {a : Act} {w : World} (hA : At 48 (rho2 b1 b2) w0 (stE u x) a w) :
    (Code.loop cEL).wp Try.prog Q a w := by
  refine loop_rule (ι := Nat × Nat) (fun p => InvE R p.1 p.2) (fun p => stE p.1 p.2) (fun p => p.1) ?_ (u, x) hI a w hA
  rintro ⟨u, x⟩ hI a w hA
  have hI : InvE R u x := hI
  have hA : At 48 (rho2 b1 b2) w0 (stE u x) a w := hA
  by_cases hu : u % 2 = 0
  · have h0 : SameCt (hRow (dI u) 0) (.bl [.w 6 (u / 2)]) := w6_of_hRow (h := 0) (d := dg u) (fun j => rfl) rfl (fun j => dg_lt u j) (by omega) (by rw [num_dg6 hI.ult, Nat.zero_mul, Nat.add_zero])
    have hlt : u / 2 < u := by have := hI.pos; omega
    by_cases hx : x % 2 = 0
    · refine At.probe (E := E8 0) mixed (tab8 0) (call8 0) (ev_ee u x 0) (fun q hq => ?_) hA [16, 17] (in2 rfl rfl) (keeps_stE2 _ _ _ _) (dom2 b1 b2) fun a' w' hA' => ?_
      · simp only [List.mem_cons, List.not_mem_nil, or_false] at hq
        rcases hq with rfl | rfl
        · rw [and1_iff]; simp [hu]
        · rw [and1_iff]; simp [hx]
      · have h1 : SameCt (hRow (dI x) 0) (.bl [.w 6 (hv x)]) := by
          have := w6_of_hRow (t := dI x) (h := 0) (hI := 0) (d := dg x) (fun j => rfl) rfl (fun j => dg_lt x j) (by omega) (n := x) (by rw [num_dg6 hI.xlt, Nat.zero_mul, Nat.add_zero])
          unfold hv; rw [if_pos hx]; exact this
        exact ⟨(u / 2, hv x), hI.next hu, hlt, hA'.same (same_stE h0 h1)⟩
    · refine At.probe (E := E8 pN) mixed (tab8 pN) (call8 pN) (ev_eo u x pN) (fun q hq => ?_) hA [16, 17] (in2 rfl rfl) (keeps_stE2 _ _ _ _) (dom2 b1 b2) fun a' w' hA' => ?_
      · simp only [List.mem_append, List.mem_cons, List.not_mem_nil, or_false] at hq
        rcases hq with (rfl | rfl | rfl) | hq
        · rw [and1_iff]; simp [hu]
        · rw [and1_iff]; simp [hx]
        · trivial
        · obtain ⟨i, _, rfl⟩ := List.mem_map.1 hq
          have : cw 0 (dg x) (dg pN) i ≤ 1 := cw_le (by omega) i (fun _ _ => dg_lt _ _) (fun _ _ => dg_lt _ _)
          unfold addOb; omega
      · have hs := num_cd (c := 0) (x := dg x) (y := dg pN) 6
        rw [num_dg6 hI.xlt, dg_pN, Nat.add_zero] at hs
        have h1 : SameCt (hRow (aI x pN) ((cw 0 (dg x) (dg pN) 6 : Nat) : Int)) (.bl [.w 6 (hv x)]) := by
          have := w6_of_hRow (t := aI x pN) (h := cw 0 (dg x) (dg pN) 6) (d := cd 0 (dg x) (dg pN)) (fun j => rfl) rfl (fun j => cd_lt _ _ _ j) (cw_le (by omega) 6 (fun _ _ => dg_lt _ _) (fun _ _ => dg_lt _ _)) hs
          unfold hv; rw [if_neg hx]; exact this
        exact ⟨(u / 2, hv x), hI.next hu, hlt, hA'.same (same_stE h0 h1)⟩
  · refine At.probe (E := E8 0) mixed (tab8 0) (call8 0) (ev_exit u x 0) (fun q hq => ?_) hA [16, 17] (in2 rfl rfl) (keeps_stE _ _) (dom2 b1 b2) fun a' w' hA' => ?_
    · simp only [List.mem_cons, List.not_mem_nil, or_false] at hq
      subst hq; rw [and1_iff]; simp [hu]
    · have e := hI.odd hu
      subst e
      exact hQ a' w' hA'

/-! ### the whole -/
def inE : List AV := [⟨false, [.p 16 0]⟩, ⟨false, [.p 17 0]⟩]
theorem headE (u x : Nat) : ((stE u x).map (·.1)).map (Eng.look (initSlots 0 inE (48 - inE.length) ++ mem2 [.w 6 u] [.w 6 x])) = (stE u x).map fun p => some p.2 := by kernel_rfl
theorem even_two (u x : Nat) (h0 : 0 < u) (hu : u < M6) (hx : x < M6) (b1 b2 : Nat) (hne : b1 ≠ b2) :
    Two Try.prog 79 [ptr (b1, 0) 0, ptr (b2, 0) 0] b1 b2 (words 6 u) (words 6 x) (words 6 (evN u x).1) (words 6 (evN u x).2) (.tuple #[]) := by
  have hA : conc (rho2 b1 b2) [.w 6 u] = some (words 6 u) := by simp [conc, It.cs]
  have hB : conc (rho2 b1 b2) [.w 6 x] = some (words 6 x) := by simp [conc, It.cs]
  refine two_of_mem hne hA hB (A' := [.w 6 (evN u x).1]) (B' := [.w 6 (evN u x).2]) (fun ρ us h => by simp [conc, It.cs] at h; exact h.symm) (fun ρ us h => by simp [conc, It.cs] at h; exact h.symm) fun w hM => ?_
  refine .inr ⟨dE_ok.enter _ _, ?_⟩
  have hv : vals (rho2 b1 b2) inE = some [ptr (b1, 0) 0, ptr (b2, 0) 0] := by
    have e2 : AV.val (rho2 b1 b2) ⟨false, [.p 16 0]⟩ = some (ptr (b1, 0) 0) := AV.val_mk (by simp [It.cs, rho2])
    have e4 : AV.val (rho2 b1 b2) ⟨false, [.p 17 0]⟩ = some (ptr (b2, 0) 0) := AV.val_mk (by simp [It.cs, rho2])
    simp only [inE, vals, e2, e4]
  have hI : InvE (evN u x) u x := ⟨h0, hu, hx, 64 * 6, hu, rfl⟩
  refine (calls_of_at (G := fun xs st => xs = [] ∧ st.blk 16 = some [.w 6 (evN u x).1] ∧ st.blk 17 = some [.w 6 (evN u x).2]) tyTab_ok dE_ok hM (by kernel_rfl) hv (by rw [dE_ntmps]; simp [inE]) fun a hA0 => ?_).mono ?_
  · rw [dE_ntmps] at hA0
    rw [dE_body, dE_ntmps, dE_results]
    have h1 : At 48 (rho2 b1 b2) w (stE u x) a w := by
      refine hA0.forget [16, 17] (fun k c hk => ?_) (in2 rfl rfl) (keeps_stE _ _) (dom2 b1 b2)
      have hm := look_some_mem hk
      have he := headE u x
      rw [List.map_map] at he
      simp only [stE, List.map_cons, List.map_nil, Function.comp, List.cons.injEq, and_true] at he
      simp only [stE, List.mem_cons, List.not_mem_nil, or_false, Prod.mk.injEq] at hm
      rcases hm with ⟨rfl, rfl⟩ | ⟨rfl, rfl⟩ | ⟨rfl, rfl⟩ | ⟨rfl, rfl⟩
      · exact he.1
      · exact he.2.1
      · exact he.2.2.1
      · exact he.2.2.2
    refine wp_block (loopE (R := evN u x) (fun a3 w3 h3 => ?_) hI h1)
    exact ⟨.inl rfl, _, [], h3, rfl, rfl, rfl, rfl⟩
  · rintro e w' ⟨v, rfl, xs, st, ρ', hE, hval, hMk, rfl, h1, h2⟩
    refine ⟨v, rfl, ?_, ρ', st, hE, hMk, h1, h2⟩
    simp only [pack, SV.val, vals, Option.some.injEq] at hval
    exact hval.symm
def evenT : CallT := fun f args m _ => match f == 79 with
  | true => match args with
    | [⟨false, [.p a 0]⟩, ⟨false, [.p b 0]⟩] => match m.blk a, m.blk b with
      | some A, some B => match asW6 A, asW6 B with
        | some (u, ob), some (x, ob') => match (a != b && (own a && own b)) with
          | true => some { val := .tup [], wr := [(a, [.w 6 (evN u x).1]), (b, [.w 6 (evN u x).2])], news := [], ob := (0 < u ∧ u < M6 ∧ x < M6) :: (ob ++ ob') }
          | false => none
        | _, _ => none
      | _, _ => none
    | _ => none
  | false => none
theorem evenT_ok : CallOk Try.prog evenT := by
  intro f args m nid out hout hob ρ w vs hv hM hnew
  unfold evenT at hout
  split at hout
  · rename_i hf
    rw [beq_iff_eq] at hf
    subst hf
    split at hout
    · rename_i a b
      split at hout
      · rename_i A B hA hB
        split at hout
        · rename_i u ob x ob' h6 h8
          split at hout
          · rename_i hc
            cases hout
            simp only [Bool.and_eq_true, bne_iff_ne, ne_eq] at hc
            obtain ⟨hab, ha, hb⟩ := hc
            obtain ⟨h0, h1, h2⟩ := hob _ (List.mem_cons_self)
            have ob1 : ∀ p ∈ ob, p := fun p hp => hob p (List.mem_cons_of_mem _ (List.mem_append_left _ hp))
            have ob2 : ∀ p ∈ ob', p := fun p hp => hob p (List.mem_cons_of_mem _ (List.mem_append_right _ hp))
            obtain ⟨v2, r2, e3, e4, rfl⟩ := vals_cons hv
            obtain ⟨v4, r4, e7, e8, rfl⟩ := vals_cons e4
            cases e8
            refine two_call (args := fun q1 q2 => [ptr q1 0, ptr q2 0]) hM hab ha hb hA hB (asW6_ok' h6 ob1) (asW6_ok' h8 ob2) (fun ρ => by simp [conc, It.cs]) (fun ρ => by simp [conc, It.cs])
              (fun b1 b2 hne => even_two u x h0 h1 h2 b1 b2 hne) (fun q1 q2 h1 h2 => ?_) (s := .tup []) rfl
            have c2 : v2 = ptr q1 0 := by
              have : AV.val ρ ⟨false, [.p a 0]⟩ = some (ptr q1 0) := AV.val_mk (by simp [It.cs, h1])
              rw [this] at e3; cases e3; rfl
            have c4 : v4 = ptr q2 0 := by
              have : AV.val ρ ⟨false, [.p b 0]⟩ = some (ptr q2 0) := AV.val_mk (by simp [It.cs, h2])
              rw [this] at e7; cases e7; rfl
            rw [c2, c4]
          · cases hout
        · cases hout
      · cases hout
    · cases hout
  · cases hout
end Go.Proofs.Ytkpihidjolfkoaa
