/-
  New blocks that a call makes; limb.Mod by r.
-/
import Derived.Test.YthceokldlinjlaaTk
namespace Go.Proofs.Ythceokldlinjlaa
open Go Go.Eng Go.RowKit Go.Wd Go.Alg Go.Pr

/-! ### a call that makes a block -/
theorem lastB_one (nid : Nat) (l : List It) (id : Nat) : lastB ([] ++ [(nid, l)]) id = if nid = id then some l else none := by
  simp [lastB]
theorem mem_new {ρ : Rho} {m : St} {w w' : World} (hM : Mem ρ m w) (hb : Below w.heap.size w w') {nid g : Nat} (hn : m.blk nid = none) (ho : own nid = true) (hg : w.heap.size ≤ g) {l : List It} {vs : List Value} (hl : ∀ ρ, conc ρ l = some vs) (hH : Holds w' g vs) :
    Ext ρ w (ρ.set nid g) w' ∧ Mem (ρ.set nid g) (puts m (blkW ([] ++ [(nid, l)]))) w' := by
  have hρ : ρ nid = none := by
    cases h : ρ nid with
    | none => rfl
    | some q => obtain ⟨l', hl'⟩ := hM.dom nid q h; rw [hn] at hl'; cases hl'
  have hlt : ∀ j c o, ρ j = some (c, o) → c < w.heap.size := fun j c o h => by
    obtain ⟨l', hl'⟩ := hM.dom j _ h
    obtain ⟨b, o', vs', e1, e2, e3⟩ := hM.ok.blk j l' hl'
    rw [h] at e1; cases e1
    exact e3.1
  have hblk : ∀ id, St.blk (puts m (blkW ([] ++ [(nid, l)]))) id = if nid = id then some l else m.blk id := fun id => by
    rw [blk_blkW, lastB_one]
    by_cases e : nid = id
    · simp [e]
    · simp [e]
  refine ⟨⟨Rho.le_set hρ, fun id b o h h' => ?_, hb.os, hb.tape, hb.output, hb.size, fun k hk _ => hb.block k hk⟩, ⟨⟨fun id l' hl' => ?_⟩, ?_, fun id q hq => ?_⟩⟩
  · unfold Rho.set at h'
    by_cases e : id = nid
    · rw [if_pos e] at h'; cases h'; exact .inl hg
    · rw [if_neg e, h] at h'; cases h'
  · rw [hblk] at hl'
    by_cases e : nid = id
    · subst e
      rw [if_pos rfl] at hl'; cases hl'
      exact ⟨g, 0, vs, by simp [Rho.set], hl _, lt_of_holds hH, fun _ => ⟨rfl, hH⟩, fun hf => (by rw [ho] at hf; cases hf), fun hf => (by rw [app_own ho] at hf; cases hf)⟩
    · rw [if_neg e] at hl'
      obtain ⟨b, o, us, h1, h2, h3⟩ := hM.ok.blk id l' hl'
      exact ⟨b, o, us, Rho.le_set hρ _ _ h1, conc_le (Rho.le_set hρ) _ _ h2, h3.of_kept hb.size (hb.block b h3.1)⟩
  · exact (hM.inj.set (id := nid) (l := l) fun j c o hq => Nat.lt_of_lt_of_le (hlt j c o hq) hg).congr hblk
  · rw [hblk]
    by_cases e : nid = id
    · exact ⟨l, if_pos e⟩
    · unfold Rho.set at hq
      rw [if_neg fun h => e h.symm] at hq
      obtain ⟨l', hl'⟩ := hM.dom id q hq
      exact ⟨l', by rw [if_neg e]; exact hl'⟩
/-- A call that writes one block of the caller's own. -/
theorem one_call {P : Program} {f : FuncId} {ρ : Rho} {m : St} {w : World} (hM : Mem ρ m w) {a : Nat} (ha : own a = true) {A A' : List It} (hmA : m.blk a = some A) {va' : List Value} (hA' : ∀ ρ, conc ρ A' = some va') {b1 : Nat} (hb : ρ a = some (b1, 0)) {vs : List Value} {r : Value}
    (h : Invoked P f vs.toArray w fun v w' => v = r ∧ Holds w' b1 va' ∧ Keep (fun b => b = b1) w w') {s : SV} (hs : s.val rho0 = some r) :
    Invoked P f vs.toArray w fun v w' => ∃ ρ', Ext ρ w ρ' w' ∧ s.val ρ' = some v ∧ Mem ρ' (puts m (blkW ([(a, A')] ++ []))) w' := by
  refine h.mono ?_
  rintro v w' ⟨rfl, hH, hK⟩
  have hblk : ∀ id, St.blk (puts m (blkW ([(a, A')] ++ []))) id = if a = id then some A' else m.blk id := fun id => by
    rw [blk_blkW]
    simp only [List.append_nil, lastB]
    by_cases e : a = id
    · simp [e]
    · simp [e]
  refine ⟨ρ, ⟨.refl ρ, fun id b o h h' => (by rw [h] at h'; cases h'), hK.os, hK.tape, hK.output, hK.size, fun k hk hD => hK.block k hk fun e => hD ⟨a, 0, .inl ha, e ▸ hb⟩⟩, SV.val_le (rho0_le ρ) _ _ hs, ⟨⟨fun id l hl => ?_⟩, ⟨fun i i' c o o' l l' ho m1 m2 l1 l2 h1 h2 => ?_⟩, fun id q hq => ?_⟩⟩
  · rw [hblk] at hl
    by_cases e : a = id
    · subst e
      rw [if_pos rfl] at hl; cases hl
      exact ⟨b1, 0, va', hb, hA' ρ, lt_of_holds hH, fun _ => ⟨rfl, hH⟩, fun hf => (by rw [ha] at hf; cases hf), fun hf => (by rw [app_own ha] at hf; cases hf)⟩
    · rw [if_neg e] at hl
      obtain ⟨c, o, us, f1, f2, f3⟩ := hM.ok.blk id l hl
      by_cases hlv : Live id l
      · refine ⟨c, o, us, f1, f2, f3.of_kept hK.size (hK.block c f3.1 ?_)⟩
        rintro rfl
        exact e (hM.inj.inj a id c 0 o A l (.inl ha) hmA hl (.inl ha) hlv hb f1)
      · exact ⟨c, o, us, f1, f2, blkOk_dead hlv f2 f3 hK.size⟩
  · have live : ∀ id k, St.blk (puts m (blkW ([(a, A')] ++ []))) id = some k → Live id k → ∃ k0, m.blk id = some k0 ∧ Live id k0 := by
      intro id k hk hlv
      rw [hblk] at hk
      by_cases e : a = id
      · subst e; exact ⟨A, hmA, .inl ha⟩
      · rw [if_neg e] at hk
        exact ⟨k, hk, hlv⟩
    obtain ⟨k0, a1, a2⟩ := live i l m1 l1
    obtain ⟨k0', a3, a4⟩ := live i' l' m2 l2
    exact hM.inj.inj i i' c o o' k0 k0' ho a1 a3 a2 a4 h1 h2
  · obtain ⟨l, hl⟩ := hM.dom id q hq
    rw [hblk]
    by_cases e : a = id
    · exact ⟨A', if_pos e⟩
    · exact ⟨l, by rw [if_neg e]; exact hl⟩

/-! ### limb.take in a table -/
def slId : AV → Option Nat
  | ⟨false, [.s id _ _ _]⟩ => some id
  | _ => none
def takeT : CallT := fun f args m _ => match f == 95 with
  | true => match args with
    | [⟨false, [.s a 0 5 _]⟩, y, ⟨false, [.v (.int .i64 4)]⟩] => match own a, m.blk a, slId y, slArgZ y m with
      | true, some A, some b, some (4, q, ob) => match m.blk b, numIts A, Nat.beq (sizes A) 5 && !(Nat.beq a b) with
        | some B, some (L, ob'), true => match own b || !(Nat.beq (sizes B) 0) with
          | true => some { val := .tup [], wr := [(a, [.w 5 (L % rNum)])], news := [], ob := (q = rNum) :: (L < pw 5) :: ob ++ ob' }
          | false => none
        | _, _, _ => none
      | _, _, _, _ => none
    | _ => none
  | false => none
theorem takeT_ok : CallOk Try.prog takeT := by
  intro f args m nid out hout hob ρ w vs hv hM hnew
  unfold takeT at hout
  split at hout
  · rename_i hf
    rw [beq_iff_eq] at hf
    subst hf
    split at hout
    · rename_i a cap y
      split at hout
      · rename_i A b q ob ha hmA hid hs
        split at hout
        · rename_i B L ob' hmB hnum hsz
          split at hout
          · rename_i hlive
            cases hout
            rw [Bool.and_eq_true] at hsz
            have hsz5 := Nat.eq_of_beq_eq_true hsz.1
            have hab : a ≠ b := fun e => by
              subst e
              have := hsz.2
              rw [Nat.beq_refl] at this; cases this
            have hq : q = rNum := hob _ List.mem_cons_self
            subst hq
            have hL : L < pw 5 := hob _ (List.mem_cons_of_mem _ List.mem_cons_self)
            have hob1 : ∀ p ∈ ob, p := fun p hp => hob p (List.mem_cons_of_mem _ (List.mem_cons_of_mem _ (List.mem_append_left _ hp)))
            have hob2 : ∀ p ∈ ob', p := fun p hp => hob p (List.mem_cons_of_mem _ (List.mem_cons_of_mem _ (List.mem_append_right _ hp)))
            obtain ⟨v1, us, h1, h2, rfl⟩ := vals_cons hv
            obtain ⟨v2, us', h3, h4, rfl⟩ := vals_cons h2
            obtain ⟨v3, us', h5, h6, rfl⟩ := vals_cons h4
            cases h6
            rw [show AV.val ρ ⟨false, [.v (.int .i64 4)]⟩ = some (.int .i64 4) from val_iA ρ 4] at h5
            cases h5
            obtain ⟨b1, o1, us1, e1, e2, e3, e4, _⟩ := hM.ok.blk a A hmA
            obtain ⟨rfl, t1, ht⟩ := e4 ha
            have hu := numIts_ok _ _ _ hnum hob2 e2
            rw [length_conc _ _ e2, hsz5] at hu
            rw [show AV.val ρ ⟨false, [.s a 0 5 cap]⟩ = some (.slice (some ⟨b1, 0, none⟩) 5 cap) from val_slA e1 5 cap] at h1
            cases h1
            obtain ⟨b2, o2, c2, rfl, hl2, hs2⟩ := slArgZ_ok hs hob1 hM h3
            have hne : b1 ≠ b2 := by
              unfold slId at hid
              split at hid
              · rename_i id off len cap'
                cases hid
                have h3 := AV.val_one h3
                simp only [It.cs] at h3
                split at h3
                · rename_i q hq
                  cases h3
                  intro e
                  have hlv : Live b B := by
                    rw [Bool.or_eq_true] at hlive
                    rcases hlive with h | h
                    · exact .inl h
                    · refine .inr fun e => ?_
                      rw [e] at h; cases h
                  exact hab (hM.inj.inj a b b1 0 q.2 A B (.inl ha) hmA hmB (.inl ha) hlv e1 (by rw [e]; exact hq))
                · cases h3
              · cases hid
            exact one_call hM ha hmA (A' := [.w 5 (L % rNum)]) (fun ρ => by simp [conc, It.cs]) e1 (limb_take hne hL w ⟨t1, by rw [← hu]; exact ht⟩ hs2) (s := .tup []) rfl
          · cases hout
        · cases hout
      · cases hout
    · cases hout
  · cases hout
noncomputable def TMd : CallT := orT takeT TTk
theorem TMd_ok : CallOk Try.prog TMd := orT_ok takeT_ok TTk_ok
noncomputable def dMd : Fn1 := match fn1 46 with
  | some d => d
  | none => ⟨.skip, [], 0⟩
theorem dMd_ok : FnOk Try.prog 46 dMd := fn1_ok _ _ (by kernel_rfl)
noncomputable def EMd : Eng := { tab := tyTab, call := callN tyTab TMd fn1 1000 6, N := 56 }
theorem callMd : CallOk Try.prog EMd.call := callN_ok mixed tyTab_ok TMd_ok fn1_ok 1000 6
noncomputable def cMd1 : List Code   := Dr.takeS 5 dMd.body
noncomputable def cMdY : Code := Dr.dropS 5 dMd.body
noncomputable def cMd2 : Code := seqL (seqL cMdY)
noncomputable def cMdL : Code := loopIn (blockIn (seqR (seqL cMdY)))
noncomputable def cMdT : Code := seqR cMdY
theorem dMd_body : dMd.body = chain cMd1 (.seq (.seq cMd2 (.block 2 (.loop cMdL))) cMdT) := by kernel_rfl
theorem dMd_ntmps : dMd.ntmps = 56 := by kernel_rfl
theorem dMd_results : dMd.results = [.tmp 4, .tmp 5] := by kernel_rfl
noncomputable def inMd (len c1 n q : Nat) : St := initSlots 0 [slA 1 len c1, slA 2 4 4] (56 - [slA 1 len c1, slA 2 4 4].length) ++ [(3, .bl (anyW len n)), (5, .bl [.w 4 q])]
def zer5 : List It := [.v (.int .u64 0), .v (.int .u64 0), .v (.int .u64 0), .v (.int .u64 0), .v (.int .u64 0)]
def stMdA (A : List It) (len c1 n q : Nat) : St := [(0, sS 1 len c1), (2, sS 2 4 4), (12, sI 4), (14, sS 36 5 5), (3, .bl (anyW len n)), (5, .bl [.w 4 q]), (73, .bl A)]
def stMd (X len c1 n q : Nat) (i : Int) : St := (16, sI i) :: stMdA [.w 5 X] len c1 n q
def stMdE (X len n q : Nat) : St := [(8, .sl (it1 (.s 36 0 4 5))), (10, sI 0), (3, .bl (anyW len n)), (5, .bl [.w 4 q]), (73, .bl [.w 5 X])]
theorem Md_start (len c1 n q : Nat) : probes EMd 100 cMd1 (inMd len c1 n q) 16 [(12, true), (19, false), (24, false)] ((stMdA zer5 len c1 n q).map (·.1)) =
  some (0, [((4 : Nat) : Int) > 0 ↔ true = true, wK q 3 = 0 ↔ false = true, ((4 : Nat) : Int) = 0 ↔ false = true], (stMdA zer5 len c1 n q).map fun p => some p.2) := by kernel_rfl
theorem Md_head (X len c1 n q : Nat) : probe EMd 100 cMd2 (stMdA [.w 5 X] len c1 n q) 40 [] ((stMd X len c1 n q (IntKind.i64.wrap ((len : Int) - 1))).map (·.1)) = some (0, [], (stMd X len c1 n q (IntKind.i64.wrap ((len : Int) - 1))).map fun p => some p.2) := by kernel_rfl
theorem Md_exit (X len c1 n q : Nat) (i : Int) : probe EMd 100 cMdL (stMd X len c1 n q i) 40 [(33, false)] ((stMd X len c1 n q i).map (·.1)) = some (4, [i ≥ 0 ↔ false = true], (stMd X len c1 n q i).map fun p => some p.2) := by kernel_rfl
def LMd (X n : Nat) (i : Int) : Nat := (wK n (0 + i.toNat * 1)).toNat + ((wK X 0).toNat + ((wK X 1).toNat + ((wK X 2).toNat + ((wK X 3).toNat + 0 * 18446744073709551616) * 18446744073709551616) * 18446744073709551616) * 18446744073709551616) * 18446744073709551616
def wOk (x : Int) : Prop := 0 ≤ x ∧ x < 18446744073709551616
def obMd (X n len q : Nat) (i : Int) : List Prop := [i ≥ 0 ↔ true = true, 0 ≤ i ∧ i < (len : Int), 0 + i.toNat * 1 < len, q = rNum, LMd X n i < pw 5, 4 < 4294967296, wOk (wK n (0 + i.toNat * 1)), wOk (wK X 0), wOk (wK X 1), wOk (wK X 2), wOk (wK X 3)]
theorem Md_step (X len c1 n q : Nat) (i : Int) : probe EMd 100 cMdL (stMd X len c1 n q i) 40 [(33, true), (43, false)] ((stMd (LMd X n i % rNum) len c1 n q (IntKind.i64.wrap (i - 1))).map (·.1)) =
  some (0, obMd X n len q i, (stMd (LMd X n i % rNum) len c1 n q (IntKind.i64.wrap (i - 1))).map fun p => some p.2) := by kernel_rfl
theorem Md_tail (X len c1 n q : Nat) (i : Int) : probe EMd 100 cMdT (stMd X len c1 n q i) 40 [] ((stMdE X len n q).map (·.1)) = some (1, [], (stMdE X len n q).map fun p => some p.2) := by kernel_rfl
theorem keep_Md (X len c1 n q : Nat) (i : Int) : keepsB (stMd X len c1 n q i) [1, 2, 36] = true := by kernel_rfl
theorem keep_MdA (len c1 n q : Nat) : keepsB (stMdA zer5 len c1 n q) [1, 2, 36] = true := by kernel_rfl
theorem keep_MdE (X len n q : Nat) : keepsB (stMdE X len n q) [1, 2, 36] = true := by kernel_rfl

/-! ### the contract -/
theorem blk3 (st : St) (h1 : (st.blk 1).isSome = true) (h2 : (st.blk 2).isSome = true) (h3 : (st.blk 36).isSome = true) : ∀ id ∈ [1, 2, 36], ∃ l, st.blk id = some l := by
  intro id hid
  simp only [List.mem_cons, List.not_mem_nil, or_false] at hid
  rcases hid with rfl | rfl | rfl
  · exact Option.isSome_iff_exists.1 h1
  · exact Option.isSome_iff_exists.1 h2
  · exact Option.isSome_iff_exists.1 h3
theorem blk_Md (X len c1 n q : Nat) (i : Int) : ∀ id ∈ [1, 2, 36], ∃ l, (stMd X len c1 n q i).blk id = some l := blk3 _ rfl rfl rfl
theorem blk_MdA (A : List It) (len c1 n q : Nat) : ∀ id ∈ [1, 2, 36], ∃ l, (stMdA A len c1 n q).blk id = some l := blk3 _ rfl rfl rfl
theorem blk_MdE (X len n q : Nat) : ∀ id ∈ [1, 2, 36], ∃ l, (stMdE X len n q).blk id = some l := blk3 _ rfl rfl rfl
theorem no_rho12' {b1 o1 b2 o2 : Nat} : ∀ id q, rho12 b1 o1 b2 o2 id = some q → id ∈ [1, 2, 36] := fun id q h => by
  have := no_rho12 id q h
  simp only [List.mem_cons, List.not_mem_nil, or_false] at this ⊢
  rcases this with h | h
  · exact .inl h
  · exact .inr (.inl h)
theorem same_Md (len c1 n q : Nat) : ∀ k, match Eng.look (stMdA zer5 len c1 n q) k, Eng.look (stMdA [.w 5 0] len c1 n q) k with | some c, some c' => SameCt c c' | none, none => True | _, _ => False := by
  intro k
  by_cases e1 : k = 73
  · subst e1
    show SameCt (.bl zer5) (.bl [.w 5 0])
    intro ρ vs hv
    have e : conc ρ zer5 = some (words 5 0) := rfl
    rw [e] at hv; cases hv
    simp [conc, It.cs]
  · have f1 : (73 == k) = false := by simp; omega
    have : Eng.look (stMdA zer5 len c1 n q) k = Eng.look (stMdA [.w 5 0] len c1 n q) k := by
      simp only [stMdA, Eng.look, f1]
      rfl
    rw [this]
    split
    · rename_i a b e3 e4; rw [e3] at e4; cases e4; exact SameCt.refl _
    · trivial
    · rename_i h3 h4; cases h5 : Eng.look (stMdA [.w 5 0] len c1 n q) k with
      | none => exact h4 h5 h5
      | some c => exact h3 c c h5 h5
theorem LMd_eq {X n : Nat} {i : Nat} (hX : X < pw 4) : LMd X n (i : Int) = dg n i + X * 18446744073709551616 := by
  unfold LMd
  rw [wK_eq, wK_eq, wK_eq, wK_eq, wK_eq, Int.toNat_natCast, Int.toNat_natCast, Int.toNat_natCast, Int.toNat_natCast, Int.toNat_natCast, Int.toNat_natCast, Nat.mul_one, Nat.zero_add]
  have h := num_dg X 4
  rw [Nat.mod_eq_of_lt hX] at h
  simp only [num, pw_zero, pw_succ, Nat.zero_add] at h
  omega
theorem wOk_wK (n k : Nat) : wOk (wK n k) := by
  rw [wK_eq]
  have := dg_lt n k
  exact ⟨by omega, by omega⟩
theorem md_plain {r N d : Nat} : (N * 18446744073709551616 + d) % r = (d + N % r * 18446744073709551616) % r := by
  have h := Nat.div_add_mod N r
  have e : N * 18446744073709551616 + d = r * (N / r * 18446744073709551616) + (d + N % r * 18446744073709551616) := by
    rw [← Nat.mul_assoc]
    generalize r * (N / r) = y at *
    generalize N % r = x at *
    omega
  rw [e, Nat.mul_add_mod]
theorem md_lt {r x d : Nat} (h : x < r) (h4 : r ≤ pw 4) (hd : d < 18446744073709551616) : d + x * 18446744073709551616 < pw 5 := by
  have h1 : (x + 1) * 18446744073709551616 ≤ pw 4 * 18446744073709551616 := Nat.mul_le_mul_right _ (Nat.le_trans h h4)
  rw [pw_succ]
  omega
theorem Md_loop {b1 o1 b2 o2 : Nat} {w0 : World} {len c1 n : Nat} (hlen : len < 4294967296) {Q : Exit → Act → World → Prop}
    (hX : ∀ i a w, At 56 (rho12 b1 o1 b2 o2) w0 (stMd (n % pw len % rNum) len c1 n rNum i) a w → Q (.exit 2) a w) {a : Act} {w : World}
    (hA : At 56 (rho12 b1 o1 b2 o2) w0 (stMd 0 len c1 n rNum (IntKind.i64.wrap ((len : Int) - 1))) a w) : (Code.loop cMdL).wp Try.prog Q a w := by
  rw [wrap_small (by omega) (by omega)] at hA
  refine loop_rule (w0 := w0) (ρ0 := rho12 b1 o1 b2 o2) (N := 56) (ι := Nat) (fun j => j ≤ len) (fun j => stMd (n % pw len / pw j % rNum) len c1 n rNum ((j : Int) - 1)) (fun j => j) ?_ len (Nat.le_refl _) a w ?_
  · intro j hj a w hA
    have hj : j ≤ len := hj
    rcases Nat.eq_zero_or_pos j with hj0 | hj0
    · subst hj0
      refine At.probe (E := EMd) mixed tyTab_ok callMd (Md_exit _ len c1 n rNum _) (all_cons (iff_f (by omega)) all_nil) hA [1, 2, 36] (blk_Md _ _ _ _ _ _) (keep_Md _ _ _ _ _ _) no_rho12' fun a' w' hA' => hX ((0 : Nat) - 1 : Int) a' w' ?_
      rw [pw_zero, Nat.div_one] at hA'
      exact hA'
    · obtain ⟨j, rfl⟩ : ∃ k, j = k + 1 := ⟨j - 1, by omega⟩
      have e1 : (((j + 1 : Nat) : Int) - 1) = (j : Int) := by omega
      rw [e1] at hA
      have hXlt : n % pw len / pw (j + 1) % rNum < rNum := Nat.mod_lt _ rNum_pos
      have hX4 := Nat.lt_trans hXlt rNum_lt4
      have hd := dg_lt n j
      have eL := LMd_eq (n := n) (i := j) hX4
      have hL : LMd (n % pw len / pw (j + 1) % rNum) n (j : Int) < pw 5 := by rw [eL]; exact md_lt hXlt (Nat.le_of_lt rNum_lt4) hd
      refine At.probe (E := EMd) mixed tyTab_ok callMd (Md_step _ len c1 n rNum _) ?_ hA [1, 2, 36] (blk_Md _ _ _ _ _ _) (keep_Md _ _ _ _ _ _) no_rho12' fun a' w' hA' => ⟨j, by omega, Nat.lt_succ_self j, ?_⟩
      · exact all_cons (iff_t (by omega)) (all_cons ⟨by omega, by omega⟩ (all_cons (by omega) (all_cons rfl (all_cons hL (all_cons (by omega) (all_cons (wOk_wK _ _) (all_cons (wOk_wK _ _) (all_cons (wOk_wK _ _) (all_cons (wOk_wK _ _) (all_cons (wOk_wK _ _) all_nil))))))))))
      · rw [wrap_small (by omega) (by omega), eL] at hA'
        have e2 : n % pw len / pw j = n % pw len / pw (j + 1) * 18446744073709551616 + dg n j := by
          rw [div_step (n % pw len) j, dg_mod, if_pos (by omega)]
        have e3 : n % pw len / pw j % rNum = (dg n j + n % pw len / pw (j + 1) % rNum * 18446744073709551616) % rNum := by
          rw [e2]; exact md_plain
        rw [e3]
        exact hA'
  · have hz : n % pw len / pw len = 0 := Nat.div_eq_of_lt (Nat.mod_lt _ (pw_pos len))
    rw [hz, Nat.zero_mod]
    exact hA
theorem wK_r3 : wK rNum 3 ≠ 0 := by decide +kernel
/-- What is left of a division by r, in a new block. -/
def modV (g : Nat) : Value := .tuple #[.slice (some ⟨g, 0, none⟩) 4 5, .int .i64 0]
theorem limb_mod {b1 o1 len c1 n b2 o2 : Nat} (hlen : len < 4294967296) (w : World) (h1 : SlHas w b1 o1 len n) (h2 : SlHas w b2 o2 4 rNum) :
    Invoked Try.prog 46 [.slice (some ⟨b1, o1, none⟩) len c1, .slice (some ⟨b2, o2, none⟩) 4 4].toArray w fun u w' => ∃ g, w.heap.size ≤ g ∧ u = modV g ∧ Holds w' g (words 5 (n % pw len % rNum)) ∧ Below w.heap.size w w' := by
  refine .inr ⟨dMd_ok.enter _ _, ?_⟩
  have hst : ∀ e ∈ [ent 1 b1 o1 len n, (2, [.w 4 rNum], (b2, o2), words 4 rNum)], e.1 < 16 ∧ conc rho0 e.2.1 = some e.2.2.2 ∧ Stands w e.2.2.1.1 e.2.2.1.2 e.2.2.2 :=
    List.forall_mem_cons.2 ⟨⟨(by show 1 < 16; decide), conc_anyW _ _ _, stands_sl h1⟩, List.forall_mem_cons.2 ⟨⟨(by show 2 < 16; decide), (by simp [conc, It.cs]), stands_sl h2⟩, fun _ h => by cases h⟩⟩
  have hM : Mem (rho12 b1 o1 b2 o2) (memL [(1, anyW len n), (2, [.w 4 rNum])]) w := mem_rhoL _ hst
  have hno : ∀ c, ¬ Own (rho12 b1 o1 b2 o2) c := no_ownL (w := w) _ hst
  have hv : vals (rho12 b1 o1 b2 o2) [slA 1 len c1, slA 2 4 4] = some [.slice (some ⟨b1, o1, none⟩) len c1, .slice (some ⟨b2, o2, none⟩) 4 4] := by
    simp only [vals, val_slA (ρ := rho12 b1 o1 b2 o2) (id := 1) (b := b1) (o := o1) rfl, val_slA (ρ := rho12 b1 o1 b2 o2) (id := 2) (b := b2) (o := o2) rfl]
  refine (calls_of_at (G := fun xs st => xs = [⟨false, [.s 36 0 4 5]⟩, iA 0] ∧ st = stMdE (n % pw len % rNum) len n rNum) tyTab_ok dMd_ok hM (by kernel_rfl) hv (by rw [dMd_ntmps]; simp) fun a hA0 => ?_).mono ?_
  · rw [dMd_ntmps] at hA0
    have hA0 : At 56 (rho12 b1 o1 b2 o2) w (inMd len c1 n rNum) a w := hA0
    rw [dMd_ntmps, dMd_results, dMd_body]
    refine At.probes (E := EMd) mixed tyTab_ok callMd (Md_start len c1 n rNum) (all_cons (iff_t (by omega)) (all_cons (iff_f wK_r3) (all_cons (iff_f (by omega)) all_nil))) hA0 [1, 2, 36] (blk_MdA _ _ _ _ _) (keep_MdA _ _ _ _) no_rho12' fun a1 w1 g1 => ?_
    have g1 := g1.same (same_Md len c1 n rNum)
    show Code.wp _ _ _ _ _
    refine wp_seq (wp_seq (At.probe (E := EMd) mixed tyTab_ok callMd (Md_head 0 len c1 n rNum) (fun p hp => by cases hp) g1 [1, 2, 36] (blk_Md _ _ _ _ _ _) (keep_Md _ _ _ _ _ _) no_rho12' fun a2 w2 g2 => ?_))
    show Code.wp _ _ _ _ _
    refine wp_block (Md_loop hlen (fun i a3 w3 g3 => ?_) g2)
    show Code.wp _ _ _ _ _
    refine At.probe (E := EMd) mixed tyTab_ok callMd (Md_tail _ len c1 n rNum i) (fun p hp => by cases hp) g3 [1, 2, 36] (blk_MdE _ _ _ _) (keep_MdE _ _ _ _) no_rho12' fun a4 w4 g4 => ?_
    exact ⟨.inr rfl, _, [⟨false, [.s 36 0 4 5]⟩, iA 0], g4, by kernel_rfl, rfl, rfl⟩
  · rintro e w' ⟨v, rfl, xs, st, ρ', hE, hval, hMk, rfl, rfl⟩
    refine ⟨v, rfl, ?_⟩
    obtain ⟨g, o', us, f1, f2, f3, f4, _⟩ := hMk.blk 36 [.w 5 (n % pw len % rNum)] rfl
    obtain ⟨rfl, t, ht⟩ := f4 rfl
    have hu : us = words 5 (n % pw len % rNum) := by simpa [conc, It.cs] using f2.symm
    have hg : w.heap.size ≤ g := by
      rcases hE.new 36 g 0 rfl f1 with h | h
      · exact h
      · exact absurd h (hno g)
    refine ⟨g, hg, ?_, ⟨t, by rw [← hu]; exact ht⟩, hE.below hno⟩
    have e1 : AV.val ρ' ⟨false, [.s 36 0 4 5]⟩ = some (.slice (some ⟨g, 0, none⟩) 4 5) := val_slA (id := 36) f1 4 5
    have : SV.val ρ' (.tup [⟨false, [.s 36 0 4 5]⟩, iA 0]) = some v := hval
    simp only [SV.val, vals, e1, val_iA, Option.some.injEq] at this
    exact this.symm
theorem words_45 {X : Nat} (h : X < pw 4) : words 5 X = words 4 X ++ [.int .u64 0] := by
  unfold words
  rw [List.range_succ, List.map_append]
  congr 1
  have : dg X 4 = 0 := by unfold dg; rw [Nat.div_eq_of_lt h, Nat.zero_mod]
  show [word X 4] = _
  rw [word_dg, this]; rfl
def modT : CallT := fun f args m nid => match f == 46 with
  | true => match args with
    | [y, ⟨false, [.s b off 4 4]⟩] => match slArgZ y m, slArgZ ⟨false, [.s b off 4 4]⟩ m, own nid with
      | some (len, n, ob), some (4, q, ob'), true => some { val := .tup [⟨false, [.s nid 0 4 5]⟩, iA 0], wr := [], news := [(nid, [.w 4 (n % pw len % rNum), .v (.int .u64 0)])], ob := (q = rNum) :: ob ++ ob' }
      | _, _, _ => none
    | _ => none
  | false => none
theorem modT_ok : CallOk Try.prog modT := by
  intro f args m nid out hout hob ρ w vs hv hM hnew
  unfold modT at hout
  split at hout
  · rename_i hf
    rw [beq_iff_eq] at hf
    subst hf
    split at hout
    · rename_i y b off
      split at hout
      · rename_i len n ob q ob' hs hs' ho
        cases hout
        have hq : q = rNum := hob _ List.mem_cons_self
        subst hq
        obtain ⟨v1, us, h1, h2, rfl⟩ := vals_cons hv
        obtain ⟨v2, us', h3, h4, rfl⟩ := vals_cons h2
        cases h4
        obtain ⟨b1, o1, c1, rfl, hl1, hs1⟩ := slArgZ_ok hs (fun p hp => hob p (List.mem_cons_of_mem _ (List.mem_append_left _ hp))) hM h1
        obtain ⟨b2, o2, c2, rfl, hl2, hs2⟩ := slArgZ_ok hs' (fun p hp => hob p (List.mem_cons_of_mem _ (List.mem_append_right _ hp))) hM h3
        have hc : c2 = 4 := by
          have h3 := AV.val_one h3
          simp only [It.cs] at h3
          split at h3
          · cases h3; rfl
          · cases h3
        subst hc
        refine (limb_mod hl1 w hs1 hs2).mono ?_
        rintro u w' ⟨g, hg, rfl, hH, hb⟩
        have hn : m.blk nid = none := hnew _ List.mem_cons_self
        have hX : n % pw len % rNum < pw 4 := Nat.lt_trans (Nat.mod_lt _ rNum_pos) rNum_lt4
        rw [words_45 hX] at hH
        obtain ⟨hE, hM'⟩ := mem_new hM hb hn ho hg (l := [.w 4 (n % pw len % rNum), .v (.int .u64 0)]) (fun ρ => by simp [conc, It.cs, Value.oneCell']) hH
        refine ⟨_, hE, ?_, hM'⟩
        have e1 : AV.val (ρ.set nid g) ⟨false, [.s nid 0 4 5]⟩ = some (.slice (some ⟨g, 0, none⟩) 4 5) := val_slA (by simp [Rho.set]) 4 5
        simp only [SV.val, vals, e1, val_iA]
        rfl
      · cases hout
    · cases hout
  · cases hout
end Go.Proofs.Ythceokldlinjlaa
