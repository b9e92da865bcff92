/-
  Rf, Rd, Rm, Rn, in one.
-/
import Derived.Test.YtddmcmkhjkleoaaGreatDoorMal
import Derived.Test.YtddmcmkhjkleoaaGreatDoorMat
import Derived.Test.YtddmcmkhjkleoaaGreatDoorMar
import Derived.Test.YtddmcmkhjkleoaaGreatDoorMap
import Derived.Laws.RangeString
import Derived.Test.YtddmcmkhjkleoaaGreatDoorMav
section
namespace Go.Proofs.YtddmcmkhjkleoaaGreatDoor
open Go.RowKit

/-- From behind the first quote on: the text, what is behind, and whether it can't be read. -/
def uqM : Nat → List UInt8 → List UInt8 → Bool → (List UInt8 × List UInt8) × Bool
  | 0, _, _, _ => (([], []), true)
  | _ + 1, [], _, _ => (([], []), true)
  | n + 1, c :: l, out, b =>
    if c = 34 then ((out, l), b)
    else if c = 92 ∧ 2 ≤ l.length ∧ 0 ≤ digitM (l.getD 0 0) ∧ 0 ≤ digitM (l.getD 1 0) then uqM n (l.drop 2) (out ++ [UInt8.ofNat ((digitM (l.getD 0 0)).toNat * 16 + (digitM (l.getD 1 0)).toNat)]) b
    else if c = 92 ∨ (c.toNat < 32 ∧ c.toNat ≠ 9) then uqM n l out true
    else uqM n l (out ++ [c]) b
def unquoteM (s : List UInt8) (b : Bool) : (List UInt8 × List UInt8) × Bool := match s with
  | [] => (([], []), true)
  | c :: l => if c = 34 then uqM (l.length + 1) l [] b else (([], []), true)
theorem digit_rng (b : UInt8) : -1 ≤ digitM b ∧ digitM b < 16 := by
  have key : ∀ n : Fin 256, -1 ≤ digitM (UInt8.ofNat n.1) ∧ digitM (UInt8.ofNat n.1) < 16 := by decide +kernel
  have := key ⟨b.toNat, b.toNat_lt⟩
  rwa [UInt8.ofNat_toNat] at this
theorem shl4i {P : Program} (t : Nat) {a : Nat} (h : a < 16) : BinR P .shl t (.int .i64 a) (.int .u64 4) (.int .i64 ((a * 16 : Nat) : Int)) := by
  have h1 := b_shl (P := P) .i64 .u64 t a 4 (by decide)
  have h2 : IntKind.i64.wrap ((a : Int) * 2 ^ 4) = ((a * 16 : Nat) : Int) := by
    have key : ∀ n : Fin 16, IntKind.i64.wrap (((n.1 : Nat) : Int) * 2 ^ 4) = ((n.1 * 16 : Nat) : Int) := by decide +kernel
    exact key ⟨a, h⟩
  rw [h2] at h1
  exact h1
theorem or16i {P : Program} (t : Nat) {a b : Nat} (ha : a < 16) (hb : b < 16) : BinR P .or t (.int .i64 ((a * 16 : Nat) : Int)) (.int .i64 b) (.int .i64 ((a * 16 + b : Nat) : Int)) := fun x y w => by
  have key : ∀ n m : Fin 16, IntKind.i64.wrap ((BitVec.ofInt IntKind.i64.bits ((n.1 * 16 : Nat) : Int) ||| BitVec.ofInt IntKind.i64.bits ((m.1 : Nat) : Int)).toNat : Int) = ((n.1 * 16 + m.1 : Nat) : Int) := by decide +kernel
  have h := key ⟨a, ha⟩ ⟨b, hb⟩
  simp only [eqGuard, binOp, Op.intBits]
  simp only [Sem.run_bind]
  exact congrArg (fun z => Result.ok (Value.int .i64 z) w) h
theorem u8w (a : Nat) : IntKind.u8.wrap (a : Int) = ((UInt8.ofNat a).toNat : Int) := by
  show (a : Int) % 256 = _
  rw [UInt8.toNat_ofNat']; omega
theorem byD_snoc (l : List UInt8) (b : UInt8) : byD (l ++ [b]) = byD l ++ [.v (.int .u8 b.toNat)] := by rw [byD_app]; rfl
set_option maxRecDepth 100000 in
set_option maxHeartbeats 1000000 in
theorem unquote_fn (s : List UInt8) (hl : s.length ≤ 2000000) (v1 : Nat) (dn : List D) (ts : List T) (cs tx : List D) (M : List (Value × D)) (v2 : Nat) (ca : List D) (v3 : Nat) (co : List D) (b : Bool) (hts : Shape v2 v3 ts) :
    FnO Tryz.prog 39 [.ref 1000 0, strT s] (RO v1 dn ts cs tx M v2 ca v3 co b) (.tup [strT (unquoteM s b).1.1, strT (unquoteM s b).1.2]) (RO v1 dn ts cs tx M v2 ca v3 co (unquoteM s b).2) := by
  by_cases h0 : s = []
  · have hq : (s == []) = true := by rw [h0]; rfl
    have hr : unquoteM s b = (([], []), true) := by rw [h0]; rfl
    rw [hr]
    rcases hts with rfl | ⟨fp, fr, fg, rfl⟩
    all_goals
      refine FnO.ofT (n := 110) [6] fax_ok Tryz.func39 rfl rfl rfl (by rfl) (by rfl) (by kernel_rfl) fun Γ hA hbA hbO => ?_
      (repeat ((conv => whnf); (first | refine exR ?_ | refine tT ?_ | refine uF ?_ | refine And.intro rfl ?_)))
      exact ⟨eN, rS, fiO⟩
  · have hq : (s == []) = false := beq_eq_false_iff_ne.2 h0
    obtain ⟨c0, s', rfl⟩ : ∃ c l, s = c :: l := by cases s with | nil => exact absurd rfl h0 | cons c l => exact ⟨c, l, rfl⟩
    have hs0 : (c0 :: s')[0]? = some c0 := rfl
    by_cases h34 : c0 = 34
    · have hn : ((c0.toNat : Int) != 34) = false := by rw [h34]; rfl
      have hr : unquoteM (c0 :: s') b = uqM (s'.length + 1) s' [] b := by rw [h34]; rfl
      rw [hr]
      obtain ⟨R, hR⟩ : ∃ R, R = uqM (s'.length + 1) s' [] b := ⟨_, rfl⟩
      rw [← hR]
      have hs1 : s' = (c0 :: s').drop 1 := rfl
      rw [hs1] at hR
      have hsl : ((c0 :: s').drop 1).length + 1 = (c0 :: s').length := rfl
      generalize c0 :: s' = s at *
      rcases hts with rfl | ⟨fp, fr, fg, rfl⟩
      all_goals
        refine FnO.ofT (n := 110) [6] fax_ok Tryz.func39 rfl rfl rfl (by rfl) (by rfl) (by kernel_rfl) fun Γ hA hbA hbO => ?_
        (repeat ((conv => whnf); (first | refine exR ?_ | refine tF ?_ | refine uT ?_ | refine And.intro rfl ?_ | refine exB _ rfl (by assumption) ?_)))
        refine ev_loop [] fax_ok hA (by kernel_rfl) (fun x : Nat × List UInt8 × Bool => 1 ≤ x.1 ∧ x.1 ≤ s.length ∧ x.2.1.length ≤ x.1 ∧ ∃ n, s.length - x.1 < n ∧ uqM n (s.drop x.1) x.2.1 x.2.2 = R) (fun x => [(0, .ref 1000 0), (1, strT s), (6, .own 1 (byD x.2.1) 6), (7, intT x.1)]) (fun x => (6, .row 5 1 (byD x.2.1)) :: RO v1 dn _ cs tx M v2 ca v3 co x.2.2) (fun x => s.length - x.1) (1, [], b) ⟨Nat.le_refl _, by show 1 ≤ s.length; omega, Nat.zero_le _, _, by show s.length - 1 < _; omega, hR.symm⟩ fiE fiO ?_
        rintro ⟨i, out, b1⟩ ⟨hi1, hi, ho, n, hn2, hm⟩ hb -
        dsimp only at hi1 hi ho hn2 hm hb ⊢
        have hB : (byD out).length = out.length := List.length_map _
        by_cases h : i < s.length
        · have hx : s[i]? = some s[i] := List.getElem?_eq_getElem h
          obtain ⟨n, rfl⟩ : ∃ m, n = m + 1 := ⟨n - 1, by omega⟩
          have hdr : s.drop i = s[i] :: s.drop (i + 1) := List.drop_eq_getElem_cons h
          rw [hdr, uqM] at hm
          generalize s[i] = c at *
          have hc := c.toNat_lt
          by_cases hc34 : c = 34
          · rw [if_pos hc34] at hm
            have q1 : ((c.toNat : Int) == 34) = true := by rw [hc34]; rfl
            subst hm
            dsimp only
            (repeat ((conv => whnf); (first | refine exR ?_ | refine tT ?_ | refine exB _ rfl (by assumption) ?_)))
            refine gen_nil (conv_bytes (l := out) (e := 5) rfl (by kernel_rfl) (by kernel_rfl) (by kernel_rfl) rfl) ?_
            (repeat ((conv => whnf); (first | with_reducible refine exE _ (w_inc (by omega)) ?_ | refine oB ?_ | refine nA _ rfl ?_)))
            exact ⟨eN, rS, fiO⟩
          · rw [if_neg hc34] at hm
            have q1 : ((c.toNat : Int) == 34) = false := by rw [beq_eq_false_iff_ne]; intro e; exact hc34 (by rw [← UInt8.toNat_inj]; show c.toNat = 34; omega)
            have hmark : ∀ (hbad : c = 92 ∨ (c.toNat < 32 ∧ c.toNat ≠ 9)), ¬ (c = 92 ∧ 2 ≤ (s.drop (i + 1)).length ∧ 0 ≤ digitM ((s.drop (i + 1)).getD 0 0) ∧ 0 ≤ digitM ((s.drop (i + 1)).getD 1 0)) → uqM n (s.drop (i + 1)) out true = R := fun hbad hno => by rw [if_neg hno, if_pos hbad] at hm; exact hm
            by_cases hc92 : c = 92
            · have q2 : ((c.toNat : Int) == 92) = true := by rw [hc92]; rfl
              have hw2 : IntKind.i64.wrap ((i : Int) + 2) = ((i + 2 : Nat) : Int) := by rw [wrap_in (by omega) (by omega)]; omega
              have hdl : (s.drop (i + 1)).length = s.length - (i + 1) := List.length_drop
              by_cases h2 : i + 2 < s.length
              · have q3 : decide (((i + 2 : Nat) : Int) < (s.length : Int)) = true := decide_eq_true (by omega)
                have hg0 : (s.drop (i + 1)).getD 0 0 = s[i + 1] := by rw [List.getD_eq_getElem?_getD, List.getElem?_drop, List.getElem?_eq_getElem (by omega)]; rfl
                have hg1 : (s.drop (i + 1)).getD 1 0 = s[i + 2] := by rw [List.getD_eq_getElem?_getD, List.getElem?_drop, List.getElem?_eq_getElem (by omega)]; rfl
                rw [hg0, hg1] at hm hmark
                have hx1 : s[i + 1]? = some s[i + 1] := List.getElem?_eq_getElem (by omega)
                have hx2 : s[i + 2]? = some s[i + 2] := List.getElem?_eq_getElem h2
                generalize s[i + 1] = e1 at *
                generalize s[i + 2] = e2 at *
                have hd1 := digit_fn e1
                have hd2 := digit_fn e2
                have hr1 := digit_rng e1
                have hr2 := digit_rng e2
                rw [← hexL_eq] at hd1 hd2
                change FnD _ _ _ (intT (digitM e1)) at hd1
                change FnD _ _ _ (intT (digitM e2)) at hd2
                generalize digitM e1 = d1 at *
                generalize digitM e2 = d2 at *
                by_cases k1 : 0 ≤ d1
                · have q4 : decide (0 ≤ d1) = true := decide_eq_true k1
                  by_cases k2 : 0 ≤ d2
                  · have q5 : decide (0 ≤ d2) = true := decide_eq_true k2
                    rw [if_pos ⟨hc92, by omega, k1, k2⟩, List.drop_drop] at hm
                    obtain ⟨m1, rfl⟩ := Int.eq_ofNat_of_zero_le k1
                    obtain ⟨m2, rfl⟩ := Int.eq_ofNat_of_zero_le k2
                    simp only [Int.toNat_natCast] at hm
                    have l1 : m1 < 16 := by omega
                    have l2 : m2 < 16 := by omega
                    have hs1 := shl4i (P := Tryz.prog) 3 l1
                    have hs2 := or16i (P := Tryz.prog) 3 l1 l2
                    have hs3 := u8w (m1 * 16 + m2)
                    have hsn := byD_snoc out (UInt8.ofNat (m1 * 16 + m2))
                    have hmx : (byD out).length + 1 ≤ 10000000 := by omega
                    (repeat ((conv => whnf); (first | with_reducible refine exE (α := Int) _ (by assumption) ?_ | with_reducible refine exE _ (w_inc (by omega)) ?_ | refine exR ?_ | refine gd (enters_of Tryz.func70 rfl rfl) hd1 ?_ | refine gd (enters_of Tryz.func70 rfl rfl) hd2 ?_ | refine tT ?_ | refine tF ?_ | refine exB _ rfl (by assumption) ?_)))
                    refine gen_nil (t_bin rfl rfl rfl hs1 rfl) ?_
                    (repeat ((conv => whnf); (first | with_reducible refine exE (α := Int) _ (by assumption) ?_ | refine gd (enters_of Tryz.func70 rfl rfl) hd2 ?_ | refine exB _ rfl (by assumption) ?_)))
                    refine gen_nil (t_bin rfl rfl rfl hs2 rfl) ?_
                    (repeat ((conv => whnf); (first | with_reducible refine exE (α := Int) _ (by assumption) ?_ | with_reducible refine exE _ (w_inc (by omega)) ?_ | refine oB ?_ | refine And.intro rfl ?_ | refine lQ ?_)))
                    refine ⟨(i + 3, out ++ [UInt8.ofNat (m1 * 16 + m2)], b1), ⟨by omega, by dsimp only; omega, by simp only [List.length_append, List.length_cons, List.length_nil]; omega, n, by dsimp only; omega, hm⟩, by dsimp only; omega, (by rw [hsn]; exact fiE), (by rw [hsn]; exact fiO)⟩
                  · have q5 : decide (0 ≤ d2) = false := decide_eq_false k2
                    (repeat ((conv => whnf); (first | with_reducible refine exE (α := Int) _ (by assumption) ?_ | with_reducible refine exE _ (w_inc (by omega)) ?_ | refine exR ?_ | refine gd (enters_of Tryz.func70 rfl rfl) hd1 ?_ | refine gd (enters_of Tryz.func70 rfl rfl) hd2 ?_ | refine tT ?_ | refine tF ?_ | refine uF ?_ | refine exB _ rfl (by assumption) ?_)))
                    refine ⟨(i + 1, out, true), ⟨by omega, by dsimp only; omega, by dsimp only; omega, n, by dsimp only; omega, hmark (.inl hc92) (fun h => k2 h.2.2.2)⟩, by dsimp only; omega, fiE, fiO⟩
                · have q4 : decide (0 ≤ d1) = false := decide_eq_false k1
                  (repeat ((conv => whnf); (first | with_reducible refine exE (α := Int) _ (by assumption) ?_ | with_reducible refine exE _ (w_inc (by omega)) ?_ | refine exR ?_ | refine gd (enters_of Tryz.func70 rfl rfl) hd1 ?_ | refine tT ?_ | refine tF ?_ | refine uF ?_ | refine exB _ rfl (by assumption) ?_)))
                  refine ⟨(i + 1, out, true), ⟨by omega, by dsimp only; omega, by dsimp only; omega, n, by dsimp only; omega, hmark (.inl hc92) (fun h => k1 h.2.2.1)⟩, by dsimp only; omega, fiE, fiO⟩
              · have q3 : decide (((i + 2 : Nat) : Int) < (s.length : Int)) = false := decide_eq_false (by omega)
                (repeat ((conv => whnf); (first | with_reducible refine exE (α := Int) _ (by assumption) ?_ | with_reducible refine exE _ (w_inc (by omega)) ?_ | refine exR ?_ | refine tT ?_ | refine tF ?_ | refine uF ?_ | refine exB _ rfl (by assumption) ?_)))
                refine ⟨(i + 1, out, true), ⟨by omega, by dsimp only; omega, by dsimp only; omega, n, by dsimp only; omega, hmark (.inl hc92) (fun h => by have := h.2.1; omega)⟩, by dsimp only; omega, fiE, fiO⟩
            · have q2 : ((c.toNat : Int) == 92) = false := by rw [beq_eq_false_iff_ne]; intro e; exact hc92 (by rw [← UInt8.toNat_inj]; show c.toNat = 92; omega)
              have hno : ¬ (c = 92 ∧ 2 ≤ (s.drop (i + 1)).length ∧ 0 ≤ digitM ((s.drop (i + 1)).getD 0 0) ∧ 0 ≤ digitM ((s.drop (i + 1)).getD 1 0)) := fun h => hc92 h.1
              have hsn := byD_snoc out c
              have hmx : (byD out).length + 1 ≤ 10000000 := by omega
              by_cases h32 : c.toNat < 32
              · have q6 : decide ((c.toNat : Int) < 32) = true := decide_eq_true (by omega)
                by_cases h9 : c.toNat = 9
                · have q7 : ((c.toNat : Int) != 9) = false := by rw [bne_eq_false_iff_eq]; omega
                  rw [if_neg hno, if_neg (by rintro (h | h); exact hc92 h; exact h.2 h9)] at hm
                  (repeat ((conv => whnf); (first | with_reducible refine exE _ (w_inc (by omega)) ?_ | refine exR ?_ | refine tT ?_ | refine tF ?_ | refine uT ?_ | refine And.intro rfl ?_ | refine lQ ?_ | refine exB _ rfl (by assumption) ?_)))
                  refine ⟨(i + 1, out ++ [c], b1), ⟨by omega, by dsimp only; omega, by simp only [List.length_append, List.length_cons, List.length_nil]; omega, n, by dsimp only; omega, hm⟩, by dsimp only; omega, (by rw [hsn]; exact fiE), (by rw [hsn]; exact fiO)⟩
                · have q7 : ((c.toNat : Int) != 9) = true := by rw [bne_iff_ne]; omega
                  (repeat ((conv => whnf); (first | with_reducible refine exE _ (w_inc (by omega)) ?_ | refine exR ?_ | refine tT ?_ | refine tF ?_ | refine uT ?_ | refine exB _ rfl (by assumption) ?_)))
                  refine ⟨(i + 1, out, true), ⟨by omega, by dsimp only; omega, by dsimp only; omega, n, by dsimp only; omega, hmark (.inr ⟨h32, h9⟩) hno⟩, by dsimp only; omega, fiE, fiO⟩
              · have q6 : decide ((c.toNat : Int) < 32) = false := decide_eq_false (by omega)
                rw [if_neg hno, if_neg (by rintro (h | h); exact hc92 h; exact h32 h.1)] at hm
                (repeat ((conv => whnf); (first | with_reducible refine exE _ (w_inc (by omega)) ?_ | refine exR ?_ | refine tT ?_ | refine tF ?_ | refine uT ?_ | refine And.intro rfl ?_ | refine lQ ?_ | refine exB _ rfl (by assumption) ?_)))
                refine ⟨(i + 1, out ++ [c], b1), ⟨by omega, by dsimp only; omega, by simp only [List.length_append, List.length_cons, List.length_nil]; omega, n, by dsimp only; omega, hm⟩, by dsimp only; omega, (by rw [hsn]; exact fiE), (by rw [hsn]; exact fiO)⟩
        · have hR2 : R = (([], []), true) := by
            rw [List.drop_of_length_le (by omega)] at hm
            cases n <;> exact hm.symm
          subst hR2
          (repeat ((conv => whnf); (first | refine exR ?_ | refine tF ?_)))
          exact ⟨eN, rS, fiO⟩
    · have hn : ((c0.toNat : Int) != 34) = true := by rw [bne_iff_ne]; intro e; exact h34 (by rw [← UInt8.toNat_inj]; show c0.toNat = 34; omega)
      have hr : unquoteM (c0 :: s') b = (([], []), true) := if_neg h34
      rw [hr]
      generalize c0 :: s' = s at *
      rcases hts with rfl | ⟨fp, fr, fg, rfl⟩
      all_goals
        refine FnO.ofT (n := 110) [6] fax_ok Tryz.func39 rfl rfl rfl (by rfl) (by rfl) (by kernel_rfl) fun Γ hA hbA hbO => ?_
        (repeat ((conv => whnf); (first | refine exR ?_ | refine tT ?_ | refine tF ?_ | refine uT ?_ | refine And.intro rfl ?_ | refine exB _ rfl (by assumption) ?_)))
        exact ⟨eN, rS, fiO⟩
end Go.Proofs.YtddmcmkhjkleoaaGreatDoor
end

section
namespace Go.Proofs.YtddmcmkhjkleoaaGreatDoor
open Go.RowKit

def blankR (x : Nat) : Bool := x == 32 || x == 9
def fieldsT (s : List UInt8) : List (List UInt8) := (Lib.goFieldsP blankR ⟨s.toArray⟩).map (·.data.toList)
theorem bytes_eta (b : ByteArray) : b = ⟨b.data.toList.toArray⟩ := rfl
theorem blank_at (w : World) : PredAtRunes Tryz.prog 72 #[] blankR w := by
  intro W x hx hb
  show Calls Tryz.prog 72 #[.int .i32 (x : Int)] W _
  by_cases h1 : x = 32
  · have q1 : ((x : Int) == 32) = true := by rw [beq_iff_eq]; omega
    have hr : blankR x = true := by subst h1; rfl
    rw [hr]
    go_enter Tryz.func72, Tryz.ntmps72
    go_wp2
    all_goals (go_ret; exact ⟨by simp_all, 0, rfl⟩)
  · have q1 : ((x : Int) == 32) = false := by rw [beq_eq_false_iff_ne]; omega
    by_cases h2 : x = 9
    · have q2 : ((x : Int) == 9) = true := by rw [beq_iff_eq]; omega
      have hr : blankR x = true := by subst h2; rfl
      rw [hr]
      go_enter Tryz.func72, Tryz.ntmps72
      go_wp2
      all_goals (go_ret; exact ⟨by simp_all, 0, rfl⟩)
    · have q2 : ((x : Int) == 9) = false := by rw [beq_eq_false_iff_ne]; omega
      have hr : blankR x = false := by unfold blankR; rw [beq_eq_false_iff_ne.2 h1, beq_eq_false_iff_ne.2 h2]; rfl
      rw [hr]
      go_enter Tryz.func72, Tryz.ntmps72
      go_wp2
      all_goals (go_ret; exact ⟨by simp_all, 0, rfl⟩)
theorem cut_len (s p : List UInt8) : (Lib.cut s p).1.length ≤ s.length := by
  unfold Lib.cut
  split
  · show (s.take _).length ≤ _
    rw [List.length_take]; omega
  · exact Nat.le_refl _
theorem fieldsF_fn (s : List UInt8) (hs : s.length ≤ 4294967280) : FnD Tryz.prog 55 [strT s, .fn 72 []] (.d (txD (fieldsT s))) := by
  intro w g vs ht hi hr
  cases hr with
  | cons r0 hr =>
  cases hr with
  | cons r1 hr =>
  cases hr
  obtain rfl := inv_v r0
  cases r1 with
  | fn r2 =>
  cases r2
  have hc := Any.strings_FieldsFunc_runes Tryz.fieldsF 72 #[] (enters_of Tryz.func72 rfl rfl) blankR ⟨s.toArray⟩ w (by rw [str_size]; omega) (blank_at w) (by kernel_rfl) (by kernel_rfl)
  change Calls Tryz.prog 55 _ _ _ at hc
  refine hc.mono ?_
  rintro e w' ⟨A, rfl, hA, hown, hB⟩
  have hl : (Lib.goFieldsP blankR ⟨s.toArray⟩).length = (fieldsT s).length := by unfold fieldsT; rw [List.length_map]
  have hv : (Lib.goFieldsP blankR ⟨s.toArray⟩).map Value.string = (fieldsT s).map fun l => Value.string ⟨l.toArray⟩ := by
    unfold fieldsT
    rw [List.map_map]
    rfl
  rw [hv] at hown
  rw [hl] at hown ⊢
  refine ⟨_, behS g.S w w', rfl, behS_le _ hi, behS_old, behS_imm hi hB, .d (rep_own hown (by rw [List.length_map]) fun S => rep_ss S _), hB⟩
theorem fields_line (s : List UInt8) (hs : s.length ≤ 4294967280) : FnD Tryz.prog 40 [strT s] (.d (txD (fieldsT (Lib.cut s [35]).1))) := by
  have h1 := cut_fn s [35] (by omega)
  have hl : (Lib.cut s [35]).1.length ≤ s.length := cut_len s [35]
  have h2 := fieldsF_fn (Lib.cut s [35]).1 (by omega)
  generalize (Lib.cut s [35]).1 = c at *
  generalize (Lib.cut s [35]).2.1 = d at *
  generalize (Lib.cut s [35]).2.2 = e at *
  refine FnD.of1 (n := 11) [] fax_ok Tryz.func40 rfl rfl rfl (by rfl) (by kernel_rfl) (by intro _; rfl) fun Γ hA hbA => ?_
  (repeat ((conv => whnf); (first | refine gd (enters_of Tryz.func71 rfl rfl) h1 ?_ | refine gd (enters_of Tryz.func55 rfl rfl) h2 ?_)))
  exact ⟨eN, rS, fiO⟩
end Go.Proofs.YtddmcmkhjkleoaaGreatDoor
end

section
namespace Go.Proofs.YtddmcmkhjkleoaaGreatDoor
open Go.RowKit

abbrev txtW : List UInt8 := [116, 101, 120, 116]
def bareL (s : List UInt8) : List UInt8 := Lib.trimLeftS s [32, 9]
def restL (s : List UInt8) : List UInt8 := Lib.trimPrefix (bareL s) txtW
/-- Whether a line is one of a text. -/
def isT (s : List UInt8) : Bool := Lib.hasPrefix (bareL s) txtW && (match restL s with | [] => true | c :: _ => decide (0 ≤ Lib.indexByte [32, 9, 34] c))
def fieldsL (s : List UInt8) : List (List UInt8) := fieldsT (Lib.cut s [35]).1
def unqL (s : List UInt8) (b : Bool) : (List UInt8 × List UInt8) × Bool := unquoteM (Lib.trimLeftS (restL s) [32, 9]) b
def textBad (s : List UInt8) (b : Bool) : Bool := (unqL s b).2 || !(fieldsL (unqL s b).1.2).isEmpty || (restL s).head? == some 34
theorem trimLS_len (s c : List UInt8) : (Lib.trimLeftS s c).length ≤ s.length := by
  unfold Lib.trimLeftS
  exact (List.dropWhile_sublist _).length_le
theorem uq_len : ∀ (n : Nat) (l out : List UInt8) (b : Bool), (uqM n l out b).1.2.length ≤ l.length
  | 0, _, _, _ => Nat.zero_le _
  | _ + 1, [], _, _ => Nat.zero_le _
  | n + 1, c :: l, out, b => by
    unfold uqM
    split
    · simp
    · split
      · have := uq_len n (l.drop 2) (out ++ [UInt8.ofNat ((digitM (l.getD 0 0)).toNat * 16 + (digitM (l.getD 1 0)).toNat)]) b
        rw [List.length_drop] at this
        rw [List.length_cons]; omega
      · split
        · have := uq_len n l out true
          rw [List.length_cons]; omega
        · have := uq_len n l (out ++ [c]) b
          rw [List.length_cons]; omega
theorem unquote_len (s : List UInt8) (b : Bool) : (unquoteM s b).1.2.length ≤ s.length := by
  unfold unquoteM
  split
  · simp
  · split
    · next c l h => have := uq_len (l.length + 1) l [] b; rw [List.length_cons]; omega
    · simp
set_option maxRecDepth 100000 in
set_option maxHeartbeats 1000000 in
theorem line_text (s : List UInt8) (hs : s.length ≤ 2000000) (hT : isT s = true) (v1 : Nat) (dn : List D) (ts : List T) (cs tx : List D) (M : List (Value × D)) (v2 : Nat) (ca : List D) (v3 : Nat) (co : List D) (b : Bool) (hts : Shape v2 v3 ts) (htx : tx.length ≤ 5000000) :
    FnO Tryz.prog 21 [.ref 1000 0, strT s] (RO v1 dn ts cs tx M v2 ca v3 co b) (.tup []) (RO v1 dn ts cs (tx ++ [strD (unqL s b).1.1]) M v2 ca v3 co (textBad s b)) := by
  have h1 := trimS_fn s
  have h2 := cutP_fn (bareL s) txtW
  have hl1 : (bareL s).length ≤ s.length := trimLS_len _ _
  have hl2 : (restL s).length ≤ (bareL s).length := trimPrefix_len _ _
  have h3 := trimS_fn (restL s)
  have hl3 := trimLS_len (restL s) [32, 9]
  have h4 := unquote_fn (Lib.trimLeftS (restL s) [32, 9]) (by omega) v1 dn ts cs tx M v2 ca v3 co b hts
  have hl4 := unquote_len (Lib.trimLeftS (restL s) [32, 9]) b
  have h5 := fields_line (unqL s b).1.2 (by unfold unqL; omega)
  unfold isT at hT
  change FnD _ _ _ (strT (bareL s)) at h1
  change FnD _ _ _ (.tup [strT (restL s), boolT (Lib.hasPrefix (bareL s) txtW)]) at h2
  change FnD _ _ _ (.d (txD (fieldsL (unqL s b).1.2))) at h5
  unfold textBad
  have hq0 : restL s = [] → (unqL s b).2 = true := fun e => by unfold unqL; rw [e]; rfl
  change FnO _ _ _ _ (.tup [strT (unqL s b).1.1, strT (unqL s b).1.2]) (RO v1 dn ts cs tx M v2 ca v3 co (unqL s b).2) at h4
  have hfl : ((fieldsL (unqL s b).1.2).map strD).length = (fieldsL (unqL s b).1.2).length := List.length_map _
  have hfe : (fieldsL (unqL s b).1.2).isEmpty = decide ((fieldsL (unqL s b).1.2).length = 0) := by cases fieldsL (unqL s b).1.2 <;> simp
  rw [hfe]
  generalize (unqL s b).1.1 = u1 at *
  generalize (unqL s b).2 = ub at *
  generalize (unqL s b).1.2 = u2 at *
  generalize fieldsL u2 = F at *
  generalize Lib.trimLeftS (restL s) [32, 9] = tr at *
  generalize bareL s = bare at *
  generalize restL s = rest at *
  cases hp : Lib.hasPrefix bare txtW with
  | false => rw [hp] at hT; cases hT
  | true =>
    rw [hp] at hT h2
    cases rest with
    | nil =>
      obtain rfl : ub = true := hq0 rfl
      rw [Bool.true_or, Bool.true_or]
      rcases hts with rfl | ⟨fp, fr, fg, rfl⟩
      all_goals
        refine FnO.of0 (n := 151) [] fax_ok Tryz.func21 rfl rfl rfl (by rfl) (by rfl) (by kernel_rfl) fun Γ hA hbA hbO => ?_
        (repeat ((conv => whnf); (first | refine exR ?_ | refine gd (enters_of Tryz.func36 rfl rfl) h1 ?_ | refine gd (enters_of Tryz.func37 rfl rfl) h2 ?_ | refine gd (enters_of Tryz.func36 rfl rfl) h3 ?_ | refine gO idR (enters_of Tryz.func39 rfl rfl) h4 ?_ | refine tT ?_ | refine uF ?_ | refine And.intro rfl ?_ | refine lQ ?_)))
        exact ⟨eN, rS, fiO⟩
    | cons c r =>
      have hx : (c :: r)[0]? = some c := rfl
      have hr0 : ((c :: r) == ([] : List UInt8)) = false := rfl
      have h6 := indexB_fn [32, 9, 34] c
      have hge : 0 ≤ Lib.indexByte [32, 9, 34] c := by simpa using hT
      generalize Lib.indexByte [32, 9, 34] c = ix at *
      have q1 : decide (0 ≤ ix) = true := decide_eq_true hge
      rw [show ((c :: r).head? == some 34) = (c == 34) from rfl]
      generalize hcr : c :: r = cr at *
      cases ub with
      | true =>
        rw [Bool.true_or, Bool.true_or]
        rcases hts with rfl | ⟨fp, fr, fg, rfl⟩
        all_goals
          refine FnO.of0 (n := 151) [] fax_ok Tryz.func21 rfl rfl rfl (by rfl) (by rfl) (by kernel_rfl) fun Γ hA hbA hbO => ?_
          (repeat ((conv => whnf); (first | refine exR ?_ | refine gd (enters_of Tryz.func36 rfl rfl) h1 ?_ | refine gd (enters_of Tryz.func37 rfl rfl) h2 ?_ | refine gd (enters_of Tryz.func38 rfl rfl) h6 ?_ | refine gd (enters_of Tryz.func36 rfl rfl) h3 ?_ | refine gO idR (enters_of Tryz.func39 rfl rfl) h4 ?_ | refine tT ?_ | refine tF ?_ | refine uT ?_ | refine uF ?_ | refine And.intro rfl ?_ | refine lQ ?_ | refine exB _ rfl (by assumption) ?_)))
          exact ⟨eN, rS, fiO⟩
      | false =>
        by_cases hF : F.length = 0
        · have q2 : decide (0 < ((F.map strD).length : Int)) = false := decide_eq_false (by omega)
          rw [decide_eq_true hF]
          by_cases h34 : c = 34
          · have q3 : ((c.toNat : Int) == 34) = true := by rw [h34]; rfl
            rw [show (false || !true || c == 34) = ((c.toNat : Int) == 34) by rw [q3, h34]; rfl]
            rcases hts with rfl | ⟨fp, fr, fg, rfl⟩
            all_goals
              refine FnO.of0 (n := 151) [] fax_ok Tryz.func21 rfl rfl rfl (by rfl) (by rfl) (by kernel_rfl) fun Γ hA hbA hbO => ?_
              (repeat ((conv => whnf); (first | refine exR ?_ | refine gd (enters_of Tryz.func36 rfl rfl) h1 ?_ | refine gd (enters_of Tryz.func37 rfl rfl) h2 ?_ | refine gd (enters_of Tryz.func38 rfl rfl) h6 ?_ | refine gd (enters_of Tryz.func36 rfl rfl) h3 ?_ | refine gO idR (enters_of Tryz.func39 rfl rfl) h4 ?_ | refine gd (enters_of Tryz.func40 rfl rfl) h5 ?_ | refine tT ?_ | refine tF ?_ | refine uT ?_ | refine And.intro rfl ?_ | refine lQ ?_ | refine exB _ rfl (by assumption) ?_)))
              exact ⟨eN, rS, fiO⟩
          · have q3 : ((c.toNat : Int) == 34) = false := by rw [beq_eq_false_iff_ne]; intro e; exact h34 (by rw [← UInt8.toNat_inj]; show c.toNat = 34; omega)
            rw [show (false || !true || c == 34) = ((c.toNat : Int) == 34) by rw [q3]; simpa using h34]
            rcases hts with rfl | ⟨fp, fr, fg, rfl⟩
            all_goals
              refine FnO.of0 (n := 151) [] fax_ok Tryz.func21 rfl rfl rfl (by rfl) (by rfl) (by kernel_rfl) fun Γ hA hbA hbO => ?_
              (repeat ((conv => whnf); (first | refine exR ?_ | refine gd (enters_of Tryz.func36 rfl rfl) h1 ?_ | refine gd (enters_of Tryz.func37 rfl rfl) h2 ?_ | refine gd (enters_of Tryz.func38 rfl rfl) h6 ?_ | refine gd (enters_of Tryz.func36 rfl rfl) h3 ?_ | refine gO idR (enters_of Tryz.func39 rfl rfl) h4 ?_ | refine gd (enters_of Tryz.func40 rfl rfl) h5 ?_ | refine tT ?_ | refine tF ?_ | refine uT ?_ | refine And.intro rfl ?_ | refine lQ ?_ | refine exB _ rfl (by assumption) ?_)))
              exact ⟨eN, rS, fiO⟩
        · have q2 : decide (0 < ((F.map strD).length : Int)) = true := decide_eq_true (by omega)
          rw [decide_eq_false hF, Bool.not_false, Bool.or_true, Bool.true_or]
          rcases hts with rfl | ⟨fp, fr, fg, rfl⟩
          all_goals
            refine FnO.of0 (n := 151) [] fax_ok Tryz.func21 rfl rfl rfl (by rfl) (by rfl) (by kernel_rfl) fun Γ hA hbA hbO => ?_
            (repeat ((conv => whnf); (first | refine exR ?_ | refine gd (enters_of Tryz.func36 rfl rfl) h1 ?_ | refine gd (enters_of Tryz.func37 rfl rfl) h2 ?_ | refine gd (enters_of Tryz.func38 rfl rfl) h6 ?_ | refine gd (enters_of Tryz.func36 rfl rfl) h3 ?_ | refine gO idR (enters_of Tryz.func39 rfl rfl) h4 ?_ | refine gd (enters_of Tryz.func40 rfl rfl) h5 ?_ | refine tT ?_ | refine tF ?_ | refine uT ?_ | refine uF ?_ | refine And.intro rfl ?_ | refine lQ ?_ | refine exB _ rfl (by assumption) ?_)))
            exact ⟨eN, rS, fiO⟩
end Go.Proofs.YtddmcmkhjkleoaaGreatDoor
end

section
namespace Go.Proofs.YtddmcmkhjkleoaaGreatDoor
open Go.RowKit

theorem not_text {s : List UInt8} (h : isT s = false) : Lib.hasPrefix (bareL s) txtW = false ∨ (Lib.hasPrefix (bareL s) txtW = true ∧ ∃ c r, restL s = c :: r ∧ Lib.indexByte [32, 9, 34] c < 0) := by
  unfold isT at h
  cases hp : Lib.hasPrefix (bareL s) txtW with
  | false => exact .inl rfl
  | true =>
    rw [hp, Bool.true_and] at h
    refine .inr ⟨rfl, ?_⟩
    cases hr : restL s with
    | nil => rw [hr] at h; cases h
    | cons c r =>
      rw [hr] at h
      exact ⟨c, r, rfl, by have := of_decide_eq_false h; omega⟩
abbrev constW' : List UInt8 := [99, 111, 110, 115, 116]
abbrev fnW : List UInt8 := [102, 110]
abbrev genW : List UInt8 := [103, 101, 110]
abbrev caughtW : List UInt8 := [99, 97, 117, 103, 104, 116]
theorem len_cons (w : List UInt8) (l : List (List UInt8)) : (List.map strD (w :: l)).length = l.length + 1 := by rw [List.length_map, List.length_cons]
set_option maxRecDepth 100000 in
set_option maxHeartbeats 1000000 in
theorem line_blank (s : List UInt8) (hs : s.length ≤ 2000000) (hT : isT s = false) (hF : fieldsL s = []) (v1 : Nat) (dn : List D) (ts : List T) (cs tx : List D) (M : List (Value × D)) (v2 : Nat) (ca : List D) (v3 : Nat) (co : List D) (b : Bool) (hts : Shape v2 v3 ts) :
    FnO Tryz.prog 21 [.ref 1000 0, strT s] (RO v1 dn ts cs tx M v2 ca v3 co b) (.tup []) (RO v1 dn ts cs tx M v2 ca v3 co b) := by
  have h1 := trimS_fn s
  have h2 := cutP_fn (bareL s) txtW
  have h5 := fields_line s (by omega)
  change FnD _ _ _ (strT (bareL s)) at h1
  change FnD _ _ _ (.tup [strT (restL s), boolT (Lib.hasPrefix (bareL s) txtW)]) at h2
  change FnD _ _ _ (.d (txD (fieldsL s))) at h5
  have hk := not_text hT
  rw [hF] at h5
  change FnD _ _ _ (.d (.sl 1 (List.map strD []))) at h5
  generalize bareL s = bare at *
  generalize restL s = rest at *
  generalize Lib.hasPrefix bare txtW = hp at *
  rcases hk with rfl | ⟨rfl, c, r, rfl, hix⟩
  · rcases hts with rfl | ⟨fp, fr, fg, rfl⟩
    all_goals
      refine FnO.of0 (n := 151) [] fax_ok Tryz.func21 rfl rfl rfl (by rfl) (by rfl) (by kernel_rfl) fun Γ hA hbA hbO => ?_
      (repeat ((conv => whnf); (first | refine exR ?_ | refine gd (enters_of Tryz.func36 rfl rfl) h1 ?_ | refine gd (enters_of Tryz.func37 rfl rfl) h2 ?_ | refine gd (enters_of Tryz.func40 rfl rfl) h5 ?_ | refine tT ?_ | refine tF ?_)))
      exact ⟨eN, rS, fiO⟩
  · have hx : (c :: r)[0]? = some c := rfl
    have hr0 : ((c :: r) == ([] : List UInt8)) = false := rfl
    have h6 := indexB_fn [32, 9, 34] c
    generalize Lib.indexByte [32, 9, 34] c = ix at *
    have q1 : decide (0 ≤ ix) = false := decide_eq_false (by omega)
    generalize c :: r = cr at *
    rcases hts with rfl | ⟨fp, fr, fg, rfl⟩
    all_goals
      refine FnO.of0 (n := 151) [] fax_ok Tryz.func21 rfl rfl rfl (by rfl) (by rfl) (by kernel_rfl) fun Γ hA hbA hbO => ?_
      (repeat ((conv => whnf); (first | refine exR ?_ | refine gd (enters_of Tryz.func36 rfl rfl) h1 ?_ | refine gd (enters_of Tryz.func37 rfl rfl) h2 ?_ | refine gd (enters_of Tryz.func38 rfl rfl) h6 ?_ | refine gd (enters_of Tryz.func40 rfl rfl) h5 ?_ | refine tT ?_ | refine tF ?_ | refine uT ?_ | refine exB _ rfl (by assumption) ?_)))
      exact ⟨eN, rS, fiO⟩
set_option maxRecDepth 100000 in
set_option maxHeartbeats 1000000 in
theorem line_const (s : List UInt8) (hs : s.length ≤ 2000000) (hT : isT s = false) (l : List (List UInt8)) (hF : fieldsL s = constW' :: l) (hl : ∀ w ∈ l, w.length ≤ 1000000000) (v1 : Nat) (dn : List D) (ts : List T) (cs tx : List D) (M : List (Value × D)) (v2 : Nat) (ca : List D) (v3 : Nat) (co : List D) (b : Bool) (hts : Shape v2 v3 ts) (hcs : cs.length ≤ 5000000) :
    FnO Tryz.prog 21 [.ref 1000 0, strT s] (RO v1 dn ts cs tx M v2 ca v3 co b) (.tup []) (RO v1 dn ts (cs ++ [vaD (constL l).1]) tx M v2 ca v3 co (b || (constL l).2)) := by
  have h1 := trimS_fn s
  have h2 := cutP_fn (bareL s) txtW
  have h5 := fields_line s (by omega)
  change FnD _ _ _ (strT (bareL s)) at h1
  change FnD _ _ _ (.tup [strT (restL s), boolT (Lib.hasPrefix (bareL s) txtW)]) at h2
  change FnD _ _ _ (.d (txD (fieldsL s))) at h5
  have hk := not_text hT
  rw [hF] at h5
  change FnD _ _ _ (.d (.sl 1 (List.map strD (constW' :: l)))) at h5
  generalize bareL s = bare at *
  generalize restL s = rest at *
  generalize Lib.hasPrefix bare txtW = hp at *
  have hlc := len_cons constW' l
  have hx0 : (List.map strD (constW' :: l))[0]? = some (strD constW') := rfl
  have hc := constL_fn l hl v1 dn ts cs tx M v2 ca v3 co b hts hcs
  rcases hk with rfl | ⟨rfl, c, r, rfl, hix⟩
  · rcases hts with rfl | ⟨fp, fr, fg, rfl⟩
    all_goals
      refine FnO.of0 (n := 151) [] fax_ok Tryz.func21 rfl rfl rfl (by rfl) (by rfl) (by kernel_rfl) fun Γ hA hbA hbO => ?_
      (repeat ((conv => whnf); (first | refine exR ?_ | refine gd (enters_of Tryz.func36 rfl rfl) h1 ?_ | refine gd (enters_of Tryz.func37 rfl rfl) h2 ?_ | refine gd (enters_of Tryz.func40 rfl rfl) h5 ?_ | refine gO idR (enters_of Tryz.func41 rfl rfl) hc ?_ | refine tT ?_ | refine tF ?_ | refine exI _ rfl (by assumption) ?_ | refine nA _ rfl ?_)))
      exact ⟨eN, rS, fiO⟩
  · have hx : (c :: r)[0]? = some c := rfl
    have hr0 : ((c :: r) == ([] : List UInt8)) = false := rfl
    have h6 := indexB_fn [32, 9, 34] c
    generalize Lib.indexByte [32, 9, 34] c = ix at *
    have q1 : decide (0 ≤ ix) = false := decide_eq_false (by omega)
    generalize c :: r = cr at *
    rcases hts with rfl | ⟨fp, fr, fg, rfl⟩
    all_goals
      refine FnO.of0 (n := 151) [] fax_ok Tryz.func21 rfl rfl rfl (by rfl) (by rfl) (by kernel_rfl) fun Γ hA hbA hbO => ?_
      (repeat ((conv => whnf); (first | refine exR ?_ | refine gd (enters_of Tryz.func36 rfl rfl) h1 ?_ | refine gd (enters_of Tryz.func37 rfl rfl) h2 ?_ | refine gd (enters_of Tryz.func38 rfl rfl) h6 ?_ | refine gd (enters_of Tryz.func40 rfl rfl) h5 ?_ | refine gO idR (enters_of Tryz.func41 rfl rfl) hc ?_ | refine tT ?_ | refine tF ?_ | refine uT ?_ | refine exI _ rfl (by assumption) ?_ | refine exB _ rfl (by assumption) ?_ | refine nA _ rfl ?_)))
      exact ⟨eN, rS, fiO⟩
set_option maxRecDepth 100000 in
set_option maxHeartbeats 1000000 in
theorem line_fnlen (s : List UInt8) (hs : s.length ≤ 2000000) (hT : isT s = false) (w : List UInt8) (l : List (List UInt8)) (hF : fieldsL s = w :: l) (hw : w = fnW ∨ w = genW) (hl : (w :: l).length ≠ 3) (v1 : Nat) (dn : List D) (ts : List T) (cs tx : List D) (M : List (Value × D)) (v2 : Nat) (ca : List D) (v3 : Nat) (co : List D) (b : Bool) (hts : Shape v2 v3 ts) :
    FnO Tryz.prog 21 [.ref 1000 0, strT s] (RO v1 dn ts cs tx M v2 ca v3 co b) (.tup []) (RO v1 dn ts cs tx M v2 ca v3 co true) := by
  have h1 := trimS_fn s
  have h2 := cutP_fn (bareL s) txtW
  have h5 := fields_line s (by omega)
  change FnD _ _ _ (strT (bareL s)) at h1
  change FnD _ _ _ (.tup [strT (restL s), boolT (Lib.hasPrefix (bareL s) txtW)]) at h2
  change FnD _ _ _ (.d (txD (fieldsL s))) at h5
  have hk := not_text hT
  rw [hF] at h5
  change FnD _ _ _ (.d (.sl 1 (List.map strD (w :: l)))) at h5
  generalize bareL s = bare at *
  generalize restL s = rest at *
  generalize Lib.hasPrefix bare txtW = hp at *
  have hlc := len_cons w l
  have hx0 : (List.map strD (w :: l))[0]? = some (strD w) := rfl
  have hwc : (w == constW') = false := by rcases hw with rfl | rfl <;> rfl
  have hb := begin_len (w :: l) hl v1 dn ts cs tx M v2 ca v3 co b hts
  rcases hw with rfl | rfl
  · rcases hk with rfl | ⟨rfl, c, r, rfl, hix⟩
    · rcases hts with rfl | ⟨fp, fr, fg, rfl⟩
      all_goals
        refine FnO.of0 (n := 151) [] fax_ok Tryz.func21 rfl rfl rfl (by rfl) (by rfl) (by kernel_rfl) fun Γ hA hbA hbO => ?_
        (repeat ((conv => whnf); (first | refine exR ?_ | refine gd (enters_of Tryz.func36 rfl rfl) h1 ?_ | refine gd (enters_of Tryz.func37 rfl rfl) h2 ?_ | refine gd (enters_of Tryz.func40 rfl rfl) h5 ?_ | refine gO idR (enters_of Tryz.func42 rfl rfl) hb ?_ | refine tT ?_ | refine tF ?_ | refine exI _ rfl (by assumption) ?_)))
        exact ⟨eN, rS, fiO⟩
    · have hx : (c :: r)[0]? = some c := rfl
      have hr0 : ((c :: r) == ([] : List UInt8)) = false := rfl
      have h6 := indexB_fn [32, 9, 34] c
      generalize Lib.indexByte [32, 9, 34] c = ix at *
      have q1 : decide (0 ≤ ix) = false := decide_eq_false (by omega)
      generalize c :: r = cr at *
      rcases hts with rfl | ⟨fp, fr, fg, rfl⟩
      all_goals
        refine FnO.of0 (n := 151) [] fax_ok Tryz.func21 rfl rfl rfl (by rfl) (by rfl) (by kernel_rfl) fun Γ hA hbA hbO => ?_
        (repeat ((conv => whnf); (first | refine exR ?_ | refine gd (enters_of Tryz.func36 rfl rfl) h1 ?_ | refine gd (enters_of Tryz.func37 rfl rfl) h2 ?_ | refine gd (enters_of Tryz.func38 rfl rfl) h6 ?_ | refine gd (enters_of Tryz.func40 rfl rfl) h5 ?_ | refine gO idR (enters_of Tryz.func42 rfl rfl) hb ?_ | refine tT ?_ | refine tF ?_ | refine uT ?_ | refine exI _ rfl (by assumption) ?_ | refine exB _ rfl (by assumption) ?_)))
        exact ⟨eN, rS, fiO⟩
  · rcases hk with rfl | ⟨rfl, c, r, rfl, hix⟩
    · rcases hts with rfl | ⟨fp, fr, fg, rfl⟩
      all_goals
        refine FnO.of0 (n := 151) [] fax_ok Tryz.func21 rfl rfl rfl (by rfl) (by rfl) (by kernel_rfl) fun Γ hA hbA hbO => ?_
        (repeat ((conv => whnf); (first | refine exR ?_ | refine gd (enters_of Tryz.func36 rfl rfl) h1 ?_ | refine gd (enters_of Tryz.func37 rfl rfl) h2 ?_ | refine gd (enters_of Tryz.func40 rfl rfl) h5 ?_ | refine gO idR (enters_of Tryz.func42 rfl rfl) hb ?_ | refine tT ?_ | refine tF ?_ | refine exI _ rfl (by assumption) ?_)))
        exact ⟨eN, rS, fiO⟩
    · have hx : (c :: r)[0]? = some c := rfl
      have hr0 : ((c :: r) == ([] : List UInt8)) = false := rfl
      have h6 := indexB_fn [32, 9, 34] c
      generalize Lib.indexByte [32, 9, 34] c = ix at *
      have q1 : decide (0 ≤ ix) = false := decide_eq_false (by omega)
      generalize c :: r = cr at *
      rcases hts with rfl | ⟨fp, fr, fg, rfl⟩
      all_goals
        refine FnO.of0 (n := 151) [] fax_ok Tryz.func21 rfl rfl rfl (by rfl) (by rfl) (by kernel_rfl) fun Γ hA hbA hbO => ?_
        (repeat ((conv => whnf); (first | refine exR ?_ | refine gd (enters_of Tryz.func36 rfl rfl) h1 ?_ | refine gd (enters_of Tryz.func37 rfl rfl) h2 ?_ | refine gd (enters_of Tryz.func38 rfl rfl) h6 ?_ | refine gd (enters_of Tryz.func40 rfl rfl) h5 ?_ | refine gO idR (enters_of Tryz.func42 rfl rfl) hb ?_ | refine tT ?_ | refine tF ?_ | refine uT ?_ | refine exI _ rfl (by assumption) ?_ | refine exB _ rfl (by assumption) ?_)))
        exact ⟨eN, rS, fiO⟩
set_option maxRecDepth 100000 in
set_option maxHeartbeats 1000000 in
theorem line_fnok (s : List UInt8) (hs : s.length ≤ 2000000) (hT : isT s = false) (w w1 w2 : List UInt8) (hF : fieldsL s = [w, w1, w2]) (hw : w = fnW ∨ w = genW) (k1 : w1.length ≤ 1000000000) (k2 : w2.length ≤ 1000000000) (v1 : Nat) (dn : List D) (ts : List T) (cs tx : List D) (M : List (Value × D)) (v2 : Nat) (ca : List D) (v3 : Nat) (co : List D) (b : Bool) (hb0 : b = true ∨ (numB w1 = false ∧ numB w2 = false)) (hts : Shape v2 v3 ts) (hdn : dn.length ≤ 5000000) :
    FnO Tryz.prog 21 [.ref 1000 0, strT s] (RO v1 dn ts cs tx M v2 ca v3 co b) (.tup []) (RO (v1 + 1) (dn ++ lastD ca co ts) (FnT (v2 + 1) (v3 + 1) (numV w1) (numV w2) (genB w)) cs tx M (v2 + 1) [] (v3 + 1) [] b) := by
  have h1 := trimS_fn s
  have h2 := cutP_fn (bareL s) txtW
  have h5 := fields_line s (by omega)
  change FnD _ _ _ (strT (bareL s)) at h1
  change FnD _ _ _ (.tup [strT (restL s), boolT (Lib.hasPrefix (bareL s) txtW)]) at h2
  change FnD _ _ _ (.d (txD (fieldsL s))) at h5
  have hk := not_text hT
  rw [hF] at h5
  change FnD _ _ _ (.d (.sl 1 (List.map strD [w, w1, w2]))) at h5
  generalize bareL s = bare at *
  generalize restL s = rest at *
  generalize Lib.hasPrefix bare txtW = hp at *
  have hlc := len_cons w [w1, w2]
  have hx0 : (List.map strD (w :: [w1, w2]))[0]? = some (strD w) := rfl
  have hwc : (w == constW') = false := by rcases hw with rfl | rfl <;> rfl
  have hb := begin_ok w w1 w2 k1 k2 v1 dn ts cs tx M v2 ca v3 co b hb0 hts hdn
  rcases hw with rfl | rfl
  · rcases hk with rfl | ⟨rfl, c, r, rfl, hix⟩
    · rcases hts with rfl | ⟨fp, fr, fg, rfl⟩
      all_goals
        refine FnO.of0 (n := 151) [] fax_ok Tryz.func21 rfl rfl rfl (by rfl) (by rfl) (by kernel_rfl) fun Γ hA hbA hbO => ?_
        (repeat ((conv => whnf); (first | refine exR ?_ | refine gd (enters_of Tryz.func36 rfl rfl) h1 ?_ | refine gd (enters_of Tryz.func37 rfl rfl) h2 ?_ | refine gd (enters_of Tryz.func40 rfl rfl) h5 ?_ | refine gO idR (enters_of Tryz.func42 rfl rfl) hb ?_ | refine tT ?_ | refine tF ?_ | refine exI _ rfl (by assumption) ?_)))
        exact ⟨eN, rS, fiO⟩
    · have hx : (c :: r)[0]? = some c := rfl
      have hr0 : ((c :: r) == ([] : List UInt8)) = false := rfl
      have h6 := indexB_fn [32, 9, 34] c
      generalize Lib.indexByte [32, 9, 34] c = ix at *
      have q1 : decide (0 ≤ ix) = false := decide_eq_false (by omega)
      generalize c :: r = cr at *
      rcases hts with rfl | ⟨fp, fr, fg, rfl⟩
      all_goals
        refine FnO.of0 (n := 151) [] fax_ok Tryz.func21 rfl rfl rfl (by rfl) (by rfl) (by kernel_rfl) fun Γ hA hbA hbO => ?_
        (repeat ((conv => whnf); (first | refine exR ?_ | refine gd (enters_of Tryz.func36 rfl rfl) h1 ?_ | refine gd (enters_of Tryz.func37 rfl rfl) h2 ?_ | refine gd (enters_of Tryz.func38 rfl rfl) h6 ?_ | refine gd (enters_of Tryz.func40 rfl rfl) h5 ?_ | refine gO idR (enters_of Tryz.func42 rfl rfl) hb ?_ | refine tT ?_ | refine tF ?_ | refine uT ?_ | refine exI _ rfl (by assumption) ?_ | refine exB _ rfl (by assumption) ?_)))
        exact ⟨eN, rS, fiO⟩
  · rcases hk with rfl | ⟨rfl, c, r, rfl, hix⟩
    · rcases hts with rfl | ⟨fp, fr, fg, rfl⟩
      all_goals
        refine FnO.of0 (n := 151) [] fax_ok Tryz.func21 rfl rfl rfl (by rfl) (by rfl) (by kernel_rfl) fun Γ hA hbA hbO => ?_
        (repeat ((conv => whnf); (first | refine exR ?_ | refine gd (enters_of Tryz.func36 rfl rfl) h1 ?_ | refine gd (enters_of Tryz.func37 rfl rfl) h2 ?_ | refine gd (enters_of Tryz.func40 rfl rfl) h5 ?_ | refine gO idR (enters_of Tryz.func42 rfl rfl) hb ?_ | refine tT ?_ | refine tF ?_ | refine exI _ rfl (by assumption) ?_)))
        exact ⟨eN, rS, fiO⟩
    · have hx : (c :: r)[0]? = some c := rfl
      have hr0 : ((c :: r) == ([] : List UInt8)) = false := rfl
      have h6 := indexB_fn [32, 9, 34] c
      generalize Lib.indexByte [32, 9, 34] c = ix at *
      have q1 : decide (0 ≤ ix) = false := decide_eq_false (by omega)
      generalize c :: r = cr at *
      rcases hts with rfl | ⟨fp, fr, fg, rfl⟩
      all_goals
        refine FnO.of0 (n := 151) [] fax_ok Tryz.func21 rfl rfl rfl (by rfl) (by rfl) (by kernel_rfl) fun Γ hA hbA hbO => ?_
        (repeat ((conv => whnf); (first | refine exR ?_ | refine gd (enters_of Tryz.func36 rfl rfl) h1 ?_ | refine gd (enters_of Tryz.func37 rfl rfl) h2 ?_ | refine gd (enters_of Tryz.func38 rfl rfl) h6 ?_ | refine gd (enters_of Tryz.func40 rfl rfl) h5 ?_ | refine gO idR (enters_of Tryz.func42 rfl rfl) hb ?_ | refine tT ?_ | refine tF ?_ | refine uT ?_ | refine exI _ rfl (by assumption) ?_ | refine exB _ rfl (by assumption) ?_)))
        exact ⟨eN, rS, fiO⟩
set_option maxRecDepth 100000 in
set_option maxHeartbeats 1000000 in
theorem line_fnbad1 (s : List UInt8) (hs : s.length ≤ 2000000) (hT : isT s = false) (w w1 w2 : List UInt8) (hF : fieldsL s = [w, w1, w2]) (hw : w = fnW ∨ w = genW) (k1 : w1.length ≤ 1000000000) (k2 : w2.length ≤ 1000000000) (v1 : Nat) (dn : List D) (ts : List T) (cs tx : List D) (M : List (Value × D)) (v2 : Nat) (ca : List D) (v3 : Nat) (co : List D) (hb1 : numB w1 = true) (hts : Shape v2 v3 ts) (hdn : dn.length ≤ 5000000) :
    FnO Tryz.prog 21 [.ref 1000 0, strT s] (RO v1 dn ts cs tx M v2 ca v3 co false) (.tup []) ((87, .seen 1000) :: RR (v1 + 1) (dn ++ lastD ca co ts) (FnT (v2 + 1) (v3 + 1) (numV w1) (numV w2) (genB w)) cs tx M (v2 + 1) [] (v3 + 1) []) := by
  have h1 := trimS_fn s
  have h2 := cutP_fn (bareL s) txtW
  have h5 := fields_line s (by omega)
  change FnD _ _ _ (strT (bareL s)) at h1
  change FnD _ _ _ (.tup [strT (restL s), boolT (Lib.hasPrefix (bareL s) txtW)]) at h2
  change FnD _ _ _ (.d (txD (fieldsL s))) at h5
  have hk := not_text hT
  rw [hF] at h5
  change FnD _ _ _ (.d (.sl 1 (List.map strD [w, w1, w2]))) at h5
  generalize bareL s = bare at *
  generalize restL s = rest at *
  generalize Lib.hasPrefix bare txtW = hp at *
  have hlc := len_cons w [w1, w2]
  have hx0 : (List.map strD (w :: [w1, w2]))[0]? = some (strD w) := rfl
  have hwc : (w == constW') = false := by rcases hw with rfl | rfl <;> rfl
  have hb := begin_bad1 w w1 w2 k1 k2 v1 dn ts cs tx M v2 ca v3 co hb1 hts hdn
  rcases hw with rfl | rfl
  · rcases hk with rfl | ⟨rfl, c, r, rfl, hix⟩
    · rcases hts with rfl | ⟨fp, fr, fg, rfl⟩
      all_goals
        refine FnO.of0 (n := 151) [87] fax_ok Tryz.func21 rfl rfl rfl (by rfl) (by rfl) (by kernel_rfl) fun Γ hA hbA hbO => ?_
        (repeat ((conv => whnf); (first | refine exR ?_ | refine gd (enters_of Tryz.func36 rfl rfl) h1 ?_ | refine gd (enters_of Tryz.func37 rfl rfl) h2 ?_ | refine gd (enters_of Tryz.func40 rfl rfl) h5 ?_ | refine gO [(24, 87), (1000, 1000), (1001, 1001), (1002, 1002), (1003, 1003), (1004, 1004), (1005, 1005), (1006, 1006)] (enters_of Tryz.func42 rfl rfl) hb ?_ | refine tT ?_ | refine tF ?_ | refine exI _ rfl (by assumption) ?_)))
        exact ⟨eN, rS, fiO⟩
    · have hx : (c :: r)[0]? = some c := rfl
      have hr0 : ((c :: r) == ([] : List UInt8)) = false := rfl
      have h6 := indexB_fn [32, 9, 34] c
      generalize Lib.indexByte [32, 9, 34] c = ix at *
      have q1 : decide (0 ≤ ix) = false := decide_eq_false (by omega)
      generalize c :: r = cr at *
      rcases hts with rfl | ⟨fp, fr, fg, rfl⟩
      all_goals
        refine FnO.of0 (n := 151) [87] fax_ok Tryz.func21 rfl rfl rfl (by rfl) (by rfl) (by kernel_rfl) fun Γ hA hbA hbO => ?_
        (repeat ((conv => whnf); (first | refine exR ?_ | refine gd (enters_of Tryz.func36 rfl rfl) h1 ?_ | refine gd (enters_of Tryz.func37 rfl rfl) h2 ?_ | refine gd (enters_of Tryz.func38 rfl rfl) h6 ?_ | refine gd (enters_of Tryz.func40 rfl rfl) h5 ?_ | refine gO [(24, 87), (1000, 1000), (1001, 1001), (1002, 1002), (1003, 1003), (1004, 1004), (1005, 1005), (1006, 1006)] (enters_of Tryz.func42 rfl rfl) hb ?_ | refine tT ?_ | refine tF ?_ | refine uT ?_ | refine exI _ rfl (by assumption) ?_ | refine exB _ rfl (by assumption) ?_)))
        exact ⟨eN, rS, fiO⟩
  · rcases hk with rfl | ⟨rfl, c, r, rfl, hix⟩
    · rcases hts with rfl | ⟨fp, fr, fg, rfl⟩
      all_goals
        refine FnO.of0 (n := 151) [87] fax_ok Tryz.func21 rfl rfl rfl (by rfl) (by rfl) (by kernel_rfl) fun Γ hA hbA hbO => ?_
        (repeat ((conv => whnf); (first | refine exR ?_ | refine gd (enters_of Tryz.func36 rfl rfl) h1 ?_ | refine gd (enters_of Tryz.func37 rfl rfl) h2 ?_ | refine gd (enters_of Tryz.func40 rfl rfl) h5 ?_ | refine gO [(24, 87), (1000, 1000), (1001, 1001), (1002, 1002), (1003, 1003), (1004, 1004), (1005, 1005), (1006, 1006)] (enters_of Tryz.func42 rfl rfl) hb ?_ | refine tT ?_ | refine tF ?_ | refine exI _ rfl (by assumption) ?_)))
        exact ⟨eN, rS, fiO⟩
    · have hx : (c :: r)[0]? = some c := rfl
      have hr0 : ((c :: r) == ([] : List UInt8)) = false := rfl
      have h6 := indexB_fn [32, 9, 34] c
      generalize Lib.indexByte [32, 9, 34] c = ix at *
      have q1 : decide (0 ≤ ix) = false := decide_eq_false (by omega)
      generalize c :: r = cr at *
      rcases hts with rfl | ⟨fp, fr, fg, rfl⟩
      all_goals
        refine FnO.of0 (n := 151) [87] fax_ok Tryz.func21 rfl rfl rfl (by rfl) (by rfl) (by kernel_rfl) fun Γ hA hbA hbO => ?_
        (repeat ((conv => whnf); (first | refine exR ?_ | refine gd (enters_of Tryz.func36 rfl rfl) h1 ?_ | refine gd (enters_of Tryz.func37 rfl rfl) h2 ?_ | refine gd (enters_of Tryz.func38 rfl rfl) h6 ?_ | refine gd (enters_of Tryz.func40 rfl rfl) h5 ?_ | refine gO [(24, 87), (1000, 1000), (1001, 1001), (1002, 1002), (1003, 1003), (1004, 1004), (1005, 1005), (1006, 1006)] (enters_of Tryz.func42 rfl rfl) hb ?_ | refine tT ?_ | refine tF ?_ | refine uT ?_ | refine exI _ rfl (by assumption) ?_ | refine exB _ rfl (by assumption) ?_)))
        exact ⟨eN, rS, fiO⟩
set_option maxRecDepth 100000 in
set_option maxHeartbeats 1000000 in
theorem line_fnbad2 (s : List UInt8) (hs : s.length ≤ 2000000) (hT : isT s = false) (w w1 w2 : List UInt8) (hF : fieldsL s = [w, w1, w2]) (hw : w = fnW ∨ w = genW) (k1 : w1.length ≤ 1000000000) (k2 : w2.length ≤ 1000000000) (v1 : Nat) (dn : List D) (ts : List T) (cs tx : List D) (M : List (Value × D)) (v2 : Nat) (ca : List D) (v3 : Nat) (co : List D) (hb1 : numB w1 = false) (hb2 : numB w2 = true) (hts : Shape v2 v3 ts) (hdn : dn.length ≤ 5000000) :
    FnO Tryz.prog 21 [.ref 1000 0, strT s] (RO v1 dn ts cs tx M v2 ca v3 co false) (.tup []) ((87, .seen 1000) :: RR (v1 + 1) (dn ++ lastD ca co ts) (FnT (v2 + 1) (v3 + 1) (numV w1) (numV w2) (genB w)) cs tx M (v2 + 1) [] (v3 + 1) []) := by
  have h1 := trimS_fn s
  have h2 := cutP_fn (bareL s) txtW
  have h5 := fields_line s (by omega)
  change FnD _ _ _ (strT (bareL s)) at h1
  change FnD _ _ _ (.tup [strT (restL s), boolT (Lib.hasPrefix (bareL s) txtW)]) at h2
  change FnD _ _ _ (.d (txD (fieldsL s))) at h5
  have hk := not_text hT
  rw [hF] at h5
  change FnD _ _ _ (.d (.sl 1 (List.map strD [w, w1, w2]))) at h5
  generalize bareL s = bare at *
  generalize restL s = rest at *
  generalize Lib.hasPrefix bare txtW = hp at *
  have hlc := len_cons w [w1, w2]
  have hx0 : (List.map strD (w :: [w1, w2]))[0]? = some (strD w) := rfl
  have hwc : (w == constW') = false := by rcases hw with rfl | rfl <;> rfl
  have hb := begin_bad2 w w1 w2 k1 k2 v1 dn ts cs tx M v2 ca v3 co hb1 hb2 hts hdn
  rcases hw with rfl | rfl
  · rcases hk with rfl | ⟨rfl, c, r, rfl, hix⟩
    · rcases hts with rfl | ⟨fp, fr, fg, rfl⟩
      all_goals
        refine FnO.of0 (n := 151) [87] fax_ok Tryz.func21 rfl rfl rfl (by rfl) (by rfl) (by kernel_rfl) fun Γ hA hbA hbO => ?_
        (repeat ((conv => whnf); (first | refine exR ?_ | refine gd (enters_of Tryz.func36 rfl rfl) h1 ?_ | refine gd (enters_of Tryz.func37 rfl rfl) h2 ?_ | refine gd (enters_of Tryz.func40 rfl rfl) h5 ?_ | refine gO [(29, 87), (1000, 1000), (1001, 1001), (1002, 1002), (1003, 1003), (1004, 1004), (1005, 1005), (1006, 1006)] (enters_of Tryz.func42 rfl rfl) hb ?_ | refine tT ?_ | refine tF ?_ | refine exI _ rfl (by assumption) ?_)))
        exact ⟨eN, rS, fiO⟩
    · have hx : (c :: r)[0]? = some c := rfl
      have hr0 : ((c :: r) == ([] : List UInt8)) = false := rfl
      have h6 := indexB_fn [32, 9, 34] c
      generalize Lib.indexByte [32, 9, 34] c = ix at *
      have q1 : decide (0 ≤ ix) = false := decide_eq_false (by omega)
      generalize c :: r = cr at *
      rcases hts with rfl | ⟨fp, fr, fg, rfl⟩
      all_goals
        refine FnO.of0 (n := 151) [87] fax_ok Tryz.func21 rfl rfl rfl (by rfl) (by rfl) (by kernel_rfl) fun Γ hA hbA hbO => ?_
        (repeat ((conv => whnf); (first | refine exR ?_ | refine gd (enters_of Tryz.func36 rfl rfl) h1 ?_ | refine gd (enters_of Tryz.func37 rfl rfl) h2 ?_ | refine gd (enters_of Tryz.func38 rfl rfl) h6 ?_ | refine gd (enters_of Tryz.func40 rfl rfl) h5 ?_ | refine gO [(29, 87), (1000, 1000), (1001, 1001), (1002, 1002), (1003, 1003), (1004, 1004), (1005, 1005), (1006, 1006)] (enters_of Tryz.func42 rfl rfl) hb ?_ | refine tT ?_ | refine tF ?_ | refine uT ?_ | refine exI _ rfl (by assumption) ?_ | refine exB _ rfl (by assumption) ?_)))
        exact ⟨eN, rS, fiO⟩
  · rcases hk with rfl | ⟨rfl, c, r, rfl, hix⟩
    · rcases hts with rfl | ⟨fp, fr, fg, rfl⟩
      all_goals
        refine FnO.of0 (n := 151) [87] fax_ok Tryz.func21 rfl rfl rfl (by rfl) (by rfl) (by kernel_rfl) fun Γ hA hbA hbO => ?_
        (repeat ((conv => whnf); (first | refine exR ?_ | refine gd (enters_of Tryz.func36 rfl rfl) h1 ?_ | refine gd (enters_of Tryz.func37 rfl rfl) h2 ?_ | refine gd (enters_of Tryz.func40 rfl rfl) h5 ?_ | refine gO [(29, 87), (1000, 1000), (1001, 1001), (1002, 1002), (1003, 1003), (1004, 1004), (1005, 1005), (1006, 1006)] (enters_of Tryz.func42 rfl rfl) hb ?_ | refine tT ?_ | refine tF ?_ | refine exI _ rfl (by assumption) ?_)))
        exact ⟨eN, rS, fiO⟩
    · have hx : (c :: r)[0]? = some c := rfl
      have hr0 : ((c :: r) == ([] : List UInt8)) = false := rfl
      have h6 := indexB_fn [32, 9, 34] c
      generalize Lib.indexByte [32, 9, 34] c = ix at *
      have q1 : decide (0 ≤ ix) = false := decide_eq_false (by omega)
      generalize c :: r = cr at *
      rcases hts with rfl | ⟨fp, fr, fg, rfl⟩
      all_goals
        refine FnO.of0 (n := 151) [87] fax_ok Tryz.func21 rfl rfl rfl (by rfl) (by rfl) (by kernel_rfl) fun Γ hA hbA hbO => ?_
        (repeat ((conv => whnf); (first | refine exR ?_ | refine gd (enters_of Tryz.func36 rfl rfl) h1 ?_ | refine gd (enters_of Tryz.func37 rfl rfl) h2 ?_ | refine gd (enters_of Tryz.func38 rfl rfl) h6 ?_ | refine gd (enters_of Tryz.func40 rfl rfl) h5 ?_ | refine gO [(29, 87), (1000, 1000), (1001, 1001), (1002, 1002), (1003, 1003), (1004, 1004), (1005, 1005), (1006, 1006)] (enters_of Tryz.func42 rfl rfl) hb ?_ | refine tT ?_ | refine tF ?_ | refine uT ?_ | refine exI _ rfl (by assumption) ?_ | refine exB _ rfl (by assumption) ?_)))
        exact ⟨eN, rS, fiO⟩
end Go.Proofs.YtddmcmkhjkleoaaGreatDoor
end
