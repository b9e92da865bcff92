/-
  Su, Cl, Cm, Fw, Or, in one.
-/
import Derived.Test.YtddmcmkhjkleoaaGreatDoorMal
import Derived.Test.YtddmcmkhjkleoaaGreatDoorMan
import Derived.Test.YtddmcmkhjkleoaaGreatDoorMam
import Derived.Laws.BytesArg
import Derived.WalkKit
import Derived.WideShapes
import Derived.Laws.IdiomStrings
import Derived.Test.YtddmcmkhjkleoaaGreatDoorMap
import Derived.Test.YtddmcmkhjkleoaaGreatDoorMaq
import Derived.Test.YtddmcmkhjkleoaaGreatDoorMak
import Derived.ProofKit
import Derived.OpenShut
import Derived.ChangeOld
import Derived.ChangeSame
import Derived.Below
import Derived.Deep.Slices
import Derived.Deep.Fields
section
namespace Go.Proofs.YtddmcmkhjkleoaaGreatDoor
open Go.RowKit

abbrev byD (l : List UInt8) : List D := l.map fun b => .v (.int .u8 b.toNat)
theorem shr4 {P : Program} (t : Nat) (b : UInt8) : BinR P .shr t (.int .u8 b.toNat) (.int .u64 4) (.int .u8 ((b.toNat / 16 : Nat) : Int)) := fun x y w => by
  have h2 : min 4 IntKind.u8.bits = 4 := by decide
  have h3 : (b.toNat : Int).fdiv (2 ^ 4) = ((b.toNat / 16 : Nat) : Int) := by rw [Int.fdiv_eq_ediv_of_nonneg _ (by decide)]; omega
  simp [eqGuard, binOp, Op.shift]
  rw [h2, h3]
  rfl
theorem and15 (b : UInt8) : IntKind.u8.wrap ((BitVec.ofInt IntKind.u8.bits (b.toNat : Int) &&& BitVec.ofInt IntKind.u8.bits 15).toNat : Int) = ((b.toNat % 16 : Nat) : Int) := by
  have key : ∀ n : Fin 256, IntKind.u8.wrap ((BitVec.ofInt IntKind.u8.bits ((n.1 : Nat) : Int) &&& BitVec.ofInt IntKind.u8.bits 15).toNat : Int) = ((n.1 % 16 : Nat) : Int) := by decide +kernel
  exact key ⟨b.toNat, b.toNat_lt⟩
theorem by_lv {S : Sm} : ∀ {l : List UInt8} {xs : List Value}, RepLv S 1 (byD l) xs → xs = bytV l
  | [], _, h => by cases h; rfl
  | b :: l, _, h => by
    cases h with
    | cons h1 hk ht =>
      rw [by_lv ht]
      cases h1 with
      | cons h1 _ h2 => cases h2; cases h1; rfl
theorem conv_rep {P : Program} {S : Sm} {w : World} {s t e : TypeId} {l : List UInt8} {v : Value} (hs : P.underlying s = some (.slice e)) (he : P.underlying e = some (.int .u8)) (ht : P.underlying t = some .string) (hi : ∀ b o x, S b o = some x → w.cell? ⟨b, o, none⟩ = some x) (h : RepD S (.sl 1 (byD l)) v) : (convert s t v).run P w = .ok (.string ⟨l.toArray⟩) w := by
  cases h with
  | @sl _ _ p cap xs h1 hr hc hb hn =>
    obtain rfl := by_lv h1
    have hlen : (byD l).length = l.length := List.length_map _
    rw [hlen]
    obtain ⟨b, off, h2, h3⟩ := hr
    by_cases h0 : l = []
    · subst h0
      rw [show ([] : List UInt8).length = 0 from rfl, run_convert_bytes_string w s t e _ 0 cap hs he ht]
      cases p <;> simp [Conv.bytesToString, loadCells]
      all_goals rfl
    · have hp : 0 < l.length := List.length_pos_iff.2 h0
      rw [h2 (by simpa [bytV] using hp)]
      refine run_convert_bytes_back w s t e ⟨b, off, none⟩ cap l hs he ht fun j hj => ?_
      have h4 := hi b (off + j) (.int .u8 l[j].toNat) (by rw [h3 j (by simpa [bytV] using hj)]; simp [bytV, List.getElem?_eq_getElem hj])
      by_cases hj0 : j = 0
      · subst hj0; simpa [Addr.add] using h4
      · simpa [Addr.add, hj0] using h4
theorem conv_bytes {P : Program} {o : Oper} {σ : Nat → T} {s t e : TypeId} {x : Operand} {l : List UInt8} {id : Nat} (ho : o.op = .convert s t x) (hs : P.underlying s = some (.slice e)) (he : P.underlying e = some (.int .u8)) (ht : P.underlying t = some .string) (hx : opT σ x = .own 1 (byD l) id) : Tri P o σ [] (strT l) [] :=
  .val fun _ g _ ac w hrp _ hw => ⟨.string ⟨l.toArray⟩, by
    have e1 := hrp x (by rw [ho]; simp [Op.operands])
    rw [hx] at e1
    cases e1 with
    | own h1 _ _ =>
      unfold execOp; rw [ho]
      simp only
      rw [Sem.run_bind, conv_rep hs he ht hw.imm h1]; rfl, rep_v rfl⟩
def qpre (s : List UInt8) (i : Nat) : List UInt8 := 34 :: (s.take i).flatMap quoteB
theorem qpre_step {s : List UInt8} {i : Nat} {b : UInt8} (h : s[i]? = some b) : qpre s (i + 1) = qpre s i ++ quoteB b := by
  unfold qpre
  rw [List.take_add_one, h]
  simp
theorem quoteB_len (b : UInt8) : (quoteB b).length ≤ 3 := by unfold quoteB; split <;> simp
theorem qpre_len (s : List UInt8) (i : Nat) : (qpre s i).length ≤ 3 * s.length + 1 := by
  have key : ∀ l : List UInt8, (l.flatMap quoteB).length ≤ 3 * l.length := fun l => by
    induction l with
    | nil => simp
    | cons b l ih => rw [List.flatMap_cons, List.length_append, List.length_cons]; have := quoteB_len b; omega
  have := key (s.take i)
  have h2 : (s.take i).length ≤ s.length := by rw [List.length_take]; omega
  unfold qpre
  rw [List.length_cons]; omega
theorem byD_app (l m : List UInt8) : byD (l ++ m) = byD l ++ byD m := List.map_append
theorem plain_iff (b : UInt8) : plainB b = true ↔ (32 ≤ b.toNat ∧ b.toNat ≤ 126) ∧ b.toNat ≠ 34 ∧ b.toNat ≠ 92 := by
  have key : ∀ n : Fin 256, plainB (UInt8.ofNat n.1) = true ↔ (32 ≤ n.1 ∧ n.1 ≤ 126) ∧ n.1 ≠ 34 ∧ n.1 ≠ 92 := by decide +kernel
  have := key ⟨b.toNat, b.toNat_lt⟩
  rwa [UInt8.ofNat_toNat] at this
theorem hexL_eq : hexL = [48, 49, 50, 51, 52, 53, 54, 55, 56, 57, 97, 98, 99, 100, 101, 102] := by decide +kernel
theorem hex_at {n : Nat} (h : n < 16) : ([48, 49, 50, 51, 52, 53, 54, 55, 56, 57, 97, 98, 99, 100, 101, 102] : List UInt8)[n]? = some (hexM n) := by
  have key : ∀ n : Fin 16, ([48, 49, 50, 51, 52, 53, 54, 55, 56, 57, 97, 98, 99, 100, 101, 102] : List UInt8)[n.1]? = some (hexM n.1) := by decide +kernel
  exact key ⟨n, h⟩
set_option maxRecDepth 100000 in
theorem quoted_fn (s : List UInt8) (hs : s.length ≤ 1000000) : FnD Tryz.prog 14 [strT s] (strT (quotedM s)) := by
  refine FnD.of1 (n := 47) [6] fax_ok Tryz.func14 rfl rfl rfl (by rfl) (by kernel_rfl) (by intro _; rfl) fun Γ hA hbA => ?_
  (repeat ((conv => whnf); refine And.intro rfl ?_))
  refine ev_loop [] fax_ok hA (by kernel_rfl) (fun i : Nat => i ≤ s.length) (fun i => [(0, strT s), (3, .own 1 (byD (qpre s i)) 6), (8, intT s.length), (9, intT i)]) (fun i => [(6, .row 5 1 (byD (qpre s i)))]) (fun i => s.length - i) 0 (Nat.zero_le _) fiE fiO ?_
  rintro i hi hb -
  by_cases h : i < s.length
  · have hx : s[i]? = some s[i] := List.getElem?_eq_getElem h
    have hq := qpre_step hx
    have hlen := qpre_len s i
    have hp := plain_iff s[i]
    have hand := and15 s[i]
    have h16 : s[i].toNat / 16 < 16 := by have := s[i].toNat_lt; omega
    have hx1 := hex_at h16
    have hx2 := hex_at (n := s[i].toNat % 16) (by omega)
    have hL : (byD (qpre s i)).length = (qpre s i).length := List.length_map _
    have hsh := @shr4 Tryz.prog 5 s[i]
    have hqb : quoteB s[i] = if plainB s[i] = true then [s[i]] else [92, hexM (s[i].toNat / 16), hexM (s[i].toNat % 16)] := rfl
    generalize s[i] = b at *
    by_cases hpl : plainB b = true
    · obtain ⟨⟨p1, p2⟩, p3, p4⟩ := hp.1 hpl
      rw [if_pos hpl] at hqb
      have q1 : decide ((b.toNat : Int) < 32) = false := decide_eq_false (by omega)
      have q2 : decide (126 < (b.toNat : Int)) = false := decide_eq_false (by omega)
      have q3 : ((b.toNat : Int) == 34) = false := by rw [beq_eq_false_iff_ne]; omega
      have q4 : ((b.toNat : Int) == 92) = false := by rw [beq_eq_false_iff_ne]; omega
      have hs2 : byD (qpre s (i + 1)) = byD (qpre s i) ++ [.v (.int .u8 b.toNat)] := by rw [hq, byD_app, hqb]; rfl
      generalize byD (qpre s i) = L at *
      have hm : L.length + 1 ≤ 10000000 := by omega
      (repeat ((conv => whnf); (first | with_reducible refine exE _ (w_inc (by omega)) ?_ | refine exR ?_ | refine tT ?_ | refine tF ?_ | refine uT ?_ | refine And.intro rfl ?_ | refine lQ ?_ | refine exB _ rfl (by assumption) ?_)))
      refine ⟨i + 1, by omega, by omega, (by rw [hs2]; exact fiE), (by rw [hs2]; exact fiO)⟩
    · rw [if_neg hpl] at hqb
      have hs2 : byD (qpre s (i + 1)) = byD (qpre s i) ++ [.v (.int .u8 92), .v (.int .u8 (hexM (b.toNat / 16)).toNat), .v (.int .u8 (hexM (b.toNat % 16)).toNat)] := by rw [hq, byD_app, hqb]; rfl
      generalize byD (qpre s i) = L at *
      have hm : L.length + 3 ≤ 10000000 := by omega
      generalize hm1 : b.toNat / 16 = m1 at *
      generalize hm2 : b.toNat % 16 = m2 at *
      by_cases k1 : b.toNat < 32
      · have q1 : decide ((b.toNat : Int) < 32) = true := decide_eq_true (by omega)
        (repeat ((conv => whnf); (first | refine exR ?_ | refine tT ?_ | refine uF ?_ | refine exB _ rfl (by assumption) ?_)))
        refine gen_nil (t_bin rfl rfl rfl hsh rfl) ?_
        (repeat ((conv => whnf); (first | with_reducible refine exE (α := Int) _ (by assumption) ?_ | with_reducible refine exE _ (w_inc (by omega)) ?_ | refine oB ?_ | refine And.intro rfl ?_ | refine lQ ?_ | refine exB _ rfl (by assumption) ?_)))
        refine ⟨i + 1, by omega, by omega, (by rw [hs2]; exact fiE), (by rw [hs2]; exact fiO)⟩
      · have q1 : decide ((b.toNat : Int) < 32) = false := decide_eq_false (by omega)
        by_cases k2 : 126 < b.toNat
        · have q2 : decide (126 < (b.toNat : Int)) = true := decide_eq_true (by omega)
          (repeat ((conv => whnf); (first | refine exR ?_ | refine tT ?_ | refine tF ?_ | refine uT ?_ | refine uF ?_ | refine exB _ rfl (by assumption) ?_)))
          refine gen_nil (t_bin rfl rfl rfl hsh rfl) ?_
          (repeat ((conv => whnf); (first | with_reducible refine exE (α := Int) _ (by assumption) ?_ | with_reducible refine exE _ (w_inc (by omega)) ?_ | refine oB ?_ | refine And.intro rfl ?_ | refine lQ ?_ | refine exB _ rfl (by assumption) ?_)))
          refine ⟨i + 1, by omega, by omega, (by rw [hs2]; exact fiE), (by rw [hs2]; exact fiO)⟩
        · have q2 : decide (126 < (b.toNat : Int)) = false := decide_eq_false (by omega)
          by_cases k3 : b.toNat = 34
          · have q3 : ((b.toNat : Int) == 34) = true := by rw [beq_iff_eq]; omega
            (repeat ((conv => whnf); (first | refine exR ?_ | refine tT ?_ | refine tF ?_ | refine uT ?_ | refine uF ?_ | refine exB _ rfl (by assumption) ?_)))
            refine gen_nil (t_bin rfl rfl rfl hsh rfl) ?_
            (repeat ((conv => whnf); (first | with_reducible refine exE (α := Int) _ (by assumption) ?_ | with_reducible refine exE _ (w_inc (by omega)) ?_ | refine oB ?_ | refine And.intro rfl ?_ | refine lQ ?_ | refine exB _ rfl (by assumption) ?_)))
            refine ⟨i + 1, by omega, by omega, (by rw [hs2]; exact fiE), (by rw [hs2]; exact fiO)⟩
          · have q3 : ((b.toNat : Int) == 34) = false := by rw [beq_eq_false_iff_ne]; omega
            have k4 : b.toNat = 92 := by
              by_cases k4 : b.toNat = 92
              · exact k4
              · exact absurd (hp.2 ⟨⟨by omega, by omega⟩, k3, k4⟩) hpl
            have q4 : ((b.toNat : Int) == 92) = true := by rw [beq_iff_eq]; omega
            (repeat ((conv => whnf); (first | refine exR ?_ | refine tT ?_ | refine tF ?_ | refine uT ?_ | refine exB _ rfl (by assumption) ?_)))
            refine gen_nil (t_bin rfl rfl rfl hsh rfl) ?_
            (repeat ((conv => whnf); (first | with_reducible refine exE (α := Int) _ (by assumption) ?_ | with_reducible refine exE _ (w_inc (by omega)) ?_ | refine oB ?_ | refine And.intro rfl ?_ | refine lQ ?_ | refine exB _ rfl (by assumption) ?_)))
            refine ⟨i + 1, by omega, by omega, (by rw [hs2]; exact fiE), (by rw [hs2]; exact fiO)⟩
  · have hi2 : qpre s i = 34 :: s.flatMap quoteB := by unfold qpre; rw [List.take_of_length_le (by omega)]
    have hlen := qpre_len s i
    have hL : (byD (qpre s i)).length = (qpre s i).length := List.length_map _
    have hm : (byD (qpre s i)).length + 1 ≤ 10000000 := by omega
    have he : byD (qpre s i) ++ [.v (.int .u8 34)] = byD (quotedM s) := by rw [hi2]; unfold quotedM; rw [← List.cons_append, byD_app]; rfl
    (repeat ((conv => whnf); (first | refine exR ?_ | refine tF ?_ | refine And.intro rfl ?_ | refine lQ ?_)))
    refine gen_nil (conv_bytes (l := quotedM s) (e := 5) rfl (by kernel_rfl) (by kernel_rfl) (by kernel_rfl) (congrArg (fun l => T.own 1 l 6) he)) ?_
    skip
    exact ⟨eN, rS, fiO⟩
end Go.Proofs.YtddmcmkhjkleoaaGreatDoor
end

section
namespace Go.Proofs.YtddmcmkhjkleoaaGreatDoor
open Go.RowKit

abbrev keyS (t : List UInt8) : Value := .string ⟨t.toArray⟩
abbrev seenE (t : List UInt8) : Value × D := (keyS t, iD 1)
theorem keq_key (a b : List UInt8) : keq (keyS a) (keyS b) = decide (a = b) := by
  have h := keq_iff (d := .string) (a := keyS a) (b := keyS b) trivial trivial
  by_cases e : a = b
  · subst e; rw [decide_eq_true rfl]; exact h.2 rfl
  · rw [decide_eq_false e]
    cases hk : keq (keyS a) (keyS b) with
    | false => rfl
    | true =>
      have := h.1 hk
      simp only [keyS, Value.string.injEq, ByteArray.mk.injEq] at this
      exact absurd (by simpa using congrArg Array.toList this) e
theorem mfind_seen (t : List UInt8) : ∀ l : List (List UInt8), mfind (l.map seenE) (keyS t) = if l.contains t = true then some (iD 1) else none
  | [] => rfl
  | x :: l => by
    rw [List.map_cons, mfind, keq_key, mfind_seen t l, List.contains_cons]
    by_cases h : t = x
    · subst h; simp
    · rw [decide_eq_false h]
      have : (t == x) = false := beq_eq_false_iff_ne.2 h
      simp [this]
theorem mput_new (t : List UInt8) : ∀ l : List (List UInt8), l.contains t = false → mput (l.map seenE) (keyS t) (iD 1) = (l ++ [t]).map seenE
  | [], _ => rfl
  | x :: l, h => by
    rw [List.contains_cons, Bool.or_eq_false_iff] at h
    rw [List.map_cons, mput, keq_key, decide_eq_false (by simpa using h.1)]
    simp only [cond_false]
    rw [mput_new t l h.2]
    simp
theorem all_not {α : Type} (pr : α → Bool) (l : List α) : (!(l.any fun v => !pr v)) = l.all pr := by
  induction l with
  | nil => rfl
  | cons x l ih => rw [List.any_cons, List.all_cons, ← ih]; cases pr x <;> simp
set_option maxRecDepth 100000 in
set_option maxHeartbeats 4000000 in
theorem tables_fn (p : PrR) (hp : p.texts.length ≤ 200) : FnD Tryz.prog 25 [.d (prD p)] (boolT (tablesM p)) := by
  have h3 : (p.texts.map strD).length = p.texts.length := List.length_map _
  have hW := words_fn
  have hol : (opsL.map strD).length = 19 := by rw [opsL_eq]; rfl
  have hE := equalS_fn (p.texts.take 19) opsL
  unfold tablesM
  by_cases c1 : p.texts.length < 19
  · rw [if_pos (.inl c1)]
    clear hE
    generalize opsL = W at *
    refine FnD.of1 (n := 44) [1001] fax_ok Tryz.func25 rfl rfl rfl (by rfl) (by kernel_rfl) (by intro _; rfl) fun Γ hA hbA => ?_
    (repeat ((conv => whnf); (first | refine exR ?_ | refine gd (enters_of Tryz.func12 rfl rfl) hW ?_ | refine tT ?_ | refine uF ?_)))
    exact ⟨eN, rS, fiO⟩
  · by_cases c2 : p.texts.take 19 = opsL
    · rw [if_neg (by rintro (h | h); exact c1 h; exact h c2)]
      have hE2 := hE true (decide_eq_true c2)
      rw [show txD (p.texts.take 19) = .sl 1 ((p.texts.map strD).take (opsL.map strD).length) from by rw [hol]; simp [List.map_take]] at hE2
      clear hE c2
      generalize opsL = W at *
      have hV := containsV_fn 50 [.pi [fnsD p.fns, vasD p.consts, txD p.texts]] (enters_of Tryz.func50 rfl rfl) (fun v => !constM p v) p.consts fun v _ => fconst_fn p v
      refine FnD.of1 (n := 44) [1001] fax_ok Tryz.func25 rfl rfl rfl (by rfl) (by kernel_rfl) (by intro _; rfl) fun Γ hA hbA => ?_
      (repeat ((conv => whnf); (first | refine exR ?_ | refine gd (enters_of Tryz.func12 rfl rfl) hW ?_ | refine gd (enters_of Tryz.func48 rfl rfl) hE2 ?_ | refine tF ?_ | refine uT ?_ | refine And.intro rfl ?_ | refine nA _ rfl ?_)))
      refine ev_loop [1001] fax_ok hA (by kernel_rfl) (fun i : Nat => i ≤ p.texts.length ∧ nodupM (p.texts.take i).reverse (p.texts.drop i) = nodupM [] p.texts) (fun i => [(1, .pi [fnsD p.fns, vasD p.consts, txD p.texts]), (4, .mp 24), (26, .d (txD p.texts)), (27, intT (p.texts.map strD).length), (28, intT i)]) (fun i => [(24, .map .string ((p.texts.take i).map seenE))]) (fun i => p.texts.length - i) 0 ⟨Nat.zero_le _, by simp⟩ fiE fiO ?_
      rintro i ⟨hi, hnd⟩ - -
      by_cases h : i < p.texts.length
      · have hx : (p.texts.map strD)[i]? = some (strD p.texts[i]) := by rw [List.getElem?_map, List.getElem?_eq_getElem h, Option.map_some]
        have hts := List.take_succ_eq_append_getElem h
        rw [List.drop_eq_getElem_cons h, nodupM] at hnd
        generalize p.texts[i] = t at *
        have hf := mfind_seen t (p.texts.take i)
        have hrev : (p.texts.take i).reverse.contains t = (p.texts.take i).contains t := by simp
        rw [hrev] at hnd
        cases hb : (p.texts.take i).contains t with
        | true =>
          rw [hb, if_pos rfl] at hnd
          rw [hb, if_pos rfl] at hf
          rw [← hnd, if_neg (by decide)]
          (repeat ((conv => whnf); (first | refine exE (α := Option D) _ (by assumption) ?_ | refine exR ?_ | refine tT ?_ | refine And.intro rfl ?_ | refine And.intro (a := Go.MapKept.IsKey _ _) trivial ?_ | refine exI _ rfl (by assumption) ?_)))
          exact ⟨eN, rS, fiO⟩
        | false =>
          rw [hb, if_neg (by decide)] at hnd
          rw [hb, if_neg (by decide)] at hf
          have hmp := mput_new t _ hb
          rw [← hts] at hmp
          have hrs : t :: (p.texts.take i).reverse = (p.texts.take (i + 1)).reverse := by rw [hts]; simp
          rw [hrs] at hnd
          generalize hM : (p.texts.take i).map seenE = M at *
          (repeat ((conv => whnf); (first | refine exE (α := Option D) _ (by assumption) ?_ | with_reducible refine exE _ (w_inc (by omega)) ?_ | refine exR ?_ | refine tT ?_ | refine tF ?_ | refine And.intro rfl ?_ | refine And.intro (a := Go.MapKept.IsKey _ _) trivial ?_ | refine exI _ rfl (by assumption) ?_)))
          refine ⟨i + 1, ⟨by omega, hnd⟩, by omega, fiE, ?_⟩
          rw [← hmp]
          exact fiO
      · obtain rfl : i = p.texts.length := by omega
        rw [List.drop_length] at hnd
        replace hnd : true = nodupM [] p.texts := by rw [← hnd]; rfl
        rw [← hnd, if_pos rfl, ← all_not]
        generalize (p.consts.any fun v => !constM p v) = b at *
        (repeat ((conv => whnf); (first | refine exR ?_ | refine gd (enters_of Tryz.func49 rfl rfl) hV ?_ | refine tF ?_)))
        exact ⟨eN, rS, fiO⟩
    · rw [if_pos (.inr c2)]
      have hE2 := hE false (decide_eq_false c2)
      rw [show txD (p.texts.take 19) = .sl 1 ((p.texts.map strD).take (opsL.map strD).length) from by rw [hol]; simp [List.map_take]] at hE2
      clear hE c2
      generalize opsL = W at *
      refine FnD.of1 (n := 44) [1001] fax_ok Tryz.func25 rfl rfl rfl (by rfl) (by kernel_rfl) (by intro _; rfl) fun Γ hA hbA => ?_
      (repeat ((conv => whnf); (first | refine exR ?_ | refine gd (enters_of Tryz.func12 rfl rfl) hW ?_ | refine gd (enters_of Tryz.func48 rfl rfl) hE2 ?_ | refine tT ?_ | refine tF ?_ | refine uT ?_ | refine nA _ rfl ?_)))
      exact ⟨eN, rS, fiO⟩
end Go.Proofs.YtddmcmkhjkleoaaGreatDoor
end

section
namespace Go.Proofs.YtddmcmkhjkleoaaGreatDoor
open Go.RowKit

theorem large_not {p : PrR} (h : largeM p = false) : p.fns.length ≤ 60 ∧ p.consts.length ≤ 200 ∧ p.texts.length ≤ 200 ∧ (∀ t ∈ p.texts, t.length ≤ 200) ∧ ∀ f ∈ p.fns, f.code.length ≤ 600 ∧ f.regs ≤ 60 := by
  unfold largeM at h
  simp only [Bool.or_eq_false_iff, decide_eq_false_iff_not, List.any_eq_false, decide_eq_true_eq, Bool.or_eq_true, not_or] at h
  obtain ⟨⟨⟨⟨h1, h2⟩, h3⟩, h4⟩, h5⟩ := h
  exact ⟨by omega, by omega, by omega, fun t ht => by have := h4 t ht; omega, fun f hf => by have := h5 f hf; omega⟩
theorem check1_fn (p : PrR) (f : FnR) (hf : p.fns.length ≤ 60) (hk : p.consts.length ≤ 200) (ht : p.texts.length ≤ 200) (hc : f.code.length ≤ 600) (hg : f.caught.length ≤ 1000000000000) (hr : f.regs ≤ 60) :
    FnD Tryz.prog 27 [.d (fnD f), .pi [fnsD p.fns, vasD p.consts, txD p.texts]] (boolT (!functionM p f)) := by
  have hF := function_fn p f hf hk ht hc hg hr
  generalize functionM p f = b at *
  refine FnD.of1 (n := 8) [] fax_ok Tryz.func27 rfl rfl rfl (by rfl) (by kernel_rfl) (by intro _; rfl) fun Γ hA hbA => ?_
  (repeat ((conv => whnf); (first | refine exR ?_ | refine gd (enters_of Tryz.func28 rfl rfl) hF ?_ | refine And.intro rfl ?_)))
  exact ⟨eN, rS, fiO⟩
set_option maxRecDepth 100000 in
set_option maxHeartbeats 4000000 in
theorem check_fn (p : PrR) (hg : ∀ f ∈ p.fns, f.caught.length ≤ 1000000000000) : FnD Tryz.prog 11 [.d (prD p)] (intT (checkM p)) := by
  have hL := large_fn p
  unfold checkM
  cases hl : largeM p with
  | true =>
    rw [hl] at hL
    rw [if_pos rfl]
    refine FnD.of1 (n := 42) [1001] fax_ok Tryz.func11 rfl rfl rfl (by rfl) (by kernel_rfl) (by intro _; rfl) fun Γ hA hbA => ?_
    (repeat ((conv => whnf); (first | refine gd (enters_of Tryz.func24 rfl rfl) hL ?_ | refine tT ?_ | refine And.intro rfl ?_)))
    exact ⟨eN, rS, fiO⟩
  | false =>
    rw [hl] at hL
    rw [if_neg (by decide)]
    obtain ⟨b1, b2, b3, b4, b5⟩ := large_not hl
    have hT := tables_fn p b3
    have hC := containsF_fn 27 [.pi [fnsD p.fns, vasD p.consts, txD p.texts]] (enters_of Tryz.func27 rfl rfl) (fun f => !functionM p f) p.fns fun f hf => check1_fn p f b1 b2 b3 (b5 f hf).1 (hg f hf) (b5 f hf).2
    cases ht : tablesM p with
    | false =>
      rw [ht] at hT
      simp only [Bool.not_false, Bool.true_or, if_true]
      refine FnD.of1 (n := 42) [1001] fax_ok Tryz.func11 rfl rfl rfl (by rfl) (by kernel_rfl) (by intro _; rfl) fun Γ hA hbA => ?_
      (repeat ((conv => whnf); (first | refine exR ?_ | refine gd (enters_of Tryz.func24 rfl rfl) hL ?_ | refine gd (enters_of Tryz.func25 rfl rfl) hT ?_ | refine tT ?_ | refine tF ?_ | refine uF ?_ | refine And.intro rfl ?_)))
      exact ⟨eN, rS, fiO⟩
    | true =>
      rw [ht] at hT
      simp only [Bool.not_true, Bool.false_or]
      generalize (p.fns.any fun f => !functionM p f) = r at *
      obtain ⟨fns, consts, texts⟩ := p
      dsimp only at *
      cases fns with
      | nil =>
        rw [if_pos (by rfl)]
        refine FnD.of1 (n := 42) [1001] fax_ok Tryz.func11 rfl rfl rfl (by rfl) (by kernel_rfl) (by intro _; rfl) fun Γ hA hbA => ?_
        (repeat ((conv => whnf); (first | refine exR ?_ | refine gd (enters_of Tryz.func24 rfl rfl) hL ?_ | refine gd (enters_of Tryz.func25 rfl rfl) hT ?_ | refine tT ?_ | refine tF ?_ | refine uT ?_ | refine uF ?_ | refine And.intro rfl ?_)))
        exact ⟨eN, rS, fiO⟩
      | cons f rest =>
        have hcl : (f.caught.map iD).length = f.caught.length := List.length_map _
        have hrl : (((f :: rest).map fnD).length : Int) = (rest.length : Int) + 1 := by simp
        have hz : ((((f :: rest).map fnD).length : Int) == 0) = false := beq_eq_false_iff_ne.2 (by omega)
        obtain ⟨params, regs, gen, caught, code⟩ := f
        dsimp only at *
        by_cases p0 : params = 0
        · subst p0
          cases caught with
          | nil =>
            cases gen with
            | true =>
              rw [if_pos (by rfl)]
              refine FnD.of1 (n := 42) [1001] fax_ok Tryz.func11 rfl rfl rfl (by rfl) (by kernel_rfl) (by intro _; rfl) fun Γ hA hbA => ?_
              (repeat ((conv => whnf); (first | refine exR ?_ | refine gd (enters_of Tryz.func24 rfl rfl) hL ?_ | refine gd (enters_of Tryz.func25 rfl rfl) hT ?_ | refine tT ?_ | refine tF ?_ | refine uT ?_ | refine And.intro rfl ?_ | refine exI 0 rfl rfl ?_)))
              exact ⟨eN, rS, fiO⟩
            | false =>
              rw [show firstOk (⟨0, regs, false, [], code⟩ :: rest) = true from rfl, if_neg (by decide)]
              cases r with
              | true =>
                rw [if_pos rfl]
                refine FnD.of1 (n := 42) [1001] fax_ok Tryz.func11 rfl rfl rfl (by rfl) (by kernel_rfl) (by intro _; rfl) fun Γ hA hbA => ?_
                (repeat ((conv => whnf); (first | refine exR ?_ | refine gd (enters_of Tryz.func24 rfl rfl) hL ?_ | refine gd (enters_of Tryz.func25 rfl rfl) hT ?_ | refine gd (enters_of Tryz.func26 rfl rfl) hC ?_ | refine tT ?_ | refine tF ?_ | refine uT ?_ | refine And.intro rfl ?_ | refine exI 0 rfl rfl ?_)))
                exact ⟨eN, rS, fiO⟩
              | false =>
                rw [if_neg (by decide)]
                refine FnD.of1 (n := 42) [1001] fax_ok Tryz.func11 rfl rfl rfl (by rfl) (by kernel_rfl) (by intro _; rfl) fun Γ hA hbA => ?_
                (repeat ((conv => whnf); (first | refine exR ?_ | refine gd (enters_of Tryz.func24 rfl rfl) hL ?_ | refine gd (enters_of Tryz.func25 rfl rfl) hT ?_ | refine gd (enters_of Tryz.func26 rfl rfl) hC ?_ | refine tF ?_ | refine uT ?_ | refine And.intro rfl ?_ | refine exI 0 rfl rfl ?_)))
                exact ⟨eN, rS, fiO⟩
          | cons c cs =>
            have hq : decide ((0 : Int) < (((c :: cs).map iD).length : Int)) = true := decide_eq_true (by simp only [List.map_cons, List.length_cons]; omega)
            rw [if_pos (by rfl)]
            refine FnD.of1 (n := 42) [1001] fax_ok Tryz.func11 rfl rfl rfl (by rfl) (by kernel_rfl) (by intro _; rfl) fun Γ hA hbA => ?_
            (repeat ((conv => whnf); (first | refine exR ?_ | refine gd (enters_of Tryz.func24 rfl rfl) hL ?_ | refine gd (enters_of Tryz.func25 rfl rfl) hT ?_ | refine tT ?_ | refine tF ?_ | refine uT ?_ | refine uF ?_ | refine And.intro rfl ?_ | refine exI 0 rfl rfl ?_)))
            exact ⟨eN, rS, fiO⟩
        · have hq : (params != 0) = true := bne_iff_ne.2 p0
          have hq2 : (params == 0) = false := beq_eq_false_iff_ne.2 p0
          rw [show firstOk (⟨params, regs, gen, caught, code⟩ :: rest) = false from by simp [firstOk, hq2], if_pos (by rfl)]
          refine FnD.of1 (n := 42) [1001] fax_ok Tryz.func11 rfl rfl rfl (by rfl) (by kernel_rfl) (by intro _; rfl) fun Γ hA hbA => ?_
          (repeat ((conv => whnf); (first | refine exR ?_ | refine gd (enters_of Tryz.func24 rfl rfl) hL ?_ | refine gd (enters_of Tryz.func25 rfl rfl) hT ?_ | refine tT ?_ | refine tF ?_ | refine uT ?_ | refine uF ?_ | refine And.intro rfl ?_ | refine exI 0 rfl rfl ?_)))
          exact ⟨eN, rS, fiO⟩
end Go.Proofs.YtddmcmkhjkleoaaGreatDoor
end

section
namespace Go.Proofs.YtddmcmkhjkleoaaGreatDoor
open Go.RowKit

/-- Programs whose numbers are those of 64 bits, and whose lists of what is caught are not longer than any machine bears. -/
structure FnIn (f : FnR) : Prop where
  params : in64 f.params
  regs : in64 f.regs
  caught : ∀ n ∈ f.caught, in64 n
  len : f.caught.length ≤ 10000000000
  ins : ∀ i ∈ f.code, in64 i.a ∧ in64 i.b ∧ in64 i.c ∧ in64 i.line
structure PrIn (p : PrR) : Prop where
  fns : ∀ f ∈ p.fns, FnIn f
  consts : ∀ v ∈ p.consts, in64 v.2
theorem forms_at {op : Int} {c0 c1 c2 : UInt8} (h : formM op = [c0, c1, c2]) : 1 ≤ op ∧ op < 39 := by
  unfold formM at h
  split at h
  · cases h
  · omega
theorem order_op {p : PrR} {f : FnR} {k : Nat} {i : InR} (h : orderM p f k i = true) : 1 ≤ i.op ∧ i.op < 39 := by
  unfold orderM at h
  split at h
  · next h1 => exact forms_at h1
  · cases h
theorem orders_op {p : PrR} {f : FnR} : ∀ {l : List InR} {k : Nat}, ordersM p f l k = true → ∀ i ∈ l, 1 ≤ i.op ∧ i.op < 39
  | [], _, _, i, hi => by cases hi
  | j :: l, k, h, i, hi => by
    unfold ordersM at h
    split at h
    · next h1 =>
      rcases List.mem_cons.1 hi with rfl | hi
      · exact order_op h1
      · exact orders_op h i hi
    · cases h
structure PrOk (p : PrR) : Prop where
  fns : p.fns.length ≤ 60
  consts : p.consts.length ≤ 200
  texts : p.texts.length ≤ 200
  text : ∀ t ∈ p.texts, t.length ≤ 200
  own : 19 ≤ p.texts.length ∧ p.texts.take 19 = opsL
  code : ∀ f ∈ p.fns, f.code.length ≤ 600 ∧ (∀ i ∈ f.code, 1 ≤ i.op ∧ i.op < 39) ∧ 0 ≤ f.params ∧ f.params ≤ f.regs ∧ f.regs ≤ 60
  cons : ∀ v ∈ p.consts, constM p v = true
theorem ok_of {p : PrR} (h : checkM p = 0) : PrOk p := by
  unfold checkM at h
  split at h
  · cases h
  next h1 =>
  split at h
  · cases h
  next h2 =>
  split at h
  · cases h
  next h3 =>
  simp only [largeM, Bool.or_eq_true, List.any_eq_true, decide_eq_true_eq, not_or, not_exists, not_and, Nat.not_lt] at h1
  simp only [Bool.or_eq_true, not_or, Bool.not_eq_true', Bool.not_eq_false] at h2
  obtain ⟨⟨⟨⟨a1, a2⟩, a3⟩, a4⟩, a5⟩ := h1
  obtain ⟨b1, b2⟩ := h2
  unfold tablesM at b1
  split at b1
  · cases b1
  next b3 =>
  split at b1
  next b4 =>
    simp only [not_or, Nat.not_lt, ne_eq, Decidable.not_not] at b3
    refine ⟨by omega, by omega, by omega, fun t ht => ?_, b3, fun f hf => ?_, fun v hv => List.all_eq_true.1 b1 v hv⟩
    · have := a4 t ht; omega
    · have h5 := a5 f hf
      have h6 : functionM p f = true := by
        cases hc : functionM p f with
        | true => rfl
        | false => exact absurd (List.any_eq_true.2 ⟨f, hf, by rw [hc]; rfl⟩) h3
      unfold functionM at h6
      split at h6
      · cases h6
      next h7 =>
      split at h6
      next h8 => exact ⟨by omega, orders_op h8, by omega, by omega, by omega⟩
      · cases h6
  · cases b1
theorem FnIn.ok {p : PrR} {f : FnR} (h : FnIn f) (hp : PrOk p) (hf : f ∈ p.fns) : FnOk f := by
  obtain ⟨c1, c2, -⟩ := hp.code f hf
  refine ⟨h.params, h.regs, h.caught, ?_, c1, fun i hi => ?_⟩
  · have := nums_len f.caught h.caught
    have := h.len
    omega
  · obtain ⟨i1, i2, i3, i4⟩ := h.ins i hi
    exact ⟨by have := c2 i hi; omega, i1, i2, i3, i4⟩
theorem flat_len {α : Type} (m : Nat) (g : α → List UInt8) : ∀ l : List α, (∀ x ∈ l, (g x).length ≤ m) → (l.flatMap g).length ≤ m * l.length
  | [], _ => by simp
  | x :: l, h => by
    have h1 := flat_len m g l fun y hy => h y (by simp [hy])
    have h2 := h x (by simp)
    rw [List.flatMap_cons, List.length_append, List.length_cons, Nat.mul_succ]; omega
theorem functionT_len {f : FnR} (h : FnOk f) (hl : f.caught.length ≤ 10000000000) : (functionT f).length ≤ 230000000000 := by
  have h1 := flat_len 200 orderT f.code fun i hi => order_len (h.ins i hi)
  have h2 := nums_len f.caught h.caught
  have h3 := nums_len [f.params, f.regs] (by intro n hn; simp only [List.mem_cons, List.not_mem_nil, or_false] at hn; rcases hn with rfl | rfl; exact h.params; exact h.regs)
  have h4 := h.code
  have e1 : (strU "fn").length = 2 := by decide +kernel
  have e2 : (strU "gen").length = 3 := by decide +kernel
  have e3 : (strU "caught").length = 6 := by decide +kernel
  simp only [List.length_cons, List.length_nil] at h3
  unfold functionT headT caughtT
  simp only [List.length_append]
  split <;> split <;> simp only [List.length_append, List.length_cons, List.length_nil, e1, e2, e3] <;> omega
theorem quotedM_len {s : List UInt8} (h : s.length ≤ 200) : (quotedM s).length ≤ 602 := by
  have := flat_len 3 quoteB s fun b _ => quoteB_len b
  unfold quotedM
  simp only [List.length_cons, List.length_append, List.length_nil]; omega
theorem constW_len {v : Int × Int} (h : in64 v.2) : (constW v).length ≤ 30 := by
  have := nums_one v.2 h.1 h.2
  have e : (strU "nil").length = 3 ∧ (strU "int").length = 3 ∧ (strU "float").length = 5 ∧ (strU "text").length = 4 ∧ (strU "call").length = 4 := by decide +kernel
  have e2 : ∀ b, (Lib.formatBool b).length ≤ 5 := by decide +kernel
  have := e2 (v.2 == 1)
  obtain ⟨e3, e4, e5, e6, e7⟩ := e
  unfold constW
  (repeat' split) <;> first | omega | (simp only [List.length_append, e4, e5, e6, e7]; omega)
theorem write_bad (p : PrR) (hp : PrIn p) (e : Int) (he : checkM p = e) (h : e ≠ 0) : FnD Tryz.prog 7 [.d (prD p)] (.tup [strT [], intT e]) := by
  have hC := check_fn p fun f hf => by have := (hp.fns f hf).len; omega
  rw [he] at hC
  have hq : (e != 0) = true := bne_iff_ne.2 h
  refine FnD.ofT (n := 61) [1001] fax_ok Tryz.func7 rfl rfl rfl (by rfl) (by kernel_rfl) (by intro _; rfl) fun Γ hA hbA => ?_
  (repeat ((conv => whnf); (first | refine exR ?_ | refine gd (enters_of Tryz.func11 rfl rfl) hC ?_ | refine tT ?_ | refine And.intro rfl ?_)))
  exact ⟨eN, rS, fiO⟩
abbrev cstT (v : Int × Int) : List UInt8 := strU "const " ++ constW v ++ [10]
theorem writeT_eq (p : PrR) : writeT p = ((p.texts.drop 19).flatMap textT ++ p.consts.flatMap cstT) ++ p.fns.flatMap functionT := rfl
set_option maxRecDepth 100000 in
set_option maxHeartbeats 1000000 in
theorem write_fn (p : PrR) (hp : PrIn p) (h : checkM p = 0) : FnD Tryz.prog 7 [.d (prD p)] (.tup [strT (writeT p), intT 0]) := by
  have ho := ok_of h
  have hC := check_fn p fun f hf => by have := (hp.fns f hf).len; omega
  have hW := words_fn
  have hLW := lwords_fn
  rw [h] at hC
  have hfo : ∀ f ∈ p.fns, FnOk f ∧ f.caught.length ≤ 10000000000 := fun f hf => ⟨(hp.fns f hf).ok ho hf, (hp.fns f hf).len⟩
  have hcv := hp.consts
  obtain ⟨o1, o2, o3, o4, ⟨o5, -⟩, -, -⟩ := ho
  rw [writeT_eq]
  clear hp h
  obtain ⟨fns, cs, tx⟩ := p
  dsimp only at o1 o2 o3 o4 o5 hfo hcv hC
  have hol : opsL.length = 19 := by rw [opsL_eq]; rfl
  have hoL : (opsL.map strD).length = 19 := by rw [List.length_map, hol]
  have htL : (tx.map strD).length = tx.length := List.length_map _
  have hcL : (cs.map vaD).length = cs.length := List.length_map _
  have hfL : (fns.map fnD).length = fns.length := List.length_map _
  generalize opsL = oL at *
  show FnD Tryz.prog 7 [.d (.agg [.sl 5 (fns.map fnD), .sl 2 (cs.map vaD), .sl 1 (tx.map strD)])] _
  have hdr : ((tx.map strD).drop 19) = (tx.drop 19).map strD := (List.map_drop).symm
  have hdl : (tx.drop 19).length ≤ 200 := by rw [List.length_drop]; omega
  have hdt : ∀ t ∈ tx.drop 19, t.length ≤ 200 := fun t ht => o4 t (List.mem_of_mem_drop ht)
  dsimp only
  generalize tx.drop 19 = tl at *
  have htl : (tl.map strD).length = tl.length := List.length_map _
  have hB1 : ∀ i, (([] : List UInt8) ++ (tl.take i).flatMap textT).length ≤ 200000 := fun i => by
    have h1 := flat_len 1000 textT (tl.take i) fun t ht => by
      have := quotedM_len (hdt t (List.mem_of_mem_take ht))
      have e : (strU "text ").length = 5 := by decide +kernel
      unfold textT
      simp only [List.length_append, List.length_cons, List.length_nil, e]; omega
    have h2 : (tl.take i).length ≤ 200 := by rw [List.length_take]; omega
    simp only [List.nil_append]; omega
  have hB2 : ∀ i, (tl.flatMap textT ++ (cs.take i).flatMap cstT).length ≤ 300000 := fun i => by
    have h0 := hB1 tl.length
    rw [List.take_of_length_le (Nat.le_refl _), List.nil_append] at h0
    have h1 := flat_len 100 cstT (cs.take i) fun v hv => by
      have := constW_len (hcv v (List.mem_of_mem_take hv))
      have e : (strU "const ").length = 6 := by decide +kernel
      unfold cstT
      simp only [List.length_append, List.length_cons, List.length_nil, e]; omega
    have h2 : (cs.take i).length ≤ 200 := by rw [List.length_take]; omega
    rw [List.length_append]; omega
  refine FnD.ofT (n := 61) [1001, 5005] fax_ok Tryz.func7 rfl rfl rfl (by rfl) (by kernel_rfl) (by intro _; rfl) fun Γ hA hbA => ?_
  (repeat ((conv => whnf); (first | refine exR ?_ | refine gd (enters_of Tryz.func11 rfl rfl) hC ?_ | refine tF ?_ | refine And.intro rfl ?_)))
  refine gen_one (t_allocB (c := 5) (eb := 5) rfl (by kernel_rfl)) rfl ?_
  (repeat ((conv => whnf); (first | refine gd (enters_of Tryz.func12 rfl rfl) hW ?_ | refine oB ?_ | refine nA _ rfl ?_)))
  refine ev_loop [] fax_ok hA (by kernel_rfl) (fun i : Nat => i ≤ tl.length) (fun i => [(1, .pi [.sl 5 (fns.map fnD), .sl 2 (cs.map vaD), .sl 1 (tx.map strD)]), (5, .ref 5 0), (22, .d (.sl 1 (tl.map strD))), (23, intT tl.length), (24, intT i)]) (fun i => [(5, bldO ([] ++ (tl.take i).flatMap textT))]) (fun i => tl.length - i) 0 (Nat.zero_le _) (by rw [hoL, hdr, ← htl]; exact fiE) fiO ?_
  rintro i hi hb -
  by_cases h : i < tl.length
  · have hx : (tl.map strD)[i]? = some (strD tl[i]) := by rw [List.getElem?_map, List.getElem?_eq_getElem h, Option.map_some]
    have ht : tl.take (i + 1) = tl.take i ++ [tl[i]] := by rw [List.take_add_one, List.getElem?_eq_getElem h]; rfl
    have hs : [] ++ (tl.take (i + 1)).flatMap textT = ([] ++ (tl.take i).flatMap textT) ++ textT tl[i] := by rw [ht, List.flatMap_append]; simp
    have hpl := hB1 i
    have hql := quotedM_len (hdt tl[i] (List.getElem_mem h))
    have hQ := quoted_fn tl[i] (by have := hdt tl[i] (List.getElem_mem h); omega)
    have hot : textT tl[i] = strU "text " ++ quotedM tl[i] ++ [10] := rfl
    rw [show strU "text " = [116, 101, 120, 116, 32] from by decide +kernel] at hot
    generalize [] ++ (tl.take i).flatMap textT = W at *
    generalize hWe : [] ++ (tl.take (i + 1)).flatMap textT = W2 at *
    generalize textT tl[i] = o1 at *
    generalize tl[i] = u at *
    generalize quotedM u = q at *
    have m1 : ([116, 101, 120, 116, 32] : List UInt8).length + q.length ≤ 9223372036854775807 := by simp only [List.length_cons, List.length_nil]; omega
    have m2 : ([116, 101, 120, 116, 32] ++ q : List UInt8).length + ([10] : List UInt8).length ≤ 9223372036854775807 := by simp only [List.length_append, List.length_cons, List.length_nil]; omega
    have hW2 := ws_eq W (([116, 101, 120, 116, 32] ++ q) ++ [10]) W2 (by rw [hs, hot]) (by simp only [List.length_cons, List.length_append, List.length_nil]; omega)
    (repeat ((conv => whnf); (first | with_reducible refine exE _ (w_inc (by omega)) ?_ | refine exR ?_ | refine gd (enters_of Tryz.func14 rfl rfl) hQ ?_ | refine gO [(1000, 5)] (enters_of Tryz.func13 rfl rfl) hW2 ?_ | refine tT ?_ | refine lQ ?_ | refine exI _ rfl (by assumption) ?_)))
    refine ⟨i + 1, by omega, by omega, fiE, (by rw [hWe]; exact fiO)⟩
  have hi2 : [] ++ (tl.take i).flatMap textT = tl.flatMap textT := by rw [List.take_of_length_le (by omega)]; rfl
  rw [hi2]
  clear hi2 hb
  (repeat ((conv => whnf); (first | refine exR ?_ | refine tF ?_)))
  refine ev_loop [] fax_ok hA (by kernel_rfl) (fun i : Nat => i ≤ cs.length) (fun i => [(1, .pi [.sl 5 (fns.map fnD), .sl 2 (cs.map vaD), .sl 1 (tx.map strD)]), (5, .ref 5 0), (35, .d (.sl 2 (cs.map vaD))), (36, intT cs.length), (37, intT i)]) (fun i => [(5, bldO (tl.flatMap textT ++ (cs.take i).flatMap cstT))]) (fun i => cs.length - i) 0 (Nat.zero_le _) (by rw [← hcL]; exact fiE) (by rw [List.take_zero, List.flatMap_nil, List.append_nil]; exact fiO) ?_
  clear hi h i
  rintro i hi hb -
  by_cases h : i < cs.length
  · have hx : (cs.map vaD)[i]? = some (vaD cs[i]) := by rw [List.getElem?_map, List.getElem?_eq_getElem h, Option.map_some]
    have ht : cs.take (i + 1) = cs.take i ++ [cs[i]] := by rw [List.take_add_one, List.getElem?_eq_getElem h]; rfl
    have hs : tl.flatMap textT ++ (cs.take (i + 1)).flatMap cstT = (tl.flatMap textT ++ (cs.take i).flatMap cstT) ++ cstT cs[i] := by rw [ht, List.flatMap_append]; simp
    have hpl := hB2 i
    have hi64 := hcv cs[i] (List.getElem_mem h)
    have hql := constW_len hi64
    have hQ := constant_fn cs[i].1 cs[i].2 hi64.1 hi64.2
    have hot : cstT cs[i] = strU "const " ++ constW cs[i] ++ [10] := rfl
    rw [show strU "const " = [99, 111, 110, 115, 116, 32] from by decide +kernel] at hot
    generalize tl.flatMap textT ++ (cs.take i).flatMap cstT = W at *
    generalize hWe : tl.flatMap textT ++ (cs.take (i + 1)).flatMap cstT = W2 at *
    generalize cstT cs[i] = o1 at *
    generalize cs[i] = u at *
    obtain ⟨u1, u2⟩ := u
    replace hx : (cs.map vaD)[i]? = some (.agg [iD u1, iD u2]) := hx
    replace hQ : FnD Tryz.prog 15 [.d (.agg [iD u1, iD u2])] (strT (constW (u1, u2))) := hQ
    generalize constW (u1, u2) = q at *
    have m1 : ([99, 111, 110, 115, 116, 32] : List UInt8).length + q.length ≤ 9223372036854775807 := by simp only [List.length_cons, List.length_nil]; omega
    have m2 : ([99, 111, 110, 115, 116, 32] ++ q : List UInt8).length + ([10] : List UInt8).length ≤ 9223372036854775807 := by simp only [List.length_append, List.length_cons, List.length_nil]; omega
    have hW2 := ws_eq W (([99, 111, 110, 115, 116, 32] ++ q) ++ [10]) W2 (by rw [hs, hot]) (by simp only [List.length_cons, List.length_append, List.length_nil]; omega)
    (repeat ((conv => whnf); (first | with_reducible refine exE _ (w_inc (by omega)) ?_ | refine exR ?_ | refine gd (enters_of Tryz.func15 rfl rfl) hQ ?_ | refine gO [(1000, 5)] (enters_of Tryz.func13 rfl rfl) hW2 ?_ | refine tT ?_ | refine And.intro rfl ?_ | refine lQ ?_ | refine exI _ rfl (by assumption) ?_)))
    refine ⟨i + 1, by omega, by omega, fiE, (by rw [hWe]; exact fiO)⟩
  have hi2 : tl.flatMap textT ++ (cs.take i).flatMap cstT = tl.flatMap textT ++ cs.flatMap cstT := by rw [List.take_of_length_le (l := cs) (by omega)]
  have hAl := hB2 i
  rw [hi2] at hAl
  rw [hi2]
  clear hi2 hb
  generalize tl.flatMap textT ++ cs.flatMap cstT = A at *
  (repeat ((conv => whnf); (first | refine exR ?_ | refine gd (enters_of Tryz.func16 rfl rfl) hLW ?_ | refine tF ?_)))
  refine ev_loop [] fax_ok hA (by kernel_rfl) (fun i : Nat => i ≤ fns.length) (fun i => [(5, .ref 5 0), (10, .d (txD lwordsL)), (49, .d (.sl 5 (fns.map fnD))), (50, intT fns.length), (51, intT i)]) (fun i => [(5, bldO (A ++ (fns.take i).flatMap functionT))]) (fun i => fns.length - i) 0 (Nat.zero_le _) (by rw [← hfL]; exact fiE) (by rw [List.take_zero, List.flatMap_nil, List.append_nil]; exact fiO) ?_
  clear hi h i
  rintro i hi hb -
  by_cases h : i < fns.length
  · have hx : (fns.map fnD)[i]? = some (fnD fns[i]) := by rw [List.getElem?_map, List.getElem?_eq_getElem h, Option.map_some]
    have ht : fns.take (i + 1) = fns.take i ++ [fns[i]] := by rw [List.take_add_one, List.getElem?_eq_getElem h]; rfl
    have hs : A ++ (fns.take (i + 1)).flatMap functionT = (A ++ (fns.take i).flatMap functionT) ++ functionT fns[i] := by rw [ht, List.flatMap_append]; simp
    have hpl : (A ++ (fns.take i).flatMap functionT).length ≤ 300000 + 230000000000 * 60 := by
      have h1 := flat_len 230000000000 functionT (fns.take i) fun f hf => by
        have := hfo f (List.mem_of_mem_take hf)
        exact functionT_len this.1 this.2
      have h2 : (fns.take i).length ≤ 60 := by rw [List.length_take]; omega
      rw [List.length_append]; omega
    obtain ⟨hf1, hf2⟩ := hfo fns[i] (List.getElem_mem h)
    have hql := functionT_len hf1 hf2
    have hQ := lfunction_fn fns[i] hf1
    generalize A ++ (fns.take i).flatMap functionT = W at *
    generalize hWe : A ++ (fns.take (i + 1)).flatMap functionT = W2 at *
    generalize functionT fns[i] = q at *
    generalize fns[i] = u at *
    have hW2 := ws_eq W q W2 hs.symm (by omega)
    (repeat ((conv => whnf); (first | with_reducible refine exE _ (w_inc (by omega)) ?_ | refine exR ?_ | refine gd (enters_of Tryz.func17 rfl rfl) hQ ?_ | refine gO [(1000, 5)] (enters_of Tryz.func13 rfl rfl) hW2 ?_ | refine tT ?_ | refine And.intro rfl ?_ | refine exI _ rfl (by assumption) ?_)))
    refine ⟨i + 1, by omega, by omega, fiE, (by rw [hWe]; exact fiO)⟩
  · have hi2 : A ++ (fns.take i).flatMap functionT = A ++ fns.flatMap functionT := by rw [List.take_of_length_le (l := fns) (by omega)]
    rw [hi2]
    have hS := bs_fn (A ++ fns.flatMap functionT)
    (repeat ((conv => whnf); (first | refine exR ?_ | refine gO [(1000, 5)] (enters_of Tryz.func18 rfl rfl) hS ?_ | refine tF ?_)))
    exact ⟨eN, rS, fiO⟩
end Go.Proofs.YtddmcmkhjkleoaaGreatDoor
end

section
namespace Go.Proofs.YtddmcmkhjkleoaaGreatDoor
open Go.ChangeShapes Go.WideShapes Go.ChangeAt Go.RowKit Go.Deep

section
variable {H : Type} {enc : TypeId × Value → H} {P : Program} {w : World} {base : Nat} {spare : Nat → Bool} {held : Bool}
/-- What one of type E reads as. -/
def Opn (enc : TypeId × Value → H) (P : Program) (w : World) (base : Nat) (spare : Nat → Bool) (held : Bool) {α : Type} (E : TypeId) (f : α → D) (ok : α → Prop) : Prop :=
  ∀ (fuel : Nat) (cs : List Value) (x : DataW H × List MemPlace), DataW.trod enc P w base spare held fuel E cs = some x → ∃ a : α, ok a ∧ RepDs (allS w) (f a).lv cs
theorem Opn.int {t : TypeId} {k : IntKind} (ht : P.underlying t = some (.int k)) : Opn enc P w base spare held t (fun a : Int => D.v (.int k a)) (fun a => (Lit.int k a).wf = true) := by
  intro fuel cs x hf
  obtain ⟨n, rfl, -, hw⟩ := DataW.trod_int ht hf
  exact ⟨n, hw, .cons (.v rfl) rfl .nil⟩
theorem Opn.str {t : TypeId} (ht : P.underlying t = some .string) : Opn enc P w base spare held t strD (fun l => l.length ≤ maxLen) := by
  intro fuel cs x hf
  obtain ⟨s, rfl, -, hw⟩ := DataW.trod_string ht hf
  exact ⟨s.data.toList, hw, .cons (.v rfl) rfl .nil⟩
theorem Opn.sl {α : Type} {E T : TypeId} {k : Nat} {f : α → D} {ok : α → Prop} (ht : P.underlying T = some (.slice E)) (hE : P.cellsOf E = k) (hk0 : 0 < k) (hO : Opn enc P w base spare held E f ok) :
    Opn enc P w base spare held T (fun l : List α => .sl k (l.map f)) (fun l => ∀ x ∈ l, ok x) := by
  intro fuel cs x hf
  rcases open_slice ht hf with ⟨rfl, -⟩ | ⟨a, len, cap, m, n, D, Pl, rfl, -, hl, hm, hmm, -, hall⟩
  · exact ⟨[], fun _ h => by simp at h, .cons (.sl .nil (RowS.nil _ _) (Nat.le_refl _) (by decide) fun _ => rfl) rfl .nil⟩
  · rw [hE] at hall
    have hlm : len ≤ m := by rw [hmm]; split <;> omega
    have key : ∀ i, i ≤ len → ∃ (l : List α) (xs : List Value), l.length = i ∧ xs.length = i * k ∧ (∀ x ∈ l, ok x) ∧ RepLv (allS w) k (l.map f) xs ∧ ∀ j, j < i * k → w.cell? (a.add j) = xs[j]? := by
      intro i
      induction i with
      | zero => intro _; exact ⟨[], [], rfl, by simp, fun _ h => (by simp at h), .nil, fun j h => by omega⟩
      | succ i ih =>
        intro hi
        obtain ⟨l, xs, h1, h2, h3, h4, h5⟩ := ih (by omega)
        obtain ⟨cs', hc, htr⟩ := hall i (by omega)
        obtain ⟨b, hb, hr⟩ := hO _ _ _ htr
        obtain ⟨-, hlen, hat⟩ := World.cells?_some hc
        refine ⟨l ++ [b], xs ++ cs', by simp [h1], by rw [List.length_append, h2, hlen, Nat.succ_mul], fun x hx => ?_, ?_, fun j hj => ?_⟩
        · rcases List.mem_append.1 hx with hx | hx
          · exact h3 x hx
          · obtain rfl := List.mem_singleton.1 hx; exact hb
        · rw [List.map_append, List.map_cons, List.map_nil]
          refine RepLv.app h4 ?_
          have := RepLv.cons hr hlen (RepLv.nil (S := allS w) (k := k))
          rwa [List.append_nil] at this
        · by_cases hji : j < i * k
          · rw [List.getElem?_append_left (by omega)]; exact h5 j hji
          · rw [Nat.succ_mul] at hj
            have := hat (j - i * k) (by omega)
            rw [Go.Deep.add_add, show i * k + (j - i * k) = j from by omega] at this
            rw [List.getElem?_append_right (by omega), h2]
            exact this
    obtain ⟨l, xs, rfl, h2, h3, h4, h5⟩ := key len (Nat.le_refl _)
    have hml : (l.map f).length = l.length := List.length_map ..
    refine ⟨l, h3, .cons (hml ▸ .sl h4 ?_ (by rw [hml]; exact hl) (by unfold maxLen at hm; exact hm) fun h => by cases h) rfl .nil⟩
    by_cases h0 : 0 < l.length
    · obtain ⟨b, off, spot⟩ := a
      have hx0 : 0 < xs.length := by rw [h2]; exact Nat.mul_pos h0 hk0
      have h1 := h5 0 (by omega)
      rw [List.getElem?_eq_getElem hx0] at h1
      have hs : spot = none := by simpa [Addr.add] using World.cell?_spot h1
      subst hs
      refine ⟨b, off, fun _ => rfl, fun i hi => ?_⟩
      have := h5 i (by omega)
      rw [add_lit'] at this
      exact this
    · obtain rfl : xs = [] := List.eq_nil_of_length_eq_zero (by rw [h2]; simp at h0; simp [h0])
      exact RowS.nil _ _
theorem Opn.two {α β : Type} {t : TypeId} {f0 f1 : Field} {c0 c1 : Nat} {f : α → D} {g : β → D} {ok : α → Prop} {ok' : β → Prop} (ht : P.underlying t = some (.struct #[f0, f1])) (hc : P.cellsOf t = c0 + c1) (hc0 : P.cellsOf f0.type = c0) (hc1 : P.cellsOf f1.type = c1)
    (ho0 : f0.offset = 0) (ho1 : f1.offset = c0) (h0 : Opn enc P w base spare held f0.type f ok) (h1 : Opn enc P w base spare held f1.type g ok') :
    Opn enc P w base spare held t (fun p : α × β => .agg ((f p.1).lv ++ (g p.2).lv)) (fun p => ok p.1 ∧ ok' p.2) := by
  intro fuel cs x hf
  obtain ⟨y0, y1, n, -, hl, e0, e1⟩ := trod_struct2 ht hf
  rw [ho0, hc0, List.drop_zero] at e0
  rw [ho1, hc1] at e1
  obtain ⟨a, ha, ra⟩ := h0 _ _ _ e0
  obtain ⟨b, hb, rb⟩ := h1 _ _ _ e1
  refine ⟨(a, b), ⟨ha, hb⟩, ?_⟩
  have e : cs = cs.take c0 ++ (cs.drop c0).take c1 := by
    rw [List.take_of_length_le (l := cs.drop c0) (by simp; omega), List.take_append_drop]
  rw [e]
  exact ra.app rb
theorem open_arg {α : Type} {T E : TypeId} {f : α → D} {ok : α → Prop} {r : Reach} {b0 : Nat} {v : Value} {d : DataW H} {ps : List MemPlace} (ht : P.underlying T = some (.slice E)) (hO : Opn enc P w base spare held T f ok) (hf : ∀ a, (f a).lv = [f a])
    (hv : Value.okWide P w r b0 T v) (h : DataW.Trod enc P w base spare held T v d ps) : ∃ a, ok a ∧ RepD (allS w) (f a) v := by
  obtain ⟨a0, len, cap, rfl⟩ := okWide_slice ht hv
  obtain ⟨fuel, h⟩ := h
  obtain ⟨a, ha, hr⟩ := hO _ _ _ h
  rw [hf a] at hr
  have e : (Value.slice a0 len cap).cells.toList = [.slice a0 len cap] := rfl
  rw [e] at hr
  cases hr with
  | cons h1 _ _ => exact ⟨a, ha, h1⟩
end
end Go.Proofs.YtddmcmkhjkleoaaGreatDoor
end
