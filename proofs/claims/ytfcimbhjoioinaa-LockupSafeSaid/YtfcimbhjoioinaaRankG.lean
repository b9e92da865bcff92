/-
  LockupRank: in an order each stands once.
-/
import Derived.Test.YtfcimbhjoioinaaAtG
import Derived.Test.YtfcimbhjoioinaaGz
import Derived.Test.YtfcimbhjoioinaaBegun
namespace Go.Proofs.Ytfcimbhjoioinaa
open Go.RowKit

abbrev dpD (x : Dp) : D := .agg [iD x.i, iD x.j]
theorem rep_dps (S : Sm) : ∀ l : List Dp, RepLv S 2 (l.map dpD) (dps l)
  | [] => .nil
  | x :: l => by
    rw [dps_cons]
    exact .cons (.cons (.v rfl) rfl (.cons (.v rfl) rfl .nil)) rfl (rep_dps S l)
theorem dps_of {S : Sm} : ∀ {l : List Dp} {xs : List Value}, RepLv S 2 (l.map dpD) xs → xs = dps l
  | [], _, h => by cases h; rfl
  | x :: l, _, h => by
    rw [List.map_cons] at h
    cases h with
    | cons h hk ht =>
      cases h with
      | cons h1 _ h2 =>
        cases h2 with
        | cons h3 _ h4 =>
          cases h1; cases h3; cases h4
          rw [dps_of ht, dps_cons]; rfl
theorem rep_ints (S : Sm) : ∀ l : List Int, RepLv S 1 (l.map iD) (ints .i64 l)
  | [] => .nil
  | x :: l => by
    show RepLv S 1 (iD x :: l.map iD) ([.int .i64 x] ++ ints .i64 l)
    exact .cons (.cons (.v rfl) rfl .nil) rfl (rep_ints S l)
theorem begun_fn : FnD Try.prog 6 [] (.d (.v (.bool true))) := .flat rfl fun w g vs _ hr => by cases hr; exact begun_any w
theorem rank_fn (l : List Dp) (hl : l.length ≤ 200) (hwf : ∀ x ∈ l, (Lit.int .i64 x.i).wf = true ∧ (Lit.int .i64 x.j).wf = true) :
    FnD Try.prog 8 [.d (.sl 2 (l.map dpD))] (.tup [.d (isD (rankL l).1), .d (.v (.bool (rankL l).2)), .d (.v (.int .i64 0))]) := by
  intro w g vs hi hr
  cases hr with
  | cons h ht =>
    cases ht
    obtain ⟨p, cap, xs, rfl, hsl, hrep⟩ := sl_rep hi h
    rw [dps_of hrep, List.length_map] at hsl
    have C := rank_own hsl hwf
    rw [show rankM l = (rankL l, 0) from by unfold rankM; rw [if_neg (by omega)]] at C
    rw [List.length_map]
    refine C.mono ?_
    rintro e w' ⟨q, c, rfl, -, hown, hb⟩
    exact ⟨_, behS g.S w w', rfl, behS_le w' hi, behS_old, behS_imm hi hb, .tup (.cons (.d (rep_own hown (by simp) fun S => rep_ints S _)) (.cons (.d (.v rfl)) (.cons (.d (.v rfl)) .nil))), hb⟩
theorem atV_get {r : List Int} (hn : r.Nodup) {i : Nat} (hi : i < r.length) : atV r (r.getD i 0) = i := by
  have hx : r[i]? = some (r.getD i 0) := by simp [hi]
  have hm : r.getD i 0 ∈ r := List.mem_of_getElem? hx
  unfold atV
  rw [if_pos hm, findIdx_at (k := i) hx (by simp) fun j y hj hy => ?_]
  rw [beq_eq_false_iff_ne]
  intro e
  rw [e] at hy
  have := (List.getElem?_inj (i := i) (j := j) hi hn).1 (by rw [hy, hx])
  omega
theorem atV_mem {r : List Int} {x : Int} (h : x ∈ r) : ∃ i, i < r.length ∧ r.getD i 0 = x := by
  obtain ⟨i, hi, rfl⟩ := List.getElem_of_mem h
  exact ⟨i, hi, by simp [hi]⟩
theorem atV_order {l : List Dp} {r : List Int} (h : Rk l r) (hall : ∀ x ∈ nodes l, x ∈ r) {p : Dp} (hp : p ∈ l) : 0 ≤ atV r p.i ∧ atV r p.i < atV r p.j := by
  obtain ⟨j, hj, ej⟩ := atV_mem (hall _ (nodes_j hp))
  obtain ⟨m, hm, em⟩ := h.ahead j p.j (by rw [← ej]; simp [hj]) p hp rfl
  have hml : m < r.length := by omega
  have e2 : r.getD m 0 = p.i := by rw [List.getD_eq_getElem?_getD, em]; rfl
  rw [← ej, ← e2, atV_get h.nd hj, atV_get h.nd hml]
  omega
theorem rankW_fn (l0 : List Dp) (n : Int) (hwf : ∀ x ∈ l0, (Lit.int .i64 x.i).wf = true ∧ (Lit.int .i64 x.j).wf = true) : FnD Try.prog 4 [.d (.sl 2 (l0.map dpD)), .d (.v (.int .i64 n))] (.d (.v (.bool true))) := by
  have qag3 := ag3
  have qze3 := ze3
  have qag24 := ag24
  have qel24 := el24
  have qro24 := ro24
  have qze24 := ze24
  have qag28 := ag28
  have qel28 := el28
  have qro28 := ro28
  have qze28 := ze28
  have qag32 := ag32
  have qze32 := ze32
  have qfo32_0 := fo32_0
  have qfo32_1 := fo32_1
  have qpl32 := pl32
  have hB := begun_fn
  obtain ⟨l, hl⟩ : ∃ l, l = l0.take (min (l0.map dpD).length 40) := ⟨_, rfl⟩
  have hl40 : l.length ≤ 40 := by rw [hl, List.length_take]; omega
  have hmap : (l0.map dpD).take (min (l0.map dpD).length 40) = l.map dpD := by rw [hl, List.map_take]
  have hwl : ∀ x ∈ l, (Lit.int .i64 x.i).wf = true ∧ (Lit.int .i64 x.j).wf = true := fun x hx => hwf x (List.mem_of_mem_take (hl ▸ hx))
  have hR := rank_fn l (by omega) hwl
  have hspec := rank_spec l
  obtain ⟨⟨r, ok⟩, hr⟩ : ∃ R, R = rankL l := ⟨_, rfl⟩
  rw [← hr] at hspec hR
  dsimp only at hspec hR
  have hcl : (l.map dpD).length = l.length := by simp
  have hcr : (r.map iD).length = r.length := by simp
  refine FnD.of_AW (n := 124) Try.func4 rfl rfl rfl (Nat.le_of_ble_eq_true rfl) (fun _ => rfl) fun Γ hX => ?_
  refine AW.seq_k fun K hK => ?_
  refine AW.reg0k ?_
  refine RunK.cons (t_assign rfl (TLe.refl _)) (by first | exact dlt rfl rfl | exact dno rfl) (by first | exact gno rfl | exact gyes rfl rfl rfl) pnil ?_
  refine RunK.nil ?_
  refine hK _ _ ?_
  clear hK K
  refine AW.seq_k fun K hK => ?_
  refine AW.seq_k fun K hK => ?_
  refine AW.reg0k ?_
  refine RunK.cons (t_callf rfl (enters_of Try.func6 rfl rfl) (by assumption) (by repeat (first | exact TLes.nil | refine TLes.cons (TLe.of_eq rfl) ?_ | refine TLes.cons TLe.own ?_ | refine TLes.cons TLe.nil ?_))) (by first | exact dlt rfl rfl | exact dno rfl) (by first | exact gno rfl | exact gyes rfl rfl rfl) pnil ?_
  (first | refine RunK.cons (t_not rfl rfl) (by first | exact dlt rfl rfl | exact dno rfl) (by first | exact gno rfl | exact gyes rfl rfl rfl) pnil ?_ | refine RunK.cons (t_neg rfl rfl) (by first | exact dlt rfl rfl | exact dno rfl) (by first | exact gno rfl | exact gyes rfl rfl rfl) pnil ?_)
  refine RunK.nil ?_
  refine hK _ _ ?_
  clear hK K
  refine AW.condF rfl ?_
  refine AW.skip (hK _ _ ?_)
  clear hK K
  refine AW.trimk 14 ?_
  (repeat (first | refine TrimK.cons (v := .d _) rfl ?_ | refine TrimK.cons (v := .own _ _ _) rfl ?_ | refine TrimK.cons (v := .ref _ _) rfl ?_ | refine TrimK.cons (v := .fn _ _) rfl ?_ | refine TrimK.cons (v := .tup _) rfl ?_ | refine TrimK.cons (v := .mrow _ _) rfl ?_ | refine TrimK.cons (v := .pi _) rfl ?_ | refine TrimK.cons (v := .und) rfl ?_ | refine TrimK.cons rfl ?_))
  refine TrimK.nil ?_
  refine AW.seq_k fun K hK => ?_
  refine AW.reg0k ?_
  refine RunK.cons (t_move rfl (TLe.refl _)) (by first | exact dlt rfl rfl | exact dno rfl) (by first | exact gno rfl | exact gyes rfl rfl rfl) pnil ?_
  refine RunK.cons (t_move rfl (TLe.refl _)) (by first | exact dlt rfl rfl | exact dno rfl) (by first | exact gno rfl | exact gyes rfl rfl rfl) pnil ?_
  (first | refine RunK.cons (t_len rfl (by assumption) (TLe.of_eq rfl)) (by first | exact dlt rfl rfl | exact dno rfl) (by first | exact gno rfl | exact gyes rfl rfl rfl) pnil ?_ | refine RunK.cons (t_len rfl (by assumption) TLe.own) (by first | exact dlt rfl rfl | exact dno rfl) (by first | exact gno rfl | exact gyes rfl rfl rfl) pnil ?_ | refine RunK.cons (t_len_str rfl (by assumption) rfl) (by first | exact dlt rfl rfl | exact dno rfl) (by first | exact gno rfl | exact gyes rfl rfl rfl) pnil ?_)
  (first | refine RunK.cons (t_min_nat 40 rfl rfl rfl rfl) (by first | exact dlt rfl rfl | exact dno rfl) (by first | exact gno rfl | exact gyes rfl rfl rfl) pnil ?_ | refine RunK.cons (t_min rfl rfl rfl) (by first | exact dlt rfl rfl | exact dno rfl) (by first | exact gno rfl | exact gyes rfl rfl rfl) pnil ?_)
  refine RunK.cons (t_slice_hi rfl (by assumption) (TLe.of_eq rfl) rfl (by omega)) (by first | exact dlt rfl rfl | exact dno rfl) (by first | exact gno rfl | exact gyes rfl rfl rfl) pnil ?_
  refine RunK.cons (t_assign rfl (TLe.refl _)) (by first | exact dlt rfl rfl | exact dno rfl) (by first | exact gno rfl | exact gyes rfl rfl rfl) pnil ?_
  refine RunK.nil ?_
  refine hK _ _ ?_
  clear hK K
  refine AW.to [.d (.sl 2 (l.map dpD)), .d (.v (.int .i64 n))] ⟨TLe.of_eq (congrArg (fun x => T.d (.sl 2 x)) hmap), TLe.of_eq rfl, trivial⟩ ?_
  refine AW.seq_k fun K hK => ?_
  refine AW.vac 5 rfl (by repeat (first | exact fresh_env rfl | refine fresh_upd rfl ?_)) (by repeat (first | exact freshO_nil | refine freshO_cons rfl ?_ | refine freshO_ovr (freshO_cons rfl freshO_nil) ?_ | refine freshO_ovr freshO_nil ?_)) ?_
  refine AW.reg0k ?_
  refine RunK.cons (t_move rfl (TLe.refl _)) (by first | exact dlt rfl rfl | exact dno rfl) (by first | exact gno rfl | exact gyes rfl rfl rfl) pnil ?_
  refine RunK.cons (t_callf rfl (enters_of Try.func8 rfl rfl) (by assumption) (by repeat (first | exact TLes.nil | refine TLes.cons (TLe.of_eq rfl) ?_ | refine TLes.cons TLe.own ?_ | refine TLes.cons TLe.nil ?_))) (by first | exact dlt rfl rfl | exact dno rfl) (by first | exact gno rfl | exact gyes rfl rfl rfl) pnil ?_
  refine RunK.cons (t_move rfl (TLe.refl _)) (by first | exact dlt rfl rfl | exact dno rfl) (by first | exact gno rfl | exact gyes rfl rfl rfl) pnil ?_
  refine RunK.cons (t_extract rfl rfl rfl) (by first | exact dlt rfl rfl | exact dno rfl) (by first | exact gno rfl | exact gyes rfl rfl rfl) pnil ?_
  refine RunK.cons (t_extract rfl rfl rfl) (by first | exact dlt rfl rfl | exact dno rfl) (by first | exact gno rfl | exact gyes rfl rfl rfl) pnil ?_
  refine RunK.cons (t_extract rfl rfl rfl) (by first | exact dlt rfl rfl | exact dno rfl) (by first | exact gno rfl | exact gyes rfl rfl rfl) pnil ?_
  refine RunK.cons (t_alloc (c := 5) rfl (by assumption)) (by first | exact dlt rfl rfl | exact dno rfl) (by first | exact gno rfl | exact gyes rfl rfl rfl) (pone rfl) ?_
  refine RunK.cons (t_store rfl rfl (TLe.refl _) rfl (by assumption) (Nat.le_of_ble_eq_true rfl)) (by first | exact dlt rfl rfl | exact dno rfl) (by first | exact gno rfl | exact gyes rfl rfl rfl) (pone rfl) ?_
  refine RunK.cons (t_assign rfl (TLe.refl _)) (by first | exact dlt rfl rfl | exact dno rfl) (by first | exact gno rfl | exact gyes rfl rfl rfl) pnil ?_
  refine RunK.cons (t_assign rfl (TLe.refl _)) (by first | exact dlt rfl rfl | exact dno rfl) (by first | exact gno rfl | exact gyes rfl rfl rfl) pnil ?_
  refine RunK.nil ?_
  refine hK _ _ ?_
  clear hK K
  refine AW.tos [.d (.sl 2 (l.map dpD)), .d (.v (.int .i64 n)), .und, .und, .und, .ref 5 0, .d (.v (.bool ok)), .d (.v (.int .i64 0))] [(5, .cells 24 [.d (isD r)])] (by
    (repeat (first | exact Trim.nil | refine Trim.le (TLe.und _) ?_ | refine Trim.to rfl ?_ | refine Trim.le TLe.own ?_ | refine Trim.le TLe.nil ?_))
    ) (pone rfl) ?_
  rcases hspec with ⟨hok, hrk, hall⟩ | ⟨hno, -⟩
  · subst hok
    have hrl := nodup_len hrk.nd hrk.sub
    have hnl := nodes_len l
    refine AW.seq_k fun K hK => ?_
    refine AW.seq_k fun K hK => ?_
    refine AW.reg0k ?_
    refine RunK.cons (t_move rfl (TLe.refl _)) (by first | exact dlt rfl rfl | exact dno rfl) (by first | exact gno rfl | exact gyes rfl rfl rfl) pnil ?_
    (first | refine RunK.cons (t_bin rfl rfl rfl (b_neq_f (by first | rfl | assumption | omega)) rfl) (by first | exact dlt rfl rfl | exact dno rfl) (by first | exact gno rfl | exact gyes rfl rfl rfl) pnil ?_ | refine RunK.cons (t_bin rfl rfl rfl (b_neq_t (by first | assumption | omega)) rfl) (by first | exact dlt rfl rfl | exact dno rfl) (by first | exact gno rfl | exact gyes rfl rfl rfl) pnil ?_ | refine RunK.cons (t_bin rfl rfl rfl (b_neq _ _ _ _) rfl) (by first | exact dlt rfl rfl | exact dno rfl) (by first | exact gno rfl | exact gyes rfl rfl rfl) pnil ?_ | refine RunK.cons (t_bin rfl rfl rfl (b_bneq _ _ _ (by assumption)) rfl) (by first | exact dlt rfl rfl | exact dno rfl) (by first | exact gno rfl | exact gyes rfl rfl rfl) pnil ?_ | refine RunK.cons (t_bin rfl rfl rfl (b_sneq _ _ _) rfl) (by first | exact dlt rfl rfl | exact dno rfl) (by first | exact gno rfl | exact gyes rfl rfl rfl) pnil ?_)
    refine RunK.cons (t_move rfl (TLe.refl _)) (by first | exact dlt rfl rfl | exact dno rfl) (by first | exact gno rfl | exact gyes rfl rfl rfl) pnil ?_
    (first | refine RunK.cons (t_move rfl (TLe.refl _)) (by first | exact dlt rfl rfl | exact dno rfl) (by first | exact gno rfl | exact gyes rfl rfl rfl) pnil ?_ | refine RunK.skip (gskip rfl rfl rfl) (by first | exact dlt rfl rfl | exact dno rfl) ?_)
    (first | refine RunK.cons (t_not rfl rfl) (by first | exact dlt rfl rfl | exact dno rfl) (by first | exact gno rfl | exact gyes rfl rfl rfl) pnil ?_ | refine RunK.cons (t_neg rfl rfl) (by first | exact dlt rfl rfl | exact dno rfl) (by first | exact gno rfl | exact gyes rfl rfl rfl) pnil ?_ | refine RunK.skip (gskip rfl rfl rfl) (by first | exact dlt rfl rfl | exact dno rfl) ?_)
    (first | refine RunK.cons (t_pick_t rfl rfl (TLe.refl _)) (by first | exact dlt rfl rfl | exact dno rfl) (by first | exact gno rfl | exact gyes rfl rfl rfl) pnil ?_ | refine RunK.cons (t_pick_f rfl rfl (TLe.refl _)) (by first | exact dlt rfl rfl | exact dno rfl) (by first | exact gno rfl | exact gyes rfl rfl rfl) pnil ?_)
    refine RunK.nil ?_
    refine hK _ _ ?_
    clear hK K
    refine AW.condF rfl ?_
    refine AW.skip (hK _ _ ?_)
    clear hK K
    refine AW.trimk 8 ?_
    (repeat (first | refine TrimK.cons (v := .d _) rfl ?_ | refine TrimK.cons (v := .own _ _ _) rfl ?_ | refine TrimK.cons (v := .ref _ _) rfl ?_ | refine TrimK.cons (v := .fn _ _) rfl ?_ | refine TrimK.cons (v := .tup _) rfl ?_ | refine TrimK.cons (v := .mrow _ _) rfl ?_ | refine TrimK.cons (v := .pi _) rfl ?_ | refine TrimK.cons (v := .und) rfl ?_ | refine TrimK.cons rfl ?_))
    refine TrimK.nil ?_
    refine AW.seq_k fun K hK => ?_
    refine AW.reg0k ?_
    refine RunK.cons (t_func rfl) (by first | exact dlt rfl rfl | exact dno rfl) (by first | exact gno rfl | exact gyes rfl rfl rfl) pnil ?_
    refine RunK.cons (t_assign rfl (TLe.refl _)) (by first | exact dlt rfl rfl | exact dno rfl) (by first | exact gno rfl | exact gyes rfl rfl rfl) pnil ?_
    refine RunK.nil ?_
    refine hK _ _ ?_
    clear hK K
    refine AW.seq_k fun K hK => ?_
    refine AW.seq_k fun K hK => ?_
    refine AW.reg0k ?_
    refine RunK.cons (t_assign rfl (TLe.refl _)) (by first | exact dlt rfl rfl | exact dno rfl) (by first | exact gno rfl | exact gyes rfl rfl rfl) pnil ?_
    refine RunK.nil ?_
    refine hK _ _ ?_
    clear hK K
    refine AW.block ?_
    refine AW.loop (fun k : Nat => k ≤ l.length) (fun k => envL [.d (.sl 2 (l.map dpD)), .d (.v (.int .i64 n)), .und, .und, .und, .ref 5 0, .d (.v (.bool true)), .d (.v (.int .i64 0)), .fn 9 [.ref 5 0], .d (.v (.int .i64 k))]) (fun _ => objL [(5, .cells 24 [.d (isD r)])]) (fun k => l.length - k) 0 (Nat.zero_le _) ?_ ?_ ?_
    · exact Trim.all (by
      (repeat (first | exact Trim.nil | refine Trim.le (TLe.und _) ?_ | refine Trim.to rfl ?_ | refine Trim.le TLe.own ?_ | refine Trim.le TLe.nil ?_))
      )
    · exact objL_sub (pone rfl)
    · intro k hk
      dsimp only
      by_cases hlt : k < l.length
      · have hx1 : (l.map dpD)[k]? = some (dpD (l.getD k .z)) := by simp [hlt]
        obtain ⟨ho1, ho2⟩ := atV_order hrk hall (p := l.getD k .z) (by simp [hlt])
        refine AW.seq_k fun K2 hK2 => ?_
        refine AW.seq_k fun K hK => ?_
        refine AW.reg0k ?_
        refine RunK.cons (t_move rfl (TLe.refl _)) (by first | exact dlt rfl rfl | exact dno rfl) (by first | exact gno rfl | exact gyes rfl rfl rfl) pnil ?_
        refine RunK.cons (t_move rfl (TLe.refl _)) (by first | exact dlt rfl rfl | exact dno rfl) (by first | exact gno rfl | exact gyes rfl rfl rfl) pnil ?_
        (first | refine RunK.cons (t_len rfl (by assumption) (TLe.of_eq rfl)) (by first | exact dlt rfl rfl | exact dno rfl) (by first | exact gno rfl | exact gyes rfl rfl rfl) pnil ?_ | refine RunK.cons (t_len rfl (by assumption) TLe.own) (by first | exact dlt rfl rfl | exact dno rfl) (by first | exact gno rfl | exact gyes rfl rfl rfl) pnil ?_ | refine RunK.cons (t_len_str rfl (by assumption) rfl) (by first | exact dlt rfl rfl | exact dno rfl) (by first | exact gno rfl | exact gyes rfl rfl rfl) pnil ?_)
        (first | refine RunK.cons (t_bin rfl rfl rfl (b_lss_t (by omega)) rfl) (by first | exact dlt rfl rfl | exact dno rfl) (by first | exact gno rfl | exact gyes rfl rfl rfl) pnil ?_ | refine RunK.cons (t_bin rfl rfl rfl (b_lss_f (by omega)) rfl) (by first | exact dlt rfl rfl | exact dno rfl) (by first | exact gno rfl | exact gyes rfl rfl rfl) pnil ?_ | refine RunK.cons (t_bin rfl rfl rfl (b_lss _ _ _ _) rfl) (by first | exact dlt rfl rfl | exact dno rfl) (by first | exact gno rfl | exact gyes rfl rfl rfl) pnil ?_)
        refine RunK.nil ?_
        refine hK _ _ ?_
        clear hK K
        refine AW.condT rfl ?_
        refine AW.skip (hK2 _ _ ?_)
        refine AW.seq_k fun K3 hK3 => ?_
        refine AW.block ?_
        refine AW.trimk 10 ?_
        (repeat (first | refine TrimK.cons (v := .d _) rfl ?_ | refine TrimK.cons (v := .own _ _ _) rfl ?_ | refine TrimK.cons (v := .ref _ _) rfl ?_ | refine TrimK.cons (v := .fn _ _) rfl ?_ | refine TrimK.cons (v := .tup _) rfl ?_ | refine TrimK.cons (v := .mrow _ _) rfl ?_ | refine TrimK.cons (v := .pi _) rfl ?_ | refine TrimK.cons (v := .und) rfl ?_ | refine TrimK.cons rfl ?_))
        refine TrimK.nil ?_
        refine AW.seq_k fun K hK => ?_
        refine AW.reg1k (by kernel_rfl) ?_
        refine RunK.cons (t_move rfl (TLe.refl _)) (by first | exact dlt rfl rfl | exact dno rfl) (by first | exact gno rfl | exact gyes rfl rfl rfl) pnil ?_
        refine RunK.cons (t_move rfl (TLe.refl _)) (by first | exact dlt rfl rfl | exact dno rfl) (by first | exact gno rfl | exact gyes rfl rfl rfl) pnil ?_
        refine RunK.cons (t_move rfl (TLe.refl _)) (by first | exact dlt rfl rfl | exact dno rfl) (by first | exact gno rfl | exact gyes rfl rfl rfl) pnil ?_
        (first | refine RunK.cons (t_index rfl (by assumption) (TLe.of_eq rfl) rfl (by assumption) (by decide)) (by first | exact dlt rfl rfl | exact dno rfl) (by first | exact gno rfl | exact gyes rfl rfl rfl) pnil ?_ | refine RunK.cons (t_index rfl (by assumption) TLe.own rfl (by assumption) (by decide)) (by first | exact dlt rfl rfl | exact dno rfl) (by first | exact gno rfl | exact gyes rfl rfl rfl) pnil ?_)
        (first | refine RunK.cons (t_field rfl (by assumption) rfl) (by first | exact dlt rfl rfl | exact dno rfl) (by first | exact gno rfl | exact gyes rfl rfl rfl) pnil ?_ | refine RunK.cons (t_field_ref rfl (by assumption) rfl) (by first | exact dlt rfl rfl | exact dno rfl) (by first | exact gno rfl | exact gyes rfl rfl rfl) pnil ?_)
        (first | refine RunK.cons (t_load rfl (by assumption) rfl rfl) (by first | exact dlt rfl rfl | exact dno rfl) (by first | exact gno rfl | exact gyes rfl rfl rfl) pnil ?_ | refine RunK.cons (t_load_ref rfl (by assumption) rfl rfl) (by first | exact dlt rfl rfl | exact dno rfl) (by first | exact gno rfl | exact gyes rfl rfl rfl) (pone rfl) ?_ | refine RunK.cons (t_load_agg rfl (by assumption) rfl (Nat.le_of_ble_eq_true rfl)) (by first | exact dlt rfl rfl | exact dno rfl) (by first | exact gno rfl | exact gyes rfl rfl rfl) pnil ?_ | refine RunK.cons (t_load_refa rfl (by assumption) rfl rfl rfl) (by first | exact dlt rfl rfl | exact dno rfl) (by first | exact gno rfl | exact gyes rfl rfl rfl) (pone rfl) ?_)
        refine RunK.cons (t_calll rfl rfl (enters_of Try.func9 rfl rfl) (by exact Lend.le (TLe.of_eq rfl) (Lend.ref0 (e := 24) Lend.nil)) (at_fn r _) flat_v) (by first | exact dlt rfl rfl | exact dno rfl) (by first | exact gno rfl | exact gyes rfl rfl rfl) (by exact pone rfl) ?_
        (first | refine RunK.cons (t_bin rfl rfl rfl (b_lss_t (by omega)) rfl) (by first | exact dlt rfl rfl | exact dno rfl) (by first | exact gno rfl | exact gyes rfl rfl rfl) pnil ?_ | refine RunK.cons (t_bin rfl rfl rfl (b_lss_f (by omega)) rfl) (by first | exact dlt rfl rfl | exact dno rfl) (by first | exact gno rfl | exact gyes rfl rfl rfl) pnil ?_ | refine RunK.cons (t_bin rfl rfl rfl (b_lss _ _ _ _) rfl) (by first | exact dlt rfl rfl | exact dno rfl) (by first | exact gno rfl | exact gyes rfl rfl rfl) pnil ?_)
        refine RunK.cons (t_move rfl (TLe.refl _)) (by first | exact dlt rfl rfl | exact dno rfl) (by first | exact gno rfl | exact gyes rfl rfl rfl) pnil ?_
        (first | refine RunK.cons (t_move rfl (TLe.refl _)) (by first | exact dlt rfl rfl | exact dno rfl) (by first | exact gno rfl | exact gyes rfl rfl rfl) pnil ?_ | refine RunK.skip (gskip rfl rfl rfl) (by first | exact dlt rfl rfl | exact dno rfl) ?_)
        (first | refine RunK.cons (t_move rfl (TLe.refl _)) (by first | exact dlt rfl rfl | exact dno rfl) (by first | exact gno rfl | exact gyes rfl rfl rfl) pnil ?_ | refine RunK.skip (gskip rfl rfl rfl) (by first | exact dlt rfl rfl | exact dno rfl) ?_)
        (first | refine RunK.cons (t_move rfl (TLe.refl _)) (by first | exact dlt rfl rfl | exact dno rfl) (by first | exact gno rfl | exact gyes rfl rfl rfl) pnil ?_ | refine RunK.skip (gskip rfl rfl rfl) (by first | exact dlt rfl rfl | exact dno rfl) ?_)
        (first | refine RunK.cons (t_index rfl (by assumption) (TLe.of_eq rfl) rfl (by assumption) (by decide)) (by first | exact dlt rfl rfl | exact dno rfl) (by first | exact gno rfl | exact gyes rfl rfl rfl) pnil ?_ | refine RunK.cons (t_index rfl (by assumption) TLe.own rfl (by assumption) (by decide)) (by first | exact dlt rfl rfl | exact dno rfl) (by first | exact gno rfl | exact gyes rfl rfl rfl) pnil ?_ | refine RunK.skip (gskip rfl rfl rfl) (by first | exact dlt rfl rfl | exact dno rfl) ?_)
        (first | refine RunK.cons (t_field rfl (by assumption) rfl) (by first | exact dlt rfl rfl | exact dno rfl) (by first | exact gno rfl | exact gyes rfl rfl rfl) pnil ?_ | refine RunK.cons (t_field_ref rfl (by assumption) rfl) (by first | exact dlt rfl rfl | exact dno rfl) (by first | exact gno rfl | exact gyes rfl rfl rfl) pnil ?_ | refine RunK.skip (gskip rfl rfl rfl) (by first | exact dlt rfl rfl | exact dno rfl) ?_)
        (first | refine RunK.cons (t_load rfl (by assumption) rfl rfl) (by first | exact dlt rfl rfl | exact dno rfl) (by first | exact gno rfl | exact gyes rfl rfl rfl) pnil ?_ | refine RunK.cons (t_load_ref rfl (by assumption) rfl rfl) (by first | exact dlt rfl rfl | exact dno rfl) (by first | exact gno rfl | exact gyes rfl rfl rfl) (pone rfl) ?_ | refine RunK.cons (t_load_agg rfl (by assumption) rfl (Nat.le_of_ble_eq_true rfl)) (by first | exact dlt rfl rfl | exact dno rfl) (by first | exact gno rfl | exact gyes rfl rfl rfl) pnil ?_ | refine RunK.cons (t_load_refa rfl (by assumption) rfl rfl rfl) (by first | exact dlt rfl rfl | exact dno rfl) (by first | exact gno rfl | exact gyes rfl rfl rfl) (pone rfl) ?_ | refine RunK.skip (gskip rfl rfl rfl) (by first | exact dlt rfl rfl | exact dno rfl) ?_)
        refine RunK.cons (t_calll rfl rfl (enters_of Try.func9 rfl rfl) (by exact Lend.le (TLe.of_eq rfl) (Lend.ref0 (e := 24) Lend.nil)) (at_fn r _) flat_v) (by first | exact dlt rfl rfl | exact dno rfl) (by first | exact gno rfl | exact gyes rfl rfl rfl) (by exact pone rfl) ?_
        (first | refine RunK.cons (t_move rfl (TLe.refl _)) (by first | exact dlt rfl rfl | exact dno rfl) (by first | exact gno rfl | exact gyes rfl rfl rfl) pnil ?_ | refine RunK.skip (gskip rfl rfl rfl) (by first | exact dlt rfl rfl | exact dno rfl) ?_)
        (first | refine RunK.cons (t_move rfl (TLe.refl _)) (by first | exact dlt rfl rfl | exact dno rfl) (by first | exact gno rfl | exact gyes rfl rfl rfl) pnil ?_ | refine RunK.skip (gskip rfl rfl rfl) (by first | exact dlt rfl rfl | exact dno rfl) ?_)
        (first | refine RunK.cons (t_move rfl (TLe.refl _)) (by first | exact dlt rfl rfl | exact dno rfl) (by first | exact gno rfl | exact gyes rfl rfl rfl) pnil ?_ | refine RunK.skip (gskip rfl rfl rfl) (by first | exact dlt rfl rfl | exact dno rfl) ?_)
        (first | refine RunK.cons (t_index rfl (by assumption) (TLe.of_eq rfl) rfl (by assumption) (by decide)) (by first | exact dlt rfl rfl | exact dno rfl) (by first | exact gno rfl | exact gyes rfl rfl rfl) pnil ?_ | refine RunK.cons (t_index rfl (by assumption) TLe.own rfl (by assumption) (by decide)) (by first | exact dlt rfl rfl | exact dno rfl) (by first | exact gno rfl | exact gyes rfl rfl rfl) pnil ?_ | refine RunK.skip (gskip rfl rfl rfl) (by first | exact dlt rfl rfl | exact dno rfl) ?_)
        (first | refine RunK.cons (t_field rfl (by assumption) rfl) (by first | exact dlt rfl rfl | exact dno rfl) (by first | exact gno rfl | exact gyes rfl rfl rfl) pnil ?_ | refine RunK.cons (t_field_ref rfl (by assumption) rfl) (by first | exact dlt rfl rfl | exact dno rfl) (by first | exact gno rfl | exact gyes rfl rfl rfl) pnil ?_ | refine RunK.skip (gskip rfl rfl rfl) (by first | exact dlt rfl rfl | exact dno rfl) ?_)
        (first | refine RunK.cons (t_load rfl (by assumption) rfl rfl) (by first | exact dlt rfl rfl | exact dno rfl) (by first | exact gno rfl | exact gyes rfl rfl rfl) pnil ?_ | refine RunK.cons (t_load_ref rfl (by assumption) rfl rfl) (by first | exact dlt rfl rfl | exact dno rfl) (by first | exact gno rfl | exact gyes rfl rfl rfl) (pone rfl) ?_ | refine RunK.cons (t_load_agg rfl (by assumption) rfl (Nat.le_of_ble_eq_true rfl)) (by first | exact dlt rfl rfl | exact dno rfl) (by first | exact gno rfl | exact gyes rfl rfl rfl) pnil ?_ | refine RunK.cons (t_load_refa rfl (by assumption) rfl rfl rfl) (by first | exact dlt rfl rfl | exact dno rfl) (by first | exact gno rfl | exact gyes rfl rfl rfl) (pone rfl) ?_ | refine RunK.skip (gskip rfl rfl rfl) (by first | exact dlt rfl rfl | exact dno rfl) ?_)
        refine RunK.cons (t_calll rfl rfl (enters_of Try.func9 rfl rfl) (by exact Lend.le (TLe.of_eq rfl) (Lend.ref0 (e := 24) Lend.nil)) (at_fn r _) flat_v) (by first | exact dlt rfl rfl | exact dno rfl) (by first | exact gno rfl | exact gyes rfl rfl rfl) (by exact pone rfl) ?_
        (first | refine RunK.cons (t_bin rfl rfl rfl (b_geq_t (by omega)) rfl) (by first | exact dlt rfl rfl | exact dno rfl) (by first | exact gno rfl | exact gyes rfl rfl rfl) pnil ?_ | refine RunK.cons (t_bin rfl rfl rfl (b_geq_f (by omega)) rfl) (by first | exact dlt rfl rfl | exact dno rfl) (by first | exact gno rfl | exact gyes rfl rfl rfl) pnil ?_ | refine RunK.cons (t_bin rfl rfl rfl (b_geq _ _ _ _) rfl) (by first | exact dlt rfl rfl | exact dno rfl) (by first | exact gno rfl | exact gyes rfl rfl rfl) pnil ?_ | refine RunK.skip (gskip rfl rfl rfl) (by first | exact dlt rfl rfl | exact dno rfl) ?_)
        (first | refine RunK.cons (t_pick_t rfl rfl (TLe.refl _)) (by first | exact dlt rfl rfl | exact dno rfl) (by first | exact gno rfl | exact gyes rfl rfl rfl) pnil ?_ | refine RunK.cons (t_pick_f rfl rfl (TLe.refl _)) (by first | exact dlt rfl rfl | exact dno rfl) (by first | exact gno rfl | exact gyes rfl rfl rfl) pnil ?_)
        refine RunK.nil ⟨by kernel_rfl, ?_⟩
        refine hK _ _ ?_
        clear hK K
        refine AW.condF rfl ?_
        refine AW.trimk 10 ?_
        (repeat (first | refine TrimK.cons (v := .d _) rfl ?_ | refine TrimK.cons (v := .own _ _ _) rfl ?_ | refine TrimK.cons (v := .ref _ _) rfl ?_ | refine TrimK.cons (v := .fn _ _) rfl ?_ | refine TrimK.cons (v := .tup _) rfl ?_ | refine TrimK.cons (v := .mrow _ _) rfl ?_ | refine TrimK.cons (v := .pi _) rfl ?_ | refine TrimK.cons (v := .und) rfl ?_ | refine TrimK.cons rfl ?_))
        refine TrimK.nil ?_
        refine AW.skip (hK3 _ _ ?_)
        refine AW.reg0k ?_
        refine RunK.cons (t_move rfl (TLe.refl _)) (by first | exact dlt rfl rfl | exact dno rfl) (by first | exact gno rfl | exact gyes rfl rfl rfl) pnil ?_
        (first | refine RunK.cons (t_bin rfl rfl rfl (b_inc (by omega)) rfl) (by first | exact dlt rfl rfl | exact dno rfl) (by first | exact gno rfl | exact gyes rfl rfl rfl) pnil ?_ | refine RunK.cons (t_bin rfl rfl rfl (b_addn (by omega) (by omega)) rfl) (by first | exact dlt rfl rfl | exact dno rfl) (by first | exact gno rfl | exact gyes rfl rfl rfl) pnil ?_ | refine RunK.cons (t_bin rfl rfl rfl (b_add _ _ _ _) rfl) (by first | exact dlt rfl rfl | exact dno rfl) (by first | exact gno rfl | exact gyes rfl rfl rfl) pnil ?_)
        refine RunK.cons (t_assign rfl (TLe.refl _)) (by first | exact dlt rfl rfl | exact dno rfl) (by first | exact gno rfl | exact gyes rfl rfl rfl) pnil ?_
        refine RunK.nil ?_
        exact ⟨k + 1, by omega, by omega, Trim.all (by
          (repeat (first | exact Trim.nil | refine Trim.le (TLe.und _) ?_ | refine Trim.to rfl ?_ | refine Trim.le TLe.own ?_ | refine Trim.le TLe.nil ?_))
          ), objL_sub (pone rfl)⟩
      · obtain rfl : k = l.length := by omega
        refine AW.seq_k fun K2 hK2 => ?_
        refine AW.seq_k fun K hK => ?_
        refine AW.reg0k ?_
        refine RunK.cons (t_move rfl (TLe.refl _)) (by first | exact dlt rfl rfl | exact dno rfl) (by first | exact gno rfl | exact gyes rfl rfl rfl) pnil ?_
        refine RunK.cons (t_move rfl (TLe.refl _)) (by first | exact dlt rfl rfl | exact dno rfl) (by first | exact gno rfl | exact gyes rfl rfl rfl) pnil ?_
        (first | refine RunK.cons (t_len rfl (by assumption) (TLe.of_eq rfl)) (by first | exact dlt rfl rfl | exact dno rfl) (by first | exact gno rfl | exact gyes rfl rfl rfl) pnil ?_ | refine RunK.cons (t_len rfl (by assumption) TLe.own) (by first | exact dlt rfl rfl | exact dno rfl) (by first | exact gno rfl | exact gyes rfl rfl rfl) pnil ?_ | refine RunK.cons (t_len_str rfl (by assumption) rfl) (by first | exact dlt rfl rfl | exact dno rfl) (by first | exact gno rfl | exact gyes rfl rfl rfl) pnil ?_)
        (first | refine RunK.cons (t_bin rfl rfl rfl (b_lss_t (by omega)) rfl) (by first | exact dlt rfl rfl | exact dno rfl) (by first | exact gno rfl | exact gyes rfl rfl rfl) pnil ?_ | refine RunK.cons (t_bin rfl rfl rfl (b_lss_f (by omega)) rfl) (by first | exact dlt rfl rfl | exact dno rfl) (by first | exact gno rfl | exact gyes rfl rfl rfl) pnil ?_ | refine RunK.cons (t_bin rfl rfl rfl (b_lss _ _ _ _) rfl) (by first | exact dlt rfl rfl | exact dno rfl) (by first | exact gno rfl | exact gyes rfl rfl rfl) pnil ?_)
        refine RunK.nil ?_
        refine hK _ _ ?_
        clear hK K
        refine AW.condF rfl ?_
        refine AW.trimk 9 ?_
        (repeat (first | refine TrimK.cons (v := .d _) rfl ?_ | refine TrimK.cons (v := .own _ _ _) rfl ?_ | refine TrimK.cons (v := .ref _ _) rfl ?_ | refine TrimK.cons (v := .fn _ _) rfl ?_ | refine TrimK.cons (v := .tup _) rfl ?_ | refine TrimK.cons (v := .mrow _ _) rfl ?_ | refine TrimK.cons (v := .pi _) rfl ?_ | refine TrimK.cons (v := .und) rfl ?_ | refine TrimK.cons rfl ?_))
        refine TrimK.nil ?_
        refine AW.exit (ifT rfl (hK _ _ ?_))
        clear hK hK2 K2 K
        refine AW.tos [.d (.sl 2 (l.map dpD)), .d (.v (.int .i64 n)), .und, .und, .und, .ref 5 0, .d (.v (.bool true)), .d (.v (.int .i64 0)), .fn 9 [.ref 5 0]] [(5, .cells 24 [.d (isD r)])] (by
          (repeat (first | exact Trim.nil | refine Trim.le (TLe.und _) ?_ | refine Trim.to rfl ?_ | refine Trim.le TLe.own ?_ | refine Trim.le TLe.nil ?_))
          ) (pone rfl) ?_
        refine AW.seq_k fun K hK => ?_
        refine AW.seq_k fun K hK => ?_
        refine AW.reg0k ?_
        refine RunK.cons (t_assign rfl (TLe.refl _)) (by first | exact dlt rfl rfl | exact dno rfl) (by first | exact gno rfl | exact gyes rfl rfl rfl) pnil ?_
        refine RunK.nil ?_
        refine hK _ _ ?_
        clear hK K
        refine AW.block ?_
        refine AW.loop (fun k : Nat => k ≤ r.length) (fun k => envL [.d (.sl 2 (l.map dpD)), .d (.v (.int .i64 n)), .und, .und, .und, .ref 5 0, .d (.v (.bool true)), .d (.v (.int .i64 0)), .fn 9 [.ref 5 0], .und, .d (.v (.int .i64 k))]) (fun _ => objL [(5, .cells 24 [.d (isD r)])]) (fun k => r.length - k) 0 (Nat.zero_le _) ?_ ?_ ?_
        · exact Trim.all (by
          (repeat (first | exact Trim.nil | refine Trim.le (TLe.und _) ?_ | refine Trim.to rfl ?_ | refine Trim.le TLe.own ?_ | refine Trim.le TLe.nil ?_))
          )
        · exact objL_sub (pone rfl)
        · intro k hk
          dsimp only
          by_cases hlt : k < r.length
          · have hx1 : (r.map iD)[k]? = some (iD (r.getD k 0)) := by simp [hlt]
            have hat := atV_get hrk.nd hlt
            refine AW.seq_k fun K2 hK2 => ?_
            refine AW.seq_k fun K hK => ?_
            refine AW.reg0k ?_
            refine RunK.cons (t_move rfl (TLe.refl _)) (by first | exact dlt rfl rfl | exact dno rfl) (by first | exact gno rfl | exact gyes rfl rfl rfl) pnil ?_
            (first | refine RunK.cons (t_load rfl (by assumption) rfl rfl) (by first | exact dlt rfl rfl | exact dno rfl) (by first | exact gno rfl | exact gyes rfl rfl rfl) pnil ?_ | refine RunK.cons (t_load_ref rfl (by assumption) rfl rfl) (by first | exact dlt rfl rfl | exact dno rfl) (by first | exact gno rfl | exact gyes rfl rfl rfl) (pone rfl) ?_ | refine RunK.cons (t_load_agg rfl (by assumption) rfl (Nat.le_of_ble_eq_true rfl)) (by first | exact dlt rfl rfl | exact dno rfl) (by first | exact gno rfl | exact gyes rfl rfl rfl) pnil ?_ | refine RunK.cons (t_load_refa rfl (by assumption) rfl rfl rfl) (by first | exact dlt rfl rfl | exact dno rfl) (by first | exact gno rfl | exact gyes rfl rfl rfl) (pone rfl) ?_)
            (first | refine RunK.cons (t_len rfl (by assumption) (TLe.of_eq rfl)) (by first | exact dlt rfl rfl | exact dno rfl) (by first | exact gno rfl | exact gyes rfl rfl rfl) pnil ?_ | refine RunK.cons (t_len rfl (by assumption) TLe.own) (by first | exact dlt rfl rfl | exact dno rfl) (by first | exact gno rfl | exact gyes rfl rfl rfl) pnil ?_ | refine RunK.cons (t_len_str rfl (by assumption) rfl) (by first | exact dlt rfl rfl | exact dno rfl) (by first | exact gno rfl | exact gyes rfl rfl rfl) pnil ?_)
            (first | refine RunK.cons (t_bin rfl rfl rfl (b_lss_t (by omega)) rfl) (by first | exact dlt rfl rfl | exact dno rfl) (by first | exact gno rfl | exact gyes rfl rfl rfl) pnil ?_ | refine RunK.cons (t_bin rfl rfl rfl (b_lss_f (by omega)) rfl) (by first | exact dlt rfl rfl | exact dno rfl) (by first | exact gno rfl | exact gyes rfl rfl rfl) pnil ?_ | refine RunK.cons (t_bin rfl rfl rfl (b_lss _ _ _ _) rfl) (by first | exact dlt rfl rfl | exact dno rfl) (by first | exact gno rfl | exact gyes rfl rfl rfl) pnil ?_)
            refine RunK.nil ?_
            refine hK _ _ ?_
            clear hK K
            refine AW.condT rfl ?_
            refine AW.skip (hK2 _ _ ?_)
            refine AW.seq_k fun K3 hK3 => ?_
            refine AW.block ?_
            refine AW.trimk 11 ?_
            (repeat (first | refine TrimK.cons (v := .d _) rfl ?_ | refine TrimK.cons (v := .own _ _ _) rfl ?_ | refine TrimK.cons (v := .ref _ _) rfl ?_ | refine TrimK.cons (v := .fn _ _) rfl ?_ | refine TrimK.cons (v := .tup _) rfl ?_ | refine TrimK.cons (v := .mrow _ _) rfl ?_ | refine TrimK.cons (v := .pi _) rfl ?_ | refine TrimK.cons (v := .und) rfl ?_ | refine TrimK.cons rfl ?_))
            refine TrimK.nil ?_
            refine AW.seq_k fun K hK => ?_
            refine AW.reg0k ?_
            refine RunK.cons (t_move rfl (TLe.refl _)) (by first | exact dlt rfl rfl | exact dno rfl) (by first | exact gno rfl | exact gyes rfl rfl rfl) pnil ?_
            (first | refine RunK.cons (t_load rfl (by assumption) rfl rfl) (by first | exact dlt rfl rfl | exact dno rfl) (by first | exact gno rfl | exact gyes rfl rfl rfl) pnil ?_ | refine RunK.cons (t_load_ref rfl (by assumption) rfl rfl) (by first | exact dlt rfl rfl | exact dno rfl) (by first | exact gno rfl | exact gyes rfl rfl rfl) (pone rfl) ?_ | refine RunK.cons (t_load_agg rfl (by assumption) rfl (Nat.le_of_ble_eq_true rfl)) (by first | exact dlt rfl rfl | exact dno rfl) (by first | exact gno rfl | exact gyes rfl rfl rfl) pnil ?_ | refine RunK.cons (t_load_refa rfl (by assumption) rfl rfl rfl) (by first | exact dlt rfl rfl | exact dno rfl) (by first | exact gno rfl | exact gyes rfl rfl rfl) (pone rfl) ?_)
            refine RunK.cons (t_move rfl (TLe.refl _)) (by first | exact dlt rfl rfl | exact dno rfl) (by first | exact gno rfl | exact gyes rfl rfl rfl) pnil ?_
            (first | refine RunK.cons (t_index rfl (by assumption) (TLe.of_eq rfl) rfl (by assumption) (by decide)) (by first | exact dlt rfl rfl | exact dno rfl) (by first | exact gno rfl | exact gyes rfl rfl rfl) pnil ?_ | refine RunK.cons (t_index rfl (by assumption) TLe.own rfl (by assumption) (by decide)) (by first | exact dlt rfl rfl | exact dno rfl) (by first | exact gno rfl | exact gyes rfl rfl rfl) pnil ?_)
            (first | refine RunK.cons (t_load rfl (by assumption) rfl rfl) (by first | exact dlt rfl rfl | exact dno rfl) (by first | exact gno rfl | exact gyes rfl rfl rfl) pnil ?_ | refine RunK.cons (t_load_ref rfl (by assumption) rfl rfl) (by first | exact dlt rfl rfl | exact dno rfl) (by first | exact gno rfl | exact gyes rfl rfl rfl) (pone rfl) ?_ | refine RunK.cons (t_load_agg rfl (by assumption) rfl (Nat.le_of_ble_eq_true rfl)) (by first | exact dlt rfl rfl | exact dno rfl) (by first | exact gno rfl | exact gyes rfl rfl rfl) pnil ?_ | refine RunK.cons (t_load_refa rfl (by assumption) rfl rfl rfl) (by first | exact dlt rfl rfl | exact dno rfl) (by first | exact gno rfl | exact gyes rfl rfl rfl) (pone rfl) ?_)
            refine RunK.cons (t_calll rfl rfl (enters_of Try.func9 rfl rfl) (by exact Lend.le (TLe.of_eq rfl) (Lend.ref0 (e := 24) Lend.nil)) (at_fn r _) flat_v) (by first | exact dlt rfl rfl | exact dno rfl) (by first | exact gno rfl | exact gyes rfl rfl rfl) (by exact pone rfl) ?_
            refine RunK.cons (t_move rfl (TLe.refl _)) (by first | exact dlt rfl rfl | exact dno rfl) (by first | exact gno rfl | exact gyes rfl rfl rfl) pnil ?_
            (first | refine RunK.cons (t_bin rfl rfl rfl (b_neq_f (by first | rfl | assumption | omega)) rfl) (by first | exact dlt rfl rfl | exact dno rfl) (by first | exact gno rfl | exact gyes rfl rfl rfl) pnil ?_ | refine RunK.cons (t_bin rfl rfl rfl (b_neq_t (by first | assumption | omega)) rfl) (by first | exact dlt rfl rfl | exact dno rfl) (by first | exact gno rfl | exact gyes rfl rfl rfl) pnil ?_ | refine RunK.cons (t_bin rfl rfl rfl (b_neq _ _ _ _) rfl) (by first | exact dlt rfl rfl | exact dno rfl) (by first | exact gno rfl | exact gyes rfl rfl rfl) pnil ?_ | refine RunK.cons (t_bin rfl rfl rfl (b_bneq _ _ _ (by assumption)) rfl) (by first | exact dlt rfl rfl | exact dno rfl) (by first | exact gno rfl | exact gyes rfl rfl rfl) pnil ?_ | refine RunK.cons (t_bin rfl rfl rfl (b_sneq _ _ _) rfl) (by first | exact dlt rfl rfl | exact dno rfl) (by first | exact gno rfl | exact gyes rfl rfl rfl) pnil ?_)
            refine RunK.nil ?_
            refine hK _ _ ?_
            clear hK K
            refine AW.condF rfl ?_
            refine AW.trimk 11 ?_
            (repeat (first | refine TrimK.cons (v := .d _) rfl ?_ | refine TrimK.cons (v := .own _ _ _) rfl ?_ | refine TrimK.cons (v := .ref _ _) rfl ?_ | refine TrimK.cons (v := .fn _ _) rfl ?_ | refine TrimK.cons (v := .tup _) rfl ?_ | refine TrimK.cons (v := .mrow _ _) rfl ?_ | refine TrimK.cons (v := .pi _) rfl ?_ | refine TrimK.cons (v := .und) rfl ?_ | refine TrimK.cons rfl ?_))
            refine TrimK.nil ?_
            refine AW.skip (hK3 _ _ ?_)
            refine AW.reg0k ?_
            refine RunK.cons (t_move rfl (TLe.refl _)) (by first | exact dlt rfl rfl | exact dno rfl) (by first | exact gno rfl | exact gyes rfl rfl rfl) pnil ?_
            (first | refine RunK.cons (t_bin rfl rfl rfl (b_inc (by omega)) rfl) (by first | exact dlt rfl rfl | exact dno rfl) (by first | exact gno rfl | exact gyes rfl rfl rfl) pnil ?_ | refine RunK.cons (t_bin rfl rfl rfl (b_addn (by omega) (by omega)) rfl) (by first | exact dlt rfl rfl | exact dno rfl) (by first | exact gno rfl | exact gyes rfl rfl rfl) pnil ?_ | refine RunK.cons (t_bin rfl rfl rfl (b_add _ _ _ _) rfl) (by first | exact dlt rfl rfl | exact dno rfl) (by first | exact gno rfl | exact gyes rfl rfl rfl) pnil ?_)
            refine RunK.cons (t_assign rfl (TLe.refl _)) (by first | exact dlt rfl rfl | exact dno rfl) (by first | exact gno rfl | exact gyes rfl rfl rfl) pnil ?_
            refine RunK.nil ?_
            exact ⟨k + 1, by omega, by omega, Trim.all (by
              (repeat (first | exact Trim.nil | refine Trim.le (TLe.und _) ?_ | refine Trim.to rfl ?_ | refine Trim.le TLe.own ?_ | refine Trim.le TLe.nil ?_))
              ), objL_sub (pone rfl)⟩
          · obtain rfl : k = r.length := by omega
            refine AW.seq_k fun K2 hK2 => ?_
            refine AW.seq_k fun K hK => ?_
            refine AW.reg0k ?_
            refine RunK.cons (t_move rfl (TLe.refl _)) (by first | exact dlt rfl rfl | exact dno rfl) (by first | exact gno rfl | exact gyes rfl rfl rfl) pnil ?_
            (first | refine RunK.cons (t_load rfl (by assumption) rfl rfl) (by first | exact dlt rfl rfl | exact dno rfl) (by first | exact gno rfl | exact gyes rfl rfl rfl) pnil ?_ | refine RunK.cons (t_load_ref rfl (by assumption) rfl rfl) (by first | exact dlt rfl rfl | exact dno rfl) (by first | exact gno rfl | exact gyes rfl rfl rfl) (pone rfl) ?_ | refine RunK.cons (t_load_agg rfl (by assumption) rfl (Nat.le_of_ble_eq_true rfl)) (by first | exact dlt rfl rfl | exact dno rfl) (by first | exact gno rfl | exact gyes rfl rfl rfl) pnil ?_ | refine RunK.cons (t_load_refa rfl (by assumption) rfl rfl rfl) (by first | exact dlt rfl rfl | exact dno rfl) (by first | exact gno rfl | exact gyes rfl rfl rfl) (pone rfl) ?_)
            (first | refine RunK.cons (t_len rfl (by assumption) (TLe.of_eq rfl)) (by first | exact dlt rfl rfl | exact dno rfl) (by first | exact gno rfl | exact gyes rfl rfl rfl) pnil ?_ | refine RunK.cons (t_len rfl (by assumption) TLe.own) (by first | exact dlt rfl rfl | exact dno rfl) (by first | exact gno rfl | exact gyes rfl rfl rfl) pnil ?_ | refine RunK.cons (t_len_str rfl (by assumption) rfl) (by first | exact dlt rfl rfl | exact dno rfl) (by first | exact gno rfl | exact gyes rfl rfl rfl) pnil ?_)
            (first | refine RunK.cons (t_bin rfl rfl rfl (b_lss_t (by omega)) rfl) (by first | exact dlt rfl rfl | exact dno rfl) (by first | exact gno rfl | exact gyes rfl rfl rfl) pnil ?_ | refine RunK.cons (t_bin rfl rfl rfl (b_lss_f (by omega)) rfl) (by first | exact dlt rfl rfl | exact dno rfl) (by first | exact gno rfl | exact gyes rfl rfl rfl) pnil ?_ | refine RunK.cons (t_bin rfl rfl rfl (b_lss _ _ _ _) rfl) (by first | exact dlt rfl rfl | exact dno rfl) (by first | exact gno rfl | exact gyes rfl rfl rfl) pnil ?_)
            refine RunK.nil ?_
            refine hK _ _ ?_
            clear hK K
            refine AW.condF rfl ?_
            refine AW.trimk 9 ?_
            (repeat (first | refine TrimK.cons (v := .d _) rfl ?_ | refine TrimK.cons (v := .own _ _ _) rfl ?_ | refine TrimK.cons (v := .ref _ _) rfl ?_ | refine TrimK.cons (v := .fn _ _) rfl ?_ | refine TrimK.cons (v := .tup _) rfl ?_ | refine TrimK.cons (v := .mrow _ _) rfl ?_ | refine TrimK.cons (v := .pi _) rfl ?_ | refine TrimK.cons (v := .und) rfl ?_ | refine TrimK.cons rfl ?_))
            refine TrimK.nil ?_
            refine AW.exit (ifT rfl (hK _ _ ?_))
            clear hK hK2 K2 K
            refine AW.tos [.d (.sl 2 (l.map dpD)), .d (.v (.int .i64 n))] [] (by
              (repeat (first | exact Trim.nil | refine Trim.le (TLe.und _) ?_ | refine Trim.to rfl ?_ | refine Trim.le TLe.own ?_ | refine Trim.le TLe.nil ?_))
              ) (fun p hp => by cases hp) ?_
            by_cases hn : 0 ≤ n ∧ n < l.length
            · obtain ⟨m, rfl⟩ : ∃ m : Nat, n = m := ⟨n.toNat, by omega⟩
              have hml : m < l.length := by omega
              have hx1 : (l.map dpD)[m]? = some (dpD (l.getD m .z)) := by simp [hml]
              have hmem : l.getD m .z ∈ l := by simp [hml]
              have hR2 := rank_fn (l ++ [⟨(l.getD m .z).j, (l.getD m .z).i⟩]) (by simp; omega) (fun x hx => by
                rcases List.mem_append.1 hx with hx | hx
                · exact hwl x hx
                · obtain rfl := List.mem_singleton.1 hx
                  exact ⟨(hwl _ hmem).2, (hwl _ hmem).1⟩)
              rw [rank_turned hmem, List.map_append] at hR2
              clear hR
              refine AW.seq_k fun K hK => ?_
              refine AW.seq_k fun K hK => ?_
              refine AW.reg0k ?_
              refine RunK.cons (t_move rfl (TLe.refl _)) (by first | exact dlt rfl rfl | exact dno rfl) (by first | exact gno rfl | exact gyes rfl rfl rfl) pnil ?_
              (first | refine RunK.cons (t_bin rfl rfl rfl (b_lss_t (by omega)) rfl) (by first | exact dlt rfl rfl | exact dno rfl) (by first | exact gno rfl | exact gyes rfl rfl rfl) pnil ?_ | refine RunK.cons (t_bin rfl rfl rfl (b_lss_f (by omega)) rfl) (by first | exact dlt rfl rfl | exact dno rfl) (by first | exact gno rfl | exact gyes rfl rfl rfl) pnil ?_ | refine RunK.cons (t_bin rfl rfl rfl (b_lss _ _ _ _) rfl) (by first | exact dlt rfl rfl | exact dno rfl) (by first | exact gno rfl | exact gyes rfl rfl rfl) pnil ?_)
              refine RunK.cons (t_move rfl (TLe.refl _)) (by first | exact dlt rfl rfl | exact dno rfl) (by first | exact gno rfl | exact gyes rfl rfl rfl) pnil ?_
              (first | refine RunK.cons (t_move rfl (TLe.refl _)) (by first | exact dlt rfl rfl | exact dno rfl) (by first | exact gno rfl | exact gyes rfl rfl rfl) pnil ?_ | refine RunK.skip (gskip rfl rfl rfl) (by first | exact dlt rfl rfl | exact dno rfl) ?_)
              (first | refine RunK.cons (t_move rfl (TLe.refl _)) (by first | exact dlt rfl rfl | exact dno rfl) (by first | exact gno rfl | exact gyes rfl rfl rfl) pnil ?_ | refine RunK.skip (gskip rfl rfl rfl) (by first | exact dlt rfl rfl | exact dno rfl) ?_)
              (first | refine RunK.cons (t_len rfl (by assumption) (TLe.of_eq rfl)) (by first | exact dlt rfl rfl | exact dno rfl) (by first | exact gno rfl | exact gyes rfl rfl rfl) pnil ?_ | refine RunK.cons (t_len rfl (by assumption) TLe.own) (by first | exact dlt rfl rfl | exact dno rfl) (by first | exact gno rfl | exact gyes rfl rfl rfl) pnil ?_ | refine RunK.cons (t_len_str rfl (by assumption) rfl) (by first | exact dlt rfl rfl | exact dno rfl) (by first | exact gno rfl | exact gyes rfl rfl rfl) pnil ?_ | refine RunK.skip (gskip rfl rfl rfl) (by first | exact dlt rfl rfl | exact dno rfl) ?_)
              (first | refine RunK.cons (t_bin rfl rfl rfl (b_geq_t (by omega)) rfl) (by first | exact dlt rfl rfl | exact dno rfl) (by first | exact gno rfl | exact gyes rfl rfl rfl) pnil ?_ | refine RunK.cons (t_bin rfl rfl rfl (b_geq_f (by omega)) rfl) (by first | exact dlt rfl rfl | exact dno rfl) (by first | exact gno rfl | exact gyes rfl rfl rfl) pnil ?_ | refine RunK.cons (t_bin rfl rfl rfl (b_geq _ _ _ _) rfl) (by first | exact dlt rfl rfl | exact dno rfl) (by first | exact gno rfl | exact gyes rfl rfl rfl) pnil ?_ | refine RunK.skip (gskip rfl rfl rfl) (by first | exact dlt rfl rfl | exact dno rfl) ?_)
              (first | refine RunK.cons (t_pick_t rfl rfl (TLe.refl _)) (by first | exact dlt rfl rfl | exact dno rfl) (by first | exact gno rfl | exact gyes rfl rfl rfl) pnil ?_ | refine RunK.cons (t_pick_f rfl rfl (TLe.refl _)) (by first | exact dlt rfl rfl | exact dno rfl) (by first | exact gno rfl | exact gyes rfl rfl rfl) pnil ?_)
              refine RunK.nil ?_
              refine hK _ _ ?_
              clear hK K
              refine AW.condF rfl ?_
              refine AW.skip (hK _ _ ?_)
              clear hK K
              refine AW.trimk 2 ?_
              (repeat (first | refine TrimK.cons (v := .d _) rfl ?_ | refine TrimK.cons (v := .own _ _ _) rfl ?_ | refine TrimK.cons (v := .ref _ _) rfl ?_ | refine TrimK.cons (v := .fn _ _) rfl ?_ | refine TrimK.cons (v := .tup _) rfl ?_ | refine TrimK.cons (v := .mrow _ _) rfl ?_ | refine TrimK.cons (v := .pi _) rfl ?_ | refine TrimK.cons (v := .und) rfl ?_ | refine TrimK.cons rfl ?_))
              refine TrimK.nil ?_
              refine AW.seq_k fun K hK => ?_
              refine AW.vac 95 rfl (by repeat (first | exact fresh_env rfl | refine fresh_upd rfl ?_)) (by repeat (first | exact freshO_nil | refine freshO_cons rfl ?_ | refine freshO_ovr (freshO_cons rfl freshO_nil) ?_ | refine freshO_ovr freshO_nil ?_)) ?_
              refine AW.reg1k (by kernel_rfl) ?_
              (first | refine RunK.cons (t_sfullrow (e := 32) (k := 2) (c := 95) rfl (by assumption) (by assumption) (Full.nil) (by decide) (by decide) rfl (all_nil) (by decide)) (by first | exact dlt rfl rfl | exact dno rfl) (by first | exact gno rfl | exact gyes rfl rfl rfl) (pone rfl) ?_ | refine RunK.cons (t_sfullrow (e := 32) (k := 2) (c := 95) rfl (by assumption) (by assumption) (Full.nil) (by decide) (by decide) rfl (all_nil) (by decide)) (by first | exact dlt rfl rfl | exact dno rfl) (by first | exact gno rfl | exact gyes rfl rfl rfl) (pone rfl) ?_)
              refine RunK.cons (t_move rfl (TLe.refl _)) (by first | exact dlt rfl rfl | exact dno rfl) (by first | exact gno rfl | exact gyes rfl rfl rfl) pnil ?_
              (first | refine RunK.cons (t_append rfl (by assumption) rfl (TLe.of_eq rfl) (by first | omega | (simp; omega))) (by first | exact dlt rfl rfl | exact dno rfl) (by first | exact gno rfl | exact gyes rfl rfl rfl) (pone rfl) ?_ | refine RunK.cons (t_append rfl (by assumption) rfl TLe.own (by first | omega | (simp; omega))) (by first | exact dlt rfl rfl | exact dno rfl) (by first | exact gno rfl | exact gyes rfl rfl rfl) (pone rfl) ?_)
              refine RunK.cons (t_move rfl (TLe.refl _)) (by first | exact dlt rfl rfl | exact dno rfl) (by first | exact gno rfl | exact gyes rfl rfl rfl) pnil ?_
              refine RunK.cons (t_move rfl (TLe.refl _)) (by first | exact dlt rfl rfl | exact dno rfl) (by first | exact gno rfl | exact gyes rfl rfl rfl) pnil ?_
              (first | refine RunK.cons (t_index rfl (by assumption) (TLe.of_eq rfl) rfl (by assumption) (by decide)) (by first | exact dlt rfl rfl | exact dno rfl) (by first | exact gno rfl | exact gyes rfl rfl rfl) pnil ?_ | refine RunK.cons (t_index rfl (by assumption) TLe.own rfl (by assumption) (by decide)) (by first | exact dlt rfl rfl | exact dno rfl) (by first | exact gno rfl | exact gyes rfl rfl rfl) pnil ?_)
              (first | refine RunK.cons (t_field rfl (by assumption) rfl) (by first | exact dlt rfl rfl | exact dno rfl) (by first | exact gno rfl | exact gyes rfl rfl rfl) pnil ?_ | refine RunK.cons (t_field_ref rfl (by assumption) rfl) (by first | exact dlt rfl rfl | exact dno rfl) (by first | exact gno rfl | exact gyes rfl rfl rfl) pnil ?_)
              (first | refine RunK.cons (t_load rfl (by assumption) rfl rfl) (by first | exact dlt rfl rfl | exact dno rfl) (by first | exact gno rfl | exact gyes rfl rfl rfl) pnil ?_ | refine RunK.cons (t_load_ref rfl (by assumption) rfl rfl) (by first | exact dlt rfl rfl | exact dno rfl) (by first | exact gno rfl | exact gyes rfl rfl rfl) (pone rfl) ?_ | refine RunK.cons (t_load_agg rfl (by assumption) rfl (Nat.le_of_ble_eq_true rfl)) (by first | exact dlt rfl rfl | exact dno rfl) (by first | exact gno rfl | exact gyes rfl rfl rfl) pnil ?_ | refine RunK.cons (t_load_refa rfl (by assumption) rfl rfl rfl) (by first | exact dlt rfl rfl | exact dno rfl) (by first | exact gno rfl | exact gyes rfl rfl rfl) (pone rfl) ?_)
              refine RunK.cons (t_move rfl (TLe.refl _)) (by first | exact dlt rfl rfl | exact dno rfl) (by first | exact gno rfl | exact gyes rfl rfl rfl) pnil ?_
              refine RunK.cons (t_move rfl (TLe.refl _)) (by first | exact dlt rfl rfl | exact dno rfl) (by first | exact gno rfl | exact gyes rfl rfl rfl) pnil ?_
              (first | refine RunK.cons (t_index rfl (by assumption) (TLe.of_eq rfl) rfl (by assumption) (by decide)) (by first | exact dlt rfl rfl | exact dno rfl) (by first | exact gno rfl | exact gyes rfl rfl rfl) pnil ?_ | refine RunK.cons (t_index rfl (by assumption) TLe.own rfl (by assumption) (by decide)) (by first | exact dlt rfl rfl | exact dno rfl) (by first | exact gno rfl | exact gyes rfl rfl rfl) pnil ?_)
              (first | refine RunK.cons (t_field rfl (by assumption) rfl) (by first | exact dlt rfl rfl | exact dno rfl) (by first | exact gno rfl | exact gyes rfl rfl rfl) pnil ?_ | refine RunK.cons (t_field_ref rfl (by assumption) rfl) (by first | exact dlt rfl rfl | exact dno rfl) (by first | exact gno rfl | exact gyes rfl rfl rfl) pnil ?_)
              (first | refine RunK.cons (t_load rfl (by assumption) rfl rfl) (by first | exact dlt rfl rfl | exact dno rfl) (by first | exact gno rfl | exact gyes rfl rfl rfl) pnil ?_ | refine RunK.cons (t_load_ref rfl (by assumption) rfl rfl) (by first | exact dlt rfl rfl | exact dno rfl) (by first | exact gno rfl | exact gyes rfl rfl rfl) (pone rfl) ?_ | refine RunK.cons (t_load_agg rfl (by assumption) rfl (Nat.le_of_ble_eq_true rfl)) (by first | exact dlt rfl rfl | exact dno rfl) (by first | exact gno rfl | exact gyes rfl rfl rfl) pnil ?_ | refine RunK.cons (t_load_refa rfl (by assumption) rfl rfl rfl) (by first | exact dlt rfl rfl | exact dno rfl) (by first | exact gno rfl | exact gyes rfl rfl rfl) (pone rfl) ?_)
              (first | refine RunK.cons (t_build rfl (by assumption) (by assumption) (Parts.cons (TLe.of_eq rfl) rfl (Parts.cons (TLe.of_eq rfl) rfl (Parts.nil))) rfl) (by first | exact dlt rfl rfl | exact dno rfl) (by first | exact gno rfl | exact gyes rfl rfl rfl) pnil ?_ | refine RunK.cons (t_build rfl (by assumption) (by assumption) (Parts.cons (TLe.of_eq rfl) rfl (Parts.cons (TLe.own) rfl (Parts.nil))) rfl) (by first | exact dlt rfl rfl | exact dno rfl) (by first | exact gno rfl | exact gyes rfl rfl rfl) pnil ?_ | refine RunK.cons (t_build rfl (by assumption) (by assumption) (Parts.cons (TLe.of_eq rfl) rfl (Parts.cons (TLe.nil) rfl (Parts.nil))) rfl) (by first | exact dlt rfl rfl | exact dno rfl) (by first | exact gno rfl | exact gyes rfl rfl rfl) pnil ?_ | refine RunK.cons (t_build rfl (by assumption) (by assumption) (Parts.cons (TLe.own) rfl (Parts.cons (TLe.of_eq rfl) rfl (Parts.nil))) rfl) (by first | exact dlt rfl rfl | exact dno rfl) (by first | exact gno rfl | exact gyes rfl rfl rfl) pnil ?_ | refine RunK.cons (t_build rfl (by assumption) (by assumption) (Parts.cons (TLe.own) rfl (Parts.cons (TLe.own) rfl (Parts.nil))) rfl) (by first | exact dlt rfl rfl | exact dno rfl) (by first | exact gno rfl | exact gyes rfl rfl rfl) pnil ?_ | refine RunK.cons (t_build rfl (by assumption) (by assumption) (Parts.cons (TLe.own) rfl (Parts.cons (TLe.nil) rfl (Parts.nil))) rfl) (by first | exact dlt rfl rfl | exact dno rfl) (by first | exact gno rfl | exact gyes rfl rfl rfl) pnil ?_ | refine RunK.cons (t_build rfl (by assumption) (by assumption) (Parts.cons (TLe.nil) rfl (Parts.cons (TLe.of_eq rfl) rfl (Parts.nil))) rfl) (by first | exact dlt rfl rfl | exact dno rfl) (by first | exact gno rfl | exact gyes rfl rfl rfl) pnil ?_ | refine RunK.cons (t_build rfl (by assumption) (by assumption) (Parts.cons (TLe.nil) rfl (Parts.cons (TLe.own) rfl (Parts.nil))) rfl) (by first | exact dlt rfl rfl | exact dno rfl) (by first | exact gno rfl | exact gyes rfl rfl rfl) pnil ?_ | refine RunK.cons (t_build rfl (by assumption) (by assumption) (Parts.cons (TLe.nil) rfl (Parts.cons (TLe.nil) rfl (Parts.nil))) rfl) (by first | exact dlt rfl rfl | exact dno rfl) (by first | exact gno rfl | exact gyes rfl rfl rfl) pnil ?_)
              (first | refine RunK.cons (t_sfull (e := 32) (k := 2) rfl (by assumption) (by assumption) (Full.cons (TLe.of_eq rfl) (Full.nil)) (by decide) (by decide) rfl (all_cons rfl (all_nil)) (by decide)) (by first | exact dlt rfl rfl | exact dno rfl) (by first | exact gno rfl | exact gyes rfl rfl rfl) pnil ?_ | refine RunK.cons (t_sfull (e := 32) (k := 2) rfl (by assumption) (by assumption) (Full.cons (TLe.own) (Full.nil)) (by decide) (by decide) rfl (all_cons rfl (all_nil)) (by decide)) (by first | exact dlt rfl rfl | exact dno rfl) (by first | exact gno rfl | exact gyes rfl rfl rfl) pnil ?_)
              (first | refine RunK.cons (t_append rfl (by assumption) rfl (TLe.of_eq rfl) (by first | omega | (simp; omega))) (by first | exact dlt rfl rfl | exact dno rfl) (by first | exact gno rfl | exact gyes rfl rfl rfl) (pone rfl) ?_ | refine RunK.cons (t_append rfl (by assumption) rfl TLe.own (by first | omega | (simp; omega))) (by first | exact dlt rfl rfl | exact dno rfl) (by first | exact gno rfl | exact gyes rfl rfl rfl) (pone rfl) ?_)
              refine RunK.cons (t_callf rfl (enters_of Try.func8 rfl rfl) (by assumption) (by repeat (first | exact TLes.nil | refine TLes.cons (TLe.of_eq rfl) ?_ | refine TLes.cons TLe.own ?_ | refine TLes.cons TLe.nil ?_))) (by first | exact dlt rfl rfl | exact dno rfl) (by first | exact gno rfl | exact gyes rfl rfl rfl) pnil ?_
              refine RunK.cons (t_move rfl (TLe.refl _)) (by first | exact dlt rfl rfl | exact dno rfl) (by first | exact gno rfl | exact gyes rfl rfl rfl) pnil ?_
              refine RunK.cons (t_extract rfl rfl rfl) (by first | exact dlt rfl rfl | exact dno rfl) (by first | exact gno rfl | exact gyes rfl rfl rfl) pnil ?_
              refine RunK.cons (t_extract rfl rfl rfl) (by first | exact dlt rfl rfl | exact dno rfl) (by first | exact gno rfl | exact gyes rfl rfl rfl) pnil ?_
              refine RunK.cons (t_extract rfl rfl rfl) (by first | exact dlt rfl rfl | exact dno rfl) (by first | exact gno rfl | exact gyes rfl rfl rfl) pnil ?_
              refine RunK.cons (t_assign rfl (TLe.refl _)) (by first | exact dlt rfl rfl | exact dno rfl) (by first | exact gno rfl | exact gyes rfl rfl rfl) pnil ?_
              refine RunK.cons (t_assign rfl (TLe.refl _)) (by first | exact dlt rfl rfl | exact dno rfl) (by first | exact gno rfl | exact gyes rfl rfl rfl) pnil ?_
              refine RunK.cons (t_assign rfl (TLe.refl _)) (by first | exact dlt rfl rfl | exact dno rfl) (by first | exact gno rfl | exact gyes rfl rfl rfl) pnil ?_
              refine RunK.nil ⟨by kernel_rfl, ?_⟩
              refine hK _ _ ?_
              clear hK K
              refine AW.trimk 14 ?_
              (repeat (first | refine TrimK.cons (v := .d _) rfl ?_ | refine TrimK.cons (v := .own _ _ _) rfl ?_ | refine TrimK.cons (v := .ref _ _) rfl ?_ | refine TrimK.cons (v := .fn _ _) rfl ?_ | refine TrimK.cons (v := .tup _) rfl ?_ | refine TrimK.cons (v := .mrow _ _) rfl ?_ | refine TrimK.cons (v := .pi _) rfl ?_ | refine TrimK.cons (v := .und) rfl ?_ | refine TrimK.cons rfl ?_))
              refine TrimK.nil ?_
              refine AW.seq_k fun K hK => ?_
              refine AW.reg0k ?_
              refine RunK.cons (t_callf rfl (enters_of Try.func6 rfl rfl) (by assumption) (by repeat (first | exact TLes.nil | refine TLes.cons (TLe.of_eq rfl) ?_ | refine TLes.cons TLe.own ?_ | refine TLes.cons TLe.nil ?_))) (by first | exact dlt rfl rfl | exact dno rfl) (by first | exact gno rfl | exact gyes rfl rfl rfl) pnil ?_
              refine RunK.cons (t_move rfl (TLe.refl _)) (by first | exact dlt rfl rfl | exact dno rfl) (by first | exact gno rfl | exact gyes rfl rfl rfl) pnil ?_
              (first | refine RunK.cons (t_move rfl (TLe.refl _)) (by first | exact dlt rfl rfl | exact dno rfl) (by first | exact gno rfl | exact gyes rfl rfl rfl) pnil ?_ | refine RunK.skip (gskip rfl rfl rfl) (by first | exact dlt rfl rfl | exact dno rfl) ?_)
              (first | refine RunK.cons (t_bin rfl rfl rfl (b_eql_t (by first | rfl | assumption | omega)) rfl) (by first | exact dlt rfl rfl | exact dno rfl) (by first | exact gno rfl | exact gyes rfl rfl rfl) pnil ?_ | refine RunK.cons (t_bin rfl rfl rfl (b_eql_f (by first | assumption | omega)) rfl) (by first | exact dlt rfl rfl | exact dno rfl) (by first | exact gno rfl | exact gyes rfl rfl rfl) pnil ?_ | refine RunK.cons (t_bin rfl rfl rfl (b_eql _ _ _ _) rfl) (by first | exact dlt rfl rfl | exact dno rfl) (by first | exact gno rfl | exact gyes rfl rfl rfl) pnil ?_ | refine RunK.cons (t_bin rfl rfl rfl (b_beql _ _ _ (by assumption)) rfl) (by first | exact dlt rfl rfl | exact dno rfl) (by first | exact gno rfl | exact gyes rfl rfl rfl) pnil ?_ | refine RunK.cons (t_bin rfl rfl rfl (b_seql _ _ _) rfl) (by first | exact dlt rfl rfl | exact dno rfl) (by first | exact gno rfl | exact gyes rfl rfl rfl) pnil ?_ | refine RunK.skip (gskip rfl rfl rfl) (by first | exact dlt rfl rfl | exact dno rfl) ?_)
              (first | refine RunK.cons (t_pick_t rfl rfl (TLe.refl _)) (by first | exact dlt rfl rfl | exact dno rfl) (by first | exact gno rfl | exact gyes rfl rfl rfl) pnil ?_ | refine RunK.cons (t_pick_f rfl rfl (TLe.refl _)) (by first | exact dlt rfl rfl | exact dno rfl) (by first | exact gno rfl | exact gyes rfl rfl rfl) pnil ?_)
              refine RunK.cons (t_move rfl (TLe.refl _)) (by first | exact dlt rfl rfl | exact dno rfl) (by first | exact gno rfl | exact gyes rfl rfl rfl) pnil ?_
              (first | refine RunK.cons (t_move rfl (TLe.refl _)) (by first | exact dlt rfl rfl | exact dno rfl) (by first | exact gno rfl | exact gyes rfl rfl rfl) pnil ?_ | refine RunK.skip (gskip rfl rfl rfl) (by first | exact dlt rfl rfl | exact dno rfl) ?_)
              (first | refine RunK.cons (t_not rfl rfl) (by first | exact dlt rfl rfl | exact dno rfl) (by first | exact gno rfl | exact gyes rfl rfl rfl) pnil ?_ | refine RunK.cons (t_neg rfl rfl) (by first | exact dlt rfl rfl | exact dno rfl) (by first | exact gno rfl | exact gyes rfl rfl rfl) pnil ?_ | refine RunK.skip (gskip rfl rfl rfl) (by first | exact dlt rfl rfl | exact dno rfl) ?_)
              (first | refine RunK.cons (t_pick_t rfl rfl (TLe.refl _)) (by first | exact dlt rfl rfl | exact dno rfl) (by first | exact gno rfl | exact gyes rfl rfl rfl) pnil ?_ | refine RunK.cons (t_pick_f rfl rfl (TLe.refl _)) (by first | exact dlt rfl rfl | exact dno rfl) (by first | exact gno rfl | exact gyes rfl rfl rfl) pnil ?_)
              refine RunK.cons (t_assign rfl (TLe.refl _)) (by first | exact dlt rfl rfl | exact dno rfl) (by first | exact gno rfl | exact gyes rfl rfl rfl) pnil ?_
              refine RunK.nil ?_
              refine hK _ _ ?_
              clear hK K
              exact AW.ret ⟨.inl rfl, TLe.of_eq rfl⟩
            · refine AW.seq_k fun K hK => ?_
              by_cases hn0 : n < 0
              · refine AW.seq_k fun K hK => ?_
                refine AW.reg0k ?_
                refine RunK.cons (t_move rfl (TLe.refl _)) (by first | exact dlt rfl rfl | exact dno rfl) (by first | exact gno rfl | exact gyes rfl rfl rfl) pnil ?_
                (first | refine RunK.cons (t_bin rfl rfl rfl (b_lss_t (by omega)) rfl) (by first | exact dlt rfl rfl | exact dno rfl) (by first | exact gno rfl | exact gyes rfl rfl rfl) pnil ?_ | refine RunK.cons (t_bin rfl rfl rfl (b_lss_f (by omega)) rfl) (by first | exact dlt rfl rfl | exact dno rfl) (by first | exact gno rfl | exact gyes rfl rfl rfl) pnil ?_ | refine RunK.cons (t_bin rfl rfl rfl (b_lss _ _ _ _) rfl) (by first | exact dlt rfl rfl | exact dno rfl) (by first | exact gno rfl | exact gyes rfl rfl rfl) pnil ?_)
                refine RunK.cons (t_move rfl (TLe.refl _)) (by first | exact dlt rfl rfl | exact dno rfl) (by first | exact gno rfl | exact gyes rfl rfl rfl) pnil ?_
                (first | refine RunK.cons (t_move rfl (TLe.refl _)) (by first | exact dlt rfl rfl | exact dno rfl) (by first | exact gno rfl | exact gyes rfl rfl rfl) pnil ?_ | refine RunK.skip (gskip rfl rfl rfl) (by first | exact dlt rfl rfl | exact dno rfl) ?_)
                (first | refine RunK.cons (t_move rfl (TLe.refl _)) (by first | exact dlt rfl rfl | exact dno rfl) (by first | exact gno rfl | exact gyes rfl rfl rfl) pnil ?_ | refine RunK.skip (gskip rfl rfl rfl) (by first | exact dlt rfl rfl | exact dno rfl) ?_)
                (first | refine RunK.cons (t_len rfl (by assumption) (TLe.of_eq rfl)) (by first | exact dlt rfl rfl | exact dno rfl) (by first | exact gno rfl | exact gyes rfl rfl rfl) pnil ?_ | refine RunK.cons (t_len rfl (by assumption) TLe.own) (by first | exact dlt rfl rfl | exact dno rfl) (by first | exact gno rfl | exact gyes rfl rfl rfl) pnil ?_ | refine RunK.cons (t_len_str rfl (by assumption) rfl) (by first | exact dlt rfl rfl | exact dno rfl) (by first | exact gno rfl | exact gyes rfl rfl rfl) pnil ?_ | refine RunK.skip (gskip rfl rfl rfl) (by first | exact dlt rfl rfl | exact dno rfl) ?_)
                (first | refine RunK.cons (t_bin rfl rfl rfl (b_geq_t (by omega)) rfl) (by first | exact dlt rfl rfl | exact dno rfl) (by first | exact gno rfl | exact gyes rfl rfl rfl) pnil ?_ | refine RunK.cons (t_bin rfl rfl rfl (b_geq_f (by omega)) rfl) (by first | exact dlt rfl rfl | exact dno rfl) (by first | exact gno rfl | exact gyes rfl rfl rfl) pnil ?_ | refine RunK.cons (t_bin rfl rfl rfl (b_geq _ _ _ _) rfl) (by first | exact dlt rfl rfl | exact dno rfl) (by first | exact gno rfl | exact gyes rfl rfl rfl) pnil ?_ | refine RunK.skip (gskip rfl rfl rfl) (by first | exact dlt rfl rfl | exact dno rfl) ?_)
                (first | refine RunK.cons (t_pick_t rfl rfl (TLe.refl _)) (by first | exact dlt rfl rfl | exact dno rfl) (by first | exact gno rfl | exact gyes rfl rfl rfl) pnil ?_ | refine RunK.cons (t_pick_f rfl rfl (TLe.refl _)) (by first | exact dlt rfl rfl | exact dno rfl) (by first | exact gno rfl | exact gyes rfl rfl rfl) pnil ?_)
                refine RunK.nil ?_
                refine hK _ _ ?_
                clear hK K
                refine AW.condT rfl ?_
                refine AW.trimk 14 ?_
                (repeat (first | refine TrimK.cons (v := .d _) rfl ?_ | refine TrimK.cons (v := .own _ _ _) rfl ?_ | refine TrimK.cons (v := .ref _ _) rfl ?_ | refine TrimK.cons (v := .fn _ _) rfl ?_ | refine TrimK.cons (v := .tup _) rfl ?_ | refine TrimK.cons (v := .mrow _ _) rfl ?_ | refine TrimK.cons (v := .pi _) rfl ?_ | refine TrimK.cons (v := .und) rfl ?_ | refine TrimK.cons rfl ?_))
                refine TrimK.nil ?_
                refine AW.seq_k fun K hK => ?_
                refine AW.reg0k ?_
                refine RunK.cons (t_callf rfl (enters_of Try.func6 rfl rfl) (by assumption) (by repeat (first | exact TLes.nil | refine TLes.cons (TLe.of_eq rfl) ?_ | refine TLes.cons TLe.own ?_ | refine TLes.cons TLe.nil ?_))) (by first | exact dlt rfl rfl | exact dno rfl) (by first | exact gno rfl | exact gyes rfl rfl rfl) pnil ?_
                refine RunK.cons (t_assign rfl (TLe.refl _)) (by first | exact dlt rfl rfl | exact dno rfl) (by first | exact gno rfl | exact gyes rfl rfl rfl) pnil ?_
                refine RunK.nil ?_
                refine hK _ _ ?_
                clear hK K
                exact AW.ret ⟨.inl rfl, TLe.of_eq rfl⟩
              · refine AW.seq_k fun K hK => ?_
                refine AW.reg0k ?_
                refine RunK.cons (t_move rfl (TLe.refl _)) (by first | exact dlt rfl rfl | exact dno rfl) (by first | exact gno rfl | exact gyes rfl rfl rfl) pnil ?_
                (first | refine RunK.cons (t_bin rfl rfl rfl (b_lss_t (by omega)) rfl) (by first | exact dlt rfl rfl | exact dno rfl) (by first | exact gno rfl | exact gyes rfl rfl rfl) pnil ?_ | refine RunK.cons (t_bin rfl rfl rfl (b_lss_f (by omega)) rfl) (by first | exact dlt rfl rfl | exact dno rfl) (by first | exact gno rfl | exact gyes rfl rfl rfl) pnil ?_ | refine RunK.cons (t_bin rfl rfl rfl (b_lss _ _ _ _) rfl) (by first | exact dlt rfl rfl | exact dno rfl) (by first | exact gno rfl | exact gyes rfl rfl rfl) pnil ?_)
                refine RunK.cons (t_move rfl (TLe.refl _)) (by first | exact dlt rfl rfl | exact dno rfl) (by first | exact gno rfl | exact gyes rfl rfl rfl) pnil ?_
                (first | refine RunK.cons (t_move rfl (TLe.refl _)) (by first | exact dlt rfl rfl | exact dno rfl) (by first | exact gno rfl | exact gyes rfl rfl rfl) pnil ?_ | refine RunK.skip (gskip rfl rfl rfl) (by first | exact dlt rfl rfl | exact dno rfl) ?_)
                (first | refine RunK.cons (t_move rfl (TLe.refl _)) (by first | exact dlt rfl rfl | exact dno rfl) (by first | exact gno rfl | exact gyes rfl rfl rfl) pnil ?_ | refine RunK.skip (gskip rfl rfl rfl) (by first | exact dlt rfl rfl | exact dno rfl) ?_)
                (first | refine RunK.cons (t_len rfl (by assumption) (TLe.of_eq rfl)) (by first | exact dlt rfl rfl | exact dno rfl) (by first | exact gno rfl | exact gyes rfl rfl rfl) pnil ?_ | refine RunK.cons (t_len rfl (by assumption) TLe.own) (by first | exact dlt rfl rfl | exact dno rfl) (by first | exact gno rfl | exact gyes rfl rfl rfl) pnil ?_ | refine RunK.cons (t_len_str rfl (by assumption) rfl) (by first | exact dlt rfl rfl | exact dno rfl) (by first | exact gno rfl | exact gyes rfl rfl rfl) pnil ?_ | refine RunK.skip (gskip rfl rfl rfl) (by first | exact dlt rfl rfl | exact dno rfl) ?_)
                (first | refine RunK.cons (t_bin rfl rfl rfl (b_geq_t (by omega)) rfl) (by first | exact dlt rfl rfl | exact dno rfl) (by first | exact gno rfl | exact gyes rfl rfl rfl) pnil ?_ | refine RunK.cons (t_bin rfl rfl rfl (b_geq_f (by omega)) rfl) (by first | exact dlt rfl rfl | exact dno rfl) (by first | exact gno rfl | exact gyes rfl rfl rfl) pnil ?_ | refine RunK.cons (t_bin rfl rfl rfl (b_geq _ _ _ _) rfl) (by first | exact dlt rfl rfl | exact dno rfl) (by first | exact gno rfl | exact gyes rfl rfl rfl) pnil ?_ | refine RunK.skip (gskip rfl rfl rfl) (by first | exact dlt rfl rfl | exact dno rfl) ?_)
                (first | refine RunK.cons (t_pick_t rfl rfl (TLe.refl _)) (by first | exact dlt rfl rfl | exact dno rfl) (by first | exact gno rfl | exact gyes rfl rfl rfl) pnil ?_ | refine RunK.cons (t_pick_f rfl rfl (TLe.refl _)) (by first | exact dlt rfl rfl | exact dno rfl) (by first | exact gno rfl | exact gyes rfl rfl rfl) pnil ?_)
                refine RunK.nil ?_
                refine hK _ _ ?_
                clear hK K
                refine AW.condT rfl ?_
                refine AW.trimk 14 ?_
                (repeat (first | refine TrimK.cons (v := .d _) rfl ?_ | refine TrimK.cons (v := .own _ _ _) rfl ?_ | refine TrimK.cons (v := .ref _ _) rfl ?_ | refine TrimK.cons (v := .fn _ _) rfl ?_ | refine TrimK.cons (v := .tup _) rfl ?_ | refine TrimK.cons (v := .mrow _ _) rfl ?_ | refine TrimK.cons (v := .pi _) rfl ?_ | refine TrimK.cons (v := .und) rfl ?_ | refine TrimK.cons rfl ?_))
                refine TrimK.nil ?_
                refine AW.seq_k fun K hK => ?_
                refine AW.reg0k ?_
                refine RunK.cons (t_callf rfl (enters_of Try.func6 rfl rfl) (by assumption) (by repeat (first | exact TLes.nil | refine TLes.cons (TLe.of_eq rfl) ?_ | refine TLes.cons TLe.own ?_ | refine TLes.cons TLe.nil ?_))) (by first | exact dlt rfl rfl | exact dno rfl) (by first | exact gno rfl | exact gyes rfl rfl rfl) pnil ?_
                refine RunK.cons (t_assign rfl (TLe.refl _)) (by first | exact dlt rfl rfl | exact dno rfl) (by first | exact gno rfl | exact gyes rfl rfl rfl) pnil ?_
                refine RunK.nil ?_
                refine hK _ _ ?_
                clear hK K
                exact AW.ret ⟨.inl rfl, TLe.of_eq rfl⟩
  · cases hno
    refine AW.seq_k fun K hK => ?_
    refine AW.seq_k fun K hK => ?_
    refine AW.reg0k ?_
    refine RunK.cons (t_move rfl (TLe.refl _)) (by first | exact dlt rfl rfl | exact dno rfl) (by first | exact gno rfl | exact gyes rfl rfl rfl) pnil ?_
    (first | refine RunK.cons (t_bin rfl rfl rfl (b_neq_f (by first | rfl | assumption | omega)) rfl) (by first | exact dlt rfl rfl | exact dno rfl) (by first | exact gno rfl | exact gyes rfl rfl rfl) pnil ?_ | refine RunK.cons (t_bin rfl rfl rfl (b_neq_t (by first | assumption | omega)) rfl) (by first | exact dlt rfl rfl | exact dno rfl) (by first | exact gno rfl | exact gyes rfl rfl rfl) pnil ?_ | refine RunK.cons (t_bin rfl rfl rfl (b_neq _ _ _ _) rfl) (by first | exact dlt rfl rfl | exact dno rfl) (by first | exact gno rfl | exact gyes rfl rfl rfl) pnil ?_ | refine RunK.cons (t_bin rfl rfl rfl (b_bneq _ _ _ (by assumption)) rfl) (by first | exact dlt rfl rfl | exact dno rfl) (by first | exact gno rfl | exact gyes rfl rfl rfl) pnil ?_ | refine RunK.cons (t_bin rfl rfl rfl (b_sneq _ _ _) rfl) (by first | exact dlt rfl rfl | exact dno rfl) (by first | exact gno rfl | exact gyes rfl rfl rfl) pnil ?_)
    refine RunK.cons (t_move rfl (TLe.refl _)) (by first | exact dlt rfl rfl | exact dno rfl) (by first | exact gno rfl | exact gyes rfl rfl rfl) pnil ?_
    (first | refine RunK.cons (t_move rfl (TLe.refl _)) (by first | exact dlt rfl rfl | exact dno rfl) (by first | exact gno rfl | exact gyes rfl rfl rfl) pnil ?_ | refine RunK.skip (gskip rfl rfl rfl) (by first | exact dlt rfl rfl | exact dno rfl) ?_)
    (first | refine RunK.cons (t_not rfl rfl) (by first | exact dlt rfl rfl | exact dno rfl) (by first | exact gno rfl | exact gyes rfl rfl rfl) pnil ?_ | refine RunK.cons (t_neg rfl rfl) (by first | exact dlt rfl rfl | exact dno rfl) (by first | exact gno rfl | exact gyes rfl rfl rfl) pnil ?_ | refine RunK.skip (gskip rfl rfl rfl) (by first | exact dlt rfl rfl | exact dno rfl) ?_)
    (first | refine RunK.cons (t_pick_t rfl rfl (TLe.refl _)) (by first | exact dlt rfl rfl | exact dno rfl) (by first | exact gno rfl | exact gyes rfl rfl rfl) pnil ?_ | refine RunK.cons (t_pick_f rfl rfl (TLe.refl _)) (by first | exact dlt rfl rfl | exact dno rfl) (by first | exact gno rfl | exact gyes rfl rfl rfl) pnil ?_)
    refine RunK.nil ?_
    refine hK _ _ ?_
    clear hK K
    refine AW.condT rfl ?_
    refine AW.trimk 8 ?_
    (repeat (first | refine TrimK.cons (v := .d _) rfl ?_ | refine TrimK.cons (v := .own _ _ _) rfl ?_ | refine TrimK.cons (v := .ref _ _) rfl ?_ | refine TrimK.cons (v := .fn _ _) rfl ?_ | refine TrimK.cons (v := .tup _) rfl ?_ | refine TrimK.cons (v := .mrow _ _) rfl ?_ | refine TrimK.cons (v := .pi _) rfl ?_ | refine TrimK.cons (v := .und) rfl ?_ | refine TrimK.cons rfl ?_))
    refine TrimK.nil ?_
    refine AW.seq_k fun K hK => ?_
    refine AW.reg0k ?_
    refine RunK.cons (t_callf rfl (enters_of Try.func6 rfl rfl) (by assumption) (by repeat (first | exact TLes.nil | refine TLes.cons (TLe.of_eq rfl) ?_ | refine TLes.cons TLe.own ?_ | refine TLes.cons TLe.nil ?_))) (by first | exact dlt rfl rfl | exact dno rfl) (by first | exact gno rfl | exact gyes rfl rfl rfl) pnil ?_
    refine RunK.cons (t_move rfl (TLe.refl _)) (by first | exact dlt rfl rfl | exact dno rfl) (by first | exact gno rfl | exact gyes rfl rfl rfl) pnil ?_
    (first | refine RunK.cons (t_load rfl (by assumption) rfl rfl) (by first | exact dlt rfl rfl | exact dno rfl) (by first | exact gno rfl | exact gyes rfl rfl rfl) pnil ?_ | refine RunK.cons (t_load_ref rfl (by assumption) rfl rfl) (by first | exact dlt rfl rfl | exact dno rfl) (by first | exact gno rfl | exact gyes rfl rfl rfl) (pone rfl) ?_ | refine RunK.cons (t_load_agg rfl (by assumption) rfl (Nat.le_of_ble_eq_true rfl)) (by first | exact dlt rfl rfl | exact dno rfl) (by first | exact gno rfl | exact gyes rfl rfl rfl) pnil ?_ | refine RunK.cons (t_load_refa rfl (by assumption) rfl rfl rfl) (by first | exact dlt rfl rfl | exact dno rfl) (by first | exact gno rfl | exact gyes rfl rfl rfl) (pone rfl) ?_ | refine RunK.skip (gskip rfl rfl rfl) (by first | exact dlt rfl rfl | exact dno rfl) ?_)
    (first | refine RunK.cons (t_len rfl (by assumption) (TLe.of_eq rfl)) (by first | exact dlt rfl rfl | exact dno rfl) (by first | exact gno rfl | exact gyes rfl rfl rfl) pnil ?_ | refine RunK.cons (t_len rfl (by assumption) TLe.own) (by first | exact dlt rfl rfl | exact dno rfl) (by first | exact gno rfl | exact gyes rfl rfl rfl) pnil ?_ | refine RunK.cons (t_len_str rfl (by assumption) rfl) (by first | exact dlt rfl rfl | exact dno rfl) (by first | exact gno rfl | exact gyes rfl rfl rfl) pnil ?_ | refine RunK.skip (gskip rfl rfl rfl) (by first | exact dlt rfl rfl | exact dno rfl) ?_)
    (first | refine RunK.cons (t_bin rfl rfl rfl (b_eql_t (by first | rfl | assumption | omega)) rfl) (by first | exact dlt rfl rfl | exact dno rfl) (by first | exact gno rfl | exact gyes rfl rfl rfl) pnil ?_ | refine RunK.cons (t_bin rfl rfl rfl (b_eql_f (by first | assumption | omega)) rfl) (by first | exact dlt rfl rfl | exact dno rfl) (by first | exact gno rfl | exact gyes rfl rfl rfl) pnil ?_ | refine RunK.cons (t_bin rfl rfl rfl (b_eql _ _ _ _) rfl) (by first | exact dlt rfl rfl | exact dno rfl) (by first | exact gno rfl | exact gyes rfl rfl rfl) pnil ?_ | refine RunK.cons (t_bin rfl rfl rfl (b_beql _ _ _ (by assumption)) rfl) (by first | exact dlt rfl rfl | exact dno rfl) (by first | exact gno rfl | exact gyes rfl rfl rfl) pnil ?_ | refine RunK.cons (t_bin rfl rfl rfl (b_seql _ _ _) rfl) (by first | exact dlt rfl rfl | exact dno rfl) (by first | exact gno rfl | exact gyes rfl rfl rfl) pnil ?_ | refine RunK.skip (gskip rfl rfl rfl) (by first | exact dlt rfl rfl | exact dno rfl) ?_)
    (first | refine RunK.cons (t_pick_t rfl rfl (TLe.refl _)) (by first | exact dlt rfl rfl | exact dno rfl) (by first | exact gno rfl | exact gyes rfl rfl rfl) pnil ?_ | refine RunK.cons (t_pick_f rfl rfl (TLe.refl _)) (by first | exact dlt rfl rfl | exact dno rfl) (by first | exact gno rfl | exact gyes rfl rfl rfl) pnil ?_)
    refine RunK.cons (t_assign rfl (TLe.refl _)) (by first | exact dlt rfl rfl | exact dno rfl) (by first | exact gno rfl | exact gyes rfl rfl rfl) pnil ?_
    refine RunK.nil ?_
    refine hK _ _ ?_
    clear hK K
    exact AW.ret ⟨.inl rfl, TLe.of_eq rfl⟩
theorem rankW_any {w : World} {p : Option Addr} {cap : Nat} {l : List Dp} (n : Int) (hS : Sl w 2 p l.length cap (dps l)) (hwf : ∀ x ∈ l, x.Wf) :
    Calls Try.prog 4 #[.slice p l.length cap, .int .i64 n] w fun e w' => e = .returned (.bool true) ∧ Below w.heap.size w w' :=
  (rankW_fn l n fun x hx => ⟨(hwf x hx).i, (hwf x hx).j⟩).top (.cons (.d (rep_sl hS (by simp) fun S => rep_dps S l)) (.cons (.d (.v rfl)) .nil))
end Go.Proofs.Ytfcimbhjoioinaa
