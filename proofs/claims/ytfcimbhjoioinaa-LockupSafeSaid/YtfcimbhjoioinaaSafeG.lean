/-
  LockupSafe: who takes locks in one order makes no ring.
-/
import Derived.Test.YtfcimbhjoioinaaRankG
import Derived.Test.YtfcimbhjoioinaaSafeL
namespace Go.Proofs.Ytfcimbhjoioinaa
open Go.RowKit

abbrev evD (e : Ev) : D := .agg [iD e.k, iD e.s, iD e.t, iD e.f, iD e.a, iD e.l, iD e.A, iD e.B, iD e.v1, iD e.v2, iD e.o1, iD e.o2]
theorem reps_iD (S : Sm) : ∀ l : List Int, RepDs S (l.map iD) (l.map fun x => .int .i64 x)
  | [] => .nil
  | _ :: l => .cons (.v rfl) rfl (reps_iD S l)
theorem rep_evs (S : Sm) : ∀ l : List Ev, RepLv S 12 (l.map evD) (evs l)
  | [] => .nil
  | e :: l => by
    rw [evs_cons]
    exact .cons (reps_iD S [e.k, e.s, e.t, e.f, e.a, e.l, e.A, e.B, e.v1, e.v2, e.o1, e.o2]) rfl (rep_evs S l)
theorem iD_of {S : Sm} : ∀ {l : List Int} {xs : List Value}, RepDs S (l.map iD) xs → xs = l.map fun x => .int .i64 x
  | [], _, h => by cases h; rfl
  | x :: l, _, h => by
    cases h with
    | cons h1 _ ht => cases h1; rw [iD_of ht]; rfl
theorem evs_of {S : Sm} : ∀ {l : List Ev} {xs : List Value}, RepLv S 12 (l.map evD) xs → xs = evs l
  | [], _, h => by cases h; rfl
  | e :: l, _, h => by
    rw [List.map_cons] at h
    cases h with
    | cons h hk ht =>
      have h1 := iD_of (l := [e.k, e.s, e.t, e.f, e.a, e.l, e.A, e.B, e.v1, e.v2, e.o1, e.o2]) h
      rw [evs_of ht, evs_cons, h1]; rfl
theorem order_fn (l : List Ev) (hl : l.length ≤ 200) (hwf : ∀ e ∈ l, (Lit.int .i64 e.t).wf = true ∧ (Lit.int .i64 e.A).wf = true) :
    FnD Try.prog 10 [.d (.sl 12 (l.map evD))] (.tup [.d (.sl 2 ((orderL l).map dpD)), .d (.v (.int .i64 0))]) := by
  intro w g vs hi hr
  cases hr with
  | cons h ht =>
    cases ht
    obtain ⟨p, cap, xs, rfl, hsl, hrep⟩ := sl_rep hi h
    rw [evs_of hrep, List.length_map] at hsl
    have C := order_own hsl hwf
    rw [show orderM l = (orderL l, 0) from by unfold orderM; rw [if_neg (by omega)]] at C
    rw [List.length_map]
    refine C.mono ?_
    rintro e w' ⟨q, c, rfl, hq, hqb, hb⟩
    exact ⟨_, behS g.S w w', rfl, behS_le w' hi, behS_old, behS_imm hi hb, .tup (.cons (.d (rep_new hq hqb (by simp) fun S => rep_dps S _)) (.cons (.d (.v rfl)) .nil)), hb⟩
theorem up_wf {p : Dp} (h : Up p) : (Lit.int .i64 p.i).wf = true ∧ (Lit.int .i64 p.j).wf = true := by
  unfold Up at h
  exact ⟨wf_few (by omega) (by omega), wf_few (by omega) (by omega)⟩
/-- What holds ahead of each round. -/
structure SafeI (L : List Ev) (k : Nat) : Prop where
  good : Good L
  len : L.length ≤ 6 * k
  pairs : (ordO L fun _ => []).length ≤ 9 * k
  wf : ∀ e ∈ L, (Lit.int .i64 e.t).wf = true ∧ (Lit.int .i64 e.A).wf = true
theorem safeI_next {L : List Ev} {k : Nat} (h : SafeI L k) {t : Int} (ht : 0 ≤ t ∧ t ≤ 3) {o : List Int} (hr : Rises o) (ho : o.length ≤ 3) : SafeI (L ++ o.map (lkE t) ++ o.map (frE t)) (k + 1) := by
  have h1 := h.len
  have h2 := h.pairs
  have h3 := group_len h.good t hr ho
  refine ⟨good_group h.good t hr, by simp; omega, by omega, fun e he => ?_⟩
  rcases List.mem_append.1 he with he | he
  · rcases List.mem_append.1 he with he | he
    · exact h.wf e he
    · obtain ⟨n, hn, rfl⟩ := List.mem_map.1 he
      have := hr.lo n hn
      exact ⟨wf_few (by show -1000 ≤ t; omega) (by show t ≤ 1000; omega), wf_few (by show -1000 ≤ n; omega) (by show n ≤ 1000; omega)⟩
  · obtain ⟨n, hn, rfl⟩ := List.mem_map.1 he
    have := hr.lo n hn
    exact ⟨wf_few (by show -1000 ≤ t; omega) (by show t ≤ 1000; omega), wf_few (by show -1000 ≤ n; omega) (by show n ≤ 1000; omega)⟩
theorem lk_snoc (L o : List _) (t m : Int) : (L ++ (o ++ [m]).map (lkE t)).map evD = (L ++ o.map (lkE t)).map evD ++ [evD (lkE t m)] := by simp
theorem fr_snoc (L : List Ev) (o : List Int) (t m : Int) : (L ++ (o ++ [m]).map (frE t)).map evD = (L ++ o.map (frE t)).map evD ++ [evD (frE t m)] := by simp
set_option maxHeartbeats 1000000 in
theorem safe_fn (who locks : List Int) : FnD Try.prog 5 [.d (isD who), .d (isD locks)] (.d (.v (.bool true))) := by
  have qag3 := ag3
  have qze3 := ze3
  have qag24 := ag24
  have qel24 := el24
  have qro24 := ro24
  have qze24 := ze24
  have qag28 := ag28
  have qel28 := el28
  have qro28 := ro28
  have qze28 := ze28
  have qag32 := ag32
  have qze32 := ze32
  have qfo32_0 := fo32_0
  have qfo32_1 := fo32_1
  have qpl32 := pl32
  have qag37 := ag37
  have qel37 := el37
  have qro37 := ro37
  have qze37 := ze37
  have qag41 := ag41
  have qze41 := ze41
  have qfo41_0 := fo41_0
  have qfo41_1 := fo41_1
  have qfo41_2 := fo41_2
  have qfo41_3 := fo41_3
  have qfo41_4 := fo41_4
  have qfo41_5 := fo41_5
  have qfo41_6 := fo41_6
  have qfo41_7 := fo41_7
  have qfo41_8 := fo41_8
  have qfo41_9 := fo41_9
  have qpl41 := pl41
  have hB := begun_fn
  have hcw : (who.map iD).length = who.length := by simp
  have hck : (locks.map iD).length = locks.length := by simp
  refine FnD.of_AW (n := 136) Try.func5 rfl rfl rfl (Nat.le_of_ble_eq_true rfl) (fun _ => rfl) fun Γ hX => ?_
  refine AW.len 0 1 (who.map iD) (TLe.of_eq rfl) fun hwl => ?_
  refine AW.len 1 1 (locks.map iD) (TLe.of_eq rfl) fun hll => ?_
  refine AW.seq_k fun K hK => ?_
  refine AW.reg0k ?_
  refine RunK.cons (t_assign rfl (TLe.refl _)) (by first | exact dlt rfl rfl | exact dno rfl) (by first | exact gno rfl | exact gyes rfl rfl rfl) pnil ?_
  refine RunK.nil ?_
  refine hK _ _ ?_
  clear hK K
  refine AW.seq_k fun K hK => ?_
  refine AW.seq_k fun K hK => ?_
  refine AW.reg0k ?_
  refine RunK.cons (t_callf rfl (enters_of Try.func6 rfl rfl) (by assumption) (by repeat (first | exact TLes.nil | refine TLes.cons (TLe.of_eq rfl) ?_ | refine TLes.cons TLe.own ?_ | refine TLes.cons TLe.nil ?_))) (by first | exact dlt rfl rfl | exact dno rfl) (by first | exact gno rfl | exact gyes rfl rfl rfl) pnil ?_
  (first | refine RunK.cons (t_not rfl rfl) (by first | exact dlt rfl rfl | exact dno rfl) (by first | exact gno rfl | exact gyes rfl rfl rfl) pnil ?_ | refine RunK.cons (t_neg rfl rfl) (by first | exact dlt rfl rfl | exact dno rfl) (by first | exact gno rfl | exact gyes rfl rfl rfl) pnil ?_)
  refine RunK.nil ?_
  refine hK _ _ ?_
  clear hK K
  refine AW.condF rfl ?_
  refine AW.skip (hK _ _ ?_)
  clear hK K
  refine AW.trimk 18 ?_
  (repeat (first | refine TrimK.cons (v := .d _) rfl ?_ | refine TrimK.cons (v := .own _ _ _) rfl ?_ | refine TrimK.cons (v := .ref _ _) rfl ?_ | refine TrimK.cons (v := .fn _ _) rfl ?_ | refine TrimK.cons (v := .tup _) rfl ?_ | refine TrimK.cons (v := .mrow _ _) rfl ?_ | refine TrimK.cons (v := .pi _) rfl ?_ | refine TrimK.cons (v := .und) rfl ?_ | refine TrimK.cons rfl ?_))
  refine TrimK.nil ?_
  refine AW.seq_k fun K hK => ?_
  refine AW.vac 5 rfl (by repeat (first | exact fresh_env rfl | refine fresh_upd rfl ?_)) (by repeat (first | exact freshO_nil | refine freshO_cons rfl ?_ | refine freshO_ovr (freshO_cons rfl freshO_nil) ?_ | refine freshO_ovr freshO_nil ?_)) ?_
  refine AW.reg0k ?_
  (first | refine RunK.cons (t_nilrow (c := 5) (k := 12) (e := 41) rfl rfl) (by first | exact dlt rfl rfl | exact dno rfl) (by first | exact gno rfl | exact gyes rfl rfl rfl) (pone rfl) ?_ | refine RunK.cons (t_assign rfl (TLe.refl _)) (by first | exact dlt rfl rfl | exact dno rfl) (by first | exact gno rfl | exact gyes rfl rfl rfl) pnil ?_)
  refine RunK.nil ?_
  refine hK _ _ ?_
  clear hK K
  refine AW.seq_k fun K hK => ?_
  refine AW.seq_k fun K hK => ?_
  refine AW.reg0k ?_
  refine RunK.cons (t_assign rfl (TLe.refl _)) (by first | exact dlt rfl rfl | exact dno rfl) (by first | exact gno rfl | exact gyes rfl rfl rfl) pnil ?_
  refine RunK.nil ?_
  refine hK _ _ ?_
  clear hK K
  refine AW.block ?_
  refine AW.loop (fun x : Nat × List D => x.1 ≤ who.length ∧ x.1 ≤ 20 ∧ ∃ L, SafeI L x.1 ∧ x.2 = L.map evD) (fun x => envL [.d (isD who), .d (isD locks), .und, .und, .und, .own 12 x.2 5, .d (.v (.int .i64 x.1))]) (fun x => objL [(5, .row 41 12 x.2)]) (fun x => who.length - x.1) (0, []) ⟨Nat.zero_le _, Nat.zero_le _, [], ⟨good_nil, Nat.zero_le _, Nat.zero_le _, fun e h => by cases h⟩, rfl⟩ ?_ ?_ ?_
  · exact Trim.all (by
    (repeat (first | exact Trim.nil | refine Trim.le (TLe.und _) ?_ | refine Trim.to rfl ?_ | refine Trim.le TLe.own ?_ | refine Trim.le TLe.nil ?_))
    )
  · exact objL_sub (pone rfl)
  · rintro ⟨k, dl⟩ ⟨hk, hk20, L, hL, hdl⟩
    dsimp only at hk hk20 hL hdl ⊢
    have hdlen : dl.length ≤ 120 := by rw [hdl]; have := hL.len; simp; omega
    by_cases hlt : k < who.length ∧ k < 20
    · obtain ⟨h1, h2⟩ := hlt
      have hx1 : (who.map iD)[k]? = some (iD (who.getD k 0)) := by simp [h1]
      have htb := andI_bd (who.getD k 0) 3 (by decide)
      refine AW.seq_k fun K2 hK2 => ?_
      refine AW.seq_k fun K hK => ?_
      refine AW.reg0k ?_
      refine RunK.cons (t_move rfl (TLe.refl _)) (by first | exact dlt rfl rfl | exact dno rfl) (by first | exact gno rfl | exact gyes rfl rfl rfl) pnil ?_
      refine RunK.cons (t_move rfl (TLe.refl _)) (by first | exact dlt rfl rfl | exact dno rfl) (by first | exact gno rfl | exact gyes rfl rfl rfl) pnil ?_
      (first | refine RunK.cons (t_len rfl (by assumption) (TLe.of_eq rfl)) (by first | exact dlt rfl rfl | exact dno rfl) (by first | exact gno rfl | exact gyes rfl rfl rfl) pnil ?_ | refine RunK.cons (t_len rfl (by assumption) TLe.own) (by first | exact dlt rfl rfl | exact dno rfl) (by first | exact gno rfl | exact gyes rfl rfl rfl) pnil ?_ | refine RunK.cons (t_len_str rfl (by assumption) rfl) (by first | exact dlt rfl rfl | exact dno rfl) (by first | exact gno rfl | exact gyes rfl rfl rfl) pnil ?_)
      (first | refine RunK.cons (t_bin rfl rfl rfl (b_lss_t (by omega)) rfl) (by first | exact dlt rfl rfl | exact dno rfl) (by first | exact gno rfl | exact gyes rfl rfl rfl) pnil ?_ | refine RunK.cons (t_bin rfl rfl rfl (b_lss_f (by omega)) rfl) (by first | exact dlt rfl rfl | exact dno rfl) (by first | exact gno rfl | exact gyes rfl rfl rfl) pnil ?_ | refine RunK.cons (t_bin rfl rfl rfl (b_lss _ _ _ _) rfl) (by first | exact dlt rfl rfl | exact dno rfl) (by first | exact gno rfl | exact gyes rfl rfl rfl) pnil ?_)
      refine RunK.cons (t_move rfl (TLe.refl _)) (by first | exact dlt rfl rfl | exact dno rfl) (by first | exact gno rfl | exact gyes rfl rfl rfl) pnil ?_
      (first | refine RunK.cons (t_move rfl (TLe.refl _)) (by first | exact dlt rfl rfl | exact dno rfl) (by first | exact gno rfl | exact gyes rfl rfl rfl) pnil ?_ | refine RunK.skip (gskip rfl rfl rfl) (by first | exact dlt rfl rfl | exact dno rfl) ?_)
      (first | refine RunK.cons (t_bin rfl rfl rfl (b_lss_t (by omega)) rfl) (by first | exact dlt rfl rfl | exact dno rfl) (by first | exact gno rfl | exact gyes rfl rfl rfl) pnil ?_ | refine RunK.cons (t_bin rfl rfl rfl (b_lss_f (by omega)) rfl) (by first | exact dlt rfl rfl | exact dno rfl) (by first | exact gno rfl | exact gyes rfl rfl rfl) pnil ?_ | refine RunK.cons (t_bin rfl rfl rfl (b_lss _ _ _ _) rfl) (by first | exact dlt rfl rfl | exact dno rfl) (by first | exact gno rfl | exact gyes rfl rfl rfl) pnil ?_ | refine RunK.skip (gskip rfl rfl rfl) (by first | exact dlt rfl rfl | exact dno rfl) ?_)
      (first | refine RunK.cons (t_pick_t rfl rfl (TLe.refl _)) (by first | exact dlt rfl rfl | exact dno rfl) (by first | exact gno rfl | exact gyes rfl rfl rfl) pnil ?_ | refine RunK.cons (t_pick_f rfl rfl (TLe.refl _)) (by first | exact dlt rfl rfl | exact dno rfl) (by first | exact gno rfl | exact gyes rfl rfl rfl) pnil ?_)
      refine RunK.nil ?_
      refine hK _ _ ?_
      clear hK K
      refine AW.condT rfl ?_
      refine AW.skip (hK2 _ _ ?_)
      clear hK2 K2
      refine AW.seq_k fun K3 hK3 => ?_
      refine AW.block ?_
      refine AW.trimk 7 ?_
      (repeat (first | refine TrimK.cons (v := .d _) rfl ?_ | refine TrimK.cons (v := .own _ _ _) rfl ?_ | refine TrimK.cons (v := .ref _ _) rfl ?_ | refine TrimK.cons (v := .fn _ _) rfl ?_ | refine TrimK.cons (v := .tup _) rfl ?_ | refine TrimK.cons (v := .mrow _ _) rfl ?_ | refine TrimK.cons (v := .pi _) rfl ?_ | refine TrimK.cons (v := .und) rfl ?_ | refine TrimK.cons rfl ?_))
      refine TrimK.nil ?_
      refine AW.seq_k fun K hK => ?_
      refine AW.reg0k ?_
      refine RunK.cons (t_move rfl (TLe.refl _)) (by first | exact dlt rfl rfl | exact dno rfl) (by first | exact gno rfl | exact gyes rfl rfl rfl) pnil ?_
      refine RunK.cons (t_move rfl (TLe.refl _)) (by first | exact dlt rfl rfl | exact dno rfl) (by first | exact gno rfl | exact gyes rfl rfl rfl) pnil ?_
      (first | refine RunK.cons (t_index rfl (by assumption) (TLe.of_eq rfl) rfl (by assumption) (by decide)) (by first | exact dlt rfl rfl | exact dno rfl) (by first | exact gno rfl | exact gyes rfl rfl rfl) pnil ?_ | refine RunK.cons (t_index rfl (by assumption) TLe.own rfl (by assumption) (by decide)) (by first | exact dlt rfl rfl | exact dno rfl) (by first | exact gno rfl | exact gyes rfl rfl rfl) pnil ?_)
      (first | refine RunK.cons (t_load rfl (by assumption) rfl rfl) (by first | exact dlt rfl rfl | exact dno rfl) (by first | exact gno rfl | exact gyes rfl rfl rfl) pnil ?_ | refine RunK.cons (t_load_ref rfl (by assumption) rfl rfl) (by first | exact dlt rfl rfl | exact dno rfl) (by first | exact gno rfl | exact gyes rfl rfl rfl) (pone rfl) ?_ | refine RunK.cons (t_load_agg rfl (by assumption) rfl (Nat.le_of_ble_eq_true rfl)) (by first | exact dlt rfl rfl | exact dno rfl) (by first | exact gno rfl | exact gyes rfl rfl rfl) pnil ?_ | refine RunK.cons (t_load_refa rfl (by assumption) rfl rfl rfl) (by first | exact dlt rfl rfl | exact dno rfl) (by first | exact gno rfl | exact gyes rfl rfl rfl) (pone rfl) ?_)
      (first | refine RunK.cons (t_bin rfl rfl rfl (b_andm 3 rfl) rfl) (by first | exact dlt rfl rfl | exact dno rfl) (by first | exact gno rfl | exact gyes rfl rfl rfl) pnil ?_ | refine RunK.cons (t_bin rfl rfl rfl (b_and _ _ _ _) rfl) (by first | exact dlt rfl rfl | exact dno rfl) (by first | exact gno rfl | exact gyes rfl rfl rfl) pnil ?_)
      refine RunK.cons (t_assign rfl (TLe.refl _)) (by first | exact dlt rfl rfl | exact dno rfl) (by first | exact gno rfl | exact gyes rfl rfl rfl) pnil ?_
      refine RunK.nil ?_
      refine hK _ _ ?_
      clear hK K
      clear hx1
      generalize andI (who.getD k 0) 3 = t at *
      refine AW.trimk 8 ?_
      (repeat (first | refine TrimK.cons (v := .d _) rfl ?_ | refine TrimK.cons (v := .own _ _ _) rfl ?_ | refine TrimK.cons (v := .ref _ _) rfl ?_ | refine TrimK.cons (v := .fn _ _) rfl ?_ | refine TrimK.cons (v := .tup _) rfl ?_ | refine TrimK.cons (v := .mrow _ _) rfl ?_ | refine TrimK.cons (v := .pi _) rfl ?_ | refine TrimK.cons (v := .und) rfl ?_ | refine TrimK.cons rfl ?_))
      refine TrimK.nil ?_
      refine AW.seq_k fun K hK => ?_
      refine AW.vac 8 rfl (by repeat (first | exact fresh_env rfl | refine fresh_upd rfl ?_)) (by repeat (first | exact freshO_nil | refine freshO_cons rfl ?_ | refine freshO_ovr (freshO_cons rfl freshO_nil) ?_ | refine freshO_ovr freshO_nil ?_)) ?_
      refine AW.reg0k ?_
      (first | refine RunK.cons (t_nilrow (c := 8) (k := 1) (e := 3) rfl rfl) (by first | exact dlt rfl rfl | exact dno rfl) (by first | exact gno rfl | exact gyes rfl rfl rfl) (pone rfl) ?_ | refine RunK.cons (t_assign rfl (TLe.refl _)) (by first | exact dlt rfl rfl | exact dno rfl) (by first | exact gno rfl | exact gyes rfl rfl rfl) pnil ?_)
      refine RunK.nil ?_
      refine hK _ _ ?_
      clear hK K
      refine AW.seq_k fun K4 hK4 => ?_
      refine AW.seq_k fun K hK => ?_
      refine AW.reg0k ?_
      refine RunK.cons (t_move rfl (TLe.refl _)) (by first | exact dlt rfl rfl | exact dno rfl) (by first | exact gno rfl | exact gyes rfl rfl rfl) pnil ?_
      refine RunK.cons (t_assign rfl (TLe.refl _)) (by first | exact dlt rfl rfl | exact dno rfl) (by first | exact gno rfl | exact gyes rfl rfl rfl) pnil ?_
      refine RunK.nil ?_
      refine hK _ _ ?_
      clear hK K
      refine AW.block ?_
      refine AW.loop (fun x : Nat × List D × List D => k ≤ x.1 ∧ x.1 ≤ k + 3 ∧ ∃ o : List Int, Rises o ∧ x.2.1 = o.map iD ∧ x.2.2 = (L ++ o.map (lkE t)).map evD ∧ o.length + k ≤ x.1) (fun x => envL [.d (isD who), .d (isD locks), .und, .und, .und, .own 12 x.2.2 5, .d (.v (.int .i64 k)), .d (.v (.int .i64 t)), .own 1 x.2.1 8, .d (.v (.int .i64 x.1))]) (fun x => objL [(5, .row 41 12 x.2.2), (8, .row 3 1 x.2.1)]) (fun x => k + 3 - x.1) (k, [], dl) ⟨Nat.le_refl _, Nat.le_add_right _ _, [], rises_nil, rfl, by rw [hdl]; simp, by simp⟩ ?_ ?_ ?_
      · exact Trim.all (by
        (repeat (first | exact Trim.nil | refine Trim.le (TLe.und _) ?_ | refine Trim.to rfl ?_ | refine Trim.le TLe.own ?_ | refine Trim.le TLe.nil ?_))
        )
      · exact objL_sub (ptwo rfl rfl)
      · rintro ⟨j, od, dl1⟩ ⟨hj1, hj2, o, hr, hod, hdl1, hol⟩
        dsimp only at hj1 hj2 hod hdl1 hol ⊢
        have hodl : od.length = o.length := by rw [hod]; simp
        have hd1 : dl1.length ≤ 130 := by rw [hdl1]; have := hL.len; simp; omega
        by_cases hlt : j < locks.length ∧ j < k + 3
        · obtain ⟨h3, h4⟩ := hlt
          have hx1 : (locks.map iD)[j]? = some (iD (locks.getD j 0)) := by simp [h3]
          have hnb := andI_bd (locks.getD j 0) 15 (by decide)
          refine AW.seq_k fun K2 hK2 => ?_
          refine AW.seq_k fun K hK => ?_
          refine AW.reg0k ?_
          refine RunK.cons (t_move rfl (TLe.refl _)) (by first | exact dlt rfl rfl | exact dno rfl) (by first | exact gno rfl | exact gyes rfl rfl rfl) pnil ?_
          refine RunK.cons (t_move rfl (TLe.refl _)) (by first | exact dlt rfl rfl | exact dno rfl) (by first | exact gno rfl | exact gyes rfl rfl rfl) pnil ?_
          (first | refine RunK.cons (t_len rfl (by assumption) (TLe.of_eq rfl)) (by first | exact dlt rfl rfl | exact dno rfl) (by first | exact gno rfl | exact gyes rfl rfl rfl) pnil ?_ | refine RunK.cons (t_len rfl (by assumption) TLe.own) (by first | exact dlt rfl rfl | exact dno rfl) (by first | exact gno rfl | exact gyes rfl rfl rfl) pnil ?_ | refine RunK.cons (t_len_str rfl (by assumption) rfl) (by first | exact dlt rfl rfl | exact dno rfl) (by first | exact gno rfl | exact gyes rfl rfl rfl) pnil ?_)
          (first | refine RunK.cons (t_bin rfl rfl rfl (b_lss_t (by omega)) rfl) (by first | exact dlt rfl rfl | exact dno rfl) (by first | exact gno rfl | exact gyes rfl rfl rfl) pnil ?_ | refine RunK.cons (t_bin rfl rfl rfl (b_lss_f (by omega)) rfl) (by first | exact dlt rfl rfl | exact dno rfl) (by first | exact gno rfl | exact gyes rfl rfl rfl) pnil ?_ | refine RunK.cons (t_bin rfl rfl rfl (b_lss _ _ _ _) rfl) (by first | exact dlt rfl rfl | exact dno rfl) (by first | exact gno rfl | exact gyes rfl rfl rfl) pnil ?_)
          refine RunK.cons (t_move rfl (TLe.refl _)) (by first | exact dlt rfl rfl | exact dno rfl) (by first | exact gno rfl | exact gyes rfl rfl rfl) pnil ?_
          (first | refine RunK.cons (t_move rfl (TLe.refl _)) (by first | exact dlt rfl rfl | exact dno rfl) (by first | exact gno rfl | exact gyes rfl rfl rfl) pnil ?_ | refine RunK.skip (gskip rfl rfl rfl) (by first | exact dlt rfl rfl | exact dno rfl) ?_)
          (first | refine RunK.cons (t_move rfl (TLe.refl _)) (by first | exact dlt rfl rfl | exact dno rfl) (by first | exact gno rfl | exact gyes rfl rfl rfl) pnil ?_ | refine RunK.skip (gskip rfl rfl rfl) (by first | exact dlt rfl rfl | exact dno rfl) ?_)
          (first | refine RunK.cons (t_bin rfl rfl rfl (b_inc (by omega)) rfl) (by first | exact dlt rfl rfl | exact dno rfl) (by first | exact gno rfl | exact gyes rfl rfl rfl) pnil ?_ | refine RunK.cons (t_bin rfl rfl rfl (b_addn (by omega) (by omega)) rfl) (by first | exact dlt rfl rfl | exact dno rfl) (by first | exact gno rfl | exact gyes rfl rfl rfl) pnil ?_ | refine RunK.cons (t_bin rfl rfl rfl (b_add _ _ _ _) rfl) (by first | exact dlt rfl rfl | exact dno rfl) (by first | exact gno rfl | exact gyes rfl rfl rfl) pnil ?_ | refine RunK.skip (gskip rfl rfl rfl) (by first | exact dlt rfl rfl | exact dno rfl) ?_)
          (first | refine RunK.cons (t_bin rfl rfl rfl (b_lss_t (by omega)) rfl) (by first | exact dlt rfl rfl | exact dno rfl) (by first | exact gno rfl | exact gyes rfl rfl rfl) pnil ?_ | refine RunK.cons (t_bin rfl rfl rfl (b_lss_f (by omega)) rfl) (by first | exact dlt rfl rfl | exact dno rfl) (by first | exact gno rfl | exact gyes rfl rfl rfl) pnil ?_ | refine RunK.cons (t_bin rfl rfl rfl (b_lss _ _ _ _) rfl) (by first | exact dlt rfl rfl | exact dno rfl) (by first | exact gno rfl | exact gyes rfl rfl rfl) pnil ?_ | refine RunK.skip (gskip rfl rfl rfl) (by first | exact dlt rfl rfl | exact dno rfl) ?_)
          (first | refine RunK.cons (t_pick_t rfl rfl (TLe.refl _)) (by first | exact dlt rfl rfl | exact dno rfl) (by first | exact gno rfl | exact gyes rfl rfl rfl) pnil ?_ | refine RunK.cons (t_pick_f rfl rfl (TLe.refl _)) (by first | exact dlt rfl rfl | exact dno rfl) (by first | exact gno rfl | exact gyes rfl rfl rfl) pnil ?_)
          refine RunK.nil ?_
          refine hK _ _ ?_
          clear hK K
          refine AW.condT rfl ?_
          refine AW.skip (hK2 _ _ ?_)
          clear hK2 K2
          refine AW.seq_k fun K5 hK5 => ?_
          refine AW.block ?_
          refine AW.trimk 10 ?_
          (repeat (first | refine TrimK.cons (v := .d _) rfl ?_ | refine TrimK.cons (v := .own _ _ _) rfl ?_ | refine TrimK.cons (v := .ref _ _) rfl ?_ | refine TrimK.cons (v := .fn _ _) rfl ?_ | refine TrimK.cons (v := .tup _) rfl ?_ | refine TrimK.cons (v := .mrow _ _) rfl ?_ | refine TrimK.cons (v := .pi _) rfl ?_ | refine TrimK.cons (v := .und) rfl ?_ | refine TrimK.cons rfl ?_))
          refine TrimK.nil ?_
          refine AW.seq_k fun K hK => ?_
          refine AW.reg0k ?_
          refine RunK.cons (t_move rfl (TLe.refl _)) (by first | exact dlt rfl rfl | exact dno rfl) (by first | exact gno rfl | exact gyes rfl rfl rfl) pnil ?_
          refine RunK.cons (t_move rfl (TLe.refl _)) (by first | exact dlt rfl rfl | exact dno rfl) (by first | exact gno rfl | exact gyes rfl rfl rfl) pnil ?_
          (first | refine RunK.cons (t_index rfl (by assumption) (TLe.of_eq rfl) rfl (by assumption) (by decide)) (by first | exact dlt rfl rfl | exact dno rfl) (by first | exact gno rfl | exact gyes rfl rfl rfl) pnil ?_ | refine RunK.cons (t_index rfl (by assumption) TLe.own rfl (by assumption) (by decide)) (by first | exact dlt rfl rfl | exact dno rfl) (by first | exact gno rfl | exact gyes rfl rfl rfl) pnil ?_)
          (first | refine RunK.cons (t_load rfl (by assumption) rfl rfl) (by first | exact dlt rfl rfl | exact dno rfl) (by first | exact gno rfl | exact gyes rfl rfl rfl) pnil ?_ | refine RunK.cons (t_load_ref rfl (by assumption) rfl rfl) (by first | exact dlt rfl rfl | exact dno rfl) (by first | exact gno rfl | exact gyes rfl rfl rfl) (pone rfl) ?_ | refine RunK.cons (t_load_agg rfl (by assumption) rfl (Nat.le_of_ble_eq_true rfl)) (by first | exact dlt rfl rfl | exact dno rfl) (by first | exact gno rfl | exact gyes rfl rfl rfl) pnil ?_ | refine RunK.cons (t_load_refa rfl (by assumption) rfl rfl rfl) (by first | exact dlt rfl rfl | exact dno rfl) (by first | exact gno rfl | exact gyes rfl rfl rfl) (pone rfl) ?_)
          (first | refine RunK.cons (t_bin rfl rfl rfl (b_andm 15 rfl) rfl) (by first | exact dlt rfl rfl | exact dno rfl) (by first | exact gno rfl | exact gyes rfl rfl rfl) pnil ?_ | refine RunK.cons (t_bin rfl rfl rfl (b_and _ _ _ _) rfl) (by first | exact dlt rfl rfl | exact dno rfl) (by first | exact gno rfl | exact gyes rfl rfl rfl) pnil ?_)
          refine RunK.cons (t_assign rfl (TLe.refl _)) (by first | exact dlt rfl rfl | exact dno rfl) (by first | exact gno rfl | exact gyes rfl rfl rfl) pnil ?_
          refine RunK.nil ?_
          refine hK _ _ ?_
          clear hK K
          clear hx1
          generalize andI (locks.getD j 0) 15 = m at *
          refine AW.trimk 11 ?_
          (repeat (first | refine TrimK.cons (v := .d _) rfl ?_ | refine TrimK.cons (v := .own _ _ _) rfl ?_ | refine TrimK.cons (v := .ref _ _) rfl ?_ | refine TrimK.cons (v := .fn _ _) rfl ?_ | refine TrimK.cons (v := .tup _) rfl ?_ | refine TrimK.cons (v := .mrow _ _) rfl ?_ | refine TrimK.cons (v := .pi _) rfl ?_ | refine TrimK.cons (v := .und) rfl ?_ | refine TrimK.cons rfl ?_))
          refine TrimK.nil ?_
          by_cases ho : o.length = 0
          · obtain rfl := List.length_eq_zero_iff.1 ho
            have hr2 := rises_snoc hr hnb (fun x hx => by cases hx)
            refine AW.seq_k fun K hK => ?_
            refine AW.reg0k ?_
            refine RunK.cons (t_move rfl (TLe.refl _)) (by first | exact dlt rfl rfl | exact dno rfl) (by first | exact gno rfl | exact gyes rfl rfl rfl) pnil ?_
            (first | refine RunK.cons (t_len rfl (by assumption) (TLe.of_eq rfl)) (by first | exact dlt rfl rfl | exact dno rfl) (by first | exact gno rfl | exact gyes rfl rfl rfl) pnil ?_ | refine RunK.cons (t_len rfl (by assumption) TLe.own) (by first | exact dlt rfl rfl | exact dno rfl) (by first | exact gno rfl | exact gyes rfl rfl rfl) pnil ?_ | refine RunK.cons (t_len_str rfl (by assumption) rfl) (by first | exact dlt rfl rfl | exact dno rfl) (by first | exact gno rfl | exact gyes rfl rfl rfl) pnil ?_)
            (first | refine RunK.cons (t_bin rfl rfl rfl (b_eql_t (by first | rfl | assumption | omega)) rfl) (by first | exact dlt rfl rfl | exact dno rfl) (by first | exact gno rfl | exact gyes rfl rfl rfl) pnil ?_ | refine RunK.cons (t_bin rfl rfl rfl (b_eql_f (by first | assumption | omega)) rfl) (by first | exact dlt rfl rfl | exact dno rfl) (by first | exact gno rfl | exact gyes rfl rfl rfl) pnil ?_ | refine RunK.cons (t_bin rfl rfl rfl (b_eql _ _ _ _) rfl) (by first | exact dlt rfl rfl | exact dno rfl) (by first | exact gno rfl | exact gyes rfl rfl rfl) pnil ?_ | refine RunK.cons (t_bin rfl rfl rfl (b_beql _ _ _ (by assumption)) rfl) (by first | exact dlt rfl rfl | exact dno rfl) (by first | exact gno rfl | exact gyes rfl rfl rfl) pnil ?_ | refine RunK.cons (t_bin rfl rfl rfl (b_seql _ _ _) rfl) (by first | exact dlt rfl rfl | exact dno rfl) (by first | exact gno rfl | exact gyes rfl rfl rfl) pnil ?_)
            refine RunK.cons (t_move rfl (TLe.refl _)) (by first | exact dlt rfl rfl | exact dno rfl) (by first | exact gno rfl | exact gyes rfl rfl rfl) pnil ?_
            (first | refine RunK.cons (t_move rfl (TLe.refl _)) (by first | exact dlt rfl rfl | exact dno rfl) (by first | exact gno rfl | exact gyes rfl rfl rfl) pnil ?_ | refine RunK.skip (gskip rfl rfl rfl) (by first | exact dlt rfl rfl | exact dno rfl) ?_)
            (first | refine RunK.cons (t_move rfl (TLe.refl _)) (by first | exact dlt rfl rfl | exact dno rfl) (by first | exact gno rfl | exact gyes rfl rfl rfl) pnil ?_ | refine RunK.skip (gskip rfl rfl rfl) (by first | exact dlt rfl rfl | exact dno rfl) ?_)
            (first | refine RunK.cons (t_move rfl (TLe.refl _)) (by first | exact dlt rfl rfl | exact dno rfl) (by first | exact gno rfl | exact gyes rfl rfl rfl) pnil ?_ | refine RunK.skip (gskip rfl rfl rfl) (by first | exact dlt rfl rfl | exact dno rfl) ?_)
            (first | refine RunK.cons (t_len rfl (by assumption) (TLe.of_eq rfl)) (by first | exact dlt rfl rfl | exact dno rfl) (by first | exact gno rfl | exact gyes rfl rfl rfl) pnil ?_ | refine RunK.cons (t_len rfl (by assumption) TLe.own) (by first | exact dlt rfl rfl | exact dno rfl) (by first | exact gno rfl | exact gyes rfl rfl rfl) pnil ?_ | refine RunK.cons (t_len_str rfl (by assumption) rfl) (by first | exact dlt rfl rfl | exact dno rfl) (by first | exact gno rfl | exact gyes rfl rfl rfl) pnil ?_ | refine RunK.skip (gskip rfl rfl rfl) (by first | exact dlt rfl rfl | exact dno rfl) ?_)
            (first | refine RunK.cons (t_bin rfl rfl rfl (b_dec (by omega) (by omega)) rfl) (by first | exact dlt rfl rfl | exact dno rfl) (by first | exact gno rfl | exact gyes rfl rfl rfl) pnil ?_ | refine RunK.cons (t_bin rfl rfl rfl (b_subn (by omega) (by omega)) rfl) (by first | exact dlt rfl rfl | exact dno rfl) (by first | exact gno rfl | exact gyes rfl rfl rfl) pnil ?_ | refine RunK.cons (t_bin rfl rfl rfl (b_sub _ _ _ _) rfl) (by first | exact dlt rfl rfl | exact dno rfl) (by first | exact gno rfl | exact gyes rfl rfl rfl) pnil ?_ | refine RunK.skip (gskip rfl rfl rfl) (by first | exact dlt rfl rfl | exact dno rfl) ?_)
            (first | refine RunK.cons (t_index rfl (by assumption) (TLe.of_eq rfl) rfl (by assumption) (by decide)) (by first | exact dlt rfl rfl | exact dno rfl) (by first | exact gno rfl | exact gyes rfl rfl rfl) pnil ?_ | refine RunK.cons (t_index rfl (by assumption) TLe.own rfl (by assumption) (by decide)) (by first | exact dlt rfl rfl | exact dno rfl) (by first | exact gno rfl | exact gyes rfl rfl rfl) pnil ?_ | refine RunK.skip (gskip rfl rfl rfl) (by first | exact dlt rfl rfl | exact dno rfl) ?_)
            (first | refine RunK.cons (t_load rfl (by assumption) rfl rfl) (by first | exact dlt rfl rfl | exact dno rfl) (by first | exact gno rfl | exact gyes rfl rfl rfl) pnil ?_ | refine RunK.cons (t_load_ref rfl (by assumption) rfl rfl) (by first | exact dlt rfl rfl | exact dno rfl) (by first | exact gno rfl | exact gyes rfl rfl rfl) (pone rfl) ?_ | refine RunK.cons (t_load_agg rfl (by assumption) rfl (Nat.le_of_ble_eq_true rfl)) (by first | exact dlt rfl rfl | exact dno rfl) (by first | exact gno rfl | exact gyes rfl rfl rfl) pnil ?_ | refine RunK.cons (t_load_refa rfl (by assumption) rfl rfl rfl) (by first | exact dlt rfl rfl | exact dno rfl) (by first | exact gno rfl | exact gyes rfl rfl rfl) (pone rfl) ?_ | refine RunK.skip (gskip rfl rfl rfl) (by first | exact dlt rfl rfl | exact dno rfl) ?_)
            (first | refine RunK.cons (t_bin rfl rfl rfl (b_gtr_t (by omega)) rfl) (by first | exact dlt rfl rfl | exact dno rfl) (by first | exact gno rfl | exact gyes rfl rfl rfl) pnil ?_ | refine RunK.cons (t_bin rfl rfl rfl (b_gtr_f (by omega)) rfl) (by first | exact dlt rfl rfl | exact dno rfl) (by first | exact gno rfl | exact gyes rfl rfl rfl) pnil ?_ | refine RunK.cons (t_bin rfl rfl rfl (b_gtr _ _ _ _) rfl) (by first | exact dlt rfl rfl | exact dno rfl) (by first | exact gno rfl | exact gyes rfl rfl rfl) pnil ?_ | refine RunK.skip (gskip rfl rfl rfl) (by first | exact dlt rfl rfl | exact dno rfl) ?_)
            (first | refine RunK.cons (t_pick_t rfl rfl (TLe.refl _)) (by first | exact dlt rfl rfl | exact dno rfl) (by first | exact gno rfl | exact gyes rfl rfl rfl) pnil ?_ | refine RunK.cons (t_pick_f rfl rfl (TLe.refl _)) (by first | exact dlt rfl rfl | exact dno rfl) (by first | exact gno rfl | exact gyes rfl rfl rfl) pnil ?_)
            refine RunK.nil ?_
            refine hK _ _ ?_
            clear hK K
            refine AW.condT rfl ?_
            refine AW.trimk 11 ?_
            (repeat (first | refine TrimK.cons (v := .d _) rfl ?_ | refine TrimK.cons (v := .own _ _ _) rfl ?_ | refine TrimK.cons (v := .ref _ _) rfl ?_ | refine TrimK.cons (v := .fn _ _) rfl ?_ | refine TrimK.cons (v := .tup _) rfl ?_ | refine TrimK.cons (v := .mrow _ _) rfl ?_ | refine TrimK.cons (v := .pi _) rfl ?_ | refine TrimK.cons (v := .und) rfl ?_ | refine TrimK.cons rfl ?_))
            refine TrimK.nil ?_
            refine AW.seq_k fun K hK => ?_
            refine AW.reg0k ?_
            refine RunK.cons (t_move rfl (TLe.refl _)) (by first | exact dlt rfl rfl | exact dno rfl) (by first | exact gno rfl | exact gyes rfl rfl rfl) pnil ?_
            refine RunK.cons (t_move rfl (TLe.refl _)) (by first | exact dlt rfl rfl | exact dno rfl) (by first | exact gno rfl | exact gyes rfl rfl rfl) pnil ?_
            (first | refine RunK.cons (t_sfull (e := 3) (k := 1) rfl (by assumption) (by assumption) (Full.cons (TLe.of_eq rfl) (Full.nil)) (by decide) (by decide) rfl (all_cons rfl (all_nil)) (by decide)) (by first | exact dlt rfl rfl | exact dno rfl) (by first | exact gno rfl | exact gyes rfl rfl rfl) pnil ?_ | refine RunK.cons (t_sfull (e := 3) (k := 1) rfl (by assumption) (by assumption) (Full.cons (TLe.own) (Full.nil)) (by decide) (by decide) rfl (all_cons rfl (all_nil)) (by decide)) (by first | exact dlt rfl rfl | exact dno rfl) (by first | exact gno rfl | exact gyes rfl rfl rfl) pnil ?_)
            (first | refine RunK.cons (t_append rfl (by assumption) rfl (TLe.of_eq rfl) (by first | omega | (simp; omega))) (by first | exact dlt rfl rfl | exact dno rfl) (by first | exact gno rfl | exact gyes rfl rfl rfl) (pone rfl) ?_ | refine RunK.cons (t_append rfl (by assumption) rfl TLe.own (by first | omega | (simp; omega))) (by first | exact dlt rfl rfl | exact dno rfl) (by first | exact gno rfl | exact gyes rfl rfl rfl) (pone rfl) ?_)
            (first | refine RunK.cons (t_nilrow (c := 8) (k := 1) (e := 3) rfl rfl) (by first | exact dlt rfl rfl | exact dno rfl) (by first | exact gno rfl | exact gyes rfl rfl rfl) (pone rfl) ?_ | refine RunK.cons (t_assign rfl (TLe.refl _)) (by first | exact dlt rfl rfl | exact dno rfl) (by first | exact gno rfl | exact gyes rfl rfl rfl) pnil ?_)
            refine RunK.nil ?_
            refine hK _ _ ?_
            clear hK K
            refine AW.reg0k ?_
            refine RunK.cons (t_move rfl (TLe.refl _)) (by first | exact dlt rfl rfl | exact dno rfl) (by first | exact gno rfl | exact gyes rfl rfl rfl) pnil ?_
            refine RunK.cons (t_move rfl (TLe.refl _)) (by first | exact dlt rfl rfl | exact dno rfl) (by first | exact gno rfl | exact gyes rfl rfl rfl) pnil ?_
            refine RunK.cons (t_move rfl (TLe.refl _)) (by first | exact dlt rfl rfl | exact dno rfl) (by first | exact gno rfl | exact gyes rfl rfl rfl) pnil ?_
            (first | refine RunK.cons (t_build rfl (by assumption) (by assumption) (Parts.cons (TLe.of_eq rfl) rfl (Parts.cons (TLe.of_eq rfl) rfl (Parts.cons (TLe.of_eq rfl) rfl (Parts.nil)))) rfl) (by first | exact dlt rfl rfl | exact dno rfl) (by first | exact gno rfl | exact gyes rfl rfl rfl) pnil ?_ | refine RunK.cons (t_build rfl (by assumption) (by assumption) (Parts.cons (TLe.of_eq rfl) rfl (Parts.cons (TLe.of_eq rfl) rfl (Parts.cons (TLe.own) rfl (Parts.nil)))) rfl) (by first | exact dlt rfl rfl | exact dno rfl) (by first | exact gno rfl | exact gyes rfl rfl rfl) pnil ?_ | refine RunK.cons (t_build rfl (by assumption) (by assumption) (Parts.cons (TLe.of_eq rfl) rfl (Parts.cons (TLe.of_eq rfl) rfl (Parts.cons (TLe.nil) rfl (Parts.nil)))) rfl) (by first | exact dlt rfl rfl | exact dno rfl) (by first | exact gno rfl | exact gyes rfl rfl rfl) pnil ?_ | refine RunK.cons (t_build rfl (by assumption) (by assumption) (Parts.cons (TLe.of_eq rfl) rfl (Parts.cons (TLe.own) rfl (Parts.cons (TLe.of_eq rfl) rfl (Parts.nil)))) rfl) (by first | exact dlt rfl rfl | exact dno rfl) (by first | exact gno rfl | exact gyes rfl rfl rfl) pnil ?_ | refine RunK.cons (t_build rfl (by assumption) (by assumption) (Parts.cons (TLe.of_eq rfl) rfl (Parts.cons (TLe.own) rfl (Parts.cons (TLe.own) rfl (Parts.nil)))) rfl) (by first | exact dlt rfl rfl | exact dno rfl) (by first | exact gno rfl | exact gyes rfl rfl rfl) pnil ?_ | refine RunK.cons (t_build rfl (by assumption) (by assumption) (Parts.cons (TLe.of_eq rfl) rfl (Parts.cons (TLe.own) rfl (Parts.cons (TLe.nil) rfl (Parts.nil)))) rfl) (by first | exact dlt rfl rfl | exact dno rfl) (by first | exact gno rfl | exact gyes rfl rfl rfl) pnil ?_ | refine RunK.cons (t_build rfl (by assumption) (by assumption) (Parts.cons (TLe.of_eq rfl) rfl (Parts.cons (TLe.nil) rfl (Parts.cons (TLe.of_eq rfl) rfl (Parts.nil)))) rfl) (by first | exact dlt rfl rfl | exact dno rfl) (by first | exact gno rfl | exact gyes rfl rfl rfl) pnil ?_ | refine RunK.cons (t_build rfl (by assumption) (by assumption) (Parts.cons (TLe.of_eq rfl) rfl (Parts.cons (TLe.nil) rfl (Parts.cons (TLe.own) rfl (Parts.nil)))) rfl) (by first | exact dlt rfl rfl | exact dno rfl) (by first | exact gno rfl | exact gyes rfl rfl rfl) pnil ?_ | refine RunK.cons (t_build rfl (by assumption) (by assumption) (Parts.cons (TLe.of_eq rfl) rfl (Parts.cons (TLe.nil) rfl (Parts.cons (TLe.nil) rfl (Parts.nil)))) rfl) (by first | exact dlt rfl rfl | exact dno rfl) (by first | exact gno rfl | exact gyes rfl rfl rfl) pnil ?_ | refine RunK.cons (t_build rfl (by assumption) (by assumption) (Parts.cons (TLe.own) rfl (Parts.cons (TLe.of_eq rfl) rfl (Parts.cons (TLe.of_eq rfl) rfl (Parts.nil)))) rfl) (by first | exact dlt rfl rfl | exact dno rfl) (by first | exact gno rfl | exact gyes rfl rfl rfl) pnil ?_ | refine RunK.cons (t_build rfl (by assumption) (by assumption) (Parts.cons (TLe.own) rfl (Parts.cons (TLe.of_eq rfl) rfl (Parts.cons (TLe.own) rfl (Parts.nil)))) rfl) (by first | exact dlt rfl rfl | exact dno rfl) (by first | exact gno rfl | exact gyes rfl rfl rfl) pnil ?_ | refine RunK.cons (t_build rfl (by assumption) (by assumption) (Parts.cons (TLe.own) rfl (Parts.cons (TLe.of_eq rfl) rfl (Parts.cons (TLe.nil) rfl (Parts.nil)))) rfl) (by first | exact dlt rfl rfl | exact dno rfl) (by first | exact gno rfl | exact gyes rfl rfl rfl) pnil ?_ | refine RunK.cons (t_build rfl (by assumption) (by assumption) (Parts.cons (TLe.own) rfl (Parts.cons (TLe.own) rfl (Parts.cons (TLe.of_eq rfl) rfl (Parts.nil)))) rfl) (by first | exact dlt rfl rfl | exact dno rfl) (by first | exact gno rfl | exact gyes rfl rfl rfl) pnil ?_ | refine RunK.cons (t_build rfl (by assumption) (by assumption) (Parts.cons (TLe.own) rfl (Parts.cons (TLe.own) rfl (Parts.cons (TLe.own) rfl (Parts.nil)))) rfl) (by first | exact dlt rfl rfl | exact dno rfl) (by first | exact gno rfl | exact gyes rfl rfl rfl) pnil ?_ | refine RunK.cons (t_build rfl (by assumption) (by assumption) (Parts.cons (TLe.own) rfl (Parts.cons (TLe.own) rfl (Parts.cons (TLe.nil) rfl (Parts.nil)))) rfl) (by first | exact dlt rfl rfl | exact dno rfl) (by first | exact gno rfl | exact gyes rfl rfl rfl) pnil ?_ | refine RunK.cons (t_build rfl (by assumption) (by assumption) (Parts.cons (TLe.own) rfl (Parts.cons (TLe.nil) rfl (Parts.cons (TLe.of_eq rfl) rfl (Parts.nil)))) rfl) (by first | exact dlt rfl rfl | exact dno rfl) (by first | exact gno rfl | exact gyes rfl rfl rfl) pnil ?_ | refine RunK.cons (t_build rfl (by assumption) (by assumption) (Parts.cons (TLe.own) rfl (Parts.cons (TLe.nil) rfl (Parts.cons (TLe.own) rfl (Parts.nil)))) rfl) (by first | exact dlt rfl rfl | exact dno rfl) (by first | exact gno rfl | exact gyes rfl rfl rfl) pnil ?_ | refine RunK.cons (t_build rfl (by assumption) (by assumption) (Parts.cons (TLe.own) rfl (Parts.cons (TLe.nil) rfl (Parts.cons (TLe.nil) rfl (Parts.nil)))) rfl) (by first | exact dlt rfl rfl | exact dno rfl) (by first | exact gno rfl | exact gyes rfl rfl rfl) pnil ?_ | refine RunK.cons (t_build rfl (by assumption) (by assumption) (Parts.cons (TLe.nil) rfl (Parts.cons (TLe.of_eq rfl) rfl (Parts.cons (TLe.of_eq rfl) rfl (Parts.nil)))) rfl) (by first | exact dlt rfl rfl | exact dno rfl) (by first | exact gno rfl | exact gyes rfl rfl rfl) pnil ?_ | refine RunK.cons (t_build rfl (by assumption) (by assumption) (Parts.cons (TLe.nil) rfl (Parts.cons (TLe.of_eq rfl) rfl (Parts.cons (TLe.own) rfl (Parts.nil)))) rfl) (by first | exact dlt rfl rfl | exact dno rfl) (by first | exact gno rfl | exact gyes rfl rfl rfl) pnil ?_ | refine RunK.cons (t_build rfl (by assumption) (by assumption) (Parts.cons (TLe.nil) rfl (Parts.cons (TLe.of_eq rfl) rfl (Parts.cons (TLe.nil) rfl (Parts.nil)))) rfl) (by first | exact dlt rfl rfl | exact dno rfl) (by first | exact gno rfl | exact gyes rfl rfl rfl) pnil ?_ | refine RunK.cons (t_build rfl (by assumption) (by assumption) (Parts.cons (TLe.nil) rfl (Parts.cons (TLe.own) rfl (Parts.cons (TLe.of_eq rfl) rfl (Parts.nil)))) rfl) (by first | exact dlt rfl rfl | exact dno rfl) (by first | exact gno rfl | exact gyes rfl rfl rfl) pnil ?_ | refine RunK.cons (t_build rfl (by assumption) (by assumption) (Parts.cons (TLe.nil) rfl (Parts.cons (TLe.own) rfl (Parts.cons (TLe.own) rfl (Parts.nil)))) rfl) (by first | exact dlt rfl rfl | exact dno rfl) (by first | exact gno rfl | exact gyes rfl rfl rfl) pnil ?_ | refine RunK.cons (t_build rfl (by assumption) (by assumption) (Parts.cons (TLe.nil) rfl (Parts.cons (TLe.own) rfl (Parts.cons (TLe.nil) rfl (Parts.nil)))) rfl) (by first | exact dlt rfl rfl | exact dno rfl) (by first | exact gno rfl | exact gyes rfl rfl rfl) pnil ?_ | refine RunK.cons (t_build rfl (by assumption) (by assumption) (Parts.cons (TLe.nil) rfl (Parts.cons (TLe.nil) rfl (Parts.cons (TLe.of_eq rfl) rfl (Parts.nil)))) rfl) (by first | exact dlt rfl rfl | exact dno rfl) (by first | exact gno rfl | exact gyes rfl rfl rfl) pnil ?_ | refine RunK.cons (t_build rfl (by assumption) (by assumption) (Parts.cons (TLe.nil) rfl (Parts.cons (TLe.nil) rfl (Parts.cons (TLe.own) rfl (Parts.nil)))) rfl) (by first | exact dlt rfl rfl | exact dno rfl) (by first | exact gno rfl | exact gyes rfl rfl rfl) pnil ?_ | refine RunK.cons (t_build rfl (by assumption) (by assumption) (Parts.cons (TLe.nil) rfl (Parts.cons (TLe.nil) rfl (Parts.cons (TLe.nil) rfl (Parts.nil)))) rfl) (by first | exact dlt rfl rfl | exact dno rfl) (by first | exact gno rfl | exact gyes rfl rfl rfl) pnil ?_)
            (first | refine RunK.cons (t_sfull (e := 41) (k := 12) rfl (by assumption) (by assumption) (Full.cons (TLe.of_eq rfl) (Full.nil)) (by decide) (by decide) rfl (all_cons rfl (all_nil)) (by decide)) (by first | exact dlt rfl rfl | exact dno rfl) (by first | exact gno rfl | exact gyes rfl rfl rfl) pnil ?_ | refine RunK.cons (t_sfull (e := 41) (k := 12) rfl (by assumption) (by assumption) (Full.cons (TLe.own) (Full.nil)) (by decide) (by decide) rfl (all_cons rfl (all_nil)) (by decide)) (by first | exact dlt rfl rfl | exact dno rfl) (by first | exact gno rfl | exact gyes rfl rfl rfl) pnil ?_)
            (first | refine RunK.cons (t_append rfl (by assumption) rfl (TLe.of_eq rfl) (by first | omega | (simp; omega))) (by first | exact dlt rfl rfl | exact dno rfl) (by first | exact gno rfl | exact gyes rfl rfl rfl) (pone rfl) ?_ | refine RunK.cons (t_append rfl (by assumption) rfl TLe.own (by first | omega | (simp; omega))) (by first | exact dlt rfl rfl | exact dno rfl) (by first | exact gno rfl | exact gyes rfl rfl rfl) (pone rfl) ?_)
            (first | refine RunK.cons (t_nilrow (c := 5) (k := 12) (e := 41) rfl rfl) (by first | exact dlt rfl rfl | exact dno rfl) (by first | exact gno rfl | exact gyes rfl rfl rfl) (pone rfl) ?_ | refine RunK.cons (t_assign rfl (TLe.refl _)) (by first | exact dlt rfl rfl | exact dno rfl) (by first | exact gno rfl | exact gyes rfl rfl rfl) pnil ?_)
            refine RunK.nil ?_
            refine hK5 _ _ ?_
            refine AW.trimk 10 ?_
            (repeat (first | refine TrimK.cons (v := .d _) rfl ?_ | refine TrimK.cons (v := .own _ _ _) rfl ?_ | refine TrimK.cons (v := .ref _ _) rfl ?_ | refine TrimK.cons (v := .fn _ _) rfl ?_ | refine TrimK.cons (v := .tup _) rfl ?_ | refine TrimK.cons (v := .mrow _ _) rfl ?_ | refine TrimK.cons (v := .pi _) rfl ?_ | refine TrimK.cons (v := .und) rfl ?_ | refine TrimK.cons rfl ?_))
            refine TrimK.nil ?_
            refine AW.reg0k ?_
            refine RunK.cons (t_move rfl (TLe.refl _)) (by first | exact dlt rfl rfl | exact dno rfl) (by first | exact gno rfl | exact gyes rfl rfl rfl) pnil ?_
            (first | refine RunK.cons (t_bin rfl rfl rfl (b_inc (by omega)) rfl) (by first | exact dlt rfl rfl | exact dno rfl) (by first | exact gno rfl | exact gyes rfl rfl rfl) pnil ?_ | refine RunK.cons (t_bin rfl rfl rfl (b_addn (by omega) (by omega)) rfl) (by first | exact dlt rfl rfl | exact dno rfl) (by first | exact gno rfl | exact gyes rfl rfl rfl) pnil ?_ | refine RunK.cons (t_bin rfl rfl rfl (b_add _ _ _ _) rfl) (by first | exact dlt rfl rfl | exact dno rfl) (by first | exact gno rfl | exact gyes rfl rfl rfl) pnil ?_)
            refine RunK.cons (t_assign rfl (TLe.refl _)) (by first | exact dlt rfl rfl | exact dno rfl) (by first | exact gno rfl | exact gyes rfl rfl rfl) pnil ?_
            refine RunK.nil ?_
            exact ⟨(j + 1, _, _), ⟨by omega, by omega, [] ++ [m], hr2, by rw [List.map_append, ← hod]; rfl, by rw [lk_snoc, ← hdl1]; rfl, by simp; omega⟩, by dsimp only; omega, Trim.all (by
              (repeat (first | exact Trim.nil | refine Trim.le (TLe.und _) ?_ | refine Trim.to rfl ?_ | refine Trim.le TLe.own ?_ | refine Trim.le TLe.nil ?_))
              ), objL_sub (ptwo rfl rfl)⟩
          · have hx2 : od[od.length - 1]? = some (iD (o.getD (o.length - 1) 0)) := by
              rw [hodl, hod, List.getElem?_map, List.getD_eq_getElem?_getD, List.getElem?_eq_getElem (by omega)]; rfl
            by_cases hm : o.getD (o.length - 1) 0 < m
            · have hr2 := rises_snoc hr hnb (rises_last hr (by omega) hm)
              refine AW.seq_k fun K hK => ?_
              refine AW.reg0k ?_
              refine RunK.cons (t_move rfl (TLe.refl _)) (by first | exact dlt rfl rfl | exact dno rfl) (by first | exact gno rfl | exact gyes rfl rfl rfl) pnil ?_
              (first | refine RunK.cons (t_len rfl (by assumption) (TLe.of_eq rfl)) (by first | exact dlt rfl rfl | exact dno rfl) (by first | exact gno rfl | exact gyes rfl rfl rfl) pnil ?_ | refine RunK.cons (t_len rfl (by assumption) TLe.own) (by first | exact dlt rfl rfl | exact dno rfl) (by first | exact gno rfl | exact gyes rfl rfl rfl) pnil ?_ | refine RunK.cons (t_len_str rfl (by assumption) rfl) (by first | exact dlt rfl rfl | exact dno rfl) (by first | exact gno rfl | exact gyes rfl rfl rfl) pnil ?_)
              (first | refine RunK.cons (t_bin rfl rfl rfl (b_eql_t (by first | rfl | assumption | omega)) rfl) (by first | exact dlt rfl rfl | exact dno rfl) (by first | exact gno rfl | exact gyes rfl rfl rfl) pnil ?_ | refine RunK.cons (t_bin rfl rfl rfl (b_eql_f (by first | assumption | omega)) rfl) (by first | exact dlt rfl rfl | exact dno rfl) (by first | exact gno rfl | exact gyes rfl rfl rfl) pnil ?_ | refine RunK.cons (t_bin rfl rfl rfl (b_eql _ _ _ _) rfl) (by first | exact dlt rfl rfl | exact dno rfl) (by first | exact gno rfl | exact gyes rfl rfl rfl) pnil ?_ | refine RunK.cons (t_bin rfl rfl rfl (b_beql _ _ _ (by assumption)) rfl) (by first | exact dlt rfl rfl | exact dno rfl) (by first | exact gno rfl | exact gyes rfl rfl rfl) pnil ?_ | refine RunK.cons (t_bin rfl rfl rfl (b_seql _ _ _) rfl) (by first | exact dlt rfl rfl | exact dno rfl) (by first | exact gno rfl | exact gyes rfl rfl rfl) pnil ?_)
              refine RunK.cons (t_move rfl (TLe.refl _)) (by first | exact dlt rfl rfl | exact dno rfl) (by first | exact gno rfl | exact gyes rfl rfl rfl) pnil ?_
              (first | refine RunK.cons (t_move rfl (TLe.refl _)) (by first | exact dlt rfl rfl | exact dno rfl) (by first | exact gno rfl | exact gyes rfl rfl rfl) pnil ?_ | refine RunK.skip (gskip rfl rfl rfl) (by first | exact dlt rfl rfl | exact dno rfl) ?_)
              (first | refine RunK.cons (t_move rfl (TLe.refl _)) (by first | exact dlt rfl rfl | exact dno rfl) (by first | exact gno rfl | exact gyes rfl rfl rfl) pnil ?_ | refine RunK.skip (gskip rfl rfl rfl) (by first | exact dlt rfl rfl | exact dno rfl) ?_)
              (first | refine RunK.cons (t_move rfl (TLe.refl _)) (by first | exact dlt rfl rfl | exact dno rfl) (by first | exact gno rfl | exact gyes rfl rfl rfl) pnil ?_ | refine RunK.skip (gskip rfl rfl rfl) (by first | exact dlt rfl rfl | exact dno rfl) ?_)
              (first | refine RunK.cons (t_len rfl (by assumption) (TLe.of_eq rfl)) (by first | exact dlt rfl rfl | exact dno rfl) (by first | exact gno rfl | exact gyes rfl rfl rfl) pnil ?_ | refine RunK.cons (t_len rfl (by assumption) TLe.own) (by first | exact dlt rfl rfl | exact dno rfl) (by first | exact gno rfl | exact gyes rfl rfl rfl) pnil ?_ | refine RunK.cons (t_len_str rfl (by assumption) rfl) (by first | exact dlt rfl rfl | exact dno rfl) (by first | exact gno rfl | exact gyes rfl rfl rfl) pnil ?_ | refine RunK.skip (gskip rfl rfl rfl) (by first | exact dlt rfl rfl | exact dno rfl) ?_)
              (first | refine RunK.cons (t_bin rfl rfl rfl (b_dec (by omega) (by omega)) rfl) (by first | exact dlt rfl rfl | exact dno rfl) (by first | exact gno rfl | exact gyes rfl rfl rfl) pnil ?_ | refine RunK.cons (t_bin rfl rfl rfl (b_subn (by omega) (by omega)) rfl) (by first | exact dlt rfl rfl | exact dno rfl) (by first | exact gno rfl | exact gyes rfl rfl rfl) pnil ?_ | refine RunK.cons (t_bin rfl rfl rfl (b_sub _ _ _ _) rfl) (by first | exact dlt rfl rfl | exact dno rfl) (by first | exact gno rfl | exact gyes rfl rfl rfl) pnil ?_ | refine RunK.skip (gskip rfl rfl rfl) (by first | exact dlt rfl rfl | exact dno rfl) ?_)
              (first | refine RunK.cons (t_index rfl (by assumption) (TLe.of_eq rfl) rfl (by assumption) (by decide)) (by first | exact dlt rfl rfl | exact dno rfl) (by first | exact gno rfl | exact gyes rfl rfl rfl) pnil ?_ | refine RunK.cons (t_index rfl (by assumption) TLe.own rfl (by assumption) (by decide)) (by first | exact dlt rfl rfl | exact dno rfl) (by first | exact gno rfl | exact gyes rfl rfl rfl) pnil ?_ | refine RunK.skip (gskip rfl rfl rfl) (by first | exact dlt rfl rfl | exact dno rfl) ?_)
              (first | refine RunK.cons (t_load rfl (by assumption) rfl rfl) (by first | exact dlt rfl rfl | exact dno rfl) (by first | exact gno rfl | exact gyes rfl rfl rfl) pnil ?_ | refine RunK.cons (t_load_ref rfl (by assumption) rfl rfl) (by first | exact dlt rfl rfl | exact dno rfl) (by first | exact gno rfl | exact gyes rfl rfl rfl) (pone rfl) ?_ | refine RunK.cons (t_load_agg rfl (by assumption) rfl (Nat.le_of_ble_eq_true rfl)) (by first | exact dlt rfl rfl | exact dno rfl) (by first | exact gno rfl | exact gyes rfl rfl rfl) pnil ?_ | refine RunK.cons (t_load_refa rfl (by assumption) rfl rfl rfl) (by first | exact dlt rfl rfl | exact dno rfl) (by first | exact gno rfl | exact gyes rfl rfl rfl) (pone rfl) ?_ | refine RunK.skip (gskip rfl rfl rfl) (by first | exact dlt rfl rfl | exact dno rfl) ?_)
              (first | refine RunK.cons (t_bin rfl rfl rfl (b_gtr_t (by omega)) rfl) (by first | exact dlt rfl rfl | exact dno rfl) (by first | exact gno rfl | exact gyes rfl rfl rfl) pnil ?_ | refine RunK.cons (t_bin rfl rfl rfl (b_gtr_f (by omega)) rfl) (by first | exact dlt rfl rfl | exact dno rfl) (by first | exact gno rfl | exact gyes rfl rfl rfl) pnil ?_ | refine RunK.cons (t_bin rfl rfl rfl (b_gtr _ _ _ _) rfl) (by first | exact dlt rfl rfl | exact dno rfl) (by first | exact gno rfl | exact gyes rfl rfl rfl) pnil ?_ | refine RunK.skip (gskip rfl rfl rfl) (by first | exact dlt rfl rfl | exact dno rfl) ?_)
              (first | refine RunK.cons (t_pick_t rfl rfl (TLe.refl _)) (by first | exact dlt rfl rfl | exact dno rfl) (by first | exact gno rfl | exact gyes rfl rfl rfl) pnil ?_ | refine RunK.cons (t_pick_f rfl rfl (TLe.refl _)) (by first | exact dlt rfl rfl | exact dno rfl) (by first | exact gno rfl | exact gyes rfl rfl rfl) pnil ?_)
              refine RunK.nil ?_
              refine hK _ _ ?_
              clear hK K
              refine AW.condT rfl ?_
              refine AW.trimk 11 ?_
              (repeat (first | refine TrimK.cons (v := .d _) rfl ?_ | refine TrimK.cons (v := .own _ _ _) rfl ?_ | refine TrimK.cons (v := .ref _ _) rfl ?_ | refine TrimK.cons (v := .fn _ _) rfl ?_ | refine TrimK.cons (v := .tup _) rfl ?_ | refine TrimK.cons (v := .mrow _ _) rfl ?_ | refine TrimK.cons (v := .pi _) rfl ?_ | refine TrimK.cons (v := .und) rfl ?_ | refine TrimK.cons rfl ?_))
              refine TrimK.nil ?_
              refine AW.seq_k fun K hK => ?_
              refine AW.reg0k ?_
              refine RunK.cons (t_move rfl (TLe.refl _)) (by first | exact dlt rfl rfl | exact dno rfl) (by first | exact gno rfl | exact gyes rfl rfl rfl) pnil ?_
              refine RunK.cons (t_move rfl (TLe.refl _)) (by first | exact dlt rfl rfl | exact dno rfl) (by first | exact gno rfl | exact gyes rfl rfl rfl) pnil ?_
              (first | refine RunK.cons (t_sfull (e := 3) (k := 1) rfl (by assumption) (by assumption) (Full.cons (TLe.of_eq rfl) (Full.nil)) (by decide) (by decide) rfl (all_cons rfl (all_nil)) (by decide)) (by first | exact dlt rfl rfl | exact dno rfl) (by first | exact gno rfl | exact gyes rfl rfl rfl) pnil ?_ | refine RunK.cons (t_sfull (e := 3) (k := 1) rfl (by assumption) (by assumption) (Full.cons (TLe.own) (Full.nil)) (by decide) (by decide) rfl (all_cons rfl (all_nil)) (by decide)) (by first | exact dlt rfl rfl | exact dno rfl) (by first | exact gno rfl | exact gyes rfl rfl rfl) pnil ?_)
              (first | refine RunK.cons (t_append rfl (by assumption) rfl (TLe.of_eq rfl) (by first | omega | (simp; omega))) (by first | exact dlt rfl rfl | exact dno rfl) (by first | exact gno rfl | exact gyes rfl rfl rfl) (pone rfl) ?_ | refine RunK.cons (t_append rfl (by assumption) rfl TLe.own (by first | omega | (simp; omega))) (by first | exact dlt rfl rfl | exact dno rfl) (by first | exact gno rfl | exact gyes rfl rfl rfl) (pone rfl) ?_)
              (first | refine RunK.cons (t_nilrow (c := 8) (k := 1) (e := 3) rfl rfl) (by first | exact dlt rfl rfl | exact dno rfl) (by first | exact gno rfl | exact gyes rfl rfl rfl) (pone rfl) ?_ | refine RunK.cons (t_assign rfl (TLe.refl _)) (by first | exact dlt rfl rfl | exact dno rfl) (by first | exact gno rfl | exact gyes rfl rfl rfl) pnil ?_)
              refine RunK.nil ?_
              refine hK _ _ ?_
              clear hK K
              refine AW.reg0k ?_
              refine RunK.cons (t_move rfl (TLe.refl _)) (by first | exact dlt rfl rfl | exact dno rfl) (by first | exact gno rfl | exact gyes rfl rfl rfl) pnil ?_
              refine RunK.cons (t_move rfl (TLe.refl _)) (by first | exact dlt rfl rfl | exact dno rfl) (by first | exact gno rfl | exact gyes rfl rfl rfl) pnil ?_
              refine RunK.cons (t_move rfl (TLe.refl _)) (by first | exact dlt rfl rfl | exact dno rfl) (by first | exact gno rfl | exact gyes rfl rfl rfl) pnil ?_
              (first | refine RunK.cons (t_build rfl (by assumption) (by assumption) (Parts.cons (TLe.of_eq rfl) rfl (Parts.cons (TLe.of_eq rfl) rfl (Parts.cons (TLe.of_eq rfl) rfl (Parts.nil)))) rfl) (by first | exact dlt rfl rfl | exact dno rfl) (by first | exact gno rfl | exact gyes rfl rfl rfl) pnil ?_ | refine RunK.cons (t_build rfl (by assumption) (by assumption) (Parts.cons (TLe.of_eq rfl) rfl (Parts.cons (TLe.of_eq rfl) rfl (Parts.cons (TLe.own) rfl (Parts.nil)))) rfl) (by first | exact dlt rfl rfl | exact dno rfl) (by first | exact gno rfl | exact gyes rfl rfl rfl) pnil ?_ | refine RunK.cons (t_build rfl (by assumption) (by assumption) (Parts.cons (TLe.of_eq rfl) rfl (Parts.cons (TLe.of_eq rfl) rfl (Parts.cons (TLe.nil) rfl (Parts.nil)))) rfl) (by first | exact dlt rfl rfl | exact dno rfl) (by first | exact gno rfl | exact gyes rfl rfl rfl) pnil ?_ | refine RunK.cons (t_build rfl (by assumption) (by assumption) (Parts.cons (TLe.of_eq rfl) rfl (Parts.cons (TLe.own) rfl (Parts.cons (TLe.of_eq rfl) rfl (Parts.nil)))) rfl) (by first | exact dlt rfl rfl | exact dno rfl) (by first | exact gno rfl | exact gyes rfl rfl rfl) pnil ?_ | refine RunK.cons (t_build rfl (by assumption) (by assumption) (Parts.cons (TLe.of_eq rfl) rfl (Parts.cons (TLe.own) rfl (Parts.cons (TLe.own) rfl (Parts.nil)))) rfl) (by first | exact dlt rfl rfl | exact dno rfl) (by first | exact gno rfl | exact gyes rfl rfl rfl) pnil ?_ | refine RunK.cons (t_build rfl (by assumption) (by assumption) (Parts.cons (TLe.of_eq rfl) rfl (Parts.cons (TLe.own) rfl (Parts.cons (TLe.nil) rfl (Parts.nil)))) rfl) (by first | exact dlt rfl rfl | exact dno rfl) (by first | exact gno rfl | exact gyes rfl rfl rfl) pnil ?_ | refine RunK.cons (t_build rfl (by assumption) (by assumption) (Parts.cons (TLe.of_eq rfl) rfl (Parts.cons (TLe.nil) rfl (Parts.cons (TLe.of_eq rfl) rfl (Parts.nil)))) rfl) (by first | exact dlt rfl rfl | exact dno rfl) (by first | exact gno rfl | exact gyes rfl rfl rfl) pnil ?_ | refine RunK.cons (t_build rfl (by assumption) (by assumption) (Parts.cons (TLe.of_eq rfl) rfl (Parts.cons (TLe.nil) rfl (Parts.cons (TLe.own) rfl (Parts.nil)))) rfl) (by first | exact dlt rfl rfl | exact dno rfl) (by first | exact gno rfl | exact gyes rfl rfl rfl) pnil ?_ | refine RunK.cons (t_build rfl (by assumption) (by assumption) (Parts.cons (TLe.of_eq rfl) rfl (Parts.cons (TLe.nil) rfl (Parts.cons (TLe.nil) rfl (Parts.nil)))) rfl) (by first | exact dlt rfl rfl | exact dno rfl) (by first | exact gno rfl | exact gyes rfl rfl rfl) pnil ?_ | refine RunK.cons (t_build rfl (by assumption) (by assumption) (Parts.cons (TLe.own) rfl (Parts.cons (TLe.of_eq rfl) rfl (Parts.cons (TLe.of_eq rfl) rfl (Parts.nil)))) rfl) (by first | exact dlt rfl rfl | exact dno rfl) (by first | exact gno rfl | exact gyes rfl rfl rfl) pnil ?_ | refine RunK.cons (t_build rfl (by assumption) (by assumption) (Parts.cons (TLe.own) rfl (Parts.cons (TLe.of_eq rfl) rfl (Parts.cons (TLe.own) rfl (Parts.nil)))) rfl) (by first | exact dlt rfl rfl | exact dno rfl) (by first | exact gno rfl | exact gyes rfl rfl rfl) pnil ?_ | refine RunK.cons (t_build rfl (by assumption) (by assumption) (Parts.cons (TLe.own) rfl (Parts.cons (TLe.of_eq rfl) rfl (Parts.cons (TLe.nil) rfl (Parts.nil)))) rfl) (by first | exact dlt rfl rfl | exact dno rfl) (by first | exact gno rfl | exact gyes rfl rfl rfl) pnil ?_ | refine RunK.cons (t_build rfl (by assumption) (by assumption) (Parts.cons (TLe.own) rfl (Parts.cons (TLe.own) rfl (Parts.cons (TLe.of_eq rfl) rfl (Parts.nil)))) rfl) (by first | exact dlt rfl rfl | exact dno rfl) (by first | exact gno rfl | exact gyes rfl rfl rfl) pnil ?_ | refine RunK.cons (t_build rfl (by assumption) (by assumption) (Parts.cons (TLe.own) rfl (Parts.cons (TLe.own) rfl (Parts.cons (TLe.own) rfl (Parts.nil)))) rfl) (by first | exact dlt rfl rfl | exact dno rfl) (by first | exact gno rfl | exact gyes rfl rfl rfl) pnil ?_ | refine RunK.cons (t_build rfl (by assumption) (by assumption) (Parts.cons (TLe.own) rfl (Parts.cons (TLe.own) rfl (Parts.cons (TLe.nil) rfl (Parts.nil)))) rfl) (by first | exact dlt rfl rfl | exact dno rfl) (by first | exact gno rfl | exact gyes rfl rfl rfl) pnil ?_ | refine RunK.cons (t_build rfl (by assumption) (by assumption) (Parts.cons (TLe.own) rfl (Parts.cons (TLe.nil) rfl (Parts.cons (TLe.of_eq rfl) rfl (Parts.nil)))) rfl) (by first | exact dlt rfl rfl | exact dno rfl) (by first | exact gno rfl | exact gyes rfl rfl rfl) pnil ?_ | refine RunK.cons (t_build rfl (by assumption) (by assumption) (Parts.cons (TLe.own) rfl (Parts.cons (TLe.nil) rfl (Parts.cons (TLe.own) rfl (Parts.nil)))) rfl) (by first | exact dlt rfl rfl | exact dno rfl) (by first | exact gno rfl | exact gyes rfl rfl rfl) pnil ?_ | refine RunK.cons (t_build rfl (by assumption) (by assumption) (Parts.cons (TLe.own) rfl (Parts.cons (TLe.nil) rfl (Parts.cons (TLe.nil) rfl (Parts.nil)))) rfl) (by first | exact dlt rfl rfl | exact dno rfl) (by first | exact gno rfl | exact gyes rfl rfl rfl) pnil ?_ | refine RunK.cons (t_build rfl (by assumption) (by assumption) (Parts.cons (TLe.nil) rfl (Parts.cons (TLe.of_eq rfl) rfl (Parts.cons (TLe.of_eq rfl) rfl (Parts.nil)))) rfl) (by first | exact dlt rfl rfl | exact dno rfl) (by first | exact gno rfl | exact gyes rfl rfl rfl) pnil ?_ | refine RunK.cons (t_build rfl (by assumption) (by assumption) (Parts.cons (TLe.nil) rfl (Parts.cons (TLe.of_eq rfl) rfl (Parts.cons (TLe.own) rfl (Parts.nil)))) rfl) (by first | exact dlt rfl rfl | exact dno rfl) (by first | exact gno rfl | exact gyes rfl rfl rfl) pnil ?_ | refine RunK.cons (t_build rfl (by assumption) (by assumption) (Parts.cons (TLe.nil) rfl (Parts.cons (TLe.of_eq rfl) rfl (Parts.cons (TLe.nil) rfl (Parts.nil)))) rfl) (by first | exact dlt rfl rfl | exact dno rfl) (by first | exact gno rfl | exact gyes rfl rfl rfl) pnil ?_ | refine RunK.cons (t_build rfl (by assumption) (by assumption) (Parts.cons (TLe.nil) rfl (Parts.cons (TLe.own) rfl (Parts.cons (TLe.of_eq rfl) rfl (Parts.nil)))) rfl) (by first | exact dlt rfl rfl | exact dno rfl) (by first | exact gno rfl | exact gyes rfl rfl rfl) pnil ?_ | refine RunK.cons (t_build rfl (by assumption) (by assumption) (Parts.cons (TLe.nil) rfl (Parts.cons (TLe.own) rfl (Parts.cons (TLe.own) rfl (Parts.nil)))) rfl) (by first | exact dlt rfl rfl | exact dno rfl) (by first | exact gno rfl | exact gyes rfl rfl rfl) pnil ?_ | refine RunK.cons (t_build rfl (by assumption) (by assumption) (Parts.cons (TLe.nil) rfl (Parts.cons (TLe.own) rfl (Parts.cons (TLe.nil) rfl (Parts.nil)))) rfl) (by first | exact dlt rfl rfl | exact dno rfl) (by first | exact gno rfl | exact gyes rfl rfl rfl) pnil ?_ | refine RunK.cons (t_build rfl (by assumption) (by assumption) (Parts.cons (TLe.nil) rfl (Parts.cons (TLe.nil) rfl (Parts.cons (TLe.of_eq rfl) rfl (Parts.nil)))) rfl) (by first | exact dlt rfl rfl | exact dno rfl) (by first | exact gno rfl | exact gyes rfl rfl rfl) pnil ?_ | refine RunK.cons (t_build rfl (by assumption) (by assumption) (Parts.cons (TLe.nil) rfl (Parts.cons (TLe.nil) rfl (Parts.cons (TLe.own) rfl (Parts.nil)))) rfl) (by first | exact dlt rfl rfl | exact dno rfl) (by first | exact gno rfl | exact gyes rfl rfl rfl) pnil ?_ | refine RunK.cons (t_build rfl (by assumption) (by assumption) (Parts.cons (TLe.nil) rfl (Parts.cons (TLe.nil) rfl (Parts.cons (TLe.nil) rfl (Parts.nil)))) rfl) (by first | exact dlt rfl rfl | exact dno rfl) (by first | exact gno rfl | exact gyes rfl rfl rfl) pnil ?_)
              (first | refine RunK.cons (t_sfull (e := 41) (k := 12) rfl (by assumption) (by assumption) (Full.cons (TLe.of_eq rfl) (Full.nil)) (by decide) (by decide) rfl (all_cons rfl (all_nil)) (by decide)) (by first | exact dlt rfl rfl | exact dno rfl) (by first | exact gno rfl | exact gyes rfl rfl rfl) pnil ?_ | refine RunK.cons (t_sfull (e := 41) (k := 12) rfl (by assumption) (by assumption) (Full.cons (TLe.own) (Full.nil)) (by decide) (by decide) rfl (all_cons rfl (all_nil)) (by decide)) (by first | exact dlt rfl rfl | exact dno rfl) (by first | exact gno rfl | exact gyes rfl rfl rfl) pnil ?_)
              (first | refine RunK.cons (t_append rfl (by assumption) rfl (TLe.of_eq rfl) (by first | omega | (simp; omega))) (by first | exact dlt rfl rfl | exact dno rfl) (by first | exact gno rfl | exact gyes rfl rfl rfl) (pone rfl) ?_ | refine RunK.cons (t_append rfl (by assumption) rfl TLe.own (by first | omega | (simp; omega))) (by first | exact dlt rfl rfl | exact dno rfl) (by first | exact gno rfl | exact gyes rfl rfl rfl) (pone rfl) ?_)
              (first | refine RunK.cons (t_nilrow (c := 5) (k := 12) (e := 41) rfl rfl) (by first | exact dlt rfl rfl | exact dno rfl) (by first | exact gno rfl | exact gyes rfl rfl rfl) (pone rfl) ?_ | refine RunK.cons (t_assign rfl (TLe.refl _)) (by first | exact dlt rfl rfl | exact dno rfl) (by first | exact gno rfl | exact gyes rfl rfl rfl) pnil ?_)
              refine RunK.nil ?_
              refine hK5 _ _ ?_
              refine AW.trimk 10 ?_
              (repeat (first | refine TrimK.cons (v := .d _) rfl ?_ | refine TrimK.cons (v := .own _ _ _) rfl ?_ | refine TrimK.cons (v := .ref _ _) rfl ?_ | refine TrimK.cons (v := .fn _ _) rfl ?_ | refine TrimK.cons (v := .tup _) rfl ?_ | refine TrimK.cons (v := .mrow _ _) rfl ?_ | refine TrimK.cons (v := .pi _) rfl ?_ | refine TrimK.cons (v := .und) rfl ?_ | refine TrimK.cons rfl ?_))
              refine TrimK.nil ?_
              refine AW.reg0k ?_
              refine RunK.cons (t_move rfl (TLe.refl _)) (by first | exact dlt rfl rfl | exact dno rfl) (by first | exact gno rfl | exact gyes rfl rfl rfl) pnil ?_
              (first | refine RunK.cons (t_bin rfl rfl rfl (b_inc (by omega)) rfl) (by first | exact dlt rfl rfl | exact dno rfl) (by first | exact gno rfl | exact gyes rfl rfl rfl) pnil ?_ | refine RunK.cons (t_bin rfl rfl rfl (b_addn (by omega) (by omega)) rfl) (by first | exact dlt rfl rfl | exact dno rfl) (by first | exact gno rfl | exact gyes rfl rfl rfl) pnil ?_ | refine RunK.cons (t_bin rfl rfl rfl (b_add _ _ _ _) rfl) (by first | exact dlt rfl rfl | exact dno rfl) (by first | exact gno rfl | exact gyes rfl rfl rfl) pnil ?_)
              refine RunK.cons (t_assign rfl (TLe.refl _)) (by first | exact dlt rfl rfl | exact dno rfl) (by first | exact gno rfl | exact gyes rfl rfl rfl) pnil ?_
              refine RunK.nil ?_
              exact ⟨(j + 1, _, _), ⟨by omega, by omega, o ++ [m], hr2, by rw [List.map_append, ← hod]; rfl, by rw [lk_snoc, ← hdl1]; rfl, by simp; omega⟩, by dsimp only; omega, Trim.all (by
                (repeat (first | exact Trim.nil | refine Trim.le (TLe.und _) ?_ | refine Trim.to rfl ?_ | refine Trim.le TLe.own ?_ | refine Trim.le TLe.nil ?_))
                ), objL_sub (ptwo rfl rfl)⟩
            · refine AW.seq_k fun K hK => ?_
              refine AW.reg0k ?_
              refine RunK.cons (t_move rfl (TLe.refl _)) (by first | exact dlt rfl rfl | exact dno rfl) (by first | exact gno rfl | exact gyes rfl rfl rfl) pnil ?_
              (first | refine RunK.cons (t_len rfl (by assumption) (TLe.of_eq rfl)) (by first | exact dlt rfl rfl | exact dno rfl) (by first | exact gno rfl | exact gyes rfl rfl rfl) pnil ?_ | refine RunK.cons (t_len rfl (by assumption) TLe.own) (by first | exact dlt rfl rfl | exact dno rfl) (by first | exact gno rfl | exact gyes rfl rfl rfl) pnil ?_ | refine RunK.cons (t_len_str rfl (by assumption) rfl) (by first | exact dlt rfl rfl | exact dno rfl) (by first | exact gno rfl | exact gyes rfl rfl rfl) pnil ?_)
              (first | refine RunK.cons (t_bin rfl rfl rfl (b_eql_t (by first | rfl | assumption | omega)) rfl) (by first | exact dlt rfl rfl | exact dno rfl) (by first | exact gno rfl | exact gyes rfl rfl rfl) pnil ?_ | refine RunK.cons (t_bin rfl rfl rfl (b_eql_f (by first | assumption | omega)) rfl) (by first | exact dlt rfl rfl | exact dno rfl) (by first | exact gno rfl | exact gyes rfl rfl rfl) pnil ?_ | refine RunK.cons (t_bin rfl rfl rfl (b_eql _ _ _ _) rfl) (by first | exact dlt rfl rfl | exact dno rfl) (by first | exact gno rfl | exact gyes rfl rfl rfl) pnil ?_ | refine RunK.cons (t_bin rfl rfl rfl (b_beql _ _ _ (by assumption)) rfl) (by first | exact dlt rfl rfl | exact dno rfl) (by first | exact gno rfl | exact gyes rfl rfl rfl) pnil ?_ | refine RunK.cons (t_bin rfl rfl rfl (b_seql _ _ _) rfl) (by first | exact dlt rfl rfl | exact dno rfl) (by first | exact gno rfl | exact gyes rfl rfl rfl) pnil ?_)
              refine RunK.cons (t_move rfl (TLe.refl _)) (by first | exact dlt rfl rfl | exact dno rfl) (by first | exact gno rfl | exact gyes rfl rfl rfl) pnil ?_
              (first | refine RunK.cons (t_move rfl (TLe.refl _)) (by first | exact dlt rfl rfl | exact dno rfl) (by first | exact gno rfl | exact gyes rfl rfl rfl) pnil ?_ | refine RunK.skip (gskip rfl rfl rfl) (by first | exact dlt rfl rfl | exact dno rfl) ?_)
              (first | refine RunK.cons (t_move rfl (TLe.refl _)) (by first | exact dlt rfl rfl | exact dno rfl) (by first | exact gno rfl | exact gyes rfl rfl rfl) pnil ?_ | refine RunK.skip (gskip rfl rfl rfl) (by first | exact dlt rfl rfl | exact dno rfl) ?_)
              (first | refine RunK.cons (t_move rfl (TLe.refl _)) (by first | exact dlt rfl rfl | exact dno rfl) (by first | exact gno rfl | exact gyes rfl rfl rfl) pnil ?_ | refine RunK.skip (gskip rfl rfl rfl) (by first | exact dlt rfl rfl | exact dno rfl) ?_)
              (first | refine RunK.cons (t_len rfl (by assumption) (TLe.of_eq rfl)) (by first | exact dlt rfl rfl | exact dno rfl) (by first | exact gno rfl | exact gyes rfl rfl rfl) pnil ?_ | refine RunK.cons (t_len rfl (by assumption) TLe.own) (by first | exact dlt rfl rfl | exact dno rfl) (by first | exact gno rfl | exact gyes rfl rfl rfl) pnil ?_ | refine RunK.cons (t_len_str rfl (by assumption) rfl) (by first | exact dlt rfl rfl | exact dno rfl) (by first | exact gno rfl | exact gyes rfl rfl rfl) pnil ?_ | refine RunK.skip (gskip rfl rfl rfl) (by first | exact dlt rfl rfl | exact dno rfl) ?_)
              (first | refine RunK.cons (t_bin rfl rfl rfl (b_dec (by omega) (by omega)) rfl) (by first | exact dlt rfl rfl | exact dno rfl) (by first | exact gno rfl | exact gyes rfl rfl rfl) pnil ?_ | refine RunK.cons (t_bin rfl rfl rfl (b_subn (by omega) (by omega)) rfl) (by first | exact dlt rfl rfl | exact dno rfl) (by first | exact gno rfl | exact gyes rfl rfl rfl) pnil ?_ | refine RunK.cons (t_bin rfl rfl rfl (b_sub _ _ _ _) rfl) (by first | exact dlt rfl rfl | exact dno rfl) (by first | exact gno rfl | exact gyes rfl rfl rfl) pnil ?_ | refine RunK.skip (gskip rfl rfl rfl) (by first | exact dlt rfl rfl | exact dno rfl) ?_)
              (first | refine RunK.cons (t_index rfl (by assumption) (TLe.of_eq rfl) rfl (by assumption) (by decide)) (by first | exact dlt rfl rfl | exact dno rfl) (by first | exact gno rfl | exact gyes rfl rfl rfl) pnil ?_ | refine RunK.cons (t_index rfl (by assumption) TLe.own rfl (by assumption) (by decide)) (by first | exact dlt rfl rfl | exact dno rfl) (by first | exact gno rfl | exact gyes rfl rfl rfl) pnil ?_ | refine RunK.skip (gskip rfl rfl rfl) (by first | exact dlt rfl rfl | exact dno rfl) ?_)
              (first | refine RunK.cons (t_load rfl (by assumption) rfl rfl) (by first | exact dlt rfl rfl | exact dno rfl) (by first | exact gno rfl | exact gyes rfl rfl rfl) pnil ?_ | refine RunK.cons (t_load_ref rfl (by assumption) rfl rfl) (by first | exact dlt rfl rfl | exact dno rfl) (by first | exact gno rfl | exact gyes rfl rfl rfl) (pone rfl) ?_ | refine RunK.cons (t_load_agg rfl (by assumption) rfl (Nat.le_of_ble_eq_true rfl)) (by first | exact dlt rfl rfl | exact dno rfl) (by first | exact gno rfl | exact gyes rfl rfl rfl) pnil ?_ | refine RunK.cons (t_load_refa rfl (by assumption) rfl rfl rfl) (by first | exact dlt rfl rfl | exact dno rfl) (by first | exact gno rfl | exact gyes rfl rfl rfl) (pone rfl) ?_ | refine RunK.skip (gskip rfl rfl rfl) (by first | exact dlt rfl rfl | exact dno rfl) ?_)
              (first | refine RunK.cons (t_bin rfl rfl rfl (b_gtr_t (by omega)) rfl) (by first | exact dlt rfl rfl | exact dno rfl) (by first | exact gno rfl | exact gyes rfl rfl rfl) pnil ?_ | refine RunK.cons (t_bin rfl rfl rfl (b_gtr_f (by omega)) rfl) (by first | exact dlt rfl rfl | exact dno rfl) (by first | exact gno rfl | exact gyes rfl rfl rfl) pnil ?_ | refine RunK.cons (t_bin rfl rfl rfl (b_gtr _ _ _ _) rfl) (by first | exact dlt rfl rfl | exact dno rfl) (by first | exact gno rfl | exact gyes rfl rfl rfl) pnil ?_ | refine RunK.skip (gskip rfl rfl rfl) (by first | exact dlt rfl rfl | exact dno rfl) ?_)
              (first | refine RunK.cons (t_pick_t rfl rfl (TLe.refl _)) (by first | exact dlt rfl rfl | exact dno rfl) (by first | exact gno rfl | exact gyes rfl rfl rfl) pnil ?_ | refine RunK.cons (t_pick_f rfl rfl (TLe.refl _)) (by first | exact dlt rfl rfl | exact dno rfl) (by first | exact gno rfl | exact gyes rfl rfl rfl) pnil ?_)
              refine RunK.nil ?_
              refine hK _ _ ?_
              clear hK K
              refine AW.condF rfl ?_
              refine AW.trimk 10 ?_
              (repeat (first | refine TrimK.cons (v := .d _) rfl ?_ | refine TrimK.cons (v := .own _ _ _) rfl ?_ | refine TrimK.cons (v := .ref _ _) rfl ?_ | refine TrimK.cons (v := .fn _ _) rfl ?_ | refine TrimK.cons (v := .tup _) rfl ?_ | refine TrimK.cons (v := .mrow _ _) rfl ?_ | refine TrimK.cons (v := .pi _) rfl ?_ | refine TrimK.cons (v := .und) rfl ?_ | refine TrimK.cons rfl ?_))
              refine TrimK.nil ?_
              refine AW.skip (hK5 _ _ ?_)
              refine AW.reg0k ?_
              refine RunK.cons (t_move rfl (TLe.refl _)) (by first | exact dlt rfl rfl | exact dno rfl) (by first | exact gno rfl | exact gyes rfl rfl rfl) pnil ?_
              (first | refine RunK.cons (t_bin rfl rfl rfl (b_inc (by omega)) rfl) (by first | exact dlt rfl rfl | exact dno rfl) (by first | exact gno rfl | exact gyes rfl rfl rfl) pnil ?_ | refine RunK.cons (t_bin rfl rfl rfl (b_addn (by omega) (by omega)) rfl) (by first | exact dlt rfl rfl | exact dno rfl) (by first | exact gno rfl | exact gyes rfl rfl rfl) pnil ?_ | refine RunK.cons (t_bin rfl rfl rfl (b_add _ _ _ _) rfl) (by first | exact dlt rfl rfl | exact dno rfl) (by first | exact gno rfl | exact gyes rfl rfl rfl) pnil ?_)
              refine RunK.cons (t_assign rfl (TLe.refl _)) (by first | exact dlt rfl rfl | exact dno rfl) (by first | exact gno rfl | exact gyes rfl rfl rfl) pnil ?_
              refine RunK.nil ?_
              exact ⟨(j + 1, od, dl1), ⟨by omega, by omega, o, hr, hod, hdl1, by omega⟩, by dsimp only; omega, Trim.all (by
                (repeat (first | exact Trim.nil | refine Trim.le (TLe.und _) ?_ | refine Trim.to rfl ?_ | refine Trim.le TLe.own ?_ | refine Trim.le TLe.nil ?_))
                ), objL_sub (ptwo rfl rfl)⟩
        · have ho3 : o.length ≤ 3 := by omega
          refine AW.seq_k fun K2 hK2 => ?_
          have hcs : (j < locks.length ∧ ¬ j < k + 3) ∨ ¬ j < locks.length := by omega
          rcases hcs with ⟨h3, h4⟩ | h3
          all_goals
            refine AW.seq_k fun K hK => ?_
            refine AW.reg0k ?_
            refine RunK.cons (t_move rfl (TLe.refl _)) (by first | exact dlt rfl rfl | exact dno rfl) (by first | exact gno rfl | exact gyes rfl rfl rfl) pnil ?_
            refine RunK.cons (t_move rfl (TLe.refl _)) (by first | exact dlt rfl rfl | exact dno rfl) (by first | exact gno rfl | exact gyes rfl rfl rfl) pnil ?_
            (first | refine RunK.cons (t_len rfl (by assumption) (TLe.of_eq rfl)) (by first | exact dlt rfl rfl | exact dno rfl) (by first | exact gno rfl | exact gyes rfl rfl rfl) pnil ?_ | refine RunK.cons (t_len rfl (by assumption) TLe.own) (by first | exact dlt rfl rfl | exact dno rfl) (by first | exact gno rfl | exact gyes rfl rfl rfl) pnil ?_ | refine RunK.cons (t_len_str rfl (by assumption) rfl) (by first | exact dlt rfl rfl | exact dno rfl) (by first | exact gno rfl | exact gyes rfl rfl rfl) pnil ?_)
            (first | refine RunK.cons (t_bin rfl rfl rfl (b_lss_t (by omega)) rfl) (by first | exact dlt rfl rfl | exact dno rfl) (by first | exact gno rfl | exact gyes rfl rfl rfl) pnil ?_ | refine RunK.cons (t_bin rfl rfl rfl (b_lss_f (by omega)) rfl) (by first | exact dlt rfl rfl | exact dno rfl) (by first | exact gno rfl | exact gyes rfl rfl rfl) pnil ?_ | refine RunK.cons (t_bin rfl rfl rfl (b_lss _ _ _ _) rfl) (by first | exact dlt rfl rfl | exact dno rfl) (by first | exact gno rfl | exact gyes rfl rfl rfl) pnil ?_)
            refine RunK.cons (t_move rfl (TLe.refl _)) (by first | exact dlt rfl rfl | exact dno rfl) (by first | exact gno rfl | exact gyes rfl rfl rfl) pnil ?_
            (first | refine RunK.cons (t_move rfl (TLe.refl _)) (by first | exact dlt rfl rfl | exact dno rfl) (by first | exact gno rfl | exact gyes rfl rfl rfl) pnil ?_ | refine RunK.skip (gskip rfl rfl rfl) (by first | exact dlt rfl rfl | exact dno rfl) ?_)
            (first | refine RunK.cons (t_move rfl (TLe.refl _)) (by first | exact dlt rfl rfl | exact dno rfl) (by first | exact gno rfl | exact gyes rfl rfl rfl) pnil ?_ | refine RunK.skip (gskip rfl rfl rfl) (by first | exact dlt rfl rfl | exact dno rfl) ?_)
            (first | refine RunK.cons (t_bin rfl rfl rfl (b_inc (by omega)) rfl) (by first | exact dlt rfl rfl | exact dno rfl) (by first | exact gno rfl | exact gyes rfl rfl rfl) pnil ?_ | refine RunK.cons (t_bin rfl rfl rfl (b_addn (by omega) (by omega)) rfl) (by first | exact dlt rfl rfl | exact dno rfl) (by first | exact gno rfl | exact gyes rfl rfl rfl) pnil ?_ | refine RunK.cons (t_bin rfl rfl rfl (b_add _ _ _ _) rfl) (by first | exact dlt rfl rfl | exact dno rfl) (by first | exact gno rfl | exact gyes rfl rfl rfl) pnil ?_ | refine RunK.skip (gskip rfl rfl rfl) (by first | exact dlt rfl rfl | exact dno rfl) ?_)
            (first | refine RunK.cons (t_bin rfl rfl rfl (b_lss_t (by omega)) rfl) (by first | exact dlt rfl rfl | exact dno rfl) (by first | exact gno rfl | exact gyes rfl rfl rfl) pnil ?_ | refine RunK.cons (t_bin rfl rfl rfl (b_lss_f (by omega)) rfl) (by first | exact dlt rfl rfl | exact dno rfl) (by first | exact gno rfl | exact gyes rfl rfl rfl) pnil ?_ | refine RunK.cons (t_bin rfl rfl rfl (b_lss _ _ _ _) rfl) (by first | exact dlt rfl rfl | exact dno rfl) (by first | exact gno rfl | exact gyes rfl rfl rfl) pnil ?_ | refine RunK.skip (gskip rfl rfl rfl) (by first | exact dlt rfl rfl | exact dno rfl) ?_)
            (first | refine RunK.cons (t_pick_t rfl rfl (TLe.refl _)) (by first | exact dlt rfl rfl | exact dno rfl) (by first | exact gno rfl | exact gyes rfl rfl rfl) pnil ?_ | refine RunK.cons (t_pick_f rfl rfl (TLe.refl _)) (by first | exact dlt rfl rfl | exact dno rfl) (by first | exact gno rfl | exact gyes rfl rfl rfl) pnil ?_)
            refine RunK.nil ?_
            refine hK _ _ ?_
            clear hK K
            refine AW.condF rfl ?_
            refine AW.trimk 10 ?_
            (repeat (first | refine TrimK.cons (v := .d _) rfl ?_ | refine TrimK.cons (v := .own _ _ _) rfl ?_ | refine TrimK.cons (v := .ref _ _) rfl ?_ | refine TrimK.cons (v := .fn _ _) rfl ?_ | refine TrimK.cons (v := .tup _) rfl ?_ | refine TrimK.cons (v := .mrow _ _) rfl ?_ | refine TrimK.cons (v := .pi _) rfl ?_ | refine TrimK.cons (v := .und) rfl ?_ | refine TrimK.cons rfl ?_))
            refine TrimK.nil ?_
            refine AW.exit (ifT rfl (hK4 _ _ ?_))
            refine AW.seq_k fun K hK => ?_
            refine AW.reg0k ?_
            refine RunK.cons (t_assign rfl (TLe.refl _)) (by first | exact dlt rfl rfl | exact dno rfl) (by first | exact gno rfl | exact gyes rfl rfl rfl) pnil ?_
            refine RunK.nil ?_
            refine hK _ _ ?_
            clear hK K
            refine AW.block ?_
            refine AW.loop (fun x : Nat × List D => x.1 ≤ o.length ∧ x.2 = (L ++ o.map (lkE t) ++ (o.take x.1).map (frE t)).map evD) (fun x => envL [.d (isD who), .d (isD locks), .und, .und, .und, .own 12 x.2 5, .d (.v (.int .i64 k)), .d (.v (.int .i64 t)), .own 1 od 8, .und, .und, .d (.v (.int .i64 x.1))]) (fun x => objL [(5, .row 41 12 x.2), (8, .row 3 1 od)]) (fun x => o.length - x.1) (0, dl1) ⟨Nat.zero_le _, by rw [hdl1]; simp⟩ ?_ ?_ ?_
            · exact Trim.all (by
              (repeat (first | exact Trim.nil | refine Trim.le (TLe.und _) ?_ | refine Trim.to rfl ?_ | refine Trim.le TLe.own ?_ | refine Trim.le TLe.nil ?_))
              )
            · exact objL_sub (ptwo rfl rfl)
            · rintro ⟨m, dl2⟩ ⟨hm, hdl2⟩
              dsimp only at hm hdl2 ⊢
              have hd2 : dl2.length ≤ 140 := by rw [hdl2]; have := hL.len; simp; omega
              by_cases hml : m < o.length
              · have hx3 : od[m]? = some (iD (o.getD m 0)) := by rw [hod]; simp [hml]
                have htk : o.take (m + 1) = o.take m ++ [o.getD m 0] := by
                  rw [List.take_succ_eq_append_getElem hml, List.getD_eq_getElem?_getD, List.getElem?_eq_getElem hml]; rfl
                refine AW.seq_k fun K6 hK6 => ?_
                refine AW.seq_k fun K hK => ?_
                refine AW.reg0k ?_
                refine RunK.cons (t_move rfl (TLe.refl _)) (by first | exact dlt rfl rfl | exact dno rfl) (by first | exact gno rfl | exact gyes rfl rfl rfl) pnil ?_
                refine RunK.cons (t_move rfl (TLe.refl _)) (by first | exact dlt rfl rfl | exact dno rfl) (by first | exact gno rfl | exact gyes rfl rfl rfl) pnil ?_
                (first | refine RunK.cons (t_len rfl (by assumption) (TLe.of_eq rfl)) (by first | exact dlt rfl rfl | exact dno rfl) (by first | exact gno rfl | exact gyes rfl rfl rfl) pnil ?_ | refine RunK.cons (t_len rfl (by assumption) TLe.own) (by first | exact dlt rfl rfl | exact dno rfl) (by first | exact gno rfl | exact gyes rfl rfl rfl) pnil ?_ | refine RunK.cons (t_len_str rfl (by assumption) rfl) (by first | exact dlt rfl rfl | exact dno rfl) (by first | exact gno rfl | exact gyes rfl rfl rfl) pnil ?_)
                (first | refine RunK.cons (t_bin rfl rfl rfl (b_lss_t (by omega)) rfl) (by first | exact dlt rfl rfl | exact dno rfl) (by first | exact gno rfl | exact gyes rfl rfl rfl) pnil ?_ | refine RunK.cons (t_bin rfl rfl rfl (b_lss_f (by omega)) rfl) (by first | exact dlt rfl rfl | exact dno rfl) (by first | exact gno rfl | exact gyes rfl rfl rfl) pnil ?_ | refine RunK.cons (t_bin rfl rfl rfl (b_lss _ _ _ _) rfl) (by first | exact dlt rfl rfl | exact dno rfl) (by first | exact gno rfl | exact gyes rfl rfl rfl) pnil ?_)
                refine RunK.nil ?_
                refine hK _ _ ?_
                clear hK K
                refine AW.condT rfl ?_
                refine AW.skip (hK6 _ _ ?_)
                refine AW.seq_k fun K7 hK7 => ?_
                refine AW.block ?_
                refine AW.trimk 12 ?_
                (repeat (first | refine TrimK.cons (v := .d _) rfl ?_ | refine TrimK.cons (v := .own _ _ _) rfl ?_ | refine TrimK.cons (v := .ref _ _) rfl ?_ | refine TrimK.cons (v := .fn _ _) rfl ?_ | refine TrimK.cons (v := .tup _) rfl ?_ | refine TrimK.cons (v := .mrow _ _) rfl ?_ | refine TrimK.cons (v := .pi _) rfl ?_ | refine TrimK.cons (v := .und) rfl ?_ | refine TrimK.cons rfl ?_))
                refine TrimK.nil ?_
                refine AW.reg0k ?_
                refine RunK.cons (t_move rfl (TLe.refl _)) (by first | exact dlt rfl rfl | exact dno rfl) (by first | exact gno rfl | exact gyes rfl rfl rfl) pnil ?_
                refine RunK.cons (t_move rfl (TLe.refl _)) (by first | exact dlt rfl rfl | exact dno rfl) (by first | exact gno rfl | exact gyes rfl rfl rfl) pnil ?_
                refine RunK.cons (t_move rfl (TLe.refl _)) (by first | exact dlt rfl rfl | exact dno rfl) (by first | exact gno rfl | exact gyes rfl rfl rfl) pnil ?_
                refine RunK.cons (t_move rfl (TLe.refl _)) (by first | exact dlt rfl rfl | exact dno rfl) (by first | exact gno rfl | exact gyes rfl rfl rfl) pnil ?_
                (first | refine RunK.cons (t_index rfl (by assumption) (TLe.of_eq rfl) rfl (by assumption) (by decide)) (by first | exact dlt rfl rfl | exact dno rfl) (by first | exact gno rfl | exact gyes rfl rfl rfl) pnil ?_ | refine RunK.cons (t_index rfl (by assumption) TLe.own rfl (by assumption) (by decide)) (by first | exact dlt rfl rfl | exact dno rfl) (by first | exact gno rfl | exact gyes rfl rfl rfl) pnil ?_)
                (first | refine RunK.cons (t_load rfl (by assumption) rfl rfl) (by first | exact dlt rfl rfl | exact dno rfl) (by first | exact gno rfl | exact gyes rfl rfl rfl) pnil ?_ | refine RunK.cons (t_load_ref rfl (by assumption) rfl rfl) (by first | exact dlt rfl rfl | exact dno rfl) (by first | exact gno rfl | exact gyes rfl rfl rfl) (pone rfl) ?_ | refine RunK.cons (t_load_agg rfl (by assumption) rfl (Nat.le_of_ble_eq_true rfl)) (by first | exact dlt rfl rfl | exact dno rfl) (by first | exact gno rfl | exact gyes rfl rfl rfl) pnil ?_ | refine RunK.cons (t_load_refa rfl (by assumption) rfl rfl rfl) (by first | exact dlt rfl rfl | exact dno rfl) (by first | exact gno rfl | exact gyes rfl rfl rfl) (pone rfl) ?_)
                (first | refine RunK.cons (t_build rfl (by assumption) (by assumption) (Parts.cons (TLe.of_eq rfl) rfl (Parts.cons (TLe.of_eq rfl) rfl (Parts.cons (TLe.of_eq rfl) rfl (Parts.nil)))) rfl) (by first | exact dlt rfl rfl | exact dno rfl) (by first | exact gno rfl | exact gyes rfl rfl rfl) pnil ?_ | refine RunK.cons (t_build rfl (by assumption) (by assumption) (Parts.cons (TLe.of_eq rfl) rfl (Parts.cons (TLe.of_eq rfl) rfl (Parts.cons (TLe.own) rfl (Parts.nil)))) rfl) (by first | exact dlt rfl rfl | exact dno rfl) (by first | exact gno rfl | exact gyes rfl rfl rfl) pnil ?_ | refine RunK.cons (t_build rfl (by assumption) (by assumption) (Parts.cons (TLe.of_eq rfl) rfl (Parts.cons (TLe.of_eq rfl) rfl (Parts.cons (TLe.nil) rfl (Parts.nil)))) rfl) (by first | exact dlt rfl rfl | exact dno rfl) (by first | exact gno rfl | exact gyes rfl rfl rfl) pnil ?_ | refine RunK.cons (t_build rfl (by assumption) (by assumption) (Parts.cons (TLe.of_eq rfl) rfl (Parts.cons (TLe.own) rfl (Parts.cons (TLe.of_eq rfl) rfl (Parts.nil)))) rfl) (by first | exact dlt rfl rfl | exact dno rfl) (by first | exact gno rfl | exact gyes rfl rfl rfl) pnil ?_ | refine RunK.cons (t_build rfl (by assumption) (by assumption) (Parts.cons (TLe.of_eq rfl) rfl (Parts.cons (TLe.own) rfl (Parts.cons (TLe.own) rfl (Parts.nil)))) rfl) (by first | exact dlt rfl rfl | exact dno rfl) (by first | exact gno rfl | exact gyes rfl rfl rfl) pnil ?_ | refine RunK.cons (t_build rfl (by assumption) (by assumption) (Parts.cons (TLe.of_eq rfl) rfl (Parts.cons (TLe.own) rfl (Parts.cons (TLe.nil) rfl (Parts.nil)))) rfl) (by first | exact dlt rfl rfl | exact dno rfl) (by first | exact gno rfl | exact gyes rfl rfl rfl) pnil ?_ | refine RunK.cons (t_build rfl (by assumption) (by assumption) (Parts.cons (TLe.of_eq rfl) rfl (Parts.cons (TLe.nil) rfl (Parts.cons (TLe.of_eq rfl) rfl (Parts.nil)))) rfl) (by first | exact dlt rfl rfl | exact dno rfl) (by first | exact gno rfl | exact gyes rfl rfl rfl) pnil ?_ | refine RunK.cons (t_build rfl (by assumption) (by assumption) (Parts.cons (TLe.of_eq rfl) rfl (Parts.cons (TLe.nil) rfl (Parts.cons (TLe.own) rfl (Parts.nil)))) rfl) (by first | exact dlt rfl rfl | exact dno rfl) (by first | exact gno rfl | exact gyes rfl rfl rfl) pnil ?_ | refine RunK.cons (t_build rfl (by assumption) (by assumption) (Parts.cons (TLe.of_eq rfl) rfl (Parts.cons (TLe.nil) rfl (Parts.cons (TLe.nil) rfl (Parts.nil)))) rfl) (by first | exact dlt rfl rfl | exact dno rfl) (by first | exact gno rfl | exact gyes rfl rfl rfl) pnil ?_ | refine RunK.cons (t_build rfl (by assumption) (by assumption) (Parts.cons (TLe.own) rfl (Parts.cons (TLe.of_eq rfl) rfl (Parts.cons (TLe.of_eq rfl) rfl (Parts.nil)))) rfl) (by first | exact dlt rfl rfl | exact dno rfl) (by first | exact gno rfl | exact gyes rfl rfl rfl) pnil ?_ | refine RunK.cons (t_build rfl (by assumption) (by assumption) (Parts.cons (TLe.own) rfl (Parts.cons (TLe.of_eq rfl) rfl (Parts.cons (TLe.own) rfl (Parts.nil)))) rfl) (by first | exact dlt rfl rfl | exact dno rfl) (by first | exact gno rfl | exact gyes rfl rfl rfl) pnil ?_ | refine RunK.cons (t_build rfl (by assumption) (by assumption) (Parts.cons (TLe.own) rfl (Parts.cons (TLe.of_eq rfl) rfl (Parts.cons (TLe.nil) rfl (Parts.nil)))) rfl) (by first | exact dlt rfl rfl | exact dno rfl) (by first | exact gno rfl | exact gyes rfl rfl rfl) pnil ?_ | refine RunK.cons (t_build rfl (by assumption) (by assumption) (Parts.cons (TLe.own) rfl (Parts.cons (TLe.own) rfl (Parts.cons (TLe.of_eq rfl) rfl (Parts.nil)))) rfl) (by first | exact dlt rfl rfl | exact dno rfl) (by first | exact gno rfl | exact gyes rfl rfl rfl) pnil ?_ | refine RunK.cons (t_build rfl (by assumption) (by assumption) (Parts.cons (TLe.own) rfl (Parts.cons (TLe.own) rfl (Parts.cons (TLe.own) rfl (Parts.nil)))) rfl) (by first | exact dlt rfl rfl | exact dno rfl) (by first | exact gno rfl | exact gyes rfl rfl rfl) pnil ?_ | refine RunK.cons (t_build rfl (by assumption) (by assumption) (Parts.cons (TLe.own) rfl (Parts.cons (TLe.own) rfl (Parts.cons (TLe.nil) rfl (Parts.nil)))) rfl) (by first | exact dlt rfl rfl | exact dno rfl) (by first | exact gno rfl | exact gyes rfl rfl rfl) pnil ?_ | refine RunK.cons (t_build rfl (by assumption) (by assumption) (Parts.cons (TLe.own) rfl (Parts.cons (TLe.nil) rfl (Parts.cons (TLe.of_eq rfl) rfl (Parts.nil)))) rfl) (by first | exact dlt rfl rfl | exact dno rfl) (by first | exact gno rfl | exact gyes rfl rfl rfl) pnil ?_ | refine RunK.cons (t_build rfl (by assumption) (by assumption) (Parts.cons (TLe.own) rfl (Parts.cons (TLe.nil) rfl (Parts.cons (TLe.own) rfl (Parts.nil)))) rfl) (by first | exact dlt rfl rfl | exact dno rfl) (by first | exact gno rfl | exact gyes rfl rfl rfl) pnil ?_ | refine RunK.cons (t_build rfl (by assumption) (by assumption) (Parts.cons (TLe.own) rfl (Parts.cons (TLe.nil) rfl (Parts.cons (TLe.nil) rfl (Parts.nil)))) rfl) (by first | exact dlt rfl rfl | exact dno rfl) (by first | exact gno rfl | exact gyes rfl rfl rfl) pnil ?_ | refine RunK.cons (t_build rfl (by assumption) (by assumption) (Parts.cons (TLe.nil) rfl (Parts.cons (TLe.of_eq rfl) rfl (Parts.cons (TLe.of_eq rfl) rfl (Parts.nil)))) rfl) (by first | exact dlt rfl rfl | exact dno rfl) (by first | exact gno rfl | exact gyes rfl rfl rfl) pnil ?_ | refine RunK.cons (t_build rfl (by assumption) (by assumption) (Parts.cons (TLe.nil) rfl (Parts.cons (TLe.of_eq rfl) rfl (Parts.cons (TLe.own) rfl (Parts.nil)))) rfl) (by first | exact dlt rfl rfl | exact dno rfl) (by first | exact gno rfl | exact gyes rfl rfl rfl) pnil ?_ | refine RunK.cons (t_build rfl (by assumption) (by assumption) (Parts.cons (TLe.nil) rfl (Parts.cons (TLe.of_eq rfl) rfl (Parts.cons (TLe.nil) rfl (Parts.nil)))) rfl) (by first | exact dlt rfl rfl | exact dno rfl) (by first | exact gno rfl | exact gyes rfl rfl rfl) pnil ?_ | refine RunK.cons (t_build rfl (by assumption) (by assumption) (Parts.cons (TLe.nil) rfl (Parts.cons (TLe.own) rfl (Parts.cons (TLe.of_eq rfl) rfl (Parts.nil)))) rfl) (by first | exact dlt rfl rfl | exact dno rfl) (by first | exact gno rfl | exact gyes rfl rfl rfl) pnil ?_ | refine RunK.cons (t_build rfl (by assumption) (by assumption) (Parts.cons (TLe.nil) rfl (Parts.cons (TLe.own) rfl (Parts.cons (TLe.own) rfl (Parts.nil)))) rfl) (by first | exact dlt rfl rfl | exact dno rfl) (by first | exact gno rfl | exact gyes rfl rfl rfl) pnil ?_ | refine RunK.cons (t_build rfl (by assumption) (by assumption) (Parts.cons (TLe.nil) rfl (Parts.cons (TLe.own) rfl (Parts.cons (TLe.nil) rfl (Parts.nil)))) rfl) (by first | exact dlt rfl rfl | exact dno rfl) (by first | exact gno rfl | exact gyes rfl rfl rfl) pnil ?_ | refine RunK.cons (t_build rfl (by assumption) (by assumption) (Parts.cons (TLe.nil) rfl (Parts.cons (TLe.nil) rfl (Parts.cons (TLe.of_eq rfl) rfl (Parts.nil)))) rfl) (by first | exact dlt rfl rfl | exact dno rfl) (by first | exact gno rfl | exact gyes rfl rfl rfl) pnil ?_ | refine RunK.cons (t_build rfl (by assumption) (by assumption) (Parts.cons (TLe.nil) rfl (Parts.cons (TLe.nil) rfl (Parts.cons (TLe.own) rfl (Parts.nil)))) rfl) (by first | exact dlt rfl rfl | exact dno rfl) (by first | exact gno rfl | exact gyes rfl rfl rfl) pnil ?_ | refine RunK.cons (t_build rfl (by assumption) (by assumption) (Parts.cons (TLe.nil) rfl (Parts.cons (TLe.nil) rfl (Parts.cons (TLe.nil) rfl (Parts.nil)))) rfl) (by first | exact dlt rfl rfl | exact dno rfl) (by first | exact gno rfl | exact gyes rfl rfl rfl) pnil ?_)
                (first | refine RunK.cons (t_sfull (e := 41) (k := 12) rfl (by assumption) (by assumption) (Full.cons (TLe.of_eq rfl) (Full.nil)) (by decide) (by decide) rfl (all_cons rfl (all_nil)) (by decide)) (by first | exact dlt rfl rfl | exact dno rfl) (by first | exact gno rfl | exact gyes rfl rfl rfl) pnil ?_ | refine RunK.cons (t_sfull (e := 41) (k := 12) rfl (by assumption) (by assumption) (Full.cons (TLe.own) (Full.nil)) (by decide) (by decide) rfl (all_cons rfl (all_nil)) (by decide)) (by first | exact dlt rfl rfl | exact dno rfl) (by first | exact gno rfl | exact gyes rfl rfl rfl) pnil ?_)
                (first | refine RunK.cons (t_append rfl (by assumption) rfl (TLe.of_eq rfl) (by first | omega | (simp; omega))) (by first | exact dlt rfl rfl | exact dno rfl) (by first | exact gno rfl | exact gyes rfl rfl rfl) (pone rfl) ?_ | refine RunK.cons (t_append rfl (by assumption) rfl TLe.own (by first | omega | (simp; omega))) (by first | exact dlt rfl rfl | exact dno rfl) (by first | exact gno rfl | exact gyes rfl rfl rfl) (pone rfl) ?_)
                (first | refine RunK.cons (t_nilrow (c := 5) (k := 12) (e := 41) rfl rfl) (by first | exact dlt rfl rfl | exact dno rfl) (by first | exact gno rfl | exact gyes rfl rfl rfl) (pone rfl) ?_ | refine RunK.cons (t_assign rfl (TLe.refl _)) (by first | exact dlt rfl rfl | exact dno rfl) (by first | exact gno rfl | exact gyes rfl rfl rfl) pnil ?_)
                refine RunK.nil ?_
                refine hK7 _ _ ?_
                refine AW.trimk 12 ?_
                (repeat (first | refine TrimK.cons (v := .d _) rfl ?_ | refine TrimK.cons (v := .own _ _ _) rfl ?_ | refine TrimK.cons (v := .ref _ _) rfl ?_ | refine TrimK.cons (v := .fn _ _) rfl ?_ | refine TrimK.cons (v := .tup _) rfl ?_ | refine TrimK.cons (v := .mrow _ _) rfl ?_ | refine TrimK.cons (v := .pi _) rfl ?_ | refine TrimK.cons (v := .und) rfl ?_ | refine TrimK.cons rfl ?_))
                refine TrimK.nil ?_
                refine AW.reg0k ?_
                refine RunK.cons (t_move rfl (TLe.refl _)) (by first | exact dlt rfl rfl | exact dno rfl) (by first | exact gno rfl | exact gyes rfl rfl rfl) pnil ?_
                (first | refine RunK.cons (t_bin rfl rfl rfl (b_inc (by omega)) rfl) (by first | exact dlt rfl rfl | exact dno rfl) (by first | exact gno rfl | exact gyes rfl rfl rfl) pnil ?_ | refine RunK.cons (t_bin rfl rfl rfl (b_addn (by omega) (by omega)) rfl) (by first | exact dlt rfl rfl | exact dno rfl) (by first | exact gno rfl | exact gyes rfl rfl rfl) pnil ?_ | refine RunK.cons (t_bin rfl rfl rfl (b_add _ _ _ _) rfl) (by first | exact dlt rfl rfl | exact dno rfl) (by first | exact gno rfl | exact gyes rfl rfl rfl) pnil ?_)
                refine RunK.cons (t_assign rfl (TLe.refl _)) (by first | exact dlt rfl rfl | exact dno rfl) (by first | exact gno rfl | exact gyes rfl rfl rfl) pnil ?_
                refine RunK.nil ?_
                exact ⟨(m + 1, _), ⟨by omega, by rw [htk, fr_snoc, ← hdl2]; rfl⟩, by dsimp only; omega, Trim.all (by
                  (repeat (first | exact Trim.nil | refine Trim.le (TLe.und _) ?_ | refine Trim.to rfl ?_ | refine Trim.le TLe.own ?_ | refine Trim.le TLe.nil ?_))
                  ), objL_sub (ptwo rfl rfl)⟩
              · obtain rfl : m = o.length := by omega
                rw [List.take_length] at hdl2
                refine AW.seq_k fun K6 hK6 => ?_
                refine AW.seq_k fun K hK => ?_
                refine AW.reg0k ?_
                refine RunK.cons (t_move rfl (TLe.refl _)) (by first | exact dlt rfl rfl | exact dno rfl) (by first | exact gno rfl | exact gyes rfl rfl rfl) pnil ?_
                refine RunK.cons (t_move rfl (TLe.refl _)) (by first | exact dlt rfl rfl | exact dno rfl) (by first | exact gno rfl | exact gyes rfl rfl rfl) pnil ?_
                (first | refine RunK.cons (t_len rfl (by assumption) (TLe.of_eq rfl)) (by first | exact dlt rfl rfl | exact dno rfl) (by first | exact gno rfl | exact gyes rfl rfl rfl) pnil ?_ | refine RunK.cons (t_len rfl (by assumption) TLe.own) (by first | exact dlt rfl rfl | exact dno rfl) (by first | exact gno rfl | exact gyes rfl rfl rfl) pnil ?_ | refine RunK.cons (t_len_str rfl (by assumption) rfl) (by first | exact dlt rfl rfl | exact dno rfl) (by first | exact gno rfl | exact gyes rfl rfl rfl) pnil ?_)
                (first | refine RunK.cons (t_bin rfl rfl rfl (b_lss_t (by omega)) rfl) (by first | exact dlt rfl rfl | exact dno rfl) (by first | exact gno rfl | exact gyes rfl rfl rfl) pnil ?_ | refine RunK.cons (t_bin rfl rfl rfl (b_lss_f (by omega)) rfl) (by first | exact dlt rfl rfl | exact dno rfl) (by first | exact gno rfl | exact gyes rfl rfl rfl) pnil ?_ | refine RunK.cons (t_bin rfl rfl rfl (b_lss _ _ _ _) rfl) (by first | exact dlt rfl rfl | exact dno rfl) (by first | exact gno rfl | exact gyes rfl rfl rfl) pnil ?_)
                refine RunK.nil ?_
                refine hK _ _ ?_
                clear hK K
                refine AW.condF rfl ?_
                refine AW.trimk 7 ?_
                (repeat (first | refine TrimK.cons (v := .d _) rfl ?_ | refine TrimK.cons (v := .own _ _ _) rfl ?_ | refine TrimK.cons (v := .ref _ _) rfl ?_ | refine TrimK.cons (v := .fn _ _) rfl ?_ | refine TrimK.cons (v := .tup _) rfl ?_ | refine TrimK.cons (v := .mrow _ _) rfl ?_ | refine TrimK.cons (v := .pi _) rfl ?_ | refine TrimK.cons (v := .und) rfl ?_ | refine TrimK.cons rfl ?_))
                refine TrimK.nil ?_
                refine AW.exit (ifT rfl (hK3 _ _ ?_))
                refine AW.reg0k ?_
                refine RunK.cons (t_move rfl (TLe.refl _)) (by first | exact dlt rfl rfl | exact dno rfl) (by first | exact gno rfl | exact gyes rfl rfl rfl) pnil ?_
                (first | refine RunK.cons (t_bin rfl rfl rfl (b_inc (by omega)) rfl) (by first | exact dlt rfl rfl | exact dno rfl) (by first | exact gno rfl | exact gyes rfl rfl rfl) pnil ?_ | refine RunK.cons (t_bin rfl rfl rfl (b_addn (by omega) (by omega)) rfl) (by first | exact dlt rfl rfl | exact dno rfl) (by first | exact gno rfl | exact gyes rfl rfl rfl) pnil ?_ | refine RunK.cons (t_bin rfl rfl rfl (b_add _ _ _ _) rfl) (by first | exact dlt rfl rfl | exact dno rfl) (by first | exact gno rfl | exact gyes rfl rfl rfl) pnil ?_)
                refine RunK.cons (t_assign rfl (TLe.refl _)) (by first | exact dlt rfl rfl | exact dno rfl) (by first | exact gno rfl | exact gyes rfl rfl rfl) pnil ?_
                refine RunK.nil ?_
                exact ⟨(k + 1, dl2), ⟨by omega, by omega, _, safeI_next hL htb hr ho3, hdl2⟩, by dsimp only; omega, Trim.all (by
                  (repeat (first | exact Trim.nil | refine Trim.le (TLe.und _) ?_ | refine Trim.to rfl ?_ | refine Trim.le TLe.own ?_ | refine Trim.le TLe.nil ?_))
                  ), objL_sub (pone rfl)⟩
    · have hL200 : L.length ≤ 200 := by have := hL.len; omega
      have hO := order_fn L hL200 hL.wf
      rw [← hdl] at hO
      have hup := order_up hL.good
      have hol := order_len L
      have hop := hL.pairs
      have hR := rank_fn (orderL L) (by omega) fun x hx => up_wf (hup x hx)
      have hok := rank_rise (l := orderL L) fun p hp => (hup p hp).1
      have hfew := rank_few hup
      rw [hok] at hR
      have hcr : ((rankL (orderL L)).1.map iD).length = (rankL (orderL L)).1.length := by simp
      generalize (rankL (orderL L)).1 = r at *
      generalize orderL L = po at *
      have hcp : (po.map dpD).length = po.length := by simp
      refine AW.seq_k fun K2 hK2 => ?_
      have hcs : (k < who.length ∧ ¬ k < 20) ∨ ¬ k < who.length := by omega
      rcases hcs with ⟨h3, h4⟩ | h3
      all_goals
        refine AW.seq_k fun K hK => ?_
        refine AW.reg0k ?_
        refine RunK.cons (t_move rfl (TLe.refl _)) (by first | exact dlt rfl rfl | exact dno rfl) (by first | exact gno rfl | exact gyes rfl rfl rfl) pnil ?_
        refine RunK.cons (t_move rfl (TLe.refl _)) (by first | exact dlt rfl rfl | exact dno rfl) (by first | exact gno rfl | exact gyes rfl rfl rfl) pnil ?_
        (first | refine RunK.cons (t_len rfl (by assumption) (TLe.of_eq rfl)) (by first | exact dlt rfl rfl | exact dno rfl) (by first | exact gno rfl | exact gyes rfl rfl rfl) pnil ?_ | refine RunK.cons (t_len rfl (by assumption) TLe.own) (by first | exact dlt rfl rfl | exact dno rfl) (by first | exact gno rfl | exact gyes rfl rfl rfl) pnil ?_ | refine RunK.cons (t_len_str rfl (by assumption) rfl) (by first | exact dlt rfl rfl | exact dno rfl) (by first | exact gno rfl | exact gyes rfl rfl rfl) pnil ?_)
        (first | refine RunK.cons (t_bin rfl rfl rfl (b_lss_t (by omega)) rfl) (by first | exact dlt rfl rfl | exact dno rfl) (by first | exact gno rfl | exact gyes rfl rfl rfl) pnil ?_ | refine RunK.cons (t_bin rfl rfl rfl (b_lss_f (by omega)) rfl) (by first | exact dlt rfl rfl | exact dno rfl) (by first | exact gno rfl | exact gyes rfl rfl rfl) pnil ?_ | refine RunK.cons (t_bin rfl rfl rfl (b_lss _ _ _ _) rfl) (by first | exact dlt rfl rfl | exact dno rfl) (by first | exact gno rfl | exact gyes rfl rfl rfl) pnil ?_)
        refine RunK.cons (t_move rfl (TLe.refl _)) (by first | exact dlt rfl rfl | exact dno rfl) (by first | exact gno rfl | exact gyes rfl rfl rfl) pnil ?_
        (first | refine RunK.cons (t_move rfl (TLe.refl _)) (by first | exact dlt rfl rfl | exact dno rfl) (by first | exact gno rfl | exact gyes rfl rfl rfl) pnil ?_ | refine RunK.skip (gskip rfl rfl rfl) (by first | exact dlt rfl rfl | exact dno rfl) ?_)
        (first | refine RunK.cons (t_bin rfl rfl rfl (b_lss_t (by omega)) rfl) (by first | exact dlt rfl rfl | exact dno rfl) (by first | exact gno rfl | exact gyes rfl rfl rfl) pnil ?_ | refine RunK.cons (t_bin rfl rfl rfl (b_lss_f (by omega)) rfl) (by first | exact dlt rfl rfl | exact dno rfl) (by first | exact gno rfl | exact gyes rfl rfl rfl) pnil ?_ | refine RunK.cons (t_bin rfl rfl rfl (b_lss _ _ _ _) rfl) (by first | exact dlt rfl rfl | exact dno rfl) (by first | exact gno rfl | exact gyes rfl rfl rfl) pnil ?_ | refine RunK.skip (gskip rfl rfl rfl) (by first | exact dlt rfl rfl | exact dno rfl) ?_)
        (first | refine RunK.cons (t_pick_t rfl rfl (TLe.refl _)) (by first | exact dlt rfl rfl | exact dno rfl) (by first | exact gno rfl | exact gyes rfl rfl rfl) pnil ?_ | refine RunK.cons (t_pick_f rfl rfl (TLe.refl _)) (by first | exact dlt rfl rfl | exact dno rfl) (by first | exact gno rfl | exact gyes rfl rfl rfl) pnil ?_)
        refine RunK.nil ?_
        refine hK _ _ ?_
        clear hK K
        refine AW.condF rfl ?_
        refine AW.trimk 7 ?_
        (repeat (first | refine TrimK.cons (v := .d _) rfl ?_ | refine TrimK.cons (v := .own _ _ _) rfl ?_ | refine TrimK.cons (v := .ref _ _) rfl ?_ | refine TrimK.cons (v := .fn _ _) rfl ?_ | refine TrimK.cons (v := .tup _) rfl ?_ | refine TrimK.cons (v := .mrow _ _) rfl ?_ | refine TrimK.cons (v := .pi _) rfl ?_ | refine TrimK.cons (v := .und) rfl ?_ | refine TrimK.cons rfl ?_))
        refine TrimK.nil ?_
        refine AW.exit (ifT rfl (hK _ _ ?_))
        refine AW.seq_k fun K hK => ?_
        refine AW.reg0k ?_
        refine RunK.cons (t_move rfl (TLe.refl _)) (by first | exact dlt rfl rfl | exact dno rfl) (by first | exact gno rfl | exact gyes rfl rfl rfl) pnil ?_
        refine RunK.cons (t_callf rfl (enters_of Try.func10 rfl rfl) (by assumption) (by repeat (first | exact TLes.nil | refine TLes.cons (TLe.of_eq rfl) ?_ | refine TLes.cons TLe.own ?_ | refine TLes.cons TLe.nil ?_))) (by first | exact dlt rfl rfl | exact dno rfl) (by first | exact gno rfl | exact gyes rfl rfl rfl) pnil ?_
        refine RunK.cons (t_move rfl (TLe.refl _)) (by first | exact dlt rfl rfl | exact dno rfl) (by first | exact gno rfl | exact gyes rfl rfl rfl) pnil ?_
        refine RunK.cons (t_extract rfl rfl rfl) (by first | exact dlt rfl rfl | exact dno rfl) (by first | exact gno rfl | exact gyes rfl rfl rfl) pnil ?_
        refine RunK.cons (t_extract rfl rfl rfl) (by first | exact dlt rfl rfl | exact dno rfl) (by first | exact gno rfl | exact gyes rfl rfl rfl) pnil ?_
        refine RunK.cons (t_assign rfl (TLe.refl _)) (by first | exact dlt rfl rfl | exact dno rfl) (by first | exact gno rfl | exact gyes rfl rfl rfl) pnil ?_
        refine RunK.cons (t_assign rfl (TLe.refl _)) (by first | exact dlt rfl rfl | exact dno rfl) (by first | exact gno rfl | exact gyes rfl rfl rfl) pnil ?_
        refine RunK.nil ?_
        refine hK _ _ ?_
        clear hK K
        refine AW.seq_k fun K hK => ?_
        refine AW.reg0k ?_
        refine RunK.cons (t_move rfl (TLe.refl _)) (by first | exact dlt rfl rfl | exact dno rfl) (by first | exact gno rfl | exact gyes rfl rfl rfl) pnil ?_
        refine RunK.cons (t_callf rfl (enters_of Try.func8 rfl rfl) (by assumption) (by repeat (first | exact TLes.nil | refine TLes.cons (TLe.of_eq rfl) ?_ | refine TLes.cons TLe.own ?_ | refine TLes.cons TLe.nil ?_))) (by first | exact dlt rfl rfl | exact dno rfl) (by first | exact gno rfl | exact gyes rfl rfl rfl) pnil ?_
        refine RunK.cons (t_move rfl (TLe.refl _)) (by first | exact dlt rfl rfl | exact dno rfl) (by first | exact gno rfl | exact gyes rfl rfl rfl) pnil ?_
        refine RunK.cons (t_extract rfl rfl rfl) (by first | exact dlt rfl rfl | exact dno rfl) (by first | exact gno rfl | exact gyes rfl rfl rfl) pnil ?_
        refine RunK.cons (t_extract rfl rfl rfl) (by first | exact dlt rfl rfl | exact dno rfl) (by first | exact gno rfl | exact gyes rfl rfl rfl) pnil ?_
        refine RunK.cons (t_extract rfl rfl rfl) (by first | exact dlt rfl rfl | exact dno rfl) (by first | exact gno rfl | exact gyes rfl rfl rfl) pnil ?_
        refine RunK.cons (t_assign rfl (TLe.refl _)) (by first | exact dlt rfl rfl | exact dno rfl) (by first | exact gno rfl | exact gyes rfl rfl rfl) pnil ?_
        refine RunK.cons (t_assign rfl (TLe.refl _)) (by first | exact dlt rfl rfl | exact dno rfl) (by first | exact gno rfl | exact gyes rfl rfl rfl) pnil ?_
        refine RunK.cons (t_assign rfl (TLe.refl _)) (by first | exact dlt rfl rfl | exact dno rfl) (by first | exact gno rfl | exact gyes rfl rfl rfl) pnil ?_
        refine RunK.nil ?_
        refine hK _ _ ?_
        clear hK K
        refine AW.trimk 17 ?_
        (repeat (first | refine TrimK.cons (v := .d _) rfl ?_ | refine TrimK.cons (v := .own _ _ _) rfl ?_ | refine TrimK.cons (v := .ref _ _) rfl ?_ | refine TrimK.cons (v := .fn _ _) rfl ?_ | refine TrimK.cons (v := .tup _) rfl ?_ | refine TrimK.cons (v := .mrow _ _) rfl ?_ | refine TrimK.cons (v := .pi _) rfl ?_ | refine TrimK.cons (v := .und) rfl ?_ | refine TrimK.cons rfl ?_))
        refine TrimK.nil ?_
        refine AW.seq_k fun K5 hK5 => ?_
        refine AW.seq_k fun K hK => ?_
        refine AW.reg0k ?_
        refine RunK.cons (t_assign rfl (TLe.refl _)) (by first | exact dlt rfl rfl | exact dno rfl) (by first | exact gno rfl | exact gyes rfl rfl rfl) pnil ?_
        refine RunK.nil ?_
        refine hK _ _ ?_
        clear hK K
        refine AW.block ?_
        refine AW.loop (fun i : Nat => i ≤ po.length) (fun i => envL [.und, .und, .und, .und, .und, .und, .und, .und, .und, .und, .und, .und, .d (.sl 2 (po.map dpD)), .d (.v (.int .i64 0)), .d (isD r), .d (.v (.bool true)), .d (.v (.int .i64 0)), .d (.v (.int .i64 i))]) (fun _ => objL []) (fun i => po.length - i) 0 (Nat.zero_le _) ?_ ?_ ?_
        · exact Trim.all (by
          (repeat (first | exact Trim.nil | refine Trim.le (TLe.und _) ?_ | refine Trim.to rfl ?_ | refine Trim.le TLe.own ?_ | refine Trim.le TLe.nil ?_))
          )
        · exact fun _ _ h => by cases h
        · intro i hi
          dsimp only
          by_cases hil : i < po.length
          · have hx1 : (po.map dpD)[i]? = some (dpD (po.getD i .z)) := by simp [hil]
            have hlt := (hup (po.getD i .z) (by simp [hil])).1
            refine AW.seq_k fun K6 hK6 => ?_
            refine AW.seq_k fun K hK => ?_
            refine AW.reg0k ?_
            refine RunK.cons (t_move rfl (TLe.refl _)) (by first | exact dlt rfl rfl | exact dno rfl) (by first | exact gno rfl | exact gyes rfl rfl rfl) pnil ?_
            refine RunK.cons (t_move rfl (TLe.refl _)) (by first | exact dlt rfl rfl | exact dno rfl) (by first | exact gno rfl | exact gyes rfl rfl rfl) pnil ?_
            (first | refine RunK.cons (t_len rfl (by assumption) (TLe.of_eq rfl)) (by first | exact dlt rfl rfl | exact dno rfl) (by first | exact gno rfl | exact gyes rfl rfl rfl) pnil ?_ | refine RunK.cons (t_len rfl (by assumption) TLe.own) (by first | exact dlt rfl rfl | exact dno rfl) (by first | exact gno rfl | exact gyes rfl rfl rfl) pnil ?_ | refine RunK.cons (t_len_str rfl (by assumption) rfl) (by first | exact dlt rfl rfl | exact dno rfl) (by first | exact gno rfl | exact gyes rfl rfl rfl) pnil ?_)
            (first | refine RunK.cons (t_bin rfl rfl rfl (b_lss_t (by omega)) rfl) (by first | exact dlt rfl rfl | exact dno rfl) (by first | exact gno rfl | exact gyes rfl rfl rfl) pnil ?_ | refine RunK.cons (t_bin rfl rfl rfl (b_lss_f (by omega)) rfl) (by first | exact dlt rfl rfl | exact dno rfl) (by first | exact gno rfl | exact gyes rfl rfl rfl) pnil ?_ | refine RunK.cons (t_bin rfl rfl rfl (b_lss _ _ _ _) rfl) (by first | exact dlt rfl rfl | exact dno rfl) (by first | exact gno rfl | exact gyes rfl rfl rfl) pnil ?_)
            refine RunK.nil ?_
            refine hK _ _ ?_
            clear hK K
            refine AW.condT rfl ?_
            refine AW.skip (hK6 _ _ ?_)
            refine AW.seq_k fun K7 hK7 => ?_
            refine AW.block ?_
            refine AW.trimk 18 ?_
            (repeat (first | refine TrimK.cons (v := .d _) rfl ?_ | refine TrimK.cons (v := .own _ _ _) rfl ?_ | refine TrimK.cons (v := .ref _ _) rfl ?_ | refine TrimK.cons (v := .fn _ _) rfl ?_ | refine TrimK.cons (v := .tup _) rfl ?_ | refine TrimK.cons (v := .mrow _ _) rfl ?_ | refine TrimK.cons (v := .pi _) rfl ?_ | refine TrimK.cons (v := .und) rfl ?_ | refine TrimK.cons rfl ?_))
            refine TrimK.nil ?_
            refine AW.seq_k fun K hK => ?_
            refine AW.reg1k (by kernel_rfl) ?_
            refine RunK.cons (t_move rfl (TLe.refl _)) (by first | exact dlt rfl rfl | exact dno rfl) (by first | exact gno rfl | exact gyes rfl rfl rfl) pnil ?_
            refine RunK.cons (t_move rfl (TLe.refl _)) (by first | exact dlt rfl rfl | exact dno rfl) (by first | exact gno rfl | exact gyes rfl rfl rfl) pnil ?_
            (first | refine RunK.cons (t_index rfl (by assumption) (TLe.of_eq rfl) rfl (by assumption) (by decide)) (by first | exact dlt rfl rfl | exact dno rfl) (by first | exact gno rfl | exact gyes rfl rfl rfl) pnil ?_ | refine RunK.cons (t_index rfl (by assumption) TLe.own rfl (by assumption) (by decide)) (by first | exact dlt rfl rfl | exact dno rfl) (by first | exact gno rfl | exact gyes rfl rfl rfl) pnil ?_)
            (first | refine RunK.cons (t_field rfl (by assumption) rfl) (by first | exact dlt rfl rfl | exact dno rfl) (by first | exact gno rfl | exact gyes rfl rfl rfl) pnil ?_ | refine RunK.cons (t_field_ref rfl (by assumption) rfl) (by first | exact dlt rfl rfl | exact dno rfl) (by first | exact gno rfl | exact gyes rfl rfl rfl) pnil ?_)
            (first | refine RunK.cons (t_load rfl (by assumption) rfl rfl) (by first | exact dlt rfl rfl | exact dno rfl) (by first | exact gno rfl | exact gyes rfl rfl rfl) pnil ?_ | refine RunK.cons (t_load_ref rfl (by assumption) rfl rfl) (by first | exact dlt rfl rfl | exact dno rfl) (by first | exact gno rfl | exact gyes rfl rfl rfl) (pone rfl) ?_ | refine RunK.cons (t_load_agg rfl (by assumption) rfl (Nat.le_of_ble_eq_true rfl)) (by first | exact dlt rfl rfl | exact dno rfl) (by first | exact gno rfl | exact gyes rfl rfl rfl) pnil ?_ | refine RunK.cons (t_load_refa rfl (by assumption) rfl rfl rfl) (by first | exact dlt rfl rfl | exact dno rfl) (by first | exact gno rfl | exact gyes rfl rfl rfl) (pone rfl) ?_)
            refine RunK.cons (t_move rfl (TLe.refl _)) (by first | exact dlt rfl rfl | exact dno rfl) (by first | exact gno rfl | exact gyes rfl rfl rfl) pnil ?_
            refine RunK.cons (t_move rfl (TLe.refl _)) (by first | exact dlt rfl rfl | exact dno rfl) (by first | exact gno rfl | exact gyes rfl rfl rfl) pnil ?_
            (first | refine RunK.cons (t_index rfl (by assumption) (TLe.of_eq rfl) rfl (by assumption) (by decide)) (by first | exact dlt rfl rfl | exact dno rfl) (by first | exact gno rfl | exact gyes rfl rfl rfl) pnil ?_ | refine RunK.cons (t_index rfl (by assumption) TLe.own rfl (by assumption) (by decide)) (by first | exact dlt rfl rfl | exact dno rfl) (by first | exact gno rfl | exact gyes rfl rfl rfl) pnil ?_)
            (first | refine RunK.cons (t_field rfl (by assumption) rfl) (by first | exact dlt rfl rfl | exact dno rfl) (by first | exact gno rfl | exact gyes rfl rfl rfl) pnil ?_ | refine RunK.cons (t_field_ref rfl (by assumption) rfl) (by first | exact dlt rfl rfl | exact dno rfl) (by first | exact gno rfl | exact gyes rfl rfl rfl) pnil ?_)
            (first | refine RunK.cons (t_load rfl (by assumption) rfl rfl) (by first | exact dlt rfl rfl | exact dno rfl) (by first | exact gno rfl | exact gyes rfl rfl rfl) pnil ?_ | refine RunK.cons (t_load_ref rfl (by assumption) rfl rfl) (by first | exact dlt rfl rfl | exact dno rfl) (by first | exact gno rfl | exact gyes rfl rfl rfl) (pone rfl) ?_ | refine RunK.cons (t_load_agg rfl (by assumption) rfl (Nat.le_of_ble_eq_true rfl)) (by first | exact dlt rfl rfl | exact dno rfl) (by first | exact gno rfl | exact gyes rfl rfl rfl) pnil ?_ | refine RunK.cons (t_load_refa rfl (by assumption) rfl rfl rfl) (by first | exact dlt rfl rfl | exact dno rfl) (by first | exact gno rfl | exact gyes rfl rfl rfl) (pone rfl) ?_)
            (first | refine RunK.cons (t_bin rfl rfl rfl (b_geq_t (by omega)) rfl) (by first | exact dlt rfl rfl | exact dno rfl) (by first | exact gno rfl | exact gyes rfl rfl rfl) pnil ?_ | refine RunK.cons (t_bin rfl rfl rfl (b_geq_f (by omega)) rfl) (by first | exact dlt rfl rfl | exact dno rfl) (by first | exact gno rfl | exact gyes rfl rfl rfl) pnil ?_ | refine RunK.cons (t_bin rfl rfl rfl (b_geq _ _ _ _) rfl) (by first | exact dlt rfl rfl | exact dno rfl) (by first | exact gno rfl | exact gyes rfl rfl rfl) pnil ?_)
            refine RunK.nil ⟨by kernel_rfl, ?_⟩
            refine hK _ _ ?_
            clear hK K
            refine AW.condF rfl ?_
            refine AW.trimk 18 ?_
            (repeat (first | refine TrimK.cons (v := .d _) rfl ?_ | refine TrimK.cons (v := .own _ _ _) rfl ?_ | refine TrimK.cons (v := .ref _ _) rfl ?_ | refine TrimK.cons (v := .fn _ _) rfl ?_ | refine TrimK.cons (v := .tup _) rfl ?_ | refine TrimK.cons (v := .mrow _ _) rfl ?_ | refine TrimK.cons (v := .pi _) rfl ?_ | refine TrimK.cons (v := .und) rfl ?_ | refine TrimK.cons rfl ?_))
            refine TrimK.nil ?_
            refine AW.skip (hK7 _ _ ?_)
            refine AW.reg0k ?_
            refine RunK.cons (t_move rfl (TLe.refl _)) (by first | exact dlt rfl rfl | exact dno rfl) (by first | exact gno rfl | exact gyes rfl rfl rfl) pnil ?_
            (first | refine RunK.cons (t_bin rfl rfl rfl (b_inc (by omega)) rfl) (by first | exact dlt rfl rfl | exact dno rfl) (by first | exact gno rfl | exact gyes rfl rfl rfl) pnil ?_ | refine RunK.cons (t_bin rfl rfl rfl (b_addn (by omega) (by omega)) rfl) (by first | exact dlt rfl rfl | exact dno rfl) (by first | exact gno rfl | exact gyes rfl rfl rfl) pnil ?_ | refine RunK.cons (t_bin rfl rfl rfl (b_add _ _ _ _) rfl) (by first | exact dlt rfl rfl | exact dno rfl) (by first | exact gno rfl | exact gyes rfl rfl rfl) pnil ?_)
            refine RunK.cons (t_assign rfl (TLe.refl _)) (by first | exact dlt rfl rfl | exact dno rfl) (by first | exact gno rfl | exact gyes rfl rfl rfl) pnil ?_
            refine RunK.nil ?_
            exact ⟨i + 1, by omega, by omega, Trim.all (by
              (repeat (first | exact Trim.nil | refine Trim.le (TLe.und _) ?_ | refine Trim.to rfl ?_ | refine Trim.le TLe.own ?_ | refine Trim.le TLe.nil ?_))
              ), fun _ _ h => by cases h⟩
          · obtain rfl : i = po.length := by omega
            refine AW.seq_k fun K6 hK6 => ?_
            refine AW.seq_k fun K hK => ?_
            refine AW.reg0k ?_
            refine RunK.cons (t_move rfl (TLe.refl _)) (by first | exact dlt rfl rfl | exact dno rfl) (by first | exact gno rfl | exact gyes rfl rfl rfl) pnil ?_
            refine RunK.cons (t_move rfl (TLe.refl _)) (by first | exact dlt rfl rfl | exact dno rfl) (by first | exact gno rfl | exact gyes rfl rfl rfl) pnil ?_
            (first | refine RunK.cons (t_len rfl (by assumption) (TLe.of_eq rfl)) (by first | exact dlt rfl rfl | exact dno rfl) (by first | exact gno rfl | exact gyes rfl rfl rfl) pnil ?_ | refine RunK.cons (t_len rfl (by assumption) TLe.own) (by first | exact dlt rfl rfl | exact dno rfl) (by first | exact gno rfl | exact gyes rfl rfl rfl) pnil ?_ | refine RunK.cons (t_len_str rfl (by assumption) rfl) (by first | exact dlt rfl rfl | exact dno rfl) (by first | exact gno rfl | exact gyes rfl rfl rfl) pnil ?_)
            (first | refine RunK.cons (t_bin rfl rfl rfl (b_lss_t (by omega)) rfl) (by first | exact dlt rfl rfl | exact dno rfl) (by first | exact gno rfl | exact gyes rfl rfl rfl) pnil ?_ | refine RunK.cons (t_bin rfl rfl rfl (b_lss_f (by omega)) rfl) (by first | exact dlt rfl rfl | exact dno rfl) (by first | exact gno rfl | exact gyes rfl rfl rfl) pnil ?_ | refine RunK.cons (t_bin rfl rfl rfl (b_lss _ _ _ _) rfl) (by first | exact dlt rfl rfl | exact dno rfl) (by first | exact gno rfl | exact gyes rfl rfl rfl) pnil ?_)
            refine RunK.nil ?_
            refine hK _ _ ?_
            clear hK K
            refine AW.condF rfl ?_
            refine AW.trimk 18 ?_
            (repeat (first | refine TrimK.cons (v := .d _) rfl ?_ | refine TrimK.cons (v := .own _ _ _) rfl ?_ | refine TrimK.cons (v := .ref _ _) rfl ?_ | refine TrimK.cons (v := .fn _ _) rfl ?_ | refine TrimK.cons (v := .tup _) rfl ?_ | refine TrimK.cons (v := .mrow _ _) rfl ?_ | refine TrimK.cons (v := .pi _) rfl ?_ | refine TrimK.cons (v := .und) rfl ?_ | refine TrimK.cons rfl ?_))
            refine TrimK.nil ?_
            refine AW.exit (ifT rfl (hK5 _ _ ?_))
            refine AW.seq_k fun K hK => ?_
            refine AW.reg0k ?_
            refine RunK.cons (t_callf rfl (enters_of Try.func6 rfl rfl) (by assumption) (by repeat (first | exact TLes.nil | refine TLes.cons (TLe.of_eq rfl) ?_ | refine TLes.cons TLe.own ?_ | refine TLes.cons TLe.nil ?_))) (by first | exact dlt rfl rfl | exact dno rfl) (by first | exact gno rfl | exact gyes rfl rfl rfl) pnil ?_
            refine RunK.cons (t_move rfl (TLe.refl _)) (by first | exact dlt rfl rfl | exact dno rfl) (by first | exact gno rfl | exact gyes rfl rfl rfl) pnil ?_
            (first | refine RunK.cons (t_move rfl (TLe.refl _)) (by first | exact dlt rfl rfl | exact dno rfl) (by first | exact gno rfl | exact gyes rfl rfl rfl) pnil ?_ | refine RunK.skip (gskip rfl rfl rfl) (by first | exact dlt rfl rfl | exact dno rfl) ?_)
            (first | refine RunK.cons (t_bin rfl rfl rfl (b_eql_t (by first | rfl | assumption | omega)) rfl) (by first | exact dlt rfl rfl | exact dno rfl) (by first | exact gno rfl | exact gyes rfl rfl rfl) pnil ?_ | refine RunK.cons (t_bin rfl rfl rfl (b_eql_f (by first | assumption | omega)) rfl) (by first | exact dlt rfl rfl | exact dno rfl) (by first | exact gno rfl | exact gyes rfl rfl rfl) pnil ?_ | refine RunK.cons (t_bin rfl rfl rfl (b_eql _ _ _ _) rfl) (by first | exact dlt rfl rfl | exact dno rfl) (by first | exact gno rfl | exact gyes rfl rfl rfl) pnil ?_ | refine RunK.cons (t_bin rfl rfl rfl (b_beql _ _ _ (by assumption)) rfl) (by first | exact dlt rfl rfl | exact dno rfl) (by first | exact gno rfl | exact gyes rfl rfl rfl) pnil ?_ | refine RunK.cons (t_bin rfl rfl rfl (b_seql _ _ _) rfl) (by first | exact dlt rfl rfl | exact dno rfl) (by first | exact gno rfl | exact gyes rfl rfl rfl) pnil ?_ | refine RunK.skip (gskip rfl rfl rfl) (by first | exact dlt rfl rfl | exact dno rfl) ?_)
            (first | refine RunK.cons (t_pick_t rfl rfl (TLe.refl _)) (by first | exact dlt rfl rfl | exact dno rfl) (by first | exact gno rfl | exact gyes rfl rfl rfl) pnil ?_ | refine RunK.cons (t_pick_f rfl rfl (TLe.refl _)) (by first | exact dlt rfl rfl | exact dno rfl) (by first | exact gno rfl | exact gyes rfl rfl rfl) pnil ?_)
            refine RunK.cons (t_move rfl (TLe.refl _)) (by first | exact dlt rfl rfl | exact dno rfl) (by first | exact gno rfl | exact gyes rfl rfl rfl) pnil ?_
            (first | refine RunK.cons (t_move rfl (TLe.refl _)) (by first | exact dlt rfl rfl | exact dno rfl) (by first | exact gno rfl | exact gyes rfl rfl rfl) pnil ?_ | refine RunK.skip (gskip rfl rfl rfl) (by first | exact dlt rfl rfl | exact dno rfl) ?_)
            (first | refine RunK.cons (t_bin rfl rfl rfl (b_eql_t (by first | rfl | assumption | omega)) rfl) (by first | exact dlt rfl rfl | exact dno rfl) (by first | exact gno rfl | exact gyes rfl rfl rfl) pnil ?_ | refine RunK.cons (t_bin rfl rfl rfl (b_eql_f (by first | assumption | omega)) rfl) (by first | exact dlt rfl rfl | exact dno rfl) (by first | exact gno rfl | exact gyes rfl rfl rfl) pnil ?_ | refine RunK.cons (t_bin rfl rfl rfl (b_eql _ _ _ _) rfl) (by first | exact dlt rfl rfl | exact dno rfl) (by first | exact gno rfl | exact gyes rfl rfl rfl) pnil ?_ | refine RunK.cons (t_bin rfl rfl rfl (b_beql _ _ _ (by assumption)) rfl) (by first | exact dlt rfl rfl | exact dno rfl) (by first | exact gno rfl | exact gyes rfl rfl rfl) pnil ?_ | refine RunK.cons (t_bin rfl rfl rfl (b_seql _ _ _) rfl) (by first | exact dlt rfl rfl | exact dno rfl) (by first | exact gno rfl | exact gyes rfl rfl rfl) pnil ?_ | refine RunK.skip (gskip rfl rfl rfl) (by first | exact dlt rfl rfl | exact dno rfl) ?_)
            (first | refine RunK.cons (t_pick_t rfl rfl (TLe.refl _)) (by first | exact dlt rfl rfl | exact dno rfl) (by first | exact gno rfl | exact gyes rfl rfl rfl) pnil ?_ | refine RunK.cons (t_pick_f rfl rfl (TLe.refl _)) (by first | exact dlt rfl rfl | exact dno rfl) (by first | exact gno rfl | exact gyes rfl rfl rfl) pnil ?_)
            refine RunK.cons (t_move rfl (TLe.refl _)) (by first | exact dlt rfl rfl | exact dno rfl) (by first | exact gno rfl | exact gyes rfl rfl rfl) pnil ?_
            (first | refine RunK.cons (t_move rfl (TLe.refl _)) (by first | exact dlt rfl rfl | exact dno rfl) (by first | exact gno rfl | exact gyes rfl rfl rfl) pnil ?_ | refine RunK.skip (gskip rfl rfl rfl) (by first | exact dlt rfl rfl | exact dno rfl) ?_)
            (first | refine RunK.cons (t_pick_t rfl rfl (TLe.refl _)) (by first | exact dlt rfl rfl | exact dno rfl) (by first | exact gno rfl | exact gyes rfl rfl rfl) pnil ?_ | refine RunK.cons (t_pick_f rfl rfl (TLe.refl _)) (by first | exact dlt rfl rfl | exact dno rfl) (by first | exact gno rfl | exact gyes rfl rfl rfl) pnil ?_)
            refine RunK.cons (t_move rfl (TLe.refl _)) (by first | exact dlt rfl rfl | exact dno rfl) (by first | exact gno rfl | exact gyes rfl rfl rfl) pnil ?_
            (first | refine RunK.cons (t_move rfl (TLe.refl _)) (by first | exact dlt rfl rfl | exact dno rfl) (by first | exact gno rfl | exact gyes rfl rfl rfl) pnil ?_ | refine RunK.skip (gskip rfl rfl rfl) (by first | exact dlt rfl rfl | exact dno rfl) ?_)
            (first | refine RunK.cons (t_len rfl (by assumption) (TLe.of_eq rfl)) (by first | exact dlt rfl rfl | exact dno rfl) (by first | exact gno rfl | exact gyes rfl rfl rfl) pnil ?_ | refine RunK.cons (t_len rfl (by assumption) TLe.own) (by first | exact dlt rfl rfl | exact dno rfl) (by first | exact gno rfl | exact gyes rfl rfl rfl) pnil ?_ | refine RunK.cons (t_len_str rfl (by assumption) rfl) (by first | exact dlt rfl rfl | exact dno rfl) (by first | exact gno rfl | exact gyes rfl rfl rfl) pnil ?_ | refine RunK.skip (gskip rfl rfl rfl) (by first | exact dlt rfl rfl | exact dno rfl) ?_)
            (first | refine RunK.cons (t_bin rfl rfl rfl (b_leq_t (by omega)) rfl) (by first | exact dlt rfl rfl | exact dno rfl) (by first | exact gno rfl | exact gyes rfl rfl rfl) pnil ?_ | refine RunK.cons (t_bin rfl rfl rfl (b_leq_f (by omega)) rfl) (by first | exact dlt rfl rfl | exact dno rfl) (by first | exact gno rfl | exact gyes rfl rfl rfl) pnil ?_ | refine RunK.cons (t_bin rfl rfl rfl (b_leq _ _ _ _) rfl) (by first | exact dlt rfl rfl | exact dno rfl) (by first | exact gno rfl | exact gyes rfl rfl rfl) pnil ?_ | refine RunK.skip (gskip rfl rfl rfl) (by first | exact dlt rfl rfl | exact dno rfl) ?_)
            (first | refine RunK.cons (t_pick_t rfl rfl (TLe.refl _)) (by first | exact dlt rfl rfl | exact dno rfl) (by first | exact gno rfl | exact gyes rfl rfl rfl) pnil ?_ | refine RunK.cons (t_pick_f rfl rfl (TLe.refl _)) (by first | exact dlt rfl rfl | exact dno rfl) (by first | exact gno rfl | exact gyes rfl rfl rfl) pnil ?_)
            refine RunK.cons (t_assign rfl (TLe.refl _)) (by first | exact dlt rfl rfl | exact dno rfl) (by first | exact gno rfl | exact gyes rfl rfl rfl) pnil ?_
            refine RunK.nil ?_
            refine hK _ _ ?_
            clear hK K
            exact AW.ret ⟨.inl rfl, TLe.of_eq rfl⟩
theorem safe_any {w : World} {p q : Option Addr} {c d : Nat} {l m : List Int} (hS : SlI w p c l) (hT : SlI w q d m) :
    Calls Try.prog 5 #[.slice p l.length c, .slice q m.length d] w fun e w' => e = .returned (.bool true) ∧ Below w.heap.size w w' :=
  (safe_fn l m).top (.cons (.d (rep_sl hS (by simp) fun S => rep_ints S l)) (.cons (.d (rep_sl hT (by simp) fun S => rep_ints S m)) .nil))
end Go.Proofs.Ytfcimbhjoioinaa
