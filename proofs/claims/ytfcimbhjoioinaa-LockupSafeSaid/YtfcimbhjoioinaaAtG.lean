/-
  The place of one in an order.
-/
import Derived.Test.YtfcimbhjoioinaaTy
import Derived.Test.YtfcimbhjoioinaaIdx
namespace Go.Proofs.Ytfcimbhjoioinaa
open Go.RowKit

abbrev iD (x : Int) : D := .v (.int .i64 x)
abbrev isD (l : List Int) : D := .sl 1 (l.map iD)
def atV (r : List Int) (x : Int) : Int := if x ∈ r then ((r.findIdx (· == x) : Nat) : Int) else -1
theorem at_fn (r : List Int) (x : Int) : FnD Try.prog 9 [.d (.v (.int .i64 x)), .pi [isD r]] (.d (.v (.int .i64 (atV r x)))) := by
  have qag3 := ag3
  have qze3 := ze3
  have qag24 := ag24
  have qel24 := el24
  have qro24 := ro24
  have qze24 := ze24
  refine FnD.of_AW (n := 18) Try.func9 rfl rfl rfl (Nat.le_of_ble_eq_true rfl) (fun _ => rfl) fun Γ hX => ?_
  refine AW.seq_k fun K hK => ?_
  refine AW.reg0k ?_
  refine RunK.cons (t_assign rfl (TLe.refl _)) (by first | exact dlt rfl rfl | exact dno rfl) (by first | exact gno rfl | exact gyes rfl rfl rfl) pnil ?_
  refine RunK.nil ?_
  refine hK _ _ ?_
  clear hK K
  refine AW.seq_k fun K hK => ?_
  refine AW.seq_k fun K hK => ?_
  refine AW.reg0k ?_
  refine RunK.cons (t_assign rfl (TLe.refl _)) (by first | exact dlt rfl rfl | exact dno rfl) (by first | exact gno rfl | exact gyes rfl rfl rfl) pnil ?_
  refine RunK.nil ?_
  refine hK _ _ ?_
  clear hK K
  refine AW.trimk 5 ?_
  (repeat (first | refine TrimK.cons (v := .d _) rfl ?_ | refine TrimK.cons (v := .own _ _ _) rfl ?_ | refine TrimK.cons (v := .ref _ _) rfl ?_ | refine TrimK.cons (v := .fn _ _) rfl ?_ | refine TrimK.cons (v := .tup _) rfl ?_ | refine TrimK.cons (v := .mrow _ _) rfl ?_ | refine TrimK.cons (v := .pi _) rfl ?_ | refine TrimK.cons (v := .und) rfl ?_ | refine TrimK.cons rfl ?_))
  refine TrimK.nil ?_
  refine AW.block ?_
  refine AW.lenp 1 1 (r.map iD) rfl 0 rfl fun hm => ?_
  have hcl : (r.map iD).length = r.length := by simp
  refine AW.loop (fun k : Nat => k ≤ r.length ∧ ∀ j y, j < k → r[j]? = some y → y ≠ x) (fun k => envL [.d (.v (.int .i64 x)), .pi [isD r], .und, .und, .d (.v (.int .i64 k))]) (fun _ => objL []) (fun k => r.length - k) 0 ⟨Nat.zero_le _, fun j y h => by omega⟩ ?_ ?_ ?_
  · exact Trim.all (by
    (repeat (first | exact Trim.nil | refine Trim.le (TLe.und _) ?_ | refine Trim.to rfl ?_ | refine Trim.le TLe.own ?_ | refine Trim.le TLe.nil ?_))
    )
  · exact fun _ _ h => h
  · rintro k ⟨hk, hno⟩
    dsimp only
    by_cases hlt : k < r.length
    · have hx1 : (r.map iD)[k]? = some (iD (r.getD k 0)) := by simp [hlt]
      refine AW.seq_k fun K2 hK2 => ?_
      refine AW.seq_k fun K hK => ?_
      refine AW.reg0k ?_
      refine RunK.cons (t_move rfl (TLe.refl _)) (by first | exact dlt rfl rfl | exact dno rfl) (by first | exact gno rfl | exact gyes rfl rfl rfl) pnil ?_
      (first | refine RunK.cons (t_load rfl (by assumption) rfl rfl) (by first | exact dlt rfl rfl | exact dno rfl) (by first | exact gno rfl | exact gyes rfl rfl rfl) pnil ?_ | refine RunK.cons (t_load_ref rfl (by assumption) rfl rfl) (by first | exact dlt rfl rfl | exact dno rfl) (by first | exact gno rfl | exact gyes rfl rfl rfl) (pone rfl) ?_ | refine RunK.cons (t_load_agg rfl (by assumption) rfl (Nat.le_of_ble_eq_true rfl)) (by first | exact dlt rfl rfl | exact dno rfl) (by first | exact gno rfl | exact gyes rfl rfl rfl) pnil ?_ | refine RunK.cons (t_load_refa rfl (by assumption) rfl rfl rfl) (by first | exact dlt rfl rfl | exact dno rfl) (by first | exact gno rfl | exact gyes rfl rfl rfl) (pone rfl) ?_)
      (first | refine RunK.cons (t_len rfl (by assumption) (TLe.of_eq rfl)) (by first | exact dlt rfl rfl | exact dno rfl) (by first | exact gno rfl | exact gyes rfl rfl rfl) pnil ?_ | refine RunK.cons (t_len rfl (by assumption) TLe.own) (by first | exact dlt rfl rfl | exact dno rfl) (by first | exact gno rfl | exact gyes rfl rfl rfl) pnil ?_ | refine RunK.cons (t_len_str rfl (by assumption) rfl) (by first | exact dlt rfl rfl | exact dno rfl) (by first | exact gno rfl | exact gyes rfl rfl rfl) pnil ?_)
      (first | refine RunK.cons (t_bin rfl rfl rfl (b_lss_t (by omega)) rfl) (by first | exact dlt rfl rfl | exact dno rfl) (by first | exact gno rfl | exact gyes rfl rfl rfl) pnil ?_ | refine RunK.cons (t_bin rfl rfl rfl (b_lss_f (by omega)) rfl) (by first | exact dlt rfl rfl | exact dno rfl) (by first | exact gno rfl | exact gyes rfl rfl rfl) pnil ?_ | refine RunK.cons (t_bin rfl rfl rfl (b_lss _ _ _ _) rfl) (by first | exact dlt rfl rfl | exact dno rfl) (by first | exact gno rfl | exact gyes rfl rfl rfl) pnil ?_)
      refine RunK.nil ?_
      refine hK _ _ ?_
      clear hK K
      refine AW.condT rfl ?_
      refine AW.trimk 5 ?_
      (repeat (first | refine TrimK.cons (v := .d _) rfl ?_ | refine TrimK.cons (v := .own _ _ _) rfl ?_ | refine TrimK.cons (v := .ref _ _) rfl ?_ | refine TrimK.cons (v := .fn _ _) rfl ?_ | refine TrimK.cons (v := .tup _) rfl ?_ | refine TrimK.cons (v := .mrow _ _) rfl ?_ | refine TrimK.cons (v := .pi _) rfl ?_ | refine TrimK.cons (v := .und) rfl ?_ | refine TrimK.cons rfl ?_))
      refine TrimK.nil ?_
      refine AW.skip ?_
      refine hK2 _ _ ?_
      refine AW.seq_k fun K3 hK3 => ?_
      refine AW.block ?_
      have hat : r[k]? = some (r.getD k 0) := by simp [hlt]
      by_cases he : r.getD k 0 = x
      · have hf : atV r x = k := by
          unfold atV
          rw [if_pos (by rw [← he]; exact List.mem_of_getElem? hat), findIdx_at (p := (· == x)) hat (by simpa using he) fun j y hj hy => by simpa using hno j y hj hy]
        refine AW.seq_k fun K hK => ?_
        refine AW.reg0k ?_
        (first | refine RunK.cons (t_load rfl (by assumption) rfl rfl) (by first | exact dlt rfl rfl | exact dno rfl) (by first | exact gno rfl | exact gyes rfl rfl rfl) pnil ?_ | refine RunK.cons (t_load_ref rfl (by assumption) rfl rfl) (by first | exact dlt rfl rfl | exact dno rfl) (by first | exact gno rfl | exact gyes rfl rfl rfl) (pone rfl) ?_ | refine RunK.cons (t_load_agg rfl (by assumption) rfl (Nat.le_of_ble_eq_true rfl)) (by first | exact dlt rfl rfl | exact dno rfl) (by first | exact gno rfl | exact gyes rfl rfl rfl) pnil ?_ | refine RunK.cons (t_load_refa rfl (by assumption) rfl rfl rfl) (by first | exact dlt rfl rfl | exact dno rfl) (by first | exact gno rfl | exact gyes rfl rfl rfl) (pone rfl) ?_)
        refine RunK.cons (t_move rfl (TLe.refl _)) (by first | exact dlt rfl rfl | exact dno rfl) (by first | exact gno rfl | exact gyes rfl rfl rfl) pnil ?_
        (first | refine RunK.cons (t_index rfl (by assumption) (TLe.of_eq rfl) rfl (by assumption) (by decide)) (by first | exact dlt rfl rfl | exact dno rfl) (by first | exact gno rfl | exact gyes rfl rfl rfl) pnil ?_ | refine RunK.cons (t_index rfl (by assumption) TLe.own rfl (by assumption) (by decide)) (by first | exact dlt rfl rfl | exact dno rfl) (by first | exact gno rfl | exact gyes rfl rfl rfl) pnil ?_)
        (first | refine RunK.cons (t_load rfl (by assumption) rfl rfl) (by first | exact dlt rfl rfl | exact dno rfl) (by first | exact gno rfl | exact gyes rfl rfl rfl) pnil ?_ | refine RunK.cons (t_load_ref rfl (by assumption) rfl rfl) (by first | exact dlt rfl rfl | exact dno rfl) (by first | exact gno rfl | exact gyes rfl rfl rfl) (pone rfl) ?_ | refine RunK.cons (t_load_agg rfl (by assumption) rfl (Nat.le_of_ble_eq_true rfl)) (by first | exact dlt rfl rfl | exact dno rfl) (by first | exact gno rfl | exact gyes rfl rfl rfl) pnil ?_ | refine RunK.cons (t_load_refa rfl (by assumption) rfl rfl rfl) (by first | exact dlt rfl rfl | exact dno rfl) (by first | exact gno rfl | exact gyes rfl rfl rfl) (pone rfl) ?_)
        refine RunK.cons (t_move rfl (TLe.refl _)) (by first | exact dlt rfl rfl | exact dno rfl) (by first | exact gno rfl | exact gyes rfl rfl rfl) pnil ?_
        (first | refine RunK.cons (t_bin rfl rfl rfl (b_eql_t (by first | rfl | assumption | omega)) rfl) (by first | exact dlt rfl rfl | exact dno rfl) (by first | exact gno rfl | exact gyes rfl rfl rfl) pnil ?_ | refine RunK.cons (t_bin rfl rfl rfl (b_eql_f (by first | assumption | omega)) rfl) (by first | exact dlt rfl rfl | exact dno rfl) (by first | exact gno rfl | exact gyes rfl rfl rfl) pnil ?_ | refine RunK.cons (t_bin rfl rfl rfl (b_eql _ _ _ _) rfl) (by first | exact dlt rfl rfl | exact dno rfl) (by first | exact gno rfl | exact gyes rfl rfl rfl) pnil ?_ | refine RunK.cons (t_bin rfl rfl rfl (b_beql _ _ _ (by assumption)) rfl) (by first | exact dlt rfl rfl | exact dno rfl) (by first | exact gno rfl | exact gyes rfl rfl rfl) pnil ?_ | refine RunK.cons (t_bin rfl rfl rfl (b_seql _ _ _) rfl) (by first | exact dlt rfl rfl | exact dno rfl) (by first | exact gno rfl | exact gyes rfl rfl rfl) pnil ?_)
        refine RunK.nil ?_
        refine hK _ _ ?_
        clear hK K
        refine AW.condT rfl ?_
        refine AW.seq_k fun K hK => ?_
        refine AW.reg0k ?_
        refine RunK.cons (t_move rfl (TLe.refl _)) (by first | exact dlt rfl rfl | exact dno rfl) (by first | exact gno rfl | exact gyes rfl rfl rfl) pnil ?_
        refine RunK.cons (t_assign rfl (TLe.refl _)) (by first | exact dlt rfl rfl | exact dno rfl) (by first | exact gno rfl | exact gyes rfl rfl rfl) pnil ?_
        refine RunK.nil ?_
        refine hK _ _ ?_
        clear hK K
        exact AW.ret ⟨.inl rfl, TLe.of_eq (by rw [hf]; rfl)⟩
      · refine AW.seq_k fun K hK => ?_
        refine AW.reg0k ?_
        (first | refine RunK.cons (t_load rfl (by assumption) rfl rfl) (by first | exact dlt rfl rfl | exact dno rfl) (by first | exact gno rfl | exact gyes rfl rfl rfl) pnil ?_ | refine RunK.cons (t_load_ref rfl (by assumption) rfl rfl) (by first | exact dlt rfl rfl | exact dno rfl) (by first | exact gno rfl | exact gyes rfl rfl rfl) (pone rfl) ?_ | refine RunK.cons (t_load_agg rfl (by assumption) rfl (Nat.le_of_ble_eq_true rfl)) (by first | exact dlt rfl rfl | exact dno rfl) (by first | exact gno rfl | exact gyes rfl rfl rfl) pnil ?_ | refine RunK.cons (t_load_refa rfl (by assumption) rfl rfl rfl) (by first | exact dlt rfl rfl | exact dno rfl) (by first | exact gno rfl | exact gyes rfl rfl rfl) (pone rfl) ?_)
        refine RunK.cons (t_move rfl (TLe.refl _)) (by first | exact dlt rfl rfl | exact dno rfl) (by first | exact gno rfl | exact gyes rfl rfl rfl) pnil ?_
        (first | refine RunK.cons (t_index rfl (by assumption) (TLe.of_eq rfl) rfl (by assumption) (by decide)) (by first | exact dlt rfl rfl | exact dno rfl) (by first | exact gno rfl | exact gyes rfl rfl rfl) pnil ?_ | refine RunK.cons (t_index rfl (by assumption) TLe.own rfl (by assumption) (by decide)) (by first | exact dlt rfl rfl | exact dno rfl) (by first | exact gno rfl | exact gyes rfl rfl rfl) pnil ?_)
        (first | refine RunK.cons (t_load rfl (by assumption) rfl rfl) (by first | exact dlt rfl rfl | exact dno rfl) (by first | exact gno rfl | exact gyes rfl rfl rfl) pnil ?_ | refine RunK.cons (t_load_ref rfl (by assumption) rfl rfl) (by first | exact dlt rfl rfl | exact dno rfl) (by first | exact gno rfl | exact gyes rfl rfl rfl) (pone rfl) ?_ | refine RunK.cons (t_load_agg rfl (by assumption) rfl (Nat.le_of_ble_eq_true rfl)) (by first | exact dlt rfl rfl | exact dno rfl) (by first | exact gno rfl | exact gyes rfl rfl rfl) pnil ?_ | refine RunK.cons (t_load_refa rfl (by assumption) rfl rfl rfl) (by first | exact dlt rfl rfl | exact dno rfl) (by first | exact gno rfl | exact gyes rfl rfl rfl) (pone rfl) ?_)
        refine RunK.cons (t_move rfl (TLe.refl _)) (by first | exact dlt rfl rfl | exact dno rfl) (by first | exact gno rfl | exact gyes rfl rfl rfl) pnil ?_
        (first | refine RunK.cons (t_bin rfl rfl rfl (b_eql_t (by first | rfl | assumption | omega)) rfl) (by first | exact dlt rfl rfl | exact dno rfl) (by first | exact gno rfl | exact gyes rfl rfl rfl) pnil ?_ | refine RunK.cons (t_bin rfl rfl rfl (b_eql_f (by first | assumption | omega)) rfl) (by first | exact dlt rfl rfl | exact dno rfl) (by first | exact gno rfl | exact gyes rfl rfl rfl) pnil ?_ | refine RunK.cons (t_bin rfl rfl rfl (b_eql _ _ _ _) rfl) (by first | exact dlt rfl rfl | exact dno rfl) (by first | exact gno rfl | exact gyes rfl rfl rfl) pnil ?_ | refine RunK.cons (t_bin rfl rfl rfl (b_beql _ _ _ (by assumption)) rfl) (by first | exact dlt rfl rfl | exact dno rfl) (by first | exact gno rfl | exact gyes rfl rfl rfl) pnil ?_ | refine RunK.cons (t_bin rfl rfl rfl (b_seql _ _ _) rfl) (by first | exact dlt rfl rfl | exact dno rfl) (by first | exact gno rfl | exact gyes rfl rfl rfl) pnil ?_)
        refine RunK.nil ?_
        refine hK _ _ ?_
        clear hK K
        refine AW.condF rfl ?_
        refine AW.trimk 5 ?_
        (repeat (first | refine TrimK.cons (v := .d _) rfl ?_ | refine TrimK.cons (v := .own _ _ _) rfl ?_ | refine TrimK.cons (v := .ref _ _) rfl ?_ | refine TrimK.cons (v := .fn _ _) rfl ?_ | refine TrimK.cons (v := .tup _) rfl ?_ | refine TrimK.cons (v := .mrow _ _) rfl ?_ | refine TrimK.cons (v := .pi _) rfl ?_ | refine TrimK.cons (v := .und) rfl ?_ | refine TrimK.cons rfl ?_))
        refine TrimK.nil ?_
        refine AW.skip (hK3 _ _ ?_)
        refine AW.reg0k ?_
        refine RunK.cons (t_move rfl (TLe.refl _)) (by first | exact dlt rfl rfl | exact dno rfl) (by first | exact gno rfl | exact gyes rfl rfl rfl) pnil ?_
        (first | refine RunK.cons (t_bin rfl rfl rfl (b_inc (by omega)) rfl) (by first | exact dlt rfl rfl | exact dno rfl) (by first | exact gno rfl | exact gyes rfl rfl rfl) pnil ?_ | refine RunK.cons (t_bin rfl rfl rfl (b_addn (by omega) (by omega)) rfl) (by first | exact dlt rfl rfl | exact dno rfl) (by first | exact gno rfl | exact gyes rfl rfl rfl) pnil ?_ | refine RunK.cons (t_bin rfl rfl rfl (b_add _ _ _ _) rfl) (by first | exact dlt rfl rfl | exact dno rfl) (by first | exact gno rfl | exact gyes rfl rfl rfl) pnil ?_)
        refine RunK.cons (t_assign rfl (TLe.refl _)) (by first | exact dlt rfl rfl | exact dno rfl) (by first | exact gno rfl | exact gyes rfl rfl rfl) pnil ?_
        refine RunK.nil ?_
        exact ⟨k + 1, ⟨by omega, fun j y hj hy => by
          rcases Nat.lt_or_ge j k with h3 | h3
          · exact hno j y h3 hy
          · obtain rfl : j = k := by omega
            rw [hat] at hy; cases hy; exact he⟩, by omega, Trim.all (by
            (repeat (first | exact Trim.nil | refine Trim.le (TLe.und _) ?_ | refine Trim.to rfl ?_ | refine Trim.le TLe.own ?_ | refine Trim.le TLe.nil ?_))
            ), fun _ _ h => h⟩
    · obtain rfl : k = r.length := by omega
      have hf : atV r x = -1 := by
        unfold atV
        rw [if_neg fun h => ?_]
        obtain ⟨j, hj, e⟩ := List.getElem_of_mem h
        exact hno j x hj (by rw [List.getElem?_eq_getElem hj, e]) rfl
      refine AW.seq_k fun K2 hK2 => ?_
      refine AW.seq_k fun K hK => ?_
      refine AW.reg0k ?_
      refine RunK.cons (t_move rfl (TLe.refl _)) (by first | exact dlt rfl rfl | exact dno rfl) (by first | exact gno rfl | exact gyes rfl rfl rfl) pnil ?_
      (first | refine RunK.cons (t_load rfl (by assumption) rfl rfl) (by first | exact dlt rfl rfl | exact dno rfl) (by first | exact gno rfl | exact gyes rfl rfl rfl) pnil ?_ | refine RunK.cons (t_load_ref rfl (by assumption) rfl rfl) (by first | exact dlt rfl rfl | exact dno rfl) (by first | exact gno rfl | exact gyes rfl rfl rfl) (pone rfl) ?_ | refine RunK.cons (t_load_agg rfl (by assumption) rfl (Nat.le_of_ble_eq_true rfl)) (by first | exact dlt rfl rfl | exact dno rfl) (by first | exact gno rfl | exact gyes rfl rfl rfl) pnil ?_ | refine RunK.cons (t_load_refa rfl (by assumption) rfl rfl rfl) (by first | exact dlt rfl rfl | exact dno rfl) (by first | exact gno rfl | exact gyes rfl rfl rfl) (pone rfl) ?_)
      (first | refine RunK.cons (t_len rfl (by assumption) (TLe.of_eq rfl)) (by first | exact dlt rfl rfl | exact dno rfl) (by first | exact gno rfl | exact gyes rfl rfl rfl) pnil ?_ | refine RunK.cons (t_len rfl (by assumption) TLe.own) (by first | exact dlt rfl rfl | exact dno rfl) (by first | exact gno rfl | exact gyes rfl rfl rfl) pnil ?_ | refine RunK.cons (t_len_str rfl (by assumption) rfl) (by first | exact dlt rfl rfl | exact dno rfl) (by first | exact gno rfl | exact gyes rfl rfl rfl) pnil ?_)
      (first | refine RunK.cons (t_bin rfl rfl rfl (b_lss_t (by omega)) rfl) (by first | exact dlt rfl rfl | exact dno rfl) (by first | exact gno rfl | exact gyes rfl rfl rfl) pnil ?_ | refine RunK.cons (t_bin rfl rfl rfl (b_lss_f (by omega)) rfl) (by first | exact dlt rfl rfl | exact dno rfl) (by first | exact gno rfl | exact gyes rfl rfl rfl) pnil ?_ | refine RunK.cons (t_bin rfl rfl rfl (b_lss _ _ _ _) rfl) (by first | exact dlt rfl rfl | exact dno rfl) (by first | exact gno rfl | exact gyes rfl rfl rfl) pnil ?_)
      refine RunK.nil ?_
      refine hK _ _ ?_
      clear hK K
      refine AW.condF rfl ?_
      refine AW.trimk 5 ?_
      (repeat (first | refine TrimK.cons (v := .d _) rfl ?_ | refine TrimK.cons (v := .own _ _ _) rfl ?_ | refine TrimK.cons (v := .ref _ _) rfl ?_ | refine TrimK.cons (v := .fn _ _) rfl ?_ | refine TrimK.cons (v := .tup _) rfl ?_ | refine TrimK.cons (v := .mrow _ _) rfl ?_ | refine TrimK.cons (v := .pi _) rfl ?_ | refine TrimK.cons (v := .und) rfl ?_ | refine TrimK.cons rfl ?_))
      refine TrimK.nil ?_
      refine AW.exit (ifT rfl (hK _ _ ?_))
      refine AW.seq_k fun K hK => ?_
      refine AW.reg0k ?_
      refine RunK.cons (t_assign rfl (TLe.refl _)) (by first | exact dlt rfl rfl | exact dno rfl) (by first | exact gno rfl | exact gyes rfl rfl rfl) pnil ?_
      refine RunK.nil ?_
      refine hK _ _ ?_
      clear hK K
      exact AW.ret ⟨.inl rfl, TLe.of_eq (by rw [hf]; rfl)⟩
end Go.Proofs.Ytfcimbhjoioinaa
