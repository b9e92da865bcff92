/-
  Ro, Rp, Fp, Rq, Lm, in one.
-/
import Derived.Test.YtddmcmkhjkleoaaGreatDoorMal
import Derived.Test.YtddmcmkhjkleoaaGreatDoorMaw
import Derived.Test.YtddmcmkhjkleoaaGreatDoorMap
import Derived.Lib.RuneCount
import Derived.Test.YtddmcmkhjkleoaaGreatDoorMat
section
namespace Go.Proofs.YtddmcmkhjkleoaaGreatDoor
open Go.RowKit

set_option maxRecDepth 100000 in
set_option maxHeartbeats 1000000 in
theorem line_none (s : List UInt8) (hs : s.length ≤ 2000000) (hT : isT s = false) (w : List UInt8) (l : List (List UInt8)) (hF : fieldsL s = w :: l) (w1 : w ≠ constW') (w2 : w ≠ fnW) (w3 : w ≠ genW) (v1 : Nat) (cs tx : List D) (M : List (Value × D)) (v2 : Nat) (ca : List D) (v3 : Nat) (co : List D) (b : Bool) (hf : mfind M (strV w) = none ∨ ∃ k, mfind M (strV w) = some (iD k)) :
    FnO Tryz.prog 21 [.ref 1000 0, strT s] (RO v1 [] [] cs tx M v2 ca v3 co b) (.tup []) (RO v1 [] [] cs tx M v2 ca v3 co true) := by
  have h1 := trimS_fn s
  have h2 := cutP_fn (bareL s) txtW
  have h5 := fields_line s (by omega)
  change FnD _ _ _ (strT (bareL s)) at h1
  change FnD _ _ _ (.tup [strT (restL s), boolT (Lib.hasPrefix (bareL s) txtW)]) at h2
  change FnD _ _ _ (.d (txD (fieldsL s))) at h5
  have hk := not_text hT
  rw [hF] at h5
  change FnD _ _ _ (.d (.sl 1 (List.map strD (w :: l)))) at h5
  generalize bareL s = bare at *
  generalize restL s = rest at *
  generalize Lib.hasPrefix bare txtW = hp at *
  have hlc := len_cons w l
  have hx0 : (List.map strD (w :: l))[0]? = some (strD w) := rfl
  have q2 : (w == constW') = false := beq_eq_false_iff_ne.2 w1
  have q3 : (w == fnW) = false := beq_eq_false_iff_ne.2 w2
  have q4 : (w == genW) = false := beq_eq_false_iff_ne.2 w3
  rcases hf with hf | ⟨k, hf⟩
  all_goals
    rcases hk with rfl | ⟨rfl, c, rr, rfl, hix⟩
    · refine FnO.of0 (n := 151) [] fax_ok Tryz.func21 rfl rfl rfl (by rfl) (by rfl) (by kernel_rfl) fun Γ hA hbA hbO => ?_
      (repeat ((conv => whnf); (first | refine exE (α := Option D) _ (by assumption) ?_ | refine exR ?_ | refine gd (enters_of Tryz.func36 rfl rfl) h1 ?_ | refine gd (enters_of Tryz.func37 rfl rfl) h2 ?_ | refine gd (enters_of Tryz.func40 rfl rfl) h5 ?_ | refine tF ?_ | refine oB ?_ | refine And.intro rfl ?_ | refine And.intro (a := Go.MapKept.IsKey _ _) trivial ?_ | refine exI _ rfl (by assumption) ?_)))
      refine gen_one (t_fr_len (e' := 39) (k' := 5) (id := 1001) (k := 5) (e := 39) (ver := v1) (l := []) (ts := []) (n := 0) rfl (by kernel_rfl) rfl (by decide) (.inl ⟨rfl, rfl⟩)) rfl ?_
      (repeat ((conv => whnf); (first | refine exR ?_ | refine tT ?_ | refine uF ?_)))
      exact ⟨eN, rS, fiO⟩
    · have hx : (c :: rr)[0]? = some c := rfl
      have hr0 : ((c :: rr) == ([] : List UInt8)) = false := rfl
      have h6 := indexB_fn [32, 9, 34] c
      generalize Lib.indexByte [32, 9, 34] c = ix at *
      have q1 : decide (0 ≤ ix) = false := decide_eq_false (by omega)
      generalize c :: rr = cr at *
      refine FnO.of0 (n := 151) [] fax_ok Tryz.func21 rfl rfl rfl (by rfl) (by rfl) (by kernel_rfl) fun Γ hA hbA hbO => ?_
      (repeat ((conv => whnf); (first | refine exE (α := Option D) _ (by assumption) ?_ | refine exR ?_ | refine gd (enters_of Tryz.func36 rfl rfl) h1 ?_ | refine gd (enters_of Tryz.func37 rfl rfl) h2 ?_ | refine gd (enters_of Tryz.func38 rfl rfl) h6 ?_ | refine gd (enters_of Tryz.func40 rfl rfl) h5 ?_ | refine tT ?_ | refine tF ?_ | refine uT ?_ | refine oB ?_ | refine And.intro rfl ?_ | refine And.intro (a := Go.MapKept.IsKey _ _) trivial ?_ | refine exI _ rfl (by assumption) ?_ | refine exB _ rfl (by assumption) ?_)))
      refine gen_one (t_fr_len (e' := 39) (k' := 5) (id := 1001) (k := 5) (e := 39) (ver := v1) (l := []) (ts := []) (n := 0) rfl (by kernel_rfl) rfl (by decide) (.inl ⟨rfl, rfl⟩)) rfl ?_
      (repeat ((conv => whnf); (first | refine exR ?_ | refine tT ?_ | refine uF ?_)))
      exact ⟨eN, rS, fiO⟩
set_option maxRecDepth 100000 in
set_option maxHeartbeats 1000000 in
theorem line_unk (s : List UInt8) (hs : s.length ≤ 2000000) (hT : isT s = false) (w : List UInt8) (l : List (List UInt8)) (hF : fieldsL s = w :: l) (w1 : w ≠ constW') (w2 : w ≠ fnW) (w3 : w ≠ genW) (hc : w ≠ caughtW) (v1 : Nat) (dn : List D) (p r : Int) (g : Bool) (cs tx : List D) (M : List (Value × D)) (v2 : Nat) (ca : List D) (v3 : Nat) (co : List D) (b : Bool) (hf : mfind M (strV w) = none) :
    FnO Tryz.prog 21 [.ref 1000 0, strT s] (RO v1 dn (FnT v2 v3 p r g) cs tx M v2 ca v3 co b) (.tup []) (RO v1 dn (FnT v2 v3 p r g) cs tx M v2 ca v3 co true) := by
  have h1 := trimS_fn s
  have h2 := cutP_fn (bareL s) txtW
  have h5 := fields_line s (by omega)
  change FnD _ _ _ (strT (bareL s)) at h1
  change FnD _ _ _ (.tup [strT (restL s), boolT (Lib.hasPrefix (bareL s) txtW)]) at h2
  change FnD _ _ _ (.d (txD (fieldsL s))) at h5
  have hk := not_text hT
  rw [hF] at h5
  change FnD _ _ _ (.d (.sl 1 (List.map strD (w :: l)))) at h5
  generalize bareL s = bare at *
  generalize restL s = rest at *
  generalize Lib.hasPrefix bare txtW = hp at *
  have hlc := len_cons w l
  have hx0 : (List.map strD (w :: l))[0]? = some (strD w) := rfl
  have q2 : (w == constW') = false := beq_eq_false_iff_ne.2 w1
  have q3 : (w == fnW) = false := beq_eq_false_iff_ne.2 w2
  have q4 : (w == genW) = false := beq_eq_false_iff_ne.2 w3
  have q5 : (!(w == caughtW)) = true := by rw [beq_eq_false_iff_ne.2 hc]; rfl
  rcases hk with rfl | ⟨rfl, c, rr, rfl, hix⟩
  · refine FnO.of0 (n := 151) [] fax_ok Tryz.func21 rfl rfl rfl (by rfl) (by rfl) (by kernel_rfl) fun Γ hA hbA hbO => ?_
    (repeat ((conv => whnf); (first | refine exE (α := Option D) _ (by assumption) ?_ | refine exR ?_ | refine gd (enters_of Tryz.func36 rfl rfl) h1 ?_ | refine gd (enters_of Tryz.func37 rfl rfl) h2 ?_ | refine gd (enters_of Tryz.func40 rfl rfl) h5 ?_ | refine tF ?_ | refine oB ?_ | refine And.intro rfl ?_ | refine And.intro (a := Go.MapKept.IsKey _ _) trivial ?_ | refine exI _ rfl (by assumption) ?_)))
    refine gen_one (t_fr_len (e' := 39) (k' := 5) (id := 1001) (k := 5) (e := 39) (ver := v1) (l := dn) (ts := (FnT v2 v3 p r g)) (n := dn.length + 1) rfl (by kernel_rfl) rfl (by decide) (.inr ⟨by simp, rfl⟩)) rfl ?_
    (repeat ((conv => whnf); (first | refine exR ?_ | refine tT ?_ | refine tF ?_ | refine uT ?_ | refine exI _ rfl (by assumption) ?_)))
    exact ⟨eN, rS, fiO⟩
  · have hx : (c :: rr)[0]? = some c := rfl
    have hr0 : ((c :: rr) == ([] : List UInt8)) = false := rfl
    have h6 := indexB_fn [32, 9, 34] c
    generalize Lib.indexByte [32, 9, 34] c = ix at *
    have q1 : decide (0 ≤ ix) = false := decide_eq_false (by omega)
    generalize c :: rr = cr at *
    refine FnO.of0 (n := 151) [] fax_ok Tryz.func21 rfl rfl rfl (by rfl) (by rfl) (by kernel_rfl) fun Γ hA hbA hbO => ?_
    (repeat ((conv => whnf); (first | refine exE (α := Option D) _ (by assumption) ?_ | refine exR ?_ | refine gd (enters_of Tryz.func36 rfl rfl) h1 ?_ | refine gd (enters_of Tryz.func37 rfl rfl) h2 ?_ | refine gd (enters_of Tryz.func38 rfl rfl) h6 ?_ | refine gd (enters_of Tryz.func40 rfl rfl) h5 ?_ | refine tT ?_ | refine tF ?_ | refine uT ?_ | refine oB ?_ | refine And.intro rfl ?_ | refine And.intro (a := Go.MapKept.IsKey _ _) trivial ?_ | refine exI _ rfl (by assumption) ?_ | refine exB _ rfl (by assumption) ?_)))
    refine gen_one (t_fr_len (e' := 39) (k' := 5) (id := 1001) (k := 5) (e := 39) (ver := v1) (l := dn) (ts := (FnT v2 v3 p r g)) (n := dn.length + 1) rfl (by kernel_rfl) rfl (by decide) (.inr ⟨by simp, rfl⟩)) rfl ?_
    (repeat ((conv => whnf); (first | refine exR ?_ | refine tT ?_ | refine tF ?_ | refine uT ?_ | refine exI _ rfl (by assumption) ?_)))
    exact ⟨eN, rS, fiO⟩
set_option maxRecDepth 100000 in
set_option maxHeartbeats 1000000 in
theorem line_caught (s : List UInt8) (hs : s.length ≤ 2000000) (hT : isT s = false) (l : List (List UInt8)) (hF : fieldsL s = caughtW :: l) (hl : ∀ w ∈ l, w.length ≤ 1000000000) (hll : l.length ≤ 2000000) (v1 : Nat) (dn : List D) (p r : Int) (g : Bool) (cs tx : List D) (M : List (Value × D)) (v2 : Nat) (ca : List D) (v3 : Nat) (co : List D) (b : Bool) (hf : mfind M (strV caughtW) = none) (hdn : dn.length ≤ 5000000) (hca : ca.length ≤ 5000000) :
    FnO Tryz.prog 21 [.ref 1000 0, strT s] (RO v1 dn (FnT v2 v3 p r g) cs tx M v2 ca v3 co b) (.tup []) (RO v1 dn (FnT (v2 + 1) v3 p r g) cs tx M (v2 + 1) (ca ++ numsD l) v3 co (b || l.any numB)) := by
  have h1 := trimS_fn s
  have h2 := cutP_fn (bareL s) txtW
  have h5 := fields_line s (by omega)
  change FnD _ _ _ (strT (bareL s)) at h1
  change FnD _ _ _ (.tup [strT (restL s), boolT (Lib.hasPrefix (bareL s) txtW)]) at h2
  change FnD _ _ _ (.d (txD (fieldsL s))) at h5
  have hk := not_text hT
  rw [hF] at h5
  change FnD _ _ _ (.d (.sl 1 (List.map strD (caughtW :: l)))) at h5
  generalize bareL s = bare at *
  generalize restL s = rest at *
  generalize Lib.hasPrefix bare txtW = hp at *
  have hlc := len_cons caughtW l
  have hx0 : (List.map strD (caughtW :: l))[0]? = some (strD caughtW) := rfl
  have hnl : (numsD l).length = l.length := by simp [numsD]
  have hN := rnumbers_fn l (by omega) hl v1 dn (FnT v2 v3 p r g) cs tx M v2 ca v3 co b (.inr ⟨p, r, g, rfl⟩)
  rcases hk with rfl | ⟨rfl, c, rr, rfl, hix⟩
  · refine FnO.of0 (n := 151) [142] fax_ok Tryz.func21 rfl rfl rfl (by rfl) (by rfl) (by kernel_rfl) fun Γ hA hbA hbO => ?_
    (repeat ((conv => whnf); (first | refine exE (α := Option D) _ (by assumption) ?_ | refine exR ?_ | refine gd (enters_of Tryz.func36 rfl rfl) h1 ?_ | refine gd (enters_of Tryz.func37 rfl rfl) h2 ?_ | refine gd (enters_of Tryz.func40 rfl rfl) h5 ?_ | refine tF ?_ | refine oB ?_ | refine And.intro rfl ?_ | refine And.intro (a := Go.MapKept.IsKey _ _) trivial ?_ | refine exI _ rfl (by assumption) ?_)))
    refine gen_one (t_fr_len (e' := 39) (k' := 5) (id := 1001) (k := 5) (e := 39) (ver := v1) (l := dn) (ts := (FnT v2 v3 p r g)) (n := dn.length + 1) rfl (by kernel_rfl) rfl (by decide) (.inr ⟨by simp, rfl⟩)) rfl ?_
    (repeat ((conv => whnf); (first | refine exR ?_ | refine tT ?_ | refine tF ?_ | refine uT ?_ | refine exI _ rfl (by assumption) ?_)))
    refine gen_one (t_fr_len (e' := 39) (k' := 5) (id := 1001) (k := 5) (e := 39) (ver := v1) (l := dn) (ts := (FnT v2 v3 p r g)) (n := dn.length + 1) rfl (by kernel_rfl) rfl (by decide) (.inr ⟨by simp, rfl⟩)) rfl ?_
    (repeat ((conv => whnf); with_reducible refine exE _ (w_dec (by omega) (by omega)) ?_))
    refine gen_one (t_fr_addr (e' := 39) (id := 1001) (k := 5) (e := 39) (ver := v1) (l := dn) (ts := (FnT v2 v3 p r g)) (kd := .i64) rfl (by kernel_rfl) rfl rfl (by simp)) rfl ?_
    (repeat ((conv => whnf); (first | refine exR ?_ | refine tT ?_ | refine oB ?_)))
    refine gen_one (t_fr_nil (e := 39) (k := 5) (l := dn) (ts := (FnT v2 v3 p r g)) rfl rfl (by simp)) rfl ?_
    skip
    refine gen_one (t_fr_field (e := 39) (k := 5) (l := dn) (ts := (FnT v2 v3 p r g)) (fo := 3) rfl (by kernel_rfl) rfl (by simp)) rfl ?_
    skip
    refine gen_one (t_fr_load (e := 39) (k := 5) (m := 3) (c := 1) (l := dn) (ts := (FnT v2 v3 p r g)) rfl (by kernel_rfl) rfl rfl) rfl ?_
    (repeat ((conv => whnf); (first | refine gen_oP [(5, 142), (1000, 1000), (1001, 1001), (1002, 1002), (1003, 1003), (1004, 1004), (1005, 1005), (1006, 1006)] 2 1 rfl (enters_of Tryz.func43 rfl rfl) (hN) (by (repeat (first | exact TLes.nil | refine TLes.cons (TLe.of_eq rfl) ?_ | refine TLes.cons TLe.own ?_ | refine TLes.cons TLe.nil ?_)); (first | done | fail)) rfl (by (repeat (first | exact trivial | refine And.intro rfl ?_)); (first | done | fail)) rfl ?_ | refine And.intro rfl ?_ | refine lQ ?_ | refine nA _ rfl ?_)))
    refine gen_one (t_fr_nil (e := 39) (k := 5) (l := dn) (ts := (FnT v2 v3 p r g)) rfl rfl (by simp)) rfl ?_
    skip
    refine gen_one (t_fr_field (e := 39) (k := 5) (l := dn) (ts := (FnT v2 v3 p r g)) (fo := 3) rfl (by kernel_rfl) rfl (by simp)) rfl ?_
    skip
    refine gen_one (t_fr_store (e := 39) (bb := false) (k := 5) (m := 3) (l := dn) (ts := (FnT v2 v3 p r g)) rfl (by kernel_rfl) rfl rfl (by simp)) rfl ?_
    (repeat ((conv => whnf); refine oB ?_))
    exact ⟨eN, rS, fiO⟩
  · have hx : (c :: rr)[0]? = some c := rfl
    have hr0 : ((c :: rr) == ([] : List UInt8)) = false := rfl
    have h6 := indexB_fn [32, 9, 34] c
    generalize Lib.indexByte [32, 9, 34] c = ix at *
    have q1 : decide (0 ≤ ix) = false := decide_eq_false (by omega)
    generalize c :: rr = cr at *
    refine FnO.of0 (n := 151) [142] fax_ok Tryz.func21 rfl rfl rfl (by rfl) (by rfl) (by kernel_rfl) fun Γ hA hbA hbO => ?_
    (repeat ((conv => whnf); (first | refine exE (α := Option D) _ (by assumption) ?_ | refine exR ?_ | refine gd (enters_of Tryz.func36 rfl rfl) h1 ?_ | refine gd (enters_of Tryz.func37 rfl rfl) h2 ?_ | refine gd (enters_of Tryz.func38 rfl rfl) h6 ?_ | refine gd (enters_of Tryz.func40 rfl rfl) h5 ?_ | refine tT ?_ | refine tF ?_ | refine uT ?_ | refine oB ?_ | refine And.intro rfl ?_ | refine And.intro (a := Go.MapKept.IsKey _ _) trivial ?_ | refine exI _ rfl (by assumption) ?_ | refine exB _ rfl (by assumption) ?_)))
    refine gen_one (t_fr_len (e' := 39) (k' := 5) (id := 1001) (k := 5) (e := 39) (ver := v1) (l := dn) (ts := (FnT v2 v3 p r g)) (n := dn.length + 1) rfl (by kernel_rfl) rfl (by decide) (.inr ⟨by simp, rfl⟩)) rfl ?_
    (repeat ((conv => whnf); (first | refine exR ?_ | refine tT ?_ | refine tF ?_ | refine uT ?_ | refine exI _ rfl (by assumption) ?_)))
    refine gen_one (t_fr_len (e' := 39) (k' := 5) (id := 1001) (k := 5) (e := 39) (ver := v1) (l := dn) (ts := (FnT v2 v3 p r g)) (n := dn.length + 1) rfl (by kernel_rfl) rfl (by decide) (.inr ⟨by simp, rfl⟩)) rfl ?_
    (repeat ((conv => whnf); with_reducible refine exE _ (w_dec (by omega) (by omega)) ?_))
    refine gen_one (t_fr_addr (e' := 39) (id := 1001) (k := 5) (e := 39) (ver := v1) (l := dn) (ts := (FnT v2 v3 p r g)) (kd := .i64) rfl (by kernel_rfl) rfl rfl (by simp)) rfl ?_
    (repeat ((conv => whnf); (first | refine exR ?_ | refine tT ?_ | refine oB ?_)))
    refine gen_one (t_fr_nil (e := 39) (k := 5) (l := dn) (ts := (FnT v2 v3 p r g)) rfl rfl (by simp)) rfl ?_
    skip
    refine gen_one (t_fr_field (e := 39) (k := 5) (l := dn) (ts := (FnT v2 v3 p r g)) (fo := 3) rfl (by kernel_rfl) rfl (by simp)) rfl ?_
    skip
    refine gen_one (t_fr_load (e := 39) (k := 5) (m := 3) (c := 1) (l := dn) (ts := (FnT v2 v3 p r g)) rfl (by kernel_rfl) rfl rfl) rfl ?_
    (repeat ((conv => whnf); (first | refine gen_oP [(5, 142), (1000, 1000), (1001, 1001), (1002, 1002), (1003, 1003), (1004, 1004), (1005, 1005), (1006, 1006)] 2 1 rfl (enters_of Tryz.func43 rfl rfl) (hN) (by (repeat (first | exact TLes.nil | refine TLes.cons (TLe.of_eq rfl) ?_ | refine TLes.cons TLe.own ?_ | refine TLes.cons TLe.nil ?_)); (first | done | fail)) rfl (by (repeat (first | exact trivial | refine And.intro rfl ?_)); (first | done | fail)) rfl ?_ | refine And.intro rfl ?_ | refine lQ ?_ | refine nA _ rfl ?_)))
    refine gen_one (t_fr_nil (e := 39) (k := 5) (l := dn) (ts := (FnT v2 v3 p r g)) rfl rfl (by simp)) rfl ?_
    skip
    refine gen_one (t_fr_field (e := 39) (k := 5) (l := dn) (ts := (FnT v2 v3 p r g)) (fo := 3) rfl (by kernel_rfl) rfl (by simp)) rfl ?_
    skip
    refine gen_one (t_fr_store (e := 39) (bb := false) (k := 5) (m := 3) (l := dn) (ts := (FnT v2 v3 p r g)) rfl (by kernel_rfl) rfl rfl (by simp)) rfl ?_
    (repeat ((conv => whnf); refine oB ?_))
    exact ⟨eN, rS, fiO⟩
set_option maxRecDepth 100000 in
set_option maxHeartbeats 1000000 in
theorem line_obad (s : List UInt8) (hs : s.length ≤ 2000000) (hT : isT s = false) (w : List UInt8) (l : List (List UInt8)) (hF : fieldsL s = w :: l) (w1 : w ≠ constW') (w2 : w ≠ fnW) (w3 : w ≠ genW) (hl : ∀ w' ∈ w :: l, w'.length ≤ 1000000000 ∧ w' ≠ []) (hll : (w :: l).length ≤ 3000000) (op : Int) (hB : orderBad (w :: l) = true) (v1 : Nat) (dn : List D) (p r : Int) (g : Bool) (cs tx : List D) (M : List (Value × D)) (v2 : Nat) (ca : List D) (v3 : Nat) (co : List D) (b : Bool) (hf : mfind M (strV w) = some (iD op)) (hdn : dn.length ≤ 5000000) :
    FnO Tryz.prog 21 [.ref 1000 0, strT s] (RO v1 dn (FnT v2 v3 p r g) cs tx M v2 ca v3 co b) (.tup []) (RO v1 dn (FnT v2 v3 p r g) cs tx M v2 ca v3 co true) := by
  have h1 := trimS_fn s
  have h2 := cutP_fn (bareL s) txtW
  have h5 := fields_line s (by omega)
  change FnD _ _ _ (strT (bareL s)) at h1
  change FnD _ _ _ (.tup [strT (restL s), boolT (Lib.hasPrefix (bareL s) txtW)]) at h2
  change FnD _ _ _ (.d (txD (fieldsL s))) at h5
  have hk := not_text hT
  rw [hF] at h5
  change FnD _ _ _ (.d (.sl 1 (List.map strD (w :: l)))) at h5
  generalize bareL s = bare at *
  generalize restL s = rest at *
  generalize Lib.hasPrefix bare txtW = hp at *
  have hlc := len_cons w l
  have hx0 : (List.map strD (w :: l))[0]? = some (strD w) := rfl
  have q2 : (w == constW') = false := beq_eq_false_iff_ne.2 w1
  have q3 : (w == fnW) = false := beq_eq_false_iff_ne.2 w2
  have q4 : (w == genW) = false := beq_eq_false_iff_ne.2 w3
  have hO := rorder_bad op (w :: l) (by simp) hll hl hB v1 dn p r g cs tx M v2 ca v3 co b
  rcases hk with rfl | ⟨rfl, c, rr, rfl, hix⟩
  · refine FnO.of0 (n := 151) [] fax_ok Tryz.func21 rfl rfl rfl (by rfl) (by rfl) (by kernel_rfl) fun Γ hA hbA hbO => ?_
    (repeat ((conv => whnf); (first | refine exE (α := Option D) _ (by assumption) ?_ | refine exR ?_ | refine gd (enters_of Tryz.func36 rfl rfl) h1 ?_ | refine gd (enters_of Tryz.func37 rfl rfl) h2 ?_ | refine gd (enters_of Tryz.func40 rfl rfl) h5 ?_ | refine tF ?_ | refine oB ?_ | refine And.intro rfl ?_ | refine And.intro (a := Go.MapKept.IsKey _ _) trivial ?_ | refine exI _ rfl (by assumption) ?_)))
    refine gen_one (t_fr_len (e' := 39) (k' := 5) (id := 1001) (k := 5) (e := 39) (ver := v1) (l := dn) (ts := (FnT v2 v3 p r g)) (n := dn.length + 1) rfl (by kernel_rfl) rfl (by decide) (.inr ⟨by simp, rfl⟩)) rfl ?_
    (repeat ((conv => whnf); (first | refine exR ?_ | refine tF ?_ | refine uT ?_)))
    refine gen_one (t_fr_len (e' := 39) (k' := 5) (id := 1001) (k := 5) (e := 39) (ver := v1) (l := dn) (ts := (FnT v2 v3 p r g)) (n := dn.length + 1) rfl (by kernel_rfl) rfl (by decide) (.inr ⟨by simp, rfl⟩)) rfl ?_
    (repeat ((conv => whnf); with_reducible refine exE _ (w_dec (by omega) (by omega)) ?_))
    refine gen_one (t_fr_addr (e' := 39) (id := 1001) (k := 5) (e := 39) (ver := v1) (l := dn) (ts := (FnT v2 v3 p r g)) (kd := .i64) rfl (by kernel_rfl) rfl rfl (by simp)) rfl ?_
    (repeat ((conv => whnf); (first | refine exR ?_ | refine gO idR (enters_of Tryz.func44 rfl rfl) hO ?_ | refine tF ?_ | refine oB ?_)))
    exact ⟨eN, rS, fiO⟩
  · have hx : (c :: rr)[0]? = some c := rfl
    have hr0 : ((c :: rr) == ([] : List UInt8)) = false := rfl
    have h6 := indexB_fn [32, 9, 34] c
    generalize Lib.indexByte [32, 9, 34] c = ix at *
    have q1 : decide (0 ≤ ix) = false := decide_eq_false (by omega)
    generalize c :: rr = cr at *
    refine FnO.of0 (n := 151) [] fax_ok Tryz.func21 rfl rfl rfl (by rfl) (by rfl) (by kernel_rfl) fun Γ hA hbA hbO => ?_
    (repeat ((conv => whnf); (first | refine exE (α := Option D) _ (by assumption) ?_ | refine exR ?_ | refine gd (enters_of Tryz.func36 rfl rfl) h1 ?_ | refine gd (enters_of Tryz.func37 rfl rfl) h2 ?_ | refine gd (enters_of Tryz.func38 rfl rfl) h6 ?_ | refine gd (enters_of Tryz.func40 rfl rfl) h5 ?_ | refine tT ?_ | refine tF ?_ | refine uT ?_ | refine oB ?_ | refine And.intro rfl ?_ | refine And.intro (a := Go.MapKept.IsKey _ _) trivial ?_ | refine exI _ rfl (by assumption) ?_ | refine exB _ rfl (by assumption) ?_)))
    refine gen_one (t_fr_len (e' := 39) (k' := 5) (id := 1001) (k := 5) (e := 39) (ver := v1) (l := dn) (ts := (FnT v2 v3 p r g)) (n := dn.length + 1) rfl (by kernel_rfl) rfl (by decide) (.inr ⟨by simp, rfl⟩)) rfl ?_
    (repeat ((conv => whnf); (first | refine exR ?_ | refine tF ?_ | refine uT ?_)))
    refine gen_one (t_fr_len (e' := 39) (k' := 5) (id := 1001) (k := 5) (e := 39) (ver := v1) (l := dn) (ts := (FnT v2 v3 p r g)) (n := dn.length + 1) rfl (by kernel_rfl) rfl (by decide) (.inr ⟨by simp, rfl⟩)) rfl ?_
    (repeat ((conv => whnf); with_reducible refine exE _ (w_dec (by omega) (by omega)) ?_))
    refine gen_one (t_fr_addr (e' := 39) (id := 1001) (k := 5) (e := 39) (ver := v1) (l := dn) (ts := (FnT v2 v3 p r g)) (kd := .i64) rfl (by kernel_rfl) rfl rfl (by simp)) rfl ?_
    (repeat ((conv => whnf); (first | refine exR ?_ | refine gO idR (enters_of Tryz.func44 rfl rfl) hO ?_ | refine tF ?_ | refine oB ?_)))
    exact ⟨eN, rS, fiO⟩
set_option maxRecDepth 100000 in
set_option maxHeartbeats 1000000 in
theorem line_ook (s : List UInt8) (hs : s.length ≤ 2000000) (hT : isT s = false) (w : List UInt8) (l : List (List UInt8)) (hF : fieldsL s = w :: l) (w1 : w ≠ constW') (w2 : w ≠ fnW) (w3 : w ≠ genW) (hl : ∀ w' ∈ w :: l, w'.length ≤ 1000000000 ∧ w' ≠ []) (hll : (w :: l).length ≤ 3000000) (op : Int) (hB : orderBad (w :: l) = false) (v1 : Nat) (dn : List D) (p r : Int) (g : Bool) (cs tx : List D) (M : List (Value × D)) (v2 : Nat) (ca : List D) (v3 : Nat) (co : List D) (b : Bool) (hf : mfind M (strV w) = some (iD op)) (hdn : dn.length ≤ 5000000) (hco : co.length ≤ 5000000) :
    FnO Tryz.prog 21 [.ref 1000 0, strT s] (RO v1 dn (FnT v2 v3 p r g) cs tx M v2 ca v3 co b) (.tup []) (RO v1 dn (FnT v2 (v3 + 1) p r g) cs tx M v2 ca (v3 + 1) (co ++ [inD (orderI op (w :: l))]) (b || orderB2 (w :: l))) := by
  have h1 := trimS_fn s
  have h2 := cutP_fn (bareL s) txtW
  have h5 := fields_line s (by omega)
  change FnD _ _ _ (strT (bareL s)) at h1
  change FnD _ _ _ (.tup [strT (restL s), boolT (Lib.hasPrefix (bareL s) txtW)]) at h2
  change FnD _ _ _ (.d (txD (fieldsL s))) at h5
  have hk := not_text hT
  rw [hF] at h5
  change FnD _ _ _ (.d (.sl 1 (List.map strD (w :: l)))) at h5
  generalize bareL s = bare at *
  generalize restL s = rest at *
  generalize Lib.hasPrefix bare txtW = hp at *
  have hlc := len_cons w l
  have hx0 : (List.map strD (w :: l))[0]? = some (strD w) := rfl
  have q2 : (w == constW') = false := beq_eq_false_iff_ne.2 w1
  have q3 : (w == fnW) = false := beq_eq_false_iff_ne.2 w2
  have q4 : (w == genW) = false := beq_eq_false_iff_ne.2 w3
  have hO := rorder_ok op (w :: l) (by simp) hll hl hB v1 dn p r g cs tx M v2 ca v3 co b hco
  rcases hk with rfl | ⟨rfl, c, rr, rfl, hix⟩
  · refine FnO.of0 (n := 151) [] fax_ok Tryz.func21 rfl rfl rfl (by rfl) (by rfl) (by kernel_rfl) fun Γ hA hbA hbO => ?_
    (repeat ((conv => whnf); (first | refine exE (α := Option D) _ (by assumption) ?_ | refine exR ?_ | refine gd (enters_of Tryz.func36 rfl rfl) h1 ?_ | refine gd (enters_of Tryz.func37 rfl rfl) h2 ?_ | refine gd (enters_of Tryz.func40 rfl rfl) h5 ?_ | refine tF ?_ | refine oB ?_ | refine And.intro rfl ?_ | refine And.intro (a := Go.MapKept.IsKey _ _) trivial ?_ | refine exI _ rfl (by assumption) ?_)))
    refine gen_one (t_fr_len (e' := 39) (k' := 5) (id := 1001) (k := 5) (e := 39) (ver := v1) (l := dn) (ts := (FnT v2 v3 p r g)) (n := dn.length + 1) rfl (by kernel_rfl) rfl (by decide) (.inr ⟨by simp, rfl⟩)) rfl ?_
    (repeat ((conv => whnf); (first | refine exR ?_ | refine tF ?_ | refine uT ?_)))
    refine gen_one (t_fr_len (e' := 39) (k' := 5) (id := 1001) (k := 5) (e := 39) (ver := v1) (l := dn) (ts := (FnT v2 v3 p r g)) (n := dn.length + 1) rfl (by kernel_rfl) rfl (by decide) (.inr ⟨by simp, rfl⟩)) rfl ?_
    (repeat ((conv => whnf); with_reducible refine exE _ (w_dec (by omega) (by omega)) ?_))
    refine gen_one (t_fr_addr (e' := 39) (id := 1001) (k := 5) (e := 39) (ver := v1) (l := dn) (ts := (FnT v2 v3 p r g)) (kd := .i64) rfl (by kernel_rfl) rfl rfl (by simp)) rfl ?_
    (repeat ((conv => whnf); (first | refine exR ?_ | refine gO idR (enters_of Tryz.func44 rfl rfl) hO ?_ | refine tF ?_ | refine oB ?_)))
    exact ⟨eN, rS, fiO⟩
  · have hx : (c :: rr)[0]? = some c := rfl
    have hr0 : ((c :: rr) == ([] : List UInt8)) = false := rfl
    have h6 := indexB_fn [32, 9, 34] c
    generalize Lib.indexByte [32, 9, 34] c = ix at *
    have q1 : decide (0 ≤ ix) = false := decide_eq_false (by omega)
    generalize c :: rr = cr at *
    refine FnO.of0 (n := 151) [] fax_ok Tryz.func21 rfl rfl rfl (by rfl) (by rfl) (by kernel_rfl) fun Γ hA hbA hbO => ?_
    (repeat ((conv => whnf); (first | refine exE (α := Option D) _ (by assumption) ?_ | refine exR ?_ | refine gd (enters_of Tryz.func36 rfl rfl) h1 ?_ | refine gd (enters_of Tryz.func37 rfl rfl) h2 ?_ | refine gd (enters_of Tryz.func38 rfl rfl) h6 ?_ | refine gd (enters_of Tryz.func40 rfl rfl) h5 ?_ | refine tT ?_ | refine tF ?_ | refine uT ?_ | refine oB ?_ | refine And.intro rfl ?_ | refine And.intro (a := Go.MapKept.IsKey _ _) trivial ?_ | refine exI _ rfl (by assumption) ?_ | refine exB _ rfl (by assumption) ?_)))
    refine gen_one (t_fr_len (e' := 39) (k' := 5) (id := 1001) (k := 5) (e := 39) (ver := v1) (l := dn) (ts := (FnT v2 v3 p r g)) (n := dn.length + 1) rfl (by kernel_rfl) rfl (by decide) (.inr ⟨by simp, rfl⟩)) rfl ?_
    (repeat ((conv => whnf); (first | refine exR ?_ | refine tF ?_ | refine uT ?_)))
    refine gen_one (t_fr_len (e' := 39) (k' := 5) (id := 1001) (k := 5) (e := 39) (ver := v1) (l := dn) (ts := (FnT v2 v3 p r g)) (n := dn.length + 1) rfl (by kernel_rfl) rfl (by decide) (.inr ⟨by simp, rfl⟩)) rfl ?_
    (repeat ((conv => whnf); with_reducible refine exE _ (w_dec (by omega) (by omega)) ?_))
    refine gen_one (t_fr_addr (e' := 39) (id := 1001) (k := 5) (e := 39) (ver := v1) (l := dn) (ts := (FnT v2 v3 p r g)) (kd := .i64) rfl (by kernel_rfl) rfl rfl (by simp)) rfl ?_
    (repeat ((conv => whnf); (first | refine exR ?_ | refine gO idR (enters_of Tryz.func44 rfl rfl) hO ?_ | refine tF ?_ | refine oB ?_)))
    exact ⟨eN, rS, fiO⟩
end Go.Proofs.YtddmcmkhjkleoaaGreatDoor
end

section
namespace Go.Proofs.YtddmcmkhjkleoaaGreatDoor
open Go.RowKit

theorem cloneS_fn (l : List (List UInt8)) (hl : l.length ≤ 1000) : FnO Tryz.prog 19 [.d (txD l)] [] (.own 1 (l.map strD) 5) [(5, .row 9 1 (l.map strD))] := by
  have hlm : (l.map strD).length = l.length := List.length_map _
  refine FnO.three (args := []) (fun e => ?_) (fun e => ?_) fun d m e => ?_
  · rw [e]
    refine FnO.name1 (c := 2) ?_
    refine FnO.of1 (n := 8) [2] fax_ok Tryz.func19 rfl rfl rfl (by rfl) (by rfl) (by kernel_rfl) fun Γ hA hbA hbO => ?_
    (repeat ((conv => whnf); refine And.intro rfl ?_))
    refine gen_nil (t_eqnil_nil rfl rfl Tryz.underlying24) ?_
    (repeat ((conv => whnf); (first | refine tT ?_ | refine And.intro rfl ?_)))
    exact ⟨eN, rS, fiO⟩
  · rw [e]
    refine FnO.of1 (n := 8) [5] fax_ok Tryz.func19 rfl rfl rfl (by rfl) (by rfl) (by kernel_rfl) fun Γ hA hbA hbO => ?_
    skip
    refine gen_nil (t_eqnil_pr rfl rfl Tryz.underlying24) ?_
    (repeat ((conv => whnf); (first | refine tF ?_ | refine And.intro rfl ?_)))
    refine gen_one (t_append (e := 9) (k := 1) (b := 16) (l := []) (m := []) rfl (by kernel_rfl) rfl tle_pr (by decide)) rfl ?_
    skip
    exact ⟨eN, rS, fiO⟩
  · rw [e]
    have hl2 : m.length + 1 ≤ 1000 := by rw [e] at hlm; simp at hlm; omega
    refine FnO.of1 (n := 8) [5] fax_ok Tryz.func19 rfl rfl rfl (by rfl) (by rfl) (by kernel_rfl) fun Γ hA hbA hbO => ?_
    skip
    refine gen_nil (t_eqnil_cons rfl rfl Tryz.underlying24) ?_
    (repeat ((conv => whnf); (first | refine tF ?_ | refine And.intro rfl ?_ | refine lQ ?_)))
    exact ⟨eN, rS, fiO⟩
theorem ovr_ovr (objs : Objs) (a b : Ob) : ovr (ovr objs a) b = ovr objs (b ++ a) := by
  funext i
  unfold ovr
  induction b with
  | nil => rfl
  | cons p b ih =>
    rw [List.cons_append, List.lookup_cons, List.lookup_cons]
    cases (i == p.1) with
    | true => rfl
    | false => exact ih
/-- An object of no blocks under a name that no one bears. -/
theorem WI.nilO {Γ : Cx} {g : Gh} {objs : Objs} {w : World} {c : Nat} {ob : GObj} (hw : WI Γ g objs w) (hc : objs c = some .vac) (hob : ObjAt Γ (setR g c nilV 0) w c ob) (hb : ∀ b, ¬ ob.blk (setR g c nilV 0) c b) : GLe (fun _ => True) g (setR g c nilV 0) ∧ WI Γ (setR g c nilV 0) (ovr objs [(c, ob)]) w :=
  hw.turn hc (by simp [setR]) rfl (fun _ _ => rfl) (fun i hi => by simp [setR, hi]) (fun i hi => by simp [setR, hi]) hob fun _ _ b _ _ _ h => hb b h
section
variable {P : Program} {o : Oper} {σ : Nat → T}
theorem t_rdbox {x : Operand} {e c c1 c2 c3 c4 eF eV e3 e4 : Nat} {tT mT : T} {b : Bool} (ho : o.op = .box e x) (hx : (opT σ x).cv = some [.d (.v nilV), .d (.v nilV), tT, mT, boolT b]) (n1 : c1 ≠ c) (n2 : c2 ≠ c ∧ c2 ≠ c1) (n3 : c3 ≠ c ∧ c3 ≠ c1 ∧ c3 ≠ c2) (n4 : c4 ≠ c ∧ c4 ≠ c1 ∧ c4 ≠ c2 ∧ c4 ≠ c3) :
    Tri P o σ [(c, .vac), (c1, .vac), (c2, .vac), (c3, .vac), (c4, .vac)] (.ref c 0) [(c, .cells e [.stk c1 0 .all, .own 2 [] c2, tT, mT, boolT b]), (c4, .stk e4 5 0 []), (c3, .stk e3 1 0 []), (c2, .row eV 2 []), (c1, .frow eF 5 0 [] []), (c, .cells e [.d (.v nilV), .d (.v nilV), tT, mT, boolT b])] := by
  intro Γ g objs a w Q hr hp hw
  refine Oper.wp_mono (fun a' w' h1 => ?_) ((t_boxC (c := c) ho hx) Γ g objs a w Q hr (fun p hq => hp p (by rw [List.mem_singleton.1 hq]; simp)) hw)
  obtain ⟨g1, v, rfl, hle1, hv, hw1⟩ := h1
  have v1 := hp (c1, .vac) (by simp)
  have v2 := hp (c2, .vac) (by simp)
  have v3 := hp (c3, .vac) (by simp)
  have v4 := hp (c4, .vac) (by simp)
  have nb : ∀ (g : Gh) (i : Nat) (ob : GObj) (b : Nat), (∀ b, ob.blk (setR g i nilV 0) i b → ((setR g i nilV 0).row i).ownBlock = some b) → ¬ ob.blk (setR g i nilV 0) i b := fun g i ob b h hb => by
    have := h b hb
    simp [setR, Value.ownBlock] at this
  obtain ⟨hle2, hw2⟩ := hw1.nilO (c := c1) (ob := .frow eF 5 0 [] []) (by rw [ovr_one, if_neg n1]; exact v1) ⟨[], [], 0, by simp [setR], by simpa [setR] using World.ownsRow_nil w' 0 eF 5, .nil, .nil, by simp, .inl ⟨rfl, rfl⟩, fun b hb => by simp [setR, Value.ownBlock] at hb⟩ (fun b => nb _ _ _ b fun _ h => h)
  rw [ovr_ovr] at hw2
  obtain ⟨hle3, hw3⟩ := hw2.nilO (c := c2) (ob := .row eV 2 []) (by rw [← ovr_ovr, ovr_one, if_neg n2.2, ovr_one, if_neg n2.1]; exact v2) ⟨[], by simp [setR], by simpa [setR] using World.ownsRow_nil w' 0 eV 2, .nil, fun b hb => by simp [setR, Value.ownBlock] at hb⟩ (fun b => nb _ _ _ b fun _ h => h)
  rw [ovr_ovr] at hw3
  obtain ⟨hle4, hw4⟩ := hw3.nilO (c := c3) (ob := .stk e3 1 0 []) (by rw [← ovr_ovr, ovr_one, if_neg n3.2.2, ← ovr_ovr, ovr_one, if_neg n3.2.1, ovr_one, if_neg n3.1]; exact v3) ⟨[], by simp [setR], by simpa [setR] using World.ownsRow_nil w' 0 e3 1, .nil, fun b hb => by simp [setR, Value.ownBlock] at hb⟩ (fun b => nb _ _ _ b fun _ h => h)
  rw [ovr_ovr] at hw4
  obtain ⟨hle5, hw5⟩ := hw4.nilO (c := c4) (ob := .stk e4 5 0 []) (by rw [← ovr_ovr, ovr_one, if_neg n4.2.2.2, ← ovr_ovr, ovr_one, if_neg n4.2.2.1, ← ovr_ovr, ovr_one, if_neg n4.2.1, ovr_one, if_neg n4.1]; exact v4) ⟨[], by simp [setR], by simpa [setR] using World.ownsRow_nil w' 0 e4 5, .nil, fun b hb => by simp [setR, Value.ownBlock] at hb⟩ (fun b => nb _ _ _ b fun _ h => h)
  rw [ovr_ovr] at hw5
  have hle := ((hle2.trans hle3).trans hle4).trans hle5
  have hc : ovr objs ([(c4, .stk e4 5 0 [])] ++ ([(c3, .stk e3 1 0 [])] ++ ([(c2, .row eV 2 [])] ++ ([(c1, .frow eF 5 0 [] [])] ++ [(c, .cells e [.d (.v nilV), .d (.v nilV), tT, mT, boolT b])])))) c = some (.cells e [.d (.v nilV), .d (.v nilV), tT, mT, boolT b]) := by
    rw [← ovr_ovr, ovr_one, if_neg (Ne.symm n4.1), ← ovr_ovr, ovr_one, if_neg (Ne.symm n3.1), ← ovr_ovr, ovr_one, if_neg (Ne.symm n2.1), ← ovr_ovr, ovr_one, if_neg (Ne.symm n1), ovr_one, if_pos rfl]
  have hw6 := hw5.less (ts' := [.stk c1 0 .all, .own 2 [] c2, tT, mT, boolT b]) hc fun xs hx _ => by
    cases hx with | cons q1 hx => cases hx with | cons q2 hx =>
    cases inv_v q1
    cases inv_v q2
    refine .cons (.stk rfl (by simp [setR, Ne.symm n2.2, Ne.symm n3.2.1, Ne.symm n4.2.1]) fun _ => by simp [setR, stkV, Ne.symm n2.2, Ne.symm n3.2.1, Ne.symm n4.2.1]) (.cons (.own (.sl .nil (RowS.nil _ _) (Nat.le_refl _) (Nat.zero_le _) fun _ => rfl) (by simp [setR, Ne.symm n3.2.2, Ne.symm n4.2.2.1]) fun _ => by simp [setR, Ne.symm n3.2.2, Ne.symm n4.2.2.1]) hx)
  rw [ovr_ovr] at hw6
  exact ⟨_, v, rfl, hle1.trans hle, hv.mono hle fun _ _ => trivial, hw6⟩
end
/-- The words' numbers, of the first i. -/
def wmap (i : Nat) : List (Value × D) := ((lwordsL.zipIdx.take i).drop 1).map fun p => (strV p.1, iD p.2)
theorem mput_newR {M : List (Value × D)} {k : Value} {y : D} (h : ∀ p ∈ M, keq k p.1 = false) : mput M k y = M ++ [(k, y)] := by
  induction M with
  | nil => rfl
  | cons p M ih =>
    obtain ⟨x, z⟩ := p
    rw [mput, h (x, z) (by simp), cond_false, ih fun q hq => h q (by simp [hq])]; rfl
theorem words_nodup : lwordsL.Nodup := by decide +kernel
theorem wmap_step {i : Nat} {w : List UInt8} (h0 : 1 ≤ i) (h : lwordsL[i]? = some w) : mput (wmap i) (strV w) (iD i) = wmap (i + 1) := by
  have hi := (List.getElem?_eq_some_iff.1 h).1
  rw [mput_newR]
  · unfold wmap
    have hz : lwordsL.zipIdx[i]? = some (w, i) := by rw [List.getElem?_zipIdx, h]; simp
    have hl : 1 ≤ (lwordsL.zipIdx.take i).length := by rw [List.length_take, List.length_zipIdx]; omega
    rw [List.take_add_one, hz, Option.toList_some, List.drop_append_of_le_length hl, List.map_append]
    rfl
  · intro p hp
    unfold wmap at hp
    obtain ⟨q, hq, rfl⟩ := List.mem_map.1 hp
    have hq := List.mem_of_mem_drop hq
    obtain ⟨j, hj, hjq⟩ := List.getElem_of_mem hq
    have hj2 : j < i := by rw [List.length_take] at hj; omega
    have hjl : j < lwordsL.length := by omega
    rw [List.getElem_take, List.getElem_zipIdx] at hjq
    rw [keq_str, decide_eq_false_iff_not]
    intro e
    have e2 : lwordsL[j] = lwordsL[i] := by
      have h5 : lwordsL[i] = w := (List.getElem?_eq_some_iff.1 h).2
      rw [h5, e, ← hjq]
    exact (List.pairwise_iff_getElem.1 words_nodup) j i hjl hi hj2 e2
/-- The number of a word. -/
def opM (w : List UInt8) : Option Int := ((lwordsL.zipIdx.drop 1).find? fun p => p.1 == w).map fun p => (p.2 : Int)
theorem wmap_all : wmap 39 = (lwordsL.zipIdx.drop 1).map fun p => (strV p.1, iD p.2) := by
  unfold wmap
  rw [List.take_of_length_le (by rw [List.length_zipIdx, lwords_len]; exact Nat.le_refl _)]
theorem wmap_find (w : List UInt8) : mfind (wmap 39) (strV w) = (opM w).map iD := by
  rw [wmap_all]
  unfold opM
  generalize lwordsL.zipIdx.drop 1 = l
  induction l with
  | nil => rfl
  | cons p l ih =>
    rw [List.map_cons, mfind, keq_str, List.find?_cons]
    by_cases h : p.1 = w
    · rw [decide_eq_true h.symm, show (p.1 == w) = true from by simpa using h]; rfl
    · rw [decide_eq_false (Ne.symm h), show (p.1 == w) = false from by simpa using h]
      exact ih
end Go.Proofs.YtddmcmkhjkleoaaGreatDoor
end

section
namespace Go.Proofs.YtddmcmkhjkleoaaGreatDoor

theorem spans_ok (p : Nat → Bool) (s : ByteArray) : ∀ (f pos : Nat) (st : Option Nat) (acc : List (Nat × Nat)), (∀ x ∈ acc, x.1 < x.2 ∧ x.2 ≤ s.size) → (∀ a, st = some a → a < pos ∧ a < s.size) → acc.length ≤ pos → acc.length ≤ s.size →
    (∀ x ∈ (Lib.spansFromP p s f pos st acc).1, x.1 < x.2 ∧ x.2 ≤ s.size) ∧ (∀ a, (Lib.spansFromP p s f pos st acc).2 = some a → a < s.size) ∧ (Lib.spansFromP p s f pos st acc).1.length ≤ s.size
  | 0, _, _, _, h1, h2, _, h4 => ⟨h1, fun a h => (h2 a h).2, h4⟩
  | f + 1, pos, st, acc, h1, h2, h3, h4 => by
    unfold Lib.spansFromP
    split
    · next hlt =>
      have hw := Lib.decode_width_pos s pos hlt
      split
      · split
        · next a =>
          refine spans_ok p s f _ none _ (fun x hx => ?_) (fun a h => by cases h) (by rw [List.length_append, List.length_singleton]; omega) (by rw [List.length_append, List.length_singleton]; omega)
          rcases List.mem_append.1 hx with hx | hx
          · exact h1 x hx
          · rw [List.mem_singleton.1 hx]
            have := (h2 a rfl).1
            exact ⟨this, by show pos ≤ s.size; omega⟩
        · exact spans_ok p s f _ none _ h1 (fun a h => by cases h) (by omega) h4
      · split
        · next a =>
          refine spans_ok p s f _ (some a) _ h1 (fun b h => ?_) (by omega) h4
          cases h
          have := h2 a rfl
          exact ⟨by omega, this.2⟩
        · refine spans_ok p s f _ (some pos) _ h1 (fun b h => ?_) (by omega) h4
          cases h
          exact ⟨by omega, hlt⟩
    · exact ⟨h1, fun a h => (h2 a h).2, h4⟩
theorem fieldsT_ok (s : List UInt8) : (∀ w ∈ fieldsT s, w ≠ [] ∧ w.length ≤ s.length) ∧ (fieldsT s).length ≤ s.length + 1 := by
  obtain ⟨h1, h2, h3⟩ := spans_ok blankR ⟨s.toArray⟩ (⟨s.toArray⟩ : ByteArray).size 0 none [] (fun x hx => by cases hx) (fun a h => by cases h) (Nat.zero_le _) (Nat.zero_le _)
  have hsz : (⟨s.toArray⟩ : ByteArray).size = s.length := str_size s
  have hsp : ∀ x ∈ Lib.spansOfP blankR ⟨s.toArray⟩, x.1 < x.2 ∧ x.2 ≤ s.length := fun x hx => by
    unfold Lib.spansOfP Lib.closeSpans at hx
    rw [← hsz]
    split at hx
    · next a ha =>
      rcases List.mem_append.1 hx with hx | hx
      · exact h1 x hx
      · rw [List.mem_singleton.1 hx]
        exact ⟨h2 a ha, Nat.le_refl _⟩
    · exact h1 x hx
  have hln : (Lib.spansOfP blankR ⟨s.toArray⟩).length ≤ s.length + 1 := by
    unfold Lib.spansOfP Lib.closeSpans
    rw [← hsz]
    split
    · rw [List.length_append, List.length_singleton]; omega
    · omega
  constructor
  · intro w hw
    unfold fieldsT Lib.goFieldsP at hw
    rw [List.map_map] at hw
    obtain ⟨x, hx, rfl⟩ := List.mem_map.1 hw
    obtain ⟨q1, q2⟩ := hsp x hx
    have hl : (((⟨s.toArray⟩ : ByteArray).extract x.1 x.2).data.toList).length = x.2 - x.1 := by
      rw [Array.length_toList]
      have : ((⟨s.toArray⟩ : ByteArray).extract x.1 x.2).size = min x.2 (⟨s.toArray⟩ : ByteArray).size - x.1 := ByteArray.size_extract
      rw [hsz, Nat.min_eq_left q2] at this
      exact this
    refine ⟨fun e => ?_, ?_⟩
    · have hl : ((Function.comp (fun x : ByteArray => x.data.toList) fun x : Nat × Nat => (⟨s.toArray⟩ : ByteArray).extract x.1 x.2) x).length = x.2 - x.1 := hl
      rw [e] at hl
      simp at hl; omega
    · show (((⟨s.toArray⟩ : ByteArray).extract x.1 x.2).data.toList).length ≤ _
      rw [hl]; omega
  · unfold fieldsT Lib.goFieldsP
    rw [List.length_map, List.length_map]
    exact hln
end Go.Proofs.YtddmcmkhjkleoaaGreatDoor
end

section
namespace Go.Proofs.YtddmcmkhjkleoaaGreatDoor
open Go.RowKit

def cSx : Code → Code | .seq x _ => x | c => c
def cSy : Code → Code | .seq _ y => y | c => c
def cBx : Code → Code | .block _ c => c | c => c
def cRb : Code → Code | .rangeFunc _ _ _ b => b | c => c
/-- Read's code, and its parts. -/
noncomputable def lCode : Code := (Tryz.f8.body).getD .skip
noncomputable def lRange : Code := cSx (cSy (cSy (cSy (cSy lCode))))
noncomputable def lBody : Code := cRb (cBx (cSy lRange))
abbrev FnF (v2 v3 : Nat) : Option (Int × Int × Bool) → List T
  | none => []
  | some (p, r, g) => [intT p, intT r, boolT g, .stk 518 v2 .all, .stk 618 v3 .all]
abbrev FnG (v2 v3 : Nat) : Option (Int × Int × Bool) → List T
  | none => []
  | some (p, r, g) => FnT v2 v3 p r g
abbrev nil3 : List T := [.d (.sl 5 []), .d (.sl 2 []), .d (.sl 1 [])]
/-- What Read has at a line's begin. -/
abbrev RF (v1 : Nat) (dn : List D) (ts : List T) (cs tx : List D) (M : List (Value × D)) (v2 : Nat) (ca : List D) (v3 : Nat) (co : List D) : Ob :=
  [(2, .cells 26 nil3), (3, .cells 28 [intT 0]), (4, .cells 59 [.ref 18 0]),
   (18, .cells 63 [.stk 318 v1 .all, .own 2 cs 418, .own 1 tx 14, .mp 16, boolT false]), (318, .frow 39 5 v1 dn ts), (418, .row 55 2 cs), (14, .row 9 1 tx), (16, .map .string M),
   (518, .stk 3 1 v2 ca), (618, .stk 41 5 v3 co)]
abbrev none3 : List D := [.sl 5 [], .sl 2 [], .sl 1 []]
abbrev RB : Ob := [(2, .cells 26 (none3.map .d)), (3, .cells 28 [intT 4])]
abbrev lE (x : List UInt8) : En := [(2, .ref 2 0), (3, .ref 3 0), (4, .ref 4 0), (7, strT x)]
theorem lBody_ok : okC 59 lBody = true := by rfl
theorem lBody_plain0 : plainC [] lBody := by
  repeat (first | exact trivial | exact rfl | apply And.intro)
theorem lBody_plain1 : plainC [5044] lBody := by
  repeat (first | exact trivial | exact rfl | apply And.intro)
section
variable (x : List UInt8) {v1 v2 v3 u1 u2 u3 : Nat} {dn cs tx ca co dn' cs' tx' ca' co' : List D} {M : List (Value × D)} (fo fo' : Option (Int × Int × Bool)) (Γ : Cx) (l m : Nat)
theorem round_ok (hC : FnO Tryz.prog 21 [.ref 1000 0, strT x] (RO v1 dn (FnG v2 v3 fo) cs tx M v2 ca v3 co false) (.tup []) (RO u1 dn' (FnG u2 u3 fo') cs' tx' M u2 ca' u3 co' false)) :
    AWI Tryz.prog Γ l m 59 lBody (sl (lE x)) (obE (RF v1 dn (FnF v2 v3 fo) cs tx M v2 ca v3 co)) (liftE fun e _ L => e = .normal ∧ FitO L (RF u1 dn' (FnF u2 u3 fo') cs' tx' M u2 ca' u3 co')) := by
  rcases fo with _ | ⟨p, r, g⟩ <;> rcases fo' with _ | ⟨p', r', g'⟩
  all_goals
    refine evC_AWI (V := []) fax_ok lBody_ok lBody_plain0 ?_
    (repeat ((conv => whnf); (first | refine gO [(1000, 18), (1001, 318), (1002, 418), (1003, 14), (1004, 16), (1005, 518), (1006, 618)] (enters_of Tryz.func21 rfl rfl) hC ?_ | refine tF ?_ | refine And.intro rfl ?_)))
    exact fiO
theorem round_bad (hC : FnO Tryz.prog 21 [.ref 1000 0, strT x] (RO v1 dn (FnG v2 v3 fo) cs tx M v2 ca v3 co false) (.tup []) (RO u1 dn' (FnG u2 u3 fo') cs' tx' M u2 ca' u3 co' true)) :
    AWI Tryz.prog Γ l m 59 lBody (sl (lE x)) (obE (RF v1 dn (FnF v2 v3 fo) cs tx M v2 ca v3 co)) (liftE fun e _ L => e = .ret ∧ FitO L RB) := by
  rcases fo with _ | ⟨p, r, g⟩ <;> rcases fo' with _ | ⟨p', r', g'⟩
  all_goals
    refine evC_AWI (V := []) fax_ok lBody_ok lBody_plain0 ?_
    (repeat ((conv => whnf); (first | refine gO [(1000, 18), (1001, 318), (1002, 418), (1003, 14), (1004, 16), (1005, 518), (1006, 618)] (enters_of Tryz.func21 rfl rfl) hC ?_ | refine tT ?_ | refine And.intro rfl ?_)))
    exact fiO
theorem round_rr (hC : FnO Tryz.prog 21 [.ref 1000 0, strT x] (RO v1 dn (FnG v2 v3 fo) cs tx M v2 ca v3 co false) (.tup []) ((87, .seen 1000) :: RR u1 dn' (FnG u2 u3 fo') cs' tx' M u2 ca' u3 co')) :
    AWI Tryz.prog Γ l m 59 lBody (sl (lE x)) (obE ((2000, .vac) :: RF v1 dn (FnF v2 v3 fo) cs tx M v2 ca v3 co)) (liftE fun e _ L => e = .ret ∧ FitO L RB) := by
  rcases fo with _ | ⟨p, r, g⟩ <;> rcases fo' with _ | ⟨p', r', g'⟩
  all_goals
    refine evC_AWI (V := [5044]) fax_ok lBody_ok lBody_plain1 ?_
    (repeat ((conv => whnf); refine gO [(87, 2000), (1000, 18), (1001, 318), (1002, 418), (1003, 14), (1004, 16), (1005, 518), (1006, 618)] (enters_of Tryz.func21 rfl rfl) hC ?_))
    refine gen_two (t_rdr_bad (z := 2000) (c := 1) rfl (by kernel_rfl) rfl) rfl rfl ?_
    (repeat ((conv => whnf); (first | refine tT ?_ | refine And.intro rfl ?_)))
    exact fiO
end
end Go.Proofs.YtddmcmkhjkleoaaGreatDoor
end

section
namespace Go.Proofs.YtddmcmkhjkleoaaGreatDoor
open Go.RowKit

/-- A line put into a program; none: it can't be read. -/
def lineM (p : PrR) (s : List UInt8) : Option PrR :=
  if isT s = true then (if textBad s false = true then none else some ⟨p.fns, p.consts, p.texts ++ [(unqL s false).1.1]⟩)
  else match fieldsL s with
  | [] => some p
  | w :: l =>
    if w = constW' then (if (constL l).2 = true then none else some ⟨p.fns, p.consts ++ [(constL l).1], p.texts⟩)
    else if w = fnW ∨ w = genW then (match l with
      | [w1, w2] => if (numB w1 || numB w2) = true then none else some ⟨p.fns ++ [⟨numV w1, numV w2, genB w, [], []⟩], p.consts, p.texts⟩
      | _ => none)
    else match p.fns.getLast? with
      | none => none
      | some f => if w = caughtW then (if l.any numB = true then none else some ⟨p.fns.dropLast ++ [⟨f.params, f.regs, f.gen, f.caught ++ l.map numV, f.code⟩], p.consts, p.texts⟩)
        else match opM w with
          | none => none
          | some op => if (orderBad (w :: l) || orderB2 (w :: l)) = true then none else some ⟨p.fns.dropLast ++ [⟨f.params, f.regs, f.gen, f.caught, f.code ++ [orderI op (w :: l)]⟩], p.consts, p.texts⟩
/-- A program of no more than n things of a kind, but for the texts that are there from the beginning. -/
structure Bd (p : PrR) (n : Nat) : Prop where
  fns : p.fns.length ≤ n
  consts : p.consts.length ≤ n
  texts : p.texts.length ≤ n + 19
  caught : ∀ f ∈ p.fns, f.caught.length ≤ n
  code : ∀ f ∈ p.fns, f.code.length ≤ n
theorem Bd.le {p : PrR} {n m : Nat} (h : Bd p n) (hn : n ≤ m) : Bd p m :=
  ⟨Nat.le_trans h.fns hn, Nat.le_trans h.consts hn, by have := h.texts; omega, fun f hf => Nat.le_trans (h.caught f hf) hn, fun f hf => Nat.le_trans (h.code f hf) hn⟩
theorem fields_len (s : List UInt8) : (∀ w ∈ fieldsL s, w ≠ [] ∧ w.length ≤ s.length) ∧ (fieldsL s).length ≤ s.length + 1 := by
  have h := fieldsT_ok (Lib.cut s [35]).1
  have h2 := cut_len s [35]
  exact ⟨fun w hw => ⟨(h.1 w hw).1, Nat.le_trans (h.1 w hw).2 h2⟩, by have := h.2; unfold fieldsL; omega⟩
theorem last_mem {l : List FnR} {f : FnR} (h : l.getLast? = some f) : f ∈ l ∧ l = l.dropLast ++ [f] := by
  have hne : l ≠ [] := fun e => by rw [e] at h; cases h
  rw [List.getLast?_eq_some_getLast hne] at h
  cases h
  exact ⟨List.getLast_mem hne, (List.dropLast_concat_getLast hne).symm⟩
theorem Bd.line {p p' : PrR} {n : Nat} {s : List UInt8} (h : Bd p n) (hl : lineM p s = some p') : Bd p' (n + (s.length + 1)) := by
  obtain ⟨h1, h2, h3, h4, h5⟩ := h
  have hf := (fields_len s).2
  unfold lineM at hl
  split at hl
  · split at hl
    · cases hl
    · cases hl
      exact ⟨by dsimp only; omega, by dsimp only; omega, by simp; omega, fun f hf => Nat.le_trans (h4 f hf) (by omega), fun f hf => Nat.le_trans (h5 f hf) (by omega)⟩
  · split at hl
    · cases hl
      exact Bd.le ⟨h1, h2, h3, h4, h5⟩ (by omega)
    · next w l hwl =>
      rw [hwl, List.length_cons] at hf
      split at hl
      · split at hl
        · cases hl
        · cases hl
          exact ⟨by dsimp only; omega, by simp; omega, by dsimp only; omega, fun f hf => Nat.le_trans (h4 f hf) (by omega), fun f hf => Nat.le_trans (h5 f hf) (by omega)⟩
      · split at hl
        · split at hl
          · split at hl
            · cases hl
            · cases hl
              refine ⟨by simp; omega, by dsimp only; omega, by dsimp only; omega, fun f hf => ?_, fun f hf => ?_⟩
              · rcases List.mem_append.1 hf with hf | hf
                · exact Nat.le_trans (h4 f hf) (by omega)
                · rw [List.mem_singleton.1 hf]; exact Nat.zero_le _
              · rcases List.mem_append.1 hf with hf | hf
                · exact Nat.le_trans (h5 f hf) (by omega)
                · rw [List.mem_singleton.1 hf]; exact Nat.zero_le _
          · cases hl
        · split at hl
          · cases hl
          · next f hla =>
            obtain ⟨hfm, hfe⟩ := last_mem hla
            have hlen : (p.fns.dropLast ++ [f]).length = p.fns.length := by rw [← hfe]
            have q4 := h4 f hfm
            have q5 := h5 f hfm
            have hd : ∀ x ∈ p.fns.dropLast, x ∈ p.fns := fun x hx => by rw [hfe]; exact List.mem_append_left _ hx
            rw [List.length_append] at hlen
            split at hl
            · split at hl
              · cases hl
              · cases hl
                refine ⟨by rw [List.length_append]; simp only [List.length_singleton] at hlen ⊢; omega, by dsimp only; omega, by dsimp only; omega, fun x hx => ?_, fun x hx => ?_⟩
                · rcases List.mem_append.1 hx with hx | hx
                  · exact Nat.le_trans (h4 x (hd x hx)) (by omega)
                  · rw [List.mem_singleton.1 hx]; simp; omega
                · rcases List.mem_append.1 hx with hx | hx
                  · exact Nat.le_trans (h5 x (hd x hx)) (by omega)
                  · rw [List.mem_singleton.1 hx]; dsimp only; omega
            · split at hl
              · cases hl
              · split at hl
                · cases hl
                · cases hl
                  refine ⟨by rw [List.length_append]; simp only [List.length_singleton] at hlen ⊢; omega, by dsimp only; omega, by dsimp only; omega, fun x hx => ?_, fun x hx => ?_⟩
                  · rcases List.mem_append.1 hx with hx | hx
                    · exact Nat.le_trans (h4 x (hd x hx)) (by omega)
                    · rw [List.mem_singleton.1 hx]; dsimp only; omega
                  · rcases List.mem_append.1 hx with hx | hx
                    · exact Nat.le_trans (h5 x (hd x hx)) (by omega)
                    · rw [List.mem_singleton.1 hx]; simp; omega
/-- How a program lies in the reader: its functions but the last one, the last one's numbers, and its lists. -/
def RdOf (p : PrR) (dn : List D) (fo : Option (Int × Int × Bool)) (ca co : List D) : Prop :=
  (p.fns = [] ∧ dn = [] ∧ fo = none) ∨ (∃ f, p.fns = p.fns.dropLast ++ [f] ∧ p.fns.getLast? = some f ∧ dn = p.fns.dropLast.map fnD ∧ fo = some (f.params, f.regs, f.gen) ∧ ca = f.caught.map iD ∧ co = f.code.map inD)
theorem RdOf.snoc {p : PrR} {l : List FnR} {f : FnR} (h : p.fns = l ++ [f]) : RdOf p (l.map fnD) (some (f.params, f.regs, f.gen)) (f.caught.map iD) (f.code.map inD) := by
  refine .inr ⟨f, ?_, ?_, ?_, rfl, rfl, rfl⟩
  · rw [h, List.dropLast_concat]
  · rw [h]; simp
  · rw [h, List.dropLast_concat]
theorem FnG_shape (v2 v3 : Nat) (fo : Option (Int × Int × Bool)) : Shape v2 v3 (FnG v2 v3 fo) := by
  rcases fo with _ | ⟨p, r, g⟩
  · exact .inl rfl
  · exact .inr ⟨p, r, g, rfl⟩
abbrev lineF (s : List UInt8) (pre post : Ob) : Prop := FnO Tryz.prog 21 [.ref 1000 0, strT s] pre (.tup []) post
abbrev ROp (p : PrR) (v1 v2 v3 : Nat) (dn : List D) (fo : Option (Int × Int × Bool)) (ca co : List D) : Ob := RO v1 dn (FnG v2 v3 fo) (p.consts.map vaD) (p.texts.map strD) (wmap 39) v2 ca v3 co false
theorem caught_no : mfind (wmap 39) (strV caughtW) = none := by
  rw [wmap_find]
  have : opM caughtW = none := by decide +kernel
  rw [this]; rfl
theorem line_step (s : List UInt8) (hs : s.length ≤ 2000000) (p : PrR) (hB : Bd p 4000000) {dn ca co : List D} {fo : Option (Int × Int × Bool)} (hR : RdOf p dn fo ca co) (v1 v2 v3 : Nat) :
    (∃ p' u1 u2 u3 dn' fo' ca' co', lineM p s = some p' ∧ RdOf p' dn' fo' ca' co' ∧ lineF s (ROp p v1 v2 v3 dn fo ca co) (ROp p' u1 u2 u3 dn' fo' ca' co')) ∨
    (lineM p s = none ∧ ((∃ u1 u2 u3 dn' fo' cs' tx' ca' co', lineF s (ROp p v1 v2 v3 dn fo ca co) (RO u1 dn' (FnG u2 u3 fo') cs' tx' (wmap 39) u2 ca' u3 co' true)) ∨
      ∃ u1 u2 u3 dn' fo' cs' tx' ca' co', lineF s (ROp p v1 v2 v3 dn fo ca co) ((87, .seen 1000) :: RR u1 dn' (FnG u2 u3 fo') cs' tx' (wmap 39) u2 ca' u3 co'))) := by
  have hsh := FnG_shape v2 v3 fo
  have b1 : dn.length ≤ 5000000 := by
    rcases hR with ⟨-, h, -⟩ | ⟨f, -, -, h, -⟩
    · rw [h]; exact Nat.zero_le _
    · rw [h, List.length_map, List.length_dropLast]; have := hB.fns; omega
  have b2 : (p.consts.map vaD).length ≤ 5000000 := by rw [List.length_map]; have := hB.consts; omega
  have b3 : (p.texts.map strD).length ≤ 5000000 := by rw [List.length_map]; have := hB.texts; omega
  obtain ⟨hF1, hF2⟩ := fields_len s
  cases hT : isT s with
  | true =>
    have h1 := line_text s hs hT v1 dn (FnG v2 v3 fo) (p.consts.map vaD) (p.texts.map strD) (wmap 39) v2 ca v3 co false hsh b3
    cases hb : textBad s false with
    | true =>
      rw [hb] at h1
      exact .inr ⟨by simp [lineM, hT, hb], .inl ⟨_, _, _, _, _, _, _, _, _, h1⟩⟩
    | false =>
      rw [hb] at h1
      refine .inl ⟨⟨p.fns, p.consts, p.texts ++ [(unqL s false).1.1]⟩, v1, v2, v3, dn, fo, ca, co, by simp [lineM, hT, hb], hR, ?_⟩
      show lineF s _ (RO v1 dn (FnG v2 v3 fo) (p.consts.map vaD) ((p.texts ++ [(unqL s false).1.1]).map strD) (wmap 39) v2 ca v3 co false)
      rw [List.map_append]
      exact h1
  | false =>
    cases hF : fieldsL s with
    | nil => exact .inl ⟨p, v1, v2, v3, dn, fo, ca, co, by simp [lineM, hT, hF], hR, line_blank s hs hT hF v1 dn (FnG v2 v3 fo) _ _ _ v2 ca v3 co false hsh⟩
    | cons w l =>
      rw [hF] at hF1 hF2
      rw [List.length_cons] at hF2
      have hwl : ∀ x ∈ l, x.length ≤ 1000000000 := fun x hx => by have := (hF1 x (List.mem_cons_of_mem _ hx)).2; omega
      by_cases c1 : w = constW'
      · subst c1
        have h1 := line_const s hs hT l hF hwl v1 dn (FnG v2 v3 fo) (p.consts.map vaD) (p.texts.map strD) (wmap 39) v2 ca v3 co false hsh b2
        rw [Bool.false_or] at h1
        cases hb : (constL l).2 with
        | true =>
          rw [hb] at h1
          exact .inr ⟨by simp [lineM, hT, hF, hb], .inl ⟨_, _, _, _, _, _, _, _, _, h1⟩⟩
        | false =>
          rw [hb] at h1
          refine .inl ⟨⟨p.fns, p.consts ++ [(constL l).1], p.texts⟩, v1, v2, v3, dn, fo, ca, co, by simp [lineM, hT, hF, hb], hR, ?_⟩
          show lineF s _ (RO v1 dn (FnG v2 v3 fo) ((p.consts ++ [(constL l).1]).map vaD) (p.texts.map strD) (wmap 39) v2 ca v3 co false)
          rw [List.map_append]
          exact h1
      · by_cases c2 : w = fnW ∨ w = genW
        · by_cases c3 : (w :: l).length = 3
          · obtain ⟨w1, w2, rfl⟩ : ∃ w1 w2, l = [w1, w2] := by
              match l, c3 with
              | [a, b], _ => exact ⟨a, b, rfl⟩
            have k1 := hwl w1 (by simp)
            have k2 := hwl w2 (by simp)
            cases n1 : numB w1 with
            | true => exact .inr ⟨by simp [lineM, hT, hF, c1, c2, n1], .inr ⟨_, _, _, _, some (_, _, _), _, _, _, _, line_fnbad1 s hs hT w w1 w2 hF c2 k1 k2 v1 dn (FnG v2 v3 fo) _ _ (wmap 39) v2 ca v3 co n1 hsh b1⟩⟩
            | false =>
              cases n2 : numB w2 with
              | true => exact .inr ⟨by simp [lineM, hT, hF, c1, c2, n2], .inr ⟨_, _, _, _, some (_, _, _), _, _, _, _, line_fnbad2 s hs hT w w1 w2 hF c2 k1 k2 v1 dn (FnG v2 v3 fo) _ _ (wmap 39) v2 ca v3 co n1 n2 hsh b1⟩⟩
              | false =>
                have h1 := line_fnok s hs hT w w1 w2 hF c2 k1 k2 v1 dn (FnG v2 v3 fo) (p.consts.map vaD) (p.texts.map strD) (wmap 39) v2 ca v3 co false (.inr ⟨n1, n2⟩) hsh b1
                have hd : dn ++ lastD ca co (FnG v2 v3 fo) = p.fns.map fnD := by
                  rcases hR with ⟨e1, e2, e3⟩ | ⟨f, e1, -, e3, e4, e5, e6⟩
                  · subst e2 e3; rw [e1]; rfl
                  · subst e3 e4 e5 e6
                    rw [e1, List.map_append, List.dropLast_concat]; rfl
                rw [hd] at h1
                exact .inl ⟨⟨p.fns ++ [⟨numV w1, numV w2, genB w, [], []⟩], p.consts, p.texts⟩, v1 + 1, v2 + 1, v3 + 1, p.fns.map fnD, some (numV w1, numV w2, genB w), [], [], by simp [lineM, hT, hF, c1, c2, n1, n2], RdOf.snoc (f := ⟨numV w1, numV w2, genB w, [], []⟩) rfl, h1⟩
          · refine .inr ⟨?_, .inl ⟨_, _, _, _, fo, _, _, _, _, line_fnlen s hs hT w l hF c2 c3 v1 dn (FnG v2 v3 fo) _ _ (wmap 39) v2 ca v3 co false hsh⟩⟩
            unfold lineM
            rw [if_neg (by rw [hT]; decide), hF]
            simp only
            rw [if_neg c1, if_pos c2]
            match l, c3 with
            | [], _ => rfl
            | [_], _ => rfl
            | [_, _], h => exact absurd rfl h
            | _ :: _ :: _ :: _, _ => rfl
        · have c2' := not_or.1 c2
          have hfind := wmap_find w
          rcases hR with ⟨e1, rfl, rfl⟩ | ⟨f, e1, e2, rfl, rfl, rfl, rfl⟩
          · refine .inr ⟨by simp [lineM, hT, hF, c1, c2, e1], .inl ⟨_, _, _, _, none, _, _, _, _, line_none s hs hT w l hF c1 c2'.1 c2'.2 v1 _ _ (wmap 39) v2 ca v3 co false ?_⟩⟩
            rw [hfind]
            cases opM w with
            | none => exact .inl rfl
            | some k => exact .inr ⟨k, rfl⟩
          · have hfm := (last_mem e2).1
            have b4 : (f.caught.map iD).length ≤ 5000000 := by rw [List.length_map]; have := hB.caught f hfm; omega
            have b5 : (f.code.map inD).length ≤ 5000000 := by rw [List.length_map]; have := hB.code f hfm; omega
            by_cases c4 : w = caughtW
            · subst c4
              have h1 := line_caught s hs hT l hF hwl (by omega) v1 (p.fns.dropLast.map fnD) f.params f.regs f.gen (p.consts.map vaD) (p.texts.map strD) (wmap 39) v2 (f.caught.map iD) v3 (f.code.map inD) false caught_no b1 b4
              rw [Bool.false_or] at h1
              cases hb : l.any numB with
              | true =>
                rw [hb] at h1
                exact .inr ⟨by simp only [lineM, hT, hF, e2, hb]; rfl, .inl ⟨_, _, _, _, some (_, _, _), _, _, _, _, h1⟩⟩
              | false =>
                rw [hb] at h1
                refine .inl ⟨⟨p.fns.dropLast ++ [⟨f.params, f.regs, f.gen, f.caught ++ l.map numV, f.code⟩], p.consts, p.texts⟩, v1, v2 + 1, v3, _, _, _, _, by simp only [lineM, hT, hF, e2, hb]; rfl, RdOf.snoc rfl, ?_⟩
                dsimp only
                rw [List.map_append]
                exact h1
            · cases ho : opM w with
              | none =>
                rw [ho] at hfind
                exact .inr ⟨by simp [lineM, hT, hF, c1, c2, e2, c4, ho], .inl ⟨_, _, _, _, some (_, _, _), _, _, _, _, line_unk s hs hT w l hF c1 c2'.1 c2'.2 c4 v1 (p.fns.dropLast.map fnD) f.params f.regs f.gen _ _ (wmap 39) v2 (f.caught.map iD) v3 (f.code.map inD) false hfind⟩⟩
              | some op =>
                rw [ho] at hfind
                have hw2 : ∀ w' ∈ w :: l, w'.length ≤ 1000000000 ∧ w' ≠ [] := fun x hx => ⟨by have := (hF1 x hx).2; omega, (hF1 x hx).1⟩
                have hl2 : (w :: l).length ≤ 3000000 := by rw [List.length_cons]; omega
                cases hb : orderBad (w :: l) with
                | true => exact .inr ⟨by simp [lineM, hT, hF, c1, c2, e2, c4, ho, hb], .inl ⟨_, _, _, _, some (_, _, _), _, _, _, _, line_obad s hs hT w l hF c1 c2'.1 c2'.2 hw2 hl2 op hb v1 (p.fns.dropLast.map fnD) f.params f.regs f.gen _ _ (wmap 39) v2 (f.caught.map iD) v3 (f.code.map inD) false hfind b1⟩⟩
                | false =>
                  have h1 := line_ook s hs hT w l hF c1 c2'.1 c2'.2 hw2 hl2 op hb v1 (p.fns.dropLast.map fnD) f.params f.regs f.gen (p.consts.map vaD) (p.texts.map strD) (wmap 39) v2 (f.caught.map iD) v3 (f.code.map inD) false hfind b1 b5
                  rw [Bool.false_or] at h1
                  cases hb2 : orderB2 (w :: l) with
                  | true =>
                    rw [hb2] at h1
                    exact .inr ⟨by simp [lineM, hT, hF, c1, c2, e2, c4, ho, hb2], .inl ⟨_, _, _, _, some (_, _, _), _, _, _, _, h1⟩⟩
                  | false =>
                    rw [hb2] at h1
                    refine .inl ⟨⟨p.fns.dropLast ++ [⟨f.params, f.regs, f.gen, f.caught, f.code ++ [orderI op (w :: l)]⟩], p.consts, p.texts⟩, v1, v2, v3 + 1, _, _, _, _, by simp [lineM, hT, hF, c1, c2, e2, c4, ho, hb, hb2], RdOf.snoc rfl, ?_⟩
                    dsimp only
                    rw [List.map_append]
                    exact h1
end Go.Proofs.YtddmcmkhjkleoaaGreatDoor
end
